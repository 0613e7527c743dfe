/-
  Lemmas, part 2.
-/
import Derived.Below
import Derived.Orders
import Derived.Deep.Draws
import Derived.WalkKit
import Derived.OwnWalk
namespace Go.Proofs.YtpgaganbacipnaaGreat
theorem bS{α β:Type}(a:α)(f:α → Option β):(some a).bind f=f a:=rfl
theorem yA{α:Type}{l:List α}{i:Nat}(h:i<l.length):l[i]?=some l[i]:=List.getElem?_eq_getElem h
theorem yB{α:Type}{l:List α}{i:Nat}{a:α}(h:l[i]?=some a):∃h:i<l.length,l[i]=a:=List.getElem?_eq_some_iff.1 h
theorem yC{α β:Type}{f:α → β}{o:Option α}{b:β}(h:o.map f=some b):∃a,o=some a ∧ f a=b:=Option.map_eq_some_iff.1 h
theorem yD(a b:Bool):((a&&b)=true)=(a=true ∧ b=true):=Bool.and_eq_true a b
theorem yE{α:Type}{l:List α}{i:Nat}{a:α}(h:l[i]?=some a):a∈l:=List.mem_of_getElem? h
theorem yF{α β:Type}{f:α → β}{l:List α}{i:Nat}:(l.map f)[i]?=l[i]?.map f:=List.getElem?_map
theorem yG:(false=true)=False:=Bool.false_eq_true
theorem yH{α:Type}(y:α){a:α}{l:List α}(h:a∈l):a∈y::l:=List.mem_cons_of_mem y h
theorem yI{α:Type}(a b:α):(some a=some b)=(a=b):=Option.some.injEq a b
theorem yJ{α:Type}{a:α}{l:List α}:a∈a::l:=List.mem_cons_self
theorem yK{α:Type}{l m:List α}{i:Nat}(h:i<l.length):(l++m)[i]?=l[i]?:=List.getElem?_append_left h
theorem yL:(!true)=false:=rfl
theorem yM{α:Type}{a b:α}:(bif false then a else b)=b:=rfl
theorem yN{α:Type}{a b:α}:(bif true then a else b)=a:=rfl
theorem yO{p:Prop}[Decidable p]:(decide p=true)=p:=decide_eq_true_eq
theorem yR{n m:Nat}(h:Nat.beq n m=true):n=m:=Nat.eq_of_beq_eq_true h
theorem yS{α:Type}{l m:List α}{i:Nat}(h:l.length ≤ i):(l++m)[i]?=m[i-l.length]?:=List.getElem?_append_right h
theorem yT{α:Type}{a:α}{l:List α}:(a::l).length=l.length+1:=rfl
theorem yU{α:Type}{l m:List α}:(l++m).length=l.length+m.length:=List.length_append
theorem yV(n:Nat):n ≤ n:=Nat.le_refl n
theorem yX{α:Type}{a b:α}{l:List α}(h:a∈b::l):a=b ∨ a∈l:=List.mem_cons.1 h
theorem yY{α β:Type}{f:α → β}{l:List α}{b:β}(h:b∈l.map f):∃a,a∈l ∧ f a=b:=List.mem_map.1 h
theorem yZ{n:Nat}:(n:Int).toNat=n:=Int.toNat_natCast n
theorem ya{α β:Type}{f:α → List β}{a:α}{l:List α}:(a::l).flatMap f=f a++l.flatMap f:=rfl
theorem yb{α:Type}{t e:α}{_:Decidable True}:ite True t e=t:=if_true t e
theorem yc{α:Type}{t e:α}{_:Decidable False}:ite False t e=e:=if_false t e
theorem yd{c:Prop}{h:Decidable c}(q:c){α:Type}{t e:α}:ite c t e=t:=if_pos q
theorem ye{c:Prop}{h:Decidable c}(q:¬ c){α:Type}{t e:α}:ite c t e=e:=if_neg q
theorem yW{α:Type}(a:α)(l:List α)(b:α)(m:List α):(a::l=b::m)=(a=b ∧ l=m):=List.cons.injEq a l b m

end Go.Proofs.YtpgaganbacipnaaGreat
namespace Go.Proofs.YtpgaganbacipnaaGreat.Eng
open Go Go.RowKit
section
inductive Tag|rd|nw|own(i:Nat)
 deriving DecidableEq
inductive DK|b|i(k:IntKind)|s|l(ks:List DK)
inductive AV
 |bool (b:Bool)
 |int (k:IntKind) (n:Int)
 |str (l:List UInt8)
 |agg (cs:List AV)
 |tup (cs:List AV)
 |sl (t:Tag) (sz:Nat) (es:List AV)
 |nl
 |el
 |sref (k:Nat)
 |ptr (k off:Nat)
 |ept (e:AV) (off:Nat)
 |eot (e:AV) (off:Nat)
 |rpt (k i off:Nat)
 |fn (f:Nat) (cap:List AV)
 |od (i:Nat) (ks:List DK) (n:Nat)
 |op (i:Nat) (ks:List DK) (off:Nat)
 |und
 |bad
def AV.cells:AV->List AV
 |.agg cs=>cs
 |a=>[a]
def AV.one:AV->Bool
 |.agg _ | .tup _ | .bad | .und=>false
 |_=>true
def flat(es:List AV):List AV:=es.flatMap AV.cells
mutual
def AV.dead(k:Nat):AV->AV
 |.sref j=>if j=k then .bad else .sref j
 |.ptr j o=>if j=k then .bad else .ptr j o
 |.rpt j i o=>if j=k then .bad else .rpt j i o
 |.agg cs=>.agg (Z5 k cs)
 |.tup cs=>.tup (Z5 k cs)
 |.fn f cs=>.fn f (Z5 k cs)
 |a=>a
def Z5(k:Nat):List AV->List AV
 |[]=>[]
 |a::l=>AV.dead k a::Z5 k l
end
theorem Za(k:Nat):∀l,Z5 k l=l.map (AV.dead k)
 |[]=>rfl
 |a::l=>by rw[Z5,Za k l];rfl
structure Row where
 sz:Nat
 es:List AV
 sh:Bool
structure St where
 e:Nat->AV
 bx:Nat->Option (List AV)
 rw:Nat->Option Row
 nx:Nat
 my:Nat->Prop
 kn:Nat->Prop:=fun _=>False
structure Gh where
 S:Nat->Nat->Prop
 N:Nat->Prop
 bb:Nat->Nat
 rv:Nat->Value
 ov:Nat->Option (Nat->Prop):=fun _=>none
def Gh.own(g:Gh)(b:Nat):Prop:=∃i D,g.ov i=some D/\D b
def Gh.T(g:Gh):Tag->Nat->Value->Prop
 |.rd,_,v=>∀b,v.ownBlock=some b->¬ g.own b
 |.nw,_,v=>∀b,v.ownBlock=some b->g.N b/\¬ g.own b
 |.own i,_,v=>∃D,g.ov i=some D/\∀b,v.ownBlock=some b->D b
@[simp] theorem Gh.T_of (g:Gh)(S:Nat->Nat->Prop)(bb:Nat->Nat)(rv:Nat->Value):({ S:=S,N:=g.N,bb:=bb,rv:=rv,ov:=g.ov }:Gh).T=g.T:=by
 funext t;cases t<;>rfl
theorem Gh.T_eq{g g':Gh}(hN:g'.N=g.N)(ho:g'.ov=g.ov):g'.T=g.T:=by
 have e:g'.own=g.own:=by funext b;simp only[Gh.own,ho]
 funext t z v;cases t<;>simp only[Gh.T,e,hN,ho]
def TLe(S:Nat->Nat->Prop)(T T':Tag->Nat->Value->Prop):Prop :=
 (∀t z b o n c,(∃o',S b o')->T t z (.slice (some ⟨b,o,none⟩) n c)->T' t z (.slice (some ⟨b,o,none⟩) n c))/\∀i z v,T (.own i) z v->T' (.own i) z v
theorem TLe.refl{S:Nat->Nat->Prop}{T:Tag->Nat->Value->Prop}:TLe S T T:=⟨fun _ _ _ _ _ _ _ h=>h,fun _ _ _ h=>h⟩
theorem TLe.call{g g2:Gh}{S:Nat->Nat->Prop}{B:Nat}(h2:∀i,g2.ov i=none)(hS:∀b o,S b o->B<=b)(hN:∀b,g2.N b->g.N b)(ho:∀b,g.own b->b<B):TLe S g2.T g.T:=by
 have no:∀{i:Nat} {z:Nat} {v:Value} {q:Prop},g2.T (.own i) z v->q:=fun{i z v q} h=>by
  obtain⟨D,h',_⟩:=h
  rw[h2 i]at h';cases h'
 refine⟨fun t z b o n c hs h=>?_,fun i z v h=>no h⟩
 obtain⟨o',hs⟩:=hs
 have hB:=hS b o' hs
 cases t with
 |rd=>exact fun b' hb' q=>by cases hb';have:=ho _ q;simp only at this;omega
 |nw=>exact fun b' hb'=>by cases hb';exact⟨hN _ (h _ rfl).1,fun q=>by have:=ho _ q;simp only at this;omega⟩
 |own i=>exact no h
def Tag.isOwn:Tag->Bool
 |.own _=>true
 |_=>false
theorem Gh.T_cut{g:Gh}{t:Tag}(ht:t.isOwn=false){z b o n c o' n' c':Nat}(h:g.T t z (.slice (some ⟨b,o,none⟩) n c)):g.T t z (.slice (some ⟨b,o',none⟩) n' c'):=by
 cases t with
 |rd=>exact h
 |nw=>exact h
 |own i=>cases ht
theorem Gh.T_to_rd{g:Gh}{t:Tag}(ht:t.isOwn=false){z b o n c z' o' n' c':Nat}(h:g.T t z (.slice (some ⟨b,o,none⟩) n c)):g.T .rd z' (.slice (some ⟨b,o',none⟩) n' c'):=by
 cases t with
 |rd=>exact h
 |nw=>exact fun b' hb'=>(h b' hb').2
 |own i=>cases ht
def Gh.T1(g:Gh):Tag->Nat->Value->Prop:=fun t z v=>t=.rd\/g.T t z v
theorem TLe.one{S:Nat->Nat->Prop}{g:Gh}:TLe S g.T g.T1:=⟨fun _ _ _ _ _ _ _ h=>.inr h,fun _ _ _ h=>.inr h⟩
theorem Gh.T_rd{g:Gh}(h:∀i,g.ov i=none)(z:Nat)(v:Value):g.T .rd z v:=fun b _ q=>by
 obtain⟨i,D,e,_⟩:=q
 rw[h i]at e;cases e
theorem TLe.of{S:Nat->Nat->Prop}{g g':Gh}(hN:∀b,g.N b->g'.N b)(ho:g'.ov=g.ov):TLe S g.T g'.T:=by
 have e:∀b,g'.own b↔g.own b:=fun b=>by simp only[Gh.own,ho]
 refine⟨fun t z b o n c _ h=>?_,fun i z v h=>by simpa only[Gh.T,ho]using h⟩
 cases t with
 |rd=>exact fun b hb=>by rw[e];exact h b hb
 |nw=>exact fun b hb=>⟨hN b (h b hb).1,by rw[e];exact(h b hb).2⟩
 |own i=>simpa only[Gh.T,ho]using h
inductive Rd(w:World)(S:Nat->Nat->Prop)(T:Tag->Nat->Value->Prop):AV->Value->Prop
 |bool (b:Bool):Rd w S T (.bool b) (.bool b)
 |int (k:IntKind) (n:Int):Rd w S T (.int k n) (.int k n)
 |str (l:List UInt8):Rd w S T (.str l) (.string ⟨l.toArray⟩)
 |nl:Rd w S T .nl (.slice none 0 0)
 |agg (cs:List AV) (vs:List Value) (hl:cs.length=vs.length) (h1:∀a∈cs,a.one=true)
   (h:∀(i:Nat) (a:AV) (v:Value),cs[i]?=some a->vs[i]?=some v->Rd w S T a v):Rd w S T (.agg cs) (.agg vs.toArray)
 |fn (f:Nat) (cs:List AV) (vs:List Value) (hl:cs.length=vs.length)
   (h:∀(i:Nat) (a:AV) (v:Value),cs[i]?=some a->vs[i]?=some v->Rd w S T a v):Rd w S T (.fn f cs) (.func (.func f) #[] vs.toArray)
 |sl0 (t:Tag) (sz:Nat) (a:Option Addr) (c:Nat) (ho:∀i,t=.own i->True):Rd w S T (.sl t sz []) (.slice a 0 c)
 |sl (t:Tag) (sz:Nat) (es:List AV) (b o c:Nat) (cv:Nat->Value) (hc:es.length<=c) (hm:c<=maxLen)
   (hs:∀e∈es,e.cells.length=sz)
   (hw:∀(j:Nat) (a:AV),(flat es)[j]?=some a->w.cell? ⟨b,o+j,none⟩=some (cv j)/\S b (o+j)/\a.one=true/\T t sz (.slice (some ⟨b,o,none⟩) es.length c))
   (ho:∀i,t=.own i->True)
   (h:∀(j:Nat) (a:AV),(flat es)[j]?=some a->Rd w S T a (cv j)) :
   Rd w S T (.sl t sz es) (.slice (some ⟨b,o,none⟩) es.length c)
 |ept (e:AV) (off b o:Nat) (cv:Nat->Value) (hw:∀(j:Nat) (a:AV),e.cells[j]?=some a->w.cell? ⟨b,o+j,none⟩=some (cv j)/\S b (o+j)/\a.one=true/\T .rd 0 (.slice (some ⟨b,0,none⟩) 0 0))
   (h:∀(j:Nat) (a:AV),e.cells[j]?=some a->Rd w S T a (cv j)):Rd w S T (.ept e off) (.pointer (some ⟨b,o+off,none⟩))
theorem Rd.mono{w w':World}{S S':Nat->Nat->Prop}{T T':Tag->Nat->Value->Prop}(hS:∀b o,S b o->S' b o)(hT:TLe S T T')
  (hc:∀b o,S b o->w'.cell? ⟨b,o,none⟩=w.cell? ⟨b,o,none⟩) {a:AV} {v:Value} (h:Rd w S T a v):Rd w' S' T' a v:=by
 induction h with
 |bool b=>exact .bool b
 |int k n=>exact .int k n
 |str l=>exact .str l
 |nl=>exact .nl
 |agg cs vs hl h1 _ ih=>exact .agg cs vs hl h1 ih
 |fn f cs vs hl _ ih=>exact .fn f cs vs hl ih
 |sl0 t sz a c ho=>exact .sl0 t sz a c fun _ _=>trivial
 |sl t sz es b o c cv hcc hm hs hw ho _ ih =>
  exact .sl t sz es b o c cv hcc hm hs (fun j a hj=>by obtain⟨h1,h2,h3,h4⟩:=hw j a hj;exact⟨by rw[hc _ _ h2];exact h1,hS _ _ h2,h3,hT.1 _ _ _ _ _ _ ⟨_,h2⟩ h4⟩) (fun _ _=>trivial) ih
 |ept e off b o cv hw _ ih=>exact .ept e off b o cv (fun j a hj=>by obtain⟨h1,h2,h3,h4⟩:=hw j a hj;exact⟨by rw[hc _ _ h2];exact h1,hS _ _ h2,h3,hT.1 _ _ _ _ _ _ ⟨_,h2⟩ h4⟩) ih
def UnfB(w:World)(b:Nat):Prop:=∀o v,w.cell? ⟨b,o,none⟩=some v->w.frozen? ⟨b,o,none⟩=false
theorem UnfB.block{w w':World}{b:Nat}(h:w'.heap[b]?=w.heap[b]?)(u:UnfB w b):UnfB w' b:=fun o v hv=>by
 rw[World.cell?_of_block h]at hv
 have:=u o v hv
 simp only[World.frozen?,h]at this ⊢
 exact this
theorem UnfB.plain{w:World}{b:Nat}{cs:Array Value}{ty:TypeId}(h:w.heap[b]?=some (.cells cs ty (0,0))):UnfB w b:=fun o v _=>by simp[World.frozen?,h]
def KRel(v v':Value):Prop:=v=v'\/(∃k a b,v=.int k a/\v'=.int k b)\/(∃a b,v=.bool a/\v'=.bool b)\/(∃a b,v=.string a/\v'=.string b)
inductive Od(w:World)(D:Nat->Prop):DK->Value->Prop
 |b (x:Bool):Od w D .b (.bool x)
 |i (k:IntKind) (n:Int):Od w D (.i k) (.int k n)
 |s (x:ByteArray):Od w D .s (.string x)
 |l0 (ks:List DK) (a:Option Addr) (c:Nat):Od w D (.l ks) (.slice a 0 c)
 |l (ks:List DK) (b o n c:Nat) (cv:Nat->Value) (hD:D b) (hn:n<=1048576) (hc:n<=c) (hm:c<=maxLen) (hw:∀j,j<n*ks.length->w.cell? ⟨b,o+j,none⟩=some (cv j))
   (h:∀(j:Nat) (k:DK),j<n*ks.length->ks[j % ks.length]?=some k->Od w D k (cv j)):Od w D (.l ks) (.slice (some ⟨b,o,none⟩) n c)
theorem Od.kinds{w w':World}{D:Nat->Prop}(hk:∀b o v,D b->w.cell? ⟨b,o,none⟩=some v->∃v',w'.cell? ⟨b,o,none⟩=some v'/\KRel v v'){k:DK}{v:Value}(h:Od w D k v):∀{v':Value},KRel v v'->Od w' D k v':=by
 induction h with
 |b x =>
  rintro v' (rfl|⟨_,_,_,h,_⟩|⟨_,y,h,rfl⟩|⟨_,_,h,_⟩)
  .exact .b x
  .cases h
  .exact .b y
  .cases h
 |i k n =>
  rintro v' (rfl|⟨_,_,m,h,rfl⟩|⟨_,_,h,_⟩|⟨_,_,h,_⟩)
  .exact .i k n
  .cases h;exact .i k m
  .cases h
  .cases h
 |s x =>
  rintro v' (rfl|⟨_,_,_,h,_⟩|⟨_,_,h,_⟩|⟨_,y,h,rfl⟩)
  .exact .s x
  .cases h
  .cases h
  .exact .s y
 |l0 ks a c =>
  rintro v' (rfl|⟨_,_,_,h,_⟩|⟨_,_,h,_⟩|⟨_,_,h,_⟩)
  .exact .l0 ks a c
  .cases h
  .cases h
  .cases h
 |l ks b o n c cv hD hn hc hm hw h ih =>
  rintro v' (rfl|⟨_,_,_,h,_⟩|⟨_,_,h,_⟩|⟨_,_,h,_⟩)
  .refine .l ks b o n c (fun j=>(w'.cell? ⟨b,o+j,none⟩).getD undef) hD hn hc hm (fun j hj=>?_) fun j k hj hk'=>?_
   .obtain⟨v',h1,_⟩:=hk b (o+j) _ hD (hw j hj)
    rw[h1];rfl
   .obtain⟨v',h1,h2⟩:=hk b (o+j) _ hD (hw j hj)
    rw[h1];exact ih j k hj hk' h2
  .cases h
  .cases h
  .cases h
inductive Gv(w:World)(g:Gh)(s:St):AV->Value->Prop
 |data (a:AV) (v:Value) (h:Rd w g.S g.T a v):Gv w g s a v
 |bad (v:Value):Gv w g s .bad v
 |und:Gv w g s .und undef
 |el (a:Option Addr):Gv w g s .el (.slice a 0 0)
 |sref (k:Nat) (v:Value) (h1:v.oneCell'=true) (h:∀r,s.rw k=some r->v=g.rv k):Gv w g s (.sref k) v
 |ptr (k off:Nat) (v:Value) (h1:v.oneCell'=true) (h:∀cs,s.bx k=some cs->v=.pointer (some ⟨g.bb k,off,none⟩)):Gv w g s (.ptr k off) v
 |rpt (k i off:Nat) (v:Value) (h1:v.oneCell'=true)
   (h:∀r,s.rw k=some r->∃b,(g.rv k).ownBlock=some b/\v=.pointer (some ⟨b,i*r.sz+off,none⟩)):Gv w g s (.rpt k i off) v
 |eot (e:AV) (off b o:Nat) (cv:Nat->Value) (hw:∀(j:Nat) (a:AV),e.cells[j]?=some a->w.cell? ⟨b,o+j,none⟩=some (cv j)/\g.S b (o+j)/\a.one=true)
   (h:∀(j:Nat) (a:AV),e.cells[j]?=some a->Rd w g.S g.T a (cv j)):Gv w g s (.eot e off) (.pointer (some ⟨b,o+off,none⟩))
 |od (i:Nat) (ks:List DK) (a:Option Addr) (n c:Nat) (D:Nat->Prop) (hD:g.ov i=some D) (h:Od w D (.l ks) (.slice a n c)):Gv w g s (.od i ks n) (.slice a n c)
 |op (i:Nat) (ks:List DK) (off b o:Nat) (D:Nat->Prop) (cv:Nat->Value) (hD:g.ov i=some D) (hb:D b) (hw:∀j,j<ks.length->w.cell? ⟨b,o+j,none⟩=some (cv j)) (h:∀(j:Nat) (k:DK),ks[j]?=some k->Od w D k (cv j)):Gv w g s (.op i ks off) (.pointer (some ⟨b,o+off,none⟩))
 |agg (cs:List AV) (vs:List Value) (hl:cs.length=vs.length) (h1:∀a∈cs,a.one=true\/a=.bad)
   (h:∀(i:Nat) (a:AV) (v:Value),cs[i]?=some a->vs[i]?=some v->Gv w g s a v):Gv w g s (.agg cs) (.agg vs.toArray)
 |tup (cs:List AV) (vs:List Value) (hl:cs.length=vs.length)
   (h:∀(i:Nat) (a:AV) (v:Value),cs[i]?=some a->vs[i]?=some v->Gv w g s a v):Gv w g s (.tup cs) (.tuple vs.toArray)
 |fn (f:Nat) (cs:List AV) (vs:List Value) (hl:cs.length=vs.length)
   (h:∀(i:Nat) (a:AV) (v:Value),cs[i]?=some a->vs[i]?=some v->Gv w g s a v):Gv w g s (.fn f cs) (.func (.func f) #[] vs.toArray)
structure Turn(p:Nat->Prop)(w w':World)(g g':Gh)(s s':St):Prop where
 S:∀b o,g.S b o->g'.S b o
 N:∀b,g.N b->g'.N b
 T:TLe g.S g.T g'.T
 cell:∀b o,g.S b o->w'.cell? ⟨b,o,none⟩=w.cell? ⟨b,o,none⟩
 rw:∀k,p k->∀r',s'.rw k=some r'->∃r,s.rw k=some r/\r'.sz=r.sz/\g'.rv k=g.rv k
 bx:∀k,p k->∀cs',s'.bx k=some cs'->∃cs,s.bx k=some cs/\g'.bb k=g.bb k
 ov:∀i D,g.ov i=some D->g'.ov i=some D
 kd:∀b o v,g.own b->w.cell? ⟨b,o,none⟩=some v->∃v',w'.cell? ⟨b,o,none⟩=some v'/\KRel v v'
theorem KRel.refl(v:Value):KRel v v:=.inl rfl
theorem J14{w:World}{g:Gh}:∀(b o:Nat) (v:Value),g.own b->w.cell? ⟨b,o,none⟩=some v->∃v',w.cell? ⟨b,o,none⟩=some v'/\KRel v v':=fun _ _ v _ h=>⟨v,h,.refl v⟩
theorem J0M{w w':World}{g:Gh}(hh:∀b,g.own b->w'.heap[b]?=w.heap[b]?):∀(b o:Nat) (v:Value),g.own b->w.cell? ⟨b,o,none⟩=some v->∃v',w'.cell? ⟨b,o,none⟩=some v'/\KRel v v' :=
 fun b _ v hb h=>⟨v,by rw[World.cell?_of_block (hh b hb)];exact h,.refl v⟩
theorem Od.turn{w w':World}{g g':Gh}{s s':St}{p:Nat->Prop}(T:Turn p w w' g g' s s'){i:Nat}{D:Nat->Prop}(hD:g.ov i=some D){k:DK}{v v':Value}(h:Od w D k v)(hv:KRel v v'):Od w' D k v' :=
 h.kinds (fun b o v hb hv=>T.kd b o v ⟨i,D,hD,hb⟩ hv) hv
theorem O1w{w w':World}{g g':Gh}{s s':St}{p:Nat->Prop}(T:Turn p w w' g g' s s'){i:Nat}{ks:List DK}{off b o:Nat}{D:Nat->Prop}{cv:Nat->Value}(hD:g.ov i=some D)(hb:D b)
  (hw:∀j,j<ks.length->w.cell? ⟨b,o+j,none⟩=some (cv j)) (h:∀(j:Nat) (k:DK),ks[j]?=some k->Od w D k (cv j)):Gv w' g' s' (.op i ks off) (.pointer (some ⟨b,o+off,none⟩)):=by
 refine .op i ks off b o D (fun j=>(w'.cell? ⟨b,o+j,none⟩).getD undef) (T.ov i D hD) hb (fun j hj=>?_) fun j k hk=>?_
 .obtain⟨v',h1,_⟩:=T.kd b (o+j) _ ⟨i,D,hD,hb⟩ (hw j hj)
  rw[h1];rfl
 .obtain⟨v',h1,h2⟩:=T.kd b (o+j) _ ⟨i,D,hD,hb⟩ (hw j (yB hk).1)
  rw[h1];exact(h j k hk).turn T hD h2
theorem Gv.turn{w w':World}{g g':Gh}{s s':St}(T:Turn (fun _=>True) w w' g g' s s'){a:AV}{v:Value}(h:Gv w g s a v):Gv w' g' s' a v:=by
 induction h with
 |data a v h=>exact .data a v (h.mono T.S T.T T.cell)
 |bad v=>exact .bad v
 |und=>exact .und
 |el a=>exact .el a
 |sref k v h1 h=>exact .sref k v h1 fun r' hr'=>by obtain⟨r,hr,_,hg⟩:=T.rw k trivial r' hr';rw[hg];exact h r hr
 |ptr k off v h1 h=>exact .ptr k off v h1 fun c' hc'=>by obtain⟨c,hc,hg⟩:=T.bx k trivial c' hc';rw[hg];exact h c hc
 |rpt k i off v h1 h=>exact .rpt k i off v h1 fun r' hr'=>by obtain⟨r,hr,hz,hg⟩:=T.rw k trivial r' hr';rw[hg,hz];exact h r hr
 |eot e off b o cv hw h =>
  exact .eot e off b o cv (fun j a hj=>by obtain⟨h1,h2,h3⟩:=hw j a hj;exact⟨by rw[T.cell _ _ h2];exact h1,T.S _ _ h2,h3⟩) (fun j a hj=>(h j a hj).mono T.S T.T T.cell)
 |od i ks a n c D hD h=>exact .od i ks a n c D (T.ov i D hD) (h.turn T hD (.refl _))
 |op i ks off b o D cv hD hb hw h=>exact O1w T hD hb hw h
 |agg cs vs hl h1 _ ih=>exact .agg cs vs hl h1 ih
 |tup cs vs hl _ ih=>exact .tup cs vs hl ih
 |fn f cs vs hl _ ih=>exact .fn f cs vs hl ih
theorem Rd.one_dead{w:World}{S:Nat->Nat->Prop}{T:Tag->Nat->Value->Prop}(k:Nat){a:AV}{v:Value}(h:Rd w S T a v)(h1:a.one=true):(a.dead k).one=true:=by
 cases h<;>simp_all [AV.dead,AV.one]
theorem Rd.dead{w:World}{S:Nat->Nat->Prop}{T:Tag->Nat->Value->Prop}{k:Nat}{a:AV}{v:Value}(h:Rd w S T a v):Rd w S T (a.dead k) v:=by
 induction h with
 |bool b=>exact .bool b
 |int k n=>exact .int k n
 |str l=>exact .str l
 |nl=>exact .nl
 |sl0 t sz a c ho=>exact .sl0 t sz a c ho
 |sl t sz es b o c cv hcc hm hs hw hn h _=>exact .sl t sz es b o c cv hcc hm hs hw hn h
 |ept e off b o cv hw h _=>exact .ept e off b o cv hw h
 |agg cs vs hl h1 h ih =>
  rw[AV.dead,Za]
  refine .agg _ vs (by simpa using hl) ?_ ?_
  .intro a ha
   obtain⟨a0,ha0,rfl⟩:=yY ha
   obtain⟨i,hi,rfl⟩:=List.getElem_of_mem ha0
   have hlt:i<vs.length:=by omega
   exact(h i _ _ (yA hi) (yA hlt)).one_dead k (h1 _ ha0)
  .intro i a v ha hv
   rw[yF]at ha
   cases hc:cs[i]? with
   |none=>simp[hc]at ha
   |some x=>simp[hc]at ha;subst ha;exact ih i x v hc hv
 |fn f cs vs hl h ih =>
  rw[AV.dead,Za]
  refine .fn f _ vs (by simpa using hl) ?_
  intro i a v ha hv
  rw[yF]at ha
  cases hc:cs[i]? with
  |none=>simp[hc]at ha
  |some x=>simp[hc]at ha;subst ha;exact ih i x v hc hv
theorem one_dead(k:Nat){a:AV}(h:a.one=true\/a=.bad):(a.dead k).one=true\/a.dead k=.bad:=by
 rcases h with h|rfl
 .cases a with
  |sref j=>rw[AV.dead];split<;>simp[AV.one]
  |ptr j o=>rw[AV.dead];split<;>simp[AV.one]
  |rpt j i o=>rw[AV.dead];split<;>simp[AV.one]
  |_=>simp[AV.dead,AV.one]at h ⊢
 .right;rfl
theorem Gv.turn_dead{w w':World}{g g':Gh}{s s':St}{k:Nat}(T:Turn (·≠k) w w' g g' s s'){a:AV}{v:Value}(h:Gv w g s a v):Gv w' g' s' (a.dead k) v:=by
 have mp:∀(cs:List AV) (vs:List Value),(∀(i:Nat) (a:AV) (v:Value),cs[i]?=some a->vs[i]?=some v->Gv w' g' s' (a.dead k) v) ->
   ∀(i:Nat) (a:AV) (v:Value),(cs.map (AV.dead k))[i]?=some a->vs[i]?=some v->Gv w' g' s' a v:=by
  intro cs vs ih i a v ha hv
  rw[yF]at ha
  cases hc:cs[i]? with
  |none=>simp[hc]at ha
  |some x=>simp[hc]at ha;subst ha;exact ih i x v hc hv
 induction h with
 |data a v h=>exact .data _ v ((h.mono T.S T.T T.cell).dead)
 |bad v=>exact .bad v
 |und=>exact .und
 |el a=>exact .el a
 |sref j v h1 h =>
  rw[AV.dead];split
  .exact .bad v
  .rename_i hj
   exact .sref j v h1 fun r' hr'=>by obtain⟨r,hr,_,hg⟩:=T.rw j hj r' hr';rw[hg];exact h r hr
 |ptr j off v h1 h =>
  rw[AV.dead];split
  .exact .bad v
  .rename_i hj
   exact .ptr j off v h1 fun c' hc'=>by obtain⟨c,hc,hg⟩:=T.bx j hj c' hc';rw[hg];exact h c hc
 |rpt j i off v h1 h =>
  rw[AV.dead];split
  .exact .bad v
  .rename_i hj
   exact .rpt j i off v h1 fun r' hr'=>by obtain⟨r,hr,hz,hg⟩:=T.rw j hj r' hr';rw[hg,hz];exact h r hr
 |eot e off b o cv hw h =>
  exact .eot e off b o cv (fun j a hj=>by obtain⟨h1,h2,h3⟩:=hw j a hj;exact⟨by rw[T.cell _ _ h2];exact h1,T.S _ _ h2,h3⟩) (fun j a hj=>(h j a hj).mono T.S T.T T.cell)
 |od i ks a n c D hD h=>exact .od i ks a n c D (T.ov i D hD) (h.turn T hD (.refl _))
 |op i ks off b o D cv hD hb hw h=>exact O1w T hD hb hw h
 |agg cs vs hl h1 _ ih =>
  rw[AV.dead,Za]
  refine .agg _ vs (by simpa using hl) ?_ (mp cs vs ih)
  intro a ha
  obtain⟨a0,ha0,rfl⟩:=yY ha
  exact one_dead k (h1 _ ha0)
 |tup cs vs hl _ ih=>rw[AV.dead,Za];exact .tup _ vs (by simpa using hl) (mp cs vs ih)
 |fn f cs vs hl _ ih=>rw[AV.dead,Za];exact .fn f _ vs (by simpa using hl) (mp cs vs ih)
structure Cx where
 nt:Nat
 X:Nat->Prop
 Y:Nat->Prop
 S0:Nat->Nat->Prop
 w0:World
 rv0:Nat->Value
 bb0:Nat->Nat
 ntb:nt<=900000
 n0:Nat:=0
 my:Nat->Prop:=fun _=>True
 ov0:Nat->Option (Nat->Prop):=fun _=>none
 D:Nat->Prop:=fun _=>False
 s0:∀b o,S0 b o->b<w0.heap.size
 sx:∀b o,S0 b o->¬ X b
structure Frm(c:Cx)(w:World):Prop where
 os:w.os=c.w0.os
 tape:w.tape=c.w0.tape
 output:w.output=c.w0.output
 size:c.w0.heap.size<=w.heap.size
 block:∀k,k<c.w0.heap.size->¬ c.X k->w.heap[k]?=c.w0.heap[k]?
def OO(w:World)(g:Gh)(s:St)(b:Nat)(cs:List AV):Prop :=
 ∃(vs:List Value) (ty:TypeId),w.heap[b]?=some (.cells vs.toArray ty (0,0))/\vs.length=cs.length /\
  ∀(i:Nat) (a:AV) (v:Value),cs[i]?=some a->vs[i]?=some v->(a.one=true\/a=.bad)/\v.oneCell'=true/\Gv w g s a v
def LI(w:World)(S:Nat->Nat->Prop)(T:Tag->Nat->Value->Prop)(r:Row)(v:Value):Prop :=
 ∃(xs:List Value) (ty:TypeId),w.ownsRow 0 ty r.sz v r.es.length xs/\(∀e∈r.es,e.cells.length=r.sz) /\
  (∀(j:Nat) (a:AV) (u:Value),(flat r.es)[j]?=some a->xs[j]?=some u->a.one=true/\u.oneCell'=true/\Rd w S T a u)
def Wr(c:Cx)(g:Gh)(b:Nat):Prop:=g.N b/\(b<c.w0.heap.size->c.X b)
structure OwnH(g:Gh)(s:St)(w:World):Prop where
 lt:∀i D,g.ov i=some D->i<s.nx
 own:∀i D,g.ov i=some D->∀b,D b->b<w.heap.size/\g.N b
 dis:∀i j D D',g.ov i=some D->g.ov j=some D'->i≠j->∀b,D b->¬ D' b
 bx:∀k cs,s.bx k=some cs->¬ g.own (g.bb k)
 rw:∀k r,s.rw k=some r->∀b,(g.rv k).ownBlock=some b->¬ g.own b
 uf:∀i D,g.ov i=some D->∀b,D b->UnfB w b
structure OwnI(c:Cx)(g:Gh)(s:St)(w:World):Prop extends OwnH g s w where
 my:∀i D,g.ov i=some D->s.my i->∀b,D b->Wr c g b
 mm:s.my=c.my
 n0:c.n0<=s.nx
 old:∀i,i<c.n0->g.ov i=c.ov0 i
 dd:∀b,c.D b->g.own b
 kn:∀i,s.kn i->i<s.nx/\∀D,g.ov i=some D->∀b,D b->c.D b
 dk:∀b o v,c.D b->c.w0.cell? ⟨b,o,none⟩=some v->∃v',w.cell? ⟨b,o,none⟩=some v'/\KRel v v'
theorem OwnH.size{g:Gh}{s:St}{w:World}(O:OwnH g s w){b:Nat}(h:g.own b):b<w.heap.size:=by
 obtain⟨i,D,h1,h2⟩:=h
 exact(O.own i D h1 b h2).1
theorem OwnI.size{c:Cx}{g:Gh}{s:St}{w:World}(O:OwnI c g s w){b:Nat}(h:g.own b):b<w.heap.size:=O.toOwnH.size h
theorem OwnH.turn{g g':Gh}{s s':St}{w w':World}(O:OwnH g s w)(ho:g'.ov=g.ov)(hN:∀b,g.N b->g'.N b)(hn:s.nx<=s'.nx)(hh:∀b,g.own b->w'.heap[b]?=w.heap[b]?)
  (hb:∀k cs,s'.bx k=some cs->¬ g.own (g'.bb k)) (hr:∀k r,s'.rw k=some r->∀b,(g'.rv k).ownBlock=some b->¬ g.own b):OwnH g' s' w' where
 lt:=fun i D h=>Nat.lt_of_lt_of_le (O.lt i D (by rw[← ho];exact h)) hn
 own:=fun i D h b hb=>by
  rw[ho]at h
  have h4:=O.own i D h b hb
  have e:=hh b ⟨i,D,h,hb⟩
  rw[Array.getElem?_eq_getElem h4.1]at e
  exact⟨(Array.getElem?_eq_some_iff.1 e).1,hN b h4.2⟩
 dis:=fun i j D D' h1 h2=>O.dis i j D D' (by rw[← ho];exact h1) (by rw[← ho];exact h2)
 bx:=fun k cs h q=>hb k cs h (by simpa only[Gh.own,ho]using q)
 rw:=fun k r h b e q=>hr k r h b e (by simpa only[Gh.own,ho]using q)
 uf:=fun i D h b hb=>by
  rw[ho]at h
  exact(O.uf i D h b hb).block (hh b ⟨i,D,h,hb⟩)
theorem OwnI.turn{c:Cx}{g g':Gh}{s s':St}{w w':World}(O:OwnI c g s w)(ho:g'.ov=g.ov)(hN:∀b,g.N b->g'.N b)(hn:s.nx<=s'.nx)(hh:∀b,g.own b->w'.heap[b]?=w.heap[b]?)
  (hb:∀k cs,s'.bx k=some cs->¬ g.own (g'.bb k)) (hr:∀k r,s'.rw k=some r->∀b,(g'.rv k).ownBlock=some b->¬ g.own b) (hm:s'.my=s.my:=by rfl) (hkn:∀i,s'.kn i->s.kn i:=by first|exact fun _ h=>h|exact fun _ h=>(show False from h).elim):OwnI c g' s' w' where
 toOwnH:=O.toOwnH.turn ho hN hn hh hb hr
 my:=fun i D h hi b hb=>by
  have q:=O.my i D (by rw[← ho];exact h) (by rw[← hm];exact hi) b hb
  exact⟨hN b q.1,q.2⟩
 mm:=hm.trans O.mm
 n0:=Nat.le_trans O.n0 hn
 old:=fun i hi=>by rw[ho];exact O.old i hi
 dd:=fun b hb=>by simpa only[Gh.own,ho]using O.dd b hb
 kn:=fun i hi=>⟨Nat.lt_of_lt_of_le (O.kn i (hkn i hi)).1 hn,fun D h=>(O.kn i (hkn i hi)).2 D (by rw[← ho];exact h)⟩
 dk:=fun b o v hb hv=>by
  obtain⟨v',h1,h2⟩:=O.dk b o v hb hv
  exact⟨v',by rw[World.cell?_of_block (hh b (O.dd b hb))];exact h1,h2⟩
theorem OwnH.none{g:Gh}{s:St}{w:World}(h:∀i,g.ov i=none):OwnH g s w where
 lt:=fun i D e=>by rw[h i]at e;cases e
 own:=fun i D e=>by rw[h i]at e;cases e
 dis:=fun i j D D' e=>by rw[h i]at e;cases e
 bx:=fun k cs _ q=>by obtain⟨i,D,e,_⟩:=q;rw[h i]at e;cases e
 rw:=fun k r _ b _ q=>by obtain⟨i,D,e,_⟩:=q;rw[h i]at e;cases e
 uf:=fun i D e=>by rw[h i]at e;cases e
structure Inv(c:Cx)(g:Gh)(s:St)(a:Act)(w:World):Prop where
 defers:a.defers=[]
 nt:a.tmps.size=c.nt
 fr:Frm c w
 tm:∀i,Gv w g s (s.e i) (a.tmps.getD i undef)
 bxs:∀k cs,s.bx k=some cs->OO w g s (g.bb k) cs
 bxn:∀k cs,s.bx k=some cs->Wr c g (g.bb k)/\∀o,¬ g.S (g.bb k) o
 rws:∀k r,s.rw k=some r->LI w g.S g.T r (g.rv k)
 rwn:∀k r,s.rw k=some r->∀b,(g.rv k).ownBlock=some b->Wr c g b/\∀o,g.S b o->r.sh=true/\o<r.es.length*r.sz
 dbb:∀k k' cs cs',s.bx k=some cs->s.bx k'=some cs'->k≠k'->g.bb k≠g.bb k'
 dbr:∀k k' cs r,s.bx k=some cs->s.rw k'=some r->(g.rv k').ownBlock≠some (g.bb k)
 drr:∀k k' r r',s.rw k=some r->s.rw k'=some r'->k≠k'->∀b,(g.rv k).ownBlock=some b->(g.rv k').ownBlock≠some b
 sw:∀b o,g.S b o->b<w.heap.size
 nn:∀b,c.w0.heap.size<=b->g.N b
 nx:∀b,g.N b->b<c.w0.heap.size->c.Y b
 fix:∀k,1000000000<=k->g.rv k=c.rv0 k/\g.bb k=c.bb0 k
 sm:∀b o,c.S0 b o->g.S b o
 sb:∀b o,g.S b o->c.S0 b o\/c.w0.heap.size<=b\/c.X b
 ow:OwnI c g s w
 uf:∀b o,g.S b o->(c.w0.heap.size<=b\/c.X b)->UnfB w b
 sd:∀b o,g.S b o->¬ c.D b
theorem Q0k{w:World}{g:Gh}{s:St}{b:Nat}{cs:List AV}(h:OO w g s b cs):b<w.heap.size:=by
 obtain⟨vs,ty,hb,_⟩:=h
 rcases Nat.lt_or_ge b w.heap.size with hl|hl
 .exact hl
 .rw[Array.getElem?_eq_none hl]at hb;cases hb
theorem XT{w:World}{S:Nat->Nat->Prop}{T:Tag->Nat->Value->Prop}{r:Row}{v:Value}(h:LI w S T r v){b:Nat}(hb:v.ownBlock=some b):b<w.heap.size:=by
 obtain⟨xs,ty,ho,_⟩:=h
 exact(ho.lt b hb).2
structure Vac(c:Cx)(g:Gh)(s:St)(b:Nat):Prop where
 S:∀o,¬ g.S b o
 bx:∀k cs,s.bx k=some cs->g.bb k≠b
 rw:∀k r,s.rw k=some r->(g.rv k).ownBlock≠some b
 N:Wr c g b
 O:¬ g.own b
section
variable{c:Cx}{g:Gh}{s:St}{a:Act}{w:World}
theorem Inv.vac(I:Inv c g s a w){b:Nat}(h:w.heap.size<=b):Vac c g s b where
 S:=fun o ho=>by have:=I.sw b o ho;omega
 bx:=fun k cs hk e=>by have:=Q0k (I.bxs k cs hk);omega
 rw:=fun k r hk e=>by have:=XT (I.rws k r hk) e;omega
 N:=⟨I.nn b (Nat.le_trans I.fr.size h),fun hl=>by have:=I.fr.size;omega⟩
 O:=fun q=>by have:=I.ow.size q;omega
theorem L1G{t:Array Value}{d i:Nat}{v:Value}(hd:d<t.size):(t.setIfInBounds d v).getD i undef=if i=d then v else t.getD i undef:=by
 simp only[Array.getD_eq_getD_getElem?,Array.getElem?_setIfInBounds]
 by_cases h:d=i
 .subst h;simp[hd]
 .simp[h,Ne.symm h]
def upd(e:Nat->AV)(i:Nat)(v:AV):Nat->AV:=fun j=>if j=i then v else e j
def St.set(s:St)(d:Nat)(v:AV):St:={ s with e:=upd s.e d v }
theorem Z1t{w':World}{g:Gh}{s s':St}(hb:s'.bx=s.bx)(hr:s'.rw=s.rw)(hc:∀b o,g.S b o->w'.cell? ⟨b,o,none⟩=w.cell? ⟨b,o,none⟩)(hk:∀b o v,g.own b->w.cell? ⟨b,o,none⟩=some v->∃v',w'.cell? ⟨b,o,none⟩=some v'/\KRel v v'):Turn (fun _=>True) w w' g g s s' where
 ov:=fun _ _ h=>h
 kd:=hk
 S:=fun _ _ h=>h
 N:=fun _ h=>h
 T:=TLe.refl
 cell:=hc
 rw:=fun k _ r' h=>⟨r',by rw[← hr];exact h,rfl,rfl⟩
 bx:=fun k _ c' h=>⟨c',by rw[← hb];exact h,rfl⟩
theorem Inv.put(I:Inv c g s a w){d:Nat}(hd:d<c.nt){x:AV}{v:Value}(hv:Gv w g s x v):Inv c g (s.set d x) (a.put (some d) v) w:=by
 have T:Turn (fun _=>True) w w g g s (s.set d x):=Z1t rfl rfl (fun _ _ _=>rfl) J14
 refine⟨I.defers,by simp[Act.put,I.nt],I.fr,?_,?_,I.bxn,I.rws,I.rwn,I.dbb,I.dbr,I.drr,I.sw,I.nn,I.nx,I.fix,I.sm,I.sb,I.ow.turn rfl (fun _ h=>h) (yV _) (fun _ _=>rfl) I.ow.bx I.ow.rw,I.uf,I.sd⟩
 .intro i
  simp only[Act.put,St.set,upd]
  rw[L1G (by rw[I.nt];exact hd)]
  split
  .exact hv.turn T
  .exact(I.tm i).turn T
 .intro k cs hk
  obtain⟨vs,ty,h1,h2,h3⟩:=I.bxs k cs hk
  exact⟨vs,ty,h1,h2,fun i a v ha hv=>⟨(h3 i a v ha hv).1,(h3 i a v ha hv).2.1,(h3 i a v ha hv).2.2.turn T⟩⟩
theorem Inv.grow(I:Inv c g s a w){w':World}{S':Nat->Nat->Prop}(hos:w'.os=w.os)(htape:w'.tape=w.tape)(hout:w'.output=w.output)
    (hsz:w.heap.size<=w'.heap.size) (hold:∀k,k<w.heap.size->w'.heap[k]?=w.heap[k]?)
    (hS1:∀b o,g.S b o->S' b o) (hS2:∀b o,S' b o->g.S b o\/(w.heap.size<=b/\b<w'.heap.size)) (huf:∀b o,S' b o->g.S b o\/UnfB w' b:=by exact fun _ _ h=>.inl h):Inv c { g with S:=S' } s a w':=by
  have T:Turn (fun _=>True) w w' g { g with S:=S' } s s :=
    ⟨hS1,fun _ h=>h,TLe.of (fun _ h=>h) rfl,fun b o ho=>World.cell?_of_block (hold b (I.sw b o ho)),fun k _ r h=>⟨r,h,rfl,rfl⟩,fun k _ r h=>⟨r,h,rfl⟩,fun _ _ h=>h,J0M fun b hb=>hold b (I.ow.size hb)⟩
  refine⟨I.defers,I.nt,⟨hos.trans I.fr.os,htape.trans I.fr.tape,hout.trans I.fr.output,Nat.le_trans I.fr.size hsz,?_⟩,fun i=>(I.tm i).turn T,?_,?_,?_,?_,I.dbb,I.dbr,I.drr,?_,I.nn,I.nx,I.fix,fun b o h=>hS1 b o (I.sm b o h),fun b o h=>(hS2 b o h).elim (I.sb b o) (fun h=>.inr (.inl (Nat.le_trans I.fr.size h.1))),I.ow.turn rfl (fun _ h=>h) (yV _) (fun b hb=>hold b (I.ow.size hb)) I.ow.bx I.ow.rw,fun b o h q=>(huf b o h).elim (fun h=>(I.uf b o h q).block (hold b (I.sw b o h))) id,fun b o h q=>(hS2 b o h).elim (fun h=>I.sd b o h q) fun h=>by have:=I.ow.size (I.ow.dd b q);omega⟩
  · intro k hk hx
    rw[hold k (Nat.lt_of_lt_of_le hk I.fr.size)];exact I.fr.block k hk hx
  · intro k cs hk
    have hlt:=Q0k (I.bxs k cs hk)
    obtain⟨vs,ty,h1,h2,h3⟩:=I.bxs k cs hk
    exact⟨vs,ty,by rw[hold _ hlt];exact h1,h2,fun i a v ha hv=>⟨(h3 i a v ha hv).1,(h3 i a v ha hv).2.1,(h3 i a v ha hv).2.2.turn T⟩⟩
  · intro k cs hk
    have hlt:=Q0k (I.bxs k cs hk)
    refine⟨(I.bxn k cs hk).1,fun o ho=>?_⟩
    rcases hS2 _ _ ho with h|h
    · exact(I.bxn k cs hk).2 o h
    · have:=h.1;simp only at this;omega
  · intro k r hk
    obtain⟨xs,ty,h1,h2,h3⟩:=I.rws k r hk
    refine⟨xs,ty,⟨h1.1,?_⟩,h2,fun j a u ha hu=>⟨(h3 j a u ha hu).1,(h3 j a u ha hu).2.1,(h3 j a u ha hu).2.2.mono T.S T.T T.cell⟩⟩
    rcases h1.2 with h|⟨b,cap,cur,e1,e2,e3,e4⟩
    · exact .inl h
    · exact .inr ⟨b,cap,cur,e1,e2,by rw[hold b ((h1.lt b (by simp only[e1];rfl)).2)];exact e3,e4⟩
  · intro k r hk b hb
    have hlt:=XT (I.rws k r hk) hb
    refine⟨(I.rwn k r hk b hb).1,fun o ho=>?_⟩
    rcases hS2 _ _ ho with h|h
    · exact(I.rwn k r hk b hb).2 o h
    · omega
  · intro b o ho
    rcases hS2 _ _ ho with h|h
    · exact Nat.lt_of_lt_of_le (I.sw b o h) hsz
    · exact h.2
theorem Inv.drawn(I:Inv c g s a w)(n:Nat):Inv c g s a { w with drawn:=n } :=
 I.grow (w':={ w with drawn:=n }) (S':=g.S) rfl rfl rfl (yV _) (fun _ _=>rfl) (fun _ _ h=>h) (fun _ _ h=>.inl h)
def St.kill(s:St)(k:Nat):St :=
  { e:=fun i=>(s.e i).dead k,bx:=fun j=>if j=k then none else(s.bx j).map (Z5 k),rw:=fun j=>if j=k then none else s.rw j,nx:=s.nx,my:=s.my,kn:=s.kn }
theorem X6{k j:Nat}{cs:List AV}(h:(s.kill k).bx j=some cs):j≠k/\∃cs0,s.bx j=some cs0/\cs=Z5 k cs0:=by
 simp only[St.kill]at h
 split at h
 .cases h
 .rename_i hj
  obtain⟨c0,h0,rfl⟩:=yC h
  exact⟨hj,c0,h0,rfl⟩
theorem X9{k j:Nat}{r:Row}(h:(s.kill k).rw j=some r):j≠k/\s.rw j=some r:=by
 simp only[St.kill]at h
 split at h
 .cases h
 .rename_i hj;exact⟨hj,h⟩
theorem V02{k b:Nat}{cs:List AV}{g':Gh}{s':St}(T:Turn (·≠k) w w g g' s s')(h:OO w g s b cs):OO w g' s' b (Z5 k cs):=by
 obtain⟨vs,ty,h1,h2,h3⟩:=h
 refine⟨vs,ty,h1,by rw[Za];simpa using h2,fun i a v ha hv=>?_⟩
 rw[Za,yF]at ha
 obtain⟨a0,ha0,rfl⟩:=yC ha
 obtain⟨q1,q2,q3⟩:=h3 i a0 v ha0 hv
 exact⟨one_dead k q1,q2,q3.turn_dead T⟩
theorem Inv.addbox(I:Inv c g s a w)(k b:Nat)(cs:List AV)(hb:OO w g s b cs)(hv:Vac c g s b)(hkb:k<1000000000) :
  Inv c { g with bb:=fun j=>if j=k then b else g.bb j } { s.kill k with bx:=fun j=>if j=k then some (Z5 k cs)else(s.kill k).bx j } a w:=by
 have T:Turn (·≠k) w w g { g with bb:=fun j=>if j=k then b else g.bb j } s { s.kill k with bx:=fun j=>if j=k then some (Z5 k cs)else(s.kill k).bx j }:=by
  refine⟨fun _ _ h=>h,fun _ h=>h,TLe.of (fun _ h=>h) rfl,fun _ _ _=>rfl,fun j hj r h=>?_,fun j hj c' h=>?_,fun _ _ h=>h,J14⟩
  .exact⟨r,(X9 h).2,rfl,rfl⟩
  .simp only[hj,yc]at h
   obtain⟨_,c0,h0,_⟩:=X6 h
   exact⟨c0,h0,by simp[hj]⟩
 have hbx:∀j cs',(if j=k then some (Z5 k cs)else(s.kill k).bx j)=some cs' ->
   (j=k/\cs'=Z5 k cs)\/(j≠k/\∃c0,s.bx j=some c0/\cs'=Z5 k c0):=by
  intro j cs' h
  by_cases hj:j=k
  .simp only[hj,yb,yI]at h;exact .inl ⟨hj,h.symm⟩
  .simp only[hj,yc]at h
   obtain⟨_,c0,h0,h1⟩:=X6 h
   exact .inr ⟨hj,c0,h0,h1⟩
 refine⟨I.defers,I.nt,I.fr,fun i=>(I.tm i).turn_dead T,?_,?_,?_,?_,?_,?_,?_,I.sw,I.nn,I.nx,fun j hj=>⟨(I.fix j hj).1,by simp only[show j≠k by omega,yc];exact(I.fix j hj).2⟩,I.sm,I.sb,I.ow.turn rfl (fun _ h=>h) (yV _) (fun _ _=>rfl) (fun j cs' h=>?_) (fun j r h=>I.ow.rw j r (X9 h).2),I.uf,I.sd⟩
 .intro j cs' h
  rcases hbx j cs' h with⟨rfl,rfl⟩|⟨hj,c0,h0,rfl⟩
  .simp only[yb];exact V02 T hb
  .simp only[hj,yc];exact V02 T (I.bxs j c0 h0)
 .intro j cs' h
  rcases hbx j cs' h with⟨rfl,rfl⟩|⟨hj,c0,h0,rfl⟩
  .simp only[yb];exact⟨hv.N,hv.S⟩
  .simp only[hj,yc];exact I.bxn j c0 h0
 .intro j r h;exact I.rws j r (X9 h).2
 .intro j r h;exact I.rwn j r (X9 h).2
 .intro j j' c1 c2 h1 h2 hne
  rcases hbx j c1 h1 with⟨rfl,_⟩|⟨hj,c0,h0,_⟩<;>rcases hbx j' c2 h2 with⟨rfl,_⟩|⟨hj',c0',h0',_⟩
  .exact absurd rfl hne
  .simp only[yb,hj',yc];exact fun e=>hv.bx j' c0' h0' e.symm
  .simp only[yb,hj,yc];exact hv.bx j c0 h0
  .simp only[hj,hj',yc];exact I.dbb j j' c0 c0' h0 h0' hne
 .intro j j' c1 r h1 h2
  have h2':=(X9 h2).2
  rcases hbx j c1 h1 with⟨rfl,_⟩|⟨hj,c0,h0,_⟩
  .simp only[yb];exact hv.rw j' r h2'
  .simp only[hj,yc];exact I.dbr j j' c0 r h0 h2'
 .intro j j' r r' h1 h2 hne
  exact I.drr j j' r r' (X9 h1).2 (X9 h2).2 hne
 .rcases hbx j cs' h with⟨rfl,_⟩|⟨hj,c0,h0,_⟩
  .simp only[yb];exact hv.O
  .simp only[hj,yc];exact I.ow.bx j c0 h0
theorem Inv.addrow(I:Inv c g s a w)(k:Nat)(r0:Row)(v0:Value)(hr:LI w g.S g.T r0 v0)(hv:∀b,v0.ownBlock=some b->Vac c g s b)(hkb:k<1000000000) :
  Inv c { g with rv:=fun j=>if j=k then v0 else g.rv j } { s.kill k with rw:=fun j=>if j=k then some r0 else(s.kill k).rw j } a w:=by
 have T:Turn (·≠k) w w g { g with rv:=fun j=>if j=k then v0 else g.rv j } s { s.kill k with rw:=fun j=>if j=k then some r0 else(s.kill k).rw j }:=by
  refine⟨fun _ _ h=>h,fun _ h=>h,TLe.of (fun _ h=>h) rfl,fun _ _ _=>rfl,fun j hj r h=>?_,fun j hj c' h=>?_,fun _ _ h=>h,J14⟩
  .simp only[hj,yc]at h
   exact⟨r,(X9 h).2,rfl,by simp[hj]⟩
  .obtain⟨_,c0,h0,_⟩:=X6 h
   exact⟨c0,h0,rfl⟩
 have hrw:∀j r,(if j=k then some r0 else(s.kill k).rw j)=some r->(j=k/\r=r0)\/(j≠k/\s.rw j=some r):=by
  intro j r h
  by_cases hj:j=k
  .simp only[hj,yb,yI]at h;exact .inl ⟨hj,h.symm⟩
  .simp only[hj,yc]at h;exact .inr ⟨hj,(X9 h).2⟩
 refine⟨I.defers,I.nt,I.fr,fun i=>(I.tm i).turn_dead T,?_,?_,?_,?_,?_,?_,?_,I.sw,I.nn,I.nx,fun j hj=>⟨by simp only[show j≠k by omega,yc];exact(I.fix j hj).1,(I.fix j hj).2⟩,I.sm,I.sb,I.ow.turn rfl (fun _ h=>h) (yV _) (fun _ _=>rfl) (fun j cs' h=>by obtain⟨_,c0,h0,_⟩:=X6 h;exact I.ow.bx j c0 h0) (fun j r h b hb=>?_),I.uf,I.sd⟩
 .intro j cs' h
  obtain⟨_,c0,h0,rfl⟩:=X6 h
  exact V02 T (I.bxs j c0 h0)
 .intro j cs' h
  obtain⟨_,c0,h0,rfl⟩:=X6 h
  exact I.bxn j c0 h0
 .intro j r h
  rcases hrw j r h with⟨rfl,rfl⟩|⟨hj,h0⟩
  .simpa using hr
  .simpa[hj]using I.rws j r h0
 .intro j r h b hb
  rcases hrw j r h with⟨rfl,rfl⟩|⟨hj,h0⟩
  .simp only[yb]at hb
   exact⟨(hv b hb).N,fun o ho=>absurd ho ((hv b hb).S o)⟩
  .simp only[hj,yc]at hb
   exact I.rwn j r h0 b hb
 .intro j j' c1 c2 h1 h2 hne
  obtain⟨_,d1,h1',_⟩:=X6 h1
  obtain⟨_,d2,h2',_⟩:=X6 h2
  exact I.dbb j j' d1 d2 h1' h2' hne
 .intro j j' c1 r h1 h2
  obtain⟨_,d1,h1',_⟩:=X6 h1
  rcases hrw j' r h2 with⟨rfl,rfl⟩|⟨hj,h0⟩
  .simp only[yb];exact fun e=>(hv _ e).bx j d1 h1' rfl
  .simp only[hj,yc];exact I.dbr j j' d1 r h1' h0
 .intro j j' r r' h1 h2 hne b
  rcases hrw j r h1 with⟨rfl,rfl⟩|⟨hj,h0⟩<;>rcases hrw j' r' h2 with⟨rfl,rfl⟩|⟨hj',h0'⟩
  .exact absurd rfl hne
  .simp only[yb,hj',yc];exact fun e=>(hv b e).rw j' r' h0'
  .simp only[yb,hj,yc];exact fun e e'=>(hv b e').rw j r h0 e
  .simp only[hj,hj',yc];exact I.drr j j' r r' h0 h0' hne b
 .rcases hrw j r h with⟨rfl,rfl⟩|⟨hj,h0⟩
  .simp only[yb]at hb;exact(hv b hb).O
  .simp only[hj,yc]at hb;exact I.ow.rw j r h0 b hb
end
end
section
inductive X|t(i:Nat)|c(a:AV)
def St.get(s:St):X->AV
 |.t i=>s.e i
 |.c a=>a
mutual
def AV.rdt:AV->AV
 |.agg cs=>.agg (rdtL cs)
 |.tup cs=>.tup (rdtL cs)
 |.fn f cs=>.fn f (rdtL cs)
 |.sl _ sz es=>.sl .rd sz (rdtL es)
 |.ept e o=>.ept (AV.rdt e) o
 |a=>a
def rdtL:List AV->List AV
 |[]=>[]
 |a::l=>AV.rdt a::rdtL l
end
theorem X3:∀l,rdtL l=l.map AV.rdt
 |[]=>rfl
 |a::l=>by rw[rdtL,X3 l];rfl
mutual
def St.dt(s:St):AV->Option AV
 |.bool b=>some (.bool b)
 |.int k n=>some (.int k n)
 |.str l=>some (.str l)
 |.nl=>some .nl
 |.sl t sz es=>some (.sl t sz es)
 |.ept e o=>some (.ept e o)
 |.sref k=>(s.rw k).map fun r=>.sl .nw r.sz r.es
 |.agg cs=>(St.dtL s cs).map .agg
 |.fn f cs=>(St.dtL s cs).map (.fn f)
 |_=>none
def St.dtL(s:St):List AV->Option (List AV)
 |[]=>some []
 |a::l=>match St.dt s a,St.dtL s l with
  |some x,some y=>some (x::y)
  |_,_=>none
end
mutual
def AV.free(m:Nat):AV->Bool
 |.agg cs=>W1r m cs
 |.tup cs=>W1r m cs
 |.fn _ cs=>W1r m cs
 |.sl t _ es=>(match t with | .own i=>!Nat.beq i m|_=>true)&&W1r m es
 |.ept e _=>AV.free m e
 |.eot _ _=>false
 |_=>true
def W1r(m:Nat):List AV->Bool
 |[]=>true
 |a::l=>AV.free m a&&W1r m l
end
def AV.lose1(m:Nat)(a:AV):AV:=if a.free m=true then a else .bad
def AV.lose(m:Nat):AV->AV
 |.agg cs=>.agg (cs.map (AV.lose1 m))
 |a=>AV.lose1 m a
def St.losing(s:St)(m:Nat)(rks:List Nat):St:={ e:=fun i=>(s.e i).lose m,bx:=fun k=>(s.bx k).map fun cs=>cs.map (AV.lose1 m),rw:=fun j=>if j∈rks then s.rw j else none,nx:=s.nx,my:=s.my,kn:=s.kn }
mutual
def AV.pl:AV->Prop
 |.bool _=>True
 |.int _ _=>True
 |.str _=>True
 |.nl=>True
 |.sl _ _ es=>plL es
 |.agg cs=>plL cs
 |_=>False
def plL:List AV->Prop
 |[]=>True
 |a::l=>AV.pl a/\plL l
end
mutual
def AV.ownt(i:Nat):AV->AV
 |.agg cs=>.agg (Z1P i cs)
 |.sl _ sz es=>.sl (.own i) sz (Z1P i es)
 |a=>a
def Z1P(i:Nat):List AV->List AV
 |[]=>[]
 |a::l=>AV.ownt i a::Z1P i l
end
mutual
def AV.fitX(m:Nat):List DK->AV->Prop
 |ks,.agg cs=>fitC m ks cs
 |ks,.bool _=>ks=[.b]
 |ks,.int q _=>ks=[.i q]
 |ks,.str _=>ks=[.s]
 |ks,.nl=>∃k,ks=[.l k]
 |ks,.sl t sz es=>∃k,ks=[.l k]/\(es=[]\/(t=.own m/\sz=k.length/\0<sz/\es.length<=1048576/\fitE m k es))
 |_,_=>False
def fitE(m:Nat):List DK->List AV->Prop
 |_,[]=>True
 |ks,e::l=>AV.fitX m ks e/\fitE m ks l
def fitC(m:Nat):List DK->List AV->Prop
 |[],[]=>True
 |k::ks,a::l=>AV.fitX m [k] a/\fitC m ks l
 |_,_=>False
end
def hv1(m:Nat)(a b:AV):Prop:=match b with
 |.bad=>True
 |.od j ks n=>j=0/\(a=.od m ks n\/(a=.nl/\n=0)\/∃t sz es,a=.sl t sz es/\n=es.length/\AV.fitX m [.l ks] a)
 |.int k n=>a=.int k n
 |.str l=>a=.str l
 |.bool q=>a=.bool q
 |_=>False
def hvL(m:Nat):List AV->List AV->Prop
 |[],[]=>True
 |a::l,b::k=>hv1 m a b/\hvL m l k
 |_,_=>False
def hvA(m:Nat):AV->AV->Prop
 |.agg cs,.agg ds=>hvL m cs ds
 |a,b=>hv1 m a b
def hvLs(m:Nat):List AV->List AV->Prop
 |[],[]=>True
 |a::l,b::k=>hvA m a b/\hvLs m l k
 |_,_=>False
def X20:DK->AV->Bool
 |.i k,.int k' _=>decide (k=k')
 |.b,.bool _=>true
 |.s,.str _=>true
 |_,_=>false
def L0b(cs:List AV)(off n:Nat)(ag:Bool):Option AV :=
 if ag then(if off+n<=cs.length then some (.agg ((cs.drop off).take n))else none)else cs[off]?
def St.ld(s:St)(p:AV)(n:Nat)(ag:Bool):Option AV :=
 match p with
 |.ept e off=>L0b e.cells off n ag
 |.eot e off=>L0b e.cells off n ag
 |.ptr k off=>match s.bx k with|some cs=>L0b cs off n ag|none=>none
 |.rpt k i off=>match s.rw k with
  |some r=>match r.es[i]? with|some e=>L0b e.cells off n ag|none=>none
  |none=>none
 |_=>none
def putC(cs:List AV)(off:Nat)(vs:List AV):List AV:=cs.take off++vs++cs.drop (off+vs.length)
def eqCells:List Nat->List AV->List AV->Option Bool
 |[],[],[]=>some true
 |0::ks,.int k x::l,.int k' y::m=>if k=k' then(eqCells ks l m).map fun r=>x==y&&r else none
 |1::ks,.str x::l,.str y::m=>(eqCells ks l m).map fun r=>x==y&&r
 |2::ks,.bool x::l,.bool y::m=>(eqCells ks l m).map fun r=>x==y&&r
 |_,_,_=>none
def bAnd(k:IntKind)(a b:Int):Int:=k.wrap ((BitVec.ofInt k.bits a &&& BitVec.ofInt k.bits b).toNat:Int)
def bXor(k:IntKind)(a b:Int):Int:=k.wrap ((BitVec.ofInt k.bits a ^^^ BitVec.ofInt k.bits b).toNat:Int)
def bShr(k:IntKind)(a b:Int):Int:=a.fdiv (2 ^ (min b.toNat k.bits))
def evB:BinOp->AV->AV->Option AV
 |.and,.int k a,.int k' b=>if k=k' then some (.int k (bAnd k a b))else none
 |.xor,.int k a,.int k' b=>if k=k' then some (.int k (bXor k a b))else none
 |.shr,.int k a,.int _ b=>if 0<=b then some (.int k (bShr k a b))else none
 |.add,.int k a,.int k' b=>if k=k' then some (.int k (k.wrap (a+b)))else none
 |.sub,.int k a,.int k' b=>if k=k' then some (.int k (k.wrap (a-b)))else none
 |.mul,.int k a,.int k' b=>if k=k' then some (.int k (k.wrap (a*b)))else none
 |.quo,.int k a,.int k' b=>if k=k'/\b≠0 then some (.int k (k.wrap (a.tdiv b)))else none
 |.rem,.int k a,.int k' b=>if k=k'/\b≠0 then some (.int k (a.tmod b))else none
 |.eql,.int k a,.int k' b=>if k=k' then some (.bool (a==b))else none
 |.neq,.int k a,.int k' b=>if k=k' then some (.bool (a != b))else none
 |.lss,.int k a,.int k' b=>if k=k' then some (.bool (decide (a<b)))else none
 |.leq,.int k a,.int k' b=>if k=k' then some (.bool (decide (a<=b)))else none
 |.gtr,.int k a,.int k' b=>if k=k' then some (.bool (decide (b<a)))else none
 |.geq,.int k a,.int k' b=>if k=k' then some (.bool (decide (b<=a)))else none
 |.eql,.str a,.str b=>some (.bool (a==b))
 |.neq,.str a,.str b=>some (.bool (a != b))
 |.lss,.str a,.str b=>some (.bool (Op.bytesLess a b))
 |.leq,.str a,.str b=>some (.bool (Op.bytesLess a b||a==b))
 |.gtr,.str a,.str b=>some (.bool (!(Op.bytesLess a b||a==b)))
 |.geq,.str a,.str b=>some (.bool (!(Op.bytesLess a b)))
 |_,_,_=>none
inductive LOp
 |mv (d:Nat) (x:X)
 |pk (d:Nat) (c a b:X)
 |un (d:Nat) (x:X)
 |bi (d:Nat) (op:BinOp) (x y:X)
 |eb (d:Nat) (ne:Bool) (x y:X)
 |es (d:Nat) (ne:Bool) (ks:List Nat) (x y:X)
 |sa (d:Nat) (x y:X)
 |cv (d:Nat) (k:IntKind) (x:X)
 |fa (d:Nat) (x:X) (off:Nat)
 |ia (d:Nat) (x i:X) (n:Nat)
 |ix (d:Nat) (x i:X)
 |ld (d:Nat) (p:X) (n:Nat) (ag:Bool)
 |st (p x:X) (n:Nat)
 |al (d:Nat) (z:List AV)
 |bx (d:Nat) (x:X)
 |bd (d:Nat) (z:List AV) (ps:List (Nat×Nat×X))
 |bs (d:Nat) (sz:Nat) (ps:List X) (own:Bool)
 |ms (d:Nat) (sz by':Nat) (z:List AV) (l:X)
 |ln (d:Nat) (x:X)
 |ls (d:Nat) (x:X)
 |ap (d:Nat) (x y:X) (sz by':Nat)
 |sc (d:Nat) (x:X) (lo hi:Option X) (n:Nat)
 |ss (d:Nat) (x:X) (lo hi:Option X)
 |ex (d:Nat) (x:X) (i:Nat)
 |fd (d:Nat) (x:X) (off n:Nat) (ag:Bool)
 |nc (d:Nat) (x:X)
 |mm (d:Nat) (mx:Bool) (x y:X)
 |b2s (d:Nat) (x:X)
 |s2b (d:Nat) (x:X)
 |mf (d f:Nat) (xs:List X)
 |cl (d f:Nat) (xs:List X)
 |cq (d f:Nat) (xs:List X)
 |cc (d:Nat) (f:X) (xs:List X)
 |cm (d f:Nat) (xs:List X)
 |g (t:Nat) (want:Bool) (o:LOp)
 |cs (t:Nat)
 |fz (t:Nat)
 |fb (t:Nat)
 |cn (d f:Nat) (xs:List X)
 |lq (d:Nat) (x:X)
 |be (d:Nat)
 |ae (d:Nat) (x y:X) (sz by':Nat)
 |oln (d:Nat) (x:X)
 |oia (d:Nat) (x i:X) (n:Nat)
 |ofa (d:Nat) (x:X) (off:Nat)
 |old (d:Nat) (p:X)
 |ost (p x:X)
 |co (d f:Nat) (xs:List X)
 |cf (d f m:Nat) (xs:List X)
mutual
def AV.noO:AV->Prop
 |.agg cs=>noOL cs
 |.tup cs=>noOL cs
 |.fn _ cs=>noOL cs
 |.sl t _ es=>t.isOwn=false/\noOL es
 |.ept e _=>AV.noO e
 |.eot _ _=>False
 |.od _ _ _=>False
 |.op _ _ _=>False
 |_=>True
def noOL:List AV->Prop
 |[]=>True
 |a::l=>AV.noO a/\noOL l
end
def Z0U(rows:List Row):St:={ e:=fun _=>.und,bx:=fun _=>none,rw:=fun i=>rows[i]?,nx:=0,my:=fun _=>False }
def Ret(B:Nat)(w':World)(res:AV)(rows:List Row)(v:Value):Prop :=
 ∃g:Gh,(∀b o,g.S b o->B<=b/\b<w'.heap.size)/\(∀b,g.N b->B<=b)/\(∀i,g.ov i=none)/\Gv w' g (Z0U rows) res v /\
  (∀(i:Nat) (r:Row),rows[i]?=some r->LI w' g.S g.T r (g.rv i)/\∀b,(g.rv i).ownBlock=some b->B<=b/\∀o,¬ g.S b o) /\
  (∀(i j:Nat) (r r':Row),rows[i]?=some r->rows[j]?=some r'->i≠j->∀b,(g.rv i).ownBlock=some b->(g.rv j).ownBlock≠some b)/\∀b o,g.S b o->UnfB w' b
def Snd(P:Program)(f:FuncId)(args:List AV)(res:AV)(rows:List Row):Prop :=
 ∀(w:World) (S:Nat->Nat->Prop) (N:Tag->Nat->Value->Prop) (vs:List Value),(∀b o,S b o->b<w.heap.size)->vs.length=args.length ->
  (∀(i:Nat) (a:AV) (v:Value),args[i]?=some a->vs[i]?=some v->Rd w S N a v) ->
  Calls P f vs.toArray w fun e w'=>∃v,e=.returned v/\Below w.heap.size w w'/\Ret w.heap.size w' res rows v
def rdT:Tag->Nat->Value->Prop:=fun t _ _=>t=.rd
def SndB(P:Program)(f:FuncId)(args:List AV)(Ψ:List AV->Prop):Prop :=
 ∀(w:World) (S:Nat->Nat->Prop) (N:Tag->Nat->Value->Prop) (vs:List Value),(∀b o,S b o->b<w.heap.size)->vs.length=args.length ->
  (∀(i:Nat) (a:AV) (v:Value),args[i]?=some a->vs[i]?=some v->Rd w S N a v) ->
  Calls P f vs.toArray w fun e w'=>∃b,e=.returned (.pointer (some ⟨b,0,none⟩))/\Below w.heap.size w w'/\w.heap.size<=b/\∃cs,Ψ cs/\∃(S2:Nat->Nat->Prop) (us:List Value) (ty:TypeId),
   (∀b o,S2 b o->S b o\/(w.heap.size<=b/\b<w'.heap.size/\UnfB w' b))/\(∀o,¬ S2 b o)/\w'.heap[b]?=some (.cells us.toArray ty (0,0))/\us.length=cs.length /\
   ∀(i:Nat) (a:AV) (u:Value),cs[i]?=some a->us[i]?=some u->a.one=true/\u.oneCell'=true/\Rd w' S2 rdT a u
def ix:List Nat->Nat->Option Nat
 |[],_=>none
 |k::ks,j=>if k=j then some 0 else(ix ks j).map (·+1)
theorem L1F:∀{ks:List Nat} {k i:Nat},ix ks k=some i->ks[i]?=some k
 |[],_,_,h=>by simp[ix]at h
 |x::ks,k,i,h=>by
  simp only[ix]at h
  split at h
  .rename_i e;cases h;simp[e]
  .obtain⟨j,hj,rfl⟩:=yC h
   simpa using L1F hj
def hSt(n:Nat)(bx:List (List AV))(rw:List (Option Row)):St:={ e:=fun _=>.und,bx:=fun i=>bx[i]?,rw:=fun i=>(rw[i]?).join,nx:=n,my:=fun _=>False }
structure Heap(w:World)(g:Gh)(s:St):Prop where
 bxs:∀k cs,s.bx k=some cs->OO w g s (g.bb k) cs
 bxn:∀k cs,s.bx k=some cs->g.N (g.bb k)/\∀o,¬ g.S (g.bb k) o
 rws:∀k r,s.rw k=some r->LI w g.S g.T r (g.rv k)
 rwn:∀k r,s.rw k=some r->r.sh=false/\∀b,(g.rv k).ownBlock=some b->g.N b/\∀o,¬ g.S b o
 dbb:∀k k' cs cs',s.bx k=some cs->s.bx k'=some cs'->k≠k'->g.bb k≠g.bb k'
 dbr:∀k k' cs r,s.bx k=some cs->s.rw k'=some r->(g.rv k').ownBlock≠some (g.bb k)
 drr:∀k k' r r',s.rw k=some r->s.rw k'=some r'->k≠k'->∀b,(g.rv k).ownBlock=some b->(g.rv k').ownBlock≠some b
 sw:∀b o,g.S b o->b<w.heap.size
 ow:OwnH g s w
def OwnB(g:Gh)(nb nr b:Nat):Prop:=(∃i,i<nb/\g.bb i=b)\/(∃i,i<nr/\(g.rv i).ownBlock=some b)
def V7:List Row->List (Option (List AV))->List Row->List (Option Row)
 |r::rs,u::us,new=>(u.map fun es=>{ r with es:=es })::V7 rs us new
 |_,_,new=>new.map some
structure Kept(own:Nat->Prop)(w w':World):Prop where
 os:w'.os=w.os
 tape:w'.tape=w.tape
 output:w'.output=w.output
 size:w.heap.size<=w'.heap.size
 block:∀k,k<w.heap.size->¬ own k->w'.heap[k]?=w.heap[k]?
def ConN(P:Program)(f:FuncId)(n0:Nat)(args:List AV)(bin:List (List AV))(rin:List Row)(Φ:Nat->AV->List (List AV)->List (Option (List AV))->List Row->Prop):Prop :=
 ∀(w:World) (g:Gh) (vs:List Value),Heap w g (hSt n0 bin (rin.map some))->(∀b,w.heap.size<=b->g.N b)->vs.length=args.length ->
  (∀(i:Nat) (a:AV) (v:Value),args[i]?=some a->vs[i]?=some v->Gv w g (hSt n0 bin (rin.map some)) a v) ->
  Calls P f vs.toArray w fun e w'=>∃v,e=.returned v/\Kept (OwnB g bin.length rin.length) w w'/\∃n1 res bout upd new,n0<=n1/\Φ n1 res bout upd new /\
   bout.map List.length=bin.map List.length/\upd.length=rin.length/\∃g':Gh,(∀b o,g'.S b o->(g.S b o\/w.heap.size<=b\/OwnB g bin.length rin.length b)/\(w.heap.size<=b\/OwnB g bin.length rin.length b->UnfB w' b))/\(∀b,g'.N b->g.N b) /\
   (∀i,i<bin.length->g'.bb i=g.bb i)/\(∀i es,upd[i]?=some (some es)->g'.rv i=g.rv i)/\Heap w' g' (hSt n1 bout (V7 rin upd new)) /\
   (∀(j:Nat) (r:Row),new[j]?=some r->∀b,(g'.rv (rin.length+j)).ownBlock=some b->w.heap.size<=b\/OwnB g bin.length rin.length b) /\
   (∀i,i<n0->g'.ov i=g.ov i)/\(∀i D,n0<=i->g'.ov i=some D->∀b,D b->w.heap.size<=b\/OwnB g bin.length rin.length b) /\
   Gv w' g' (hSt n1 bout (V7 rin upd new)) res v
def ghD(D:Nat->Prop):Gh:={ S:=fun _ _=>False,N:=fun _=>True,bb:=fun _=>0,rv:=fun _=>undef,ov:=fun i=>if i=0 then some D else none }
def stH(args:List AV):St:={ e:=fun i=>args.getD i .und,bx:=fun _=>none,rw:=fun _=>none,nx:=1,my:=fun _=>True,kn:=fun i=>i=0 }
def Hav(P:Program)(f:FuncId)(args:List AV)(Φ:Int->Prop):Prop :=
 ∀(w:World) (D:Nat->Prop) (vs:List Value),(∀b,D b->b<w.heap.size/\UnfB w b)->vs.length=args.length ->
  (∀(i:Nat) (a:AV) (v:Value),args[i]?=some a->vs[i]?=some v->Gv w (ghD D) (stH []) a v) ->
  Calls P f vs.toArray w fun e w'=>∃k,e=.returned (.int .i64 k)/\Φ k/\Kept D w w'/\(∀b,D b->UnfB w' b) /\
   ∀b o v,D b->w.cell? ⟨b,o,none⟩=some v->∃v',w'.cell? ⟨b,o,none⟩=some v'/\KRel v v'
def Con(P:Program)(f:FuncId)(args:List AV)(bin:List (List AV))(rin:List Row)(Φ:AV->List (List AV)->List (Option (List AV))->List Row->Prop):Prop :=
 ∀n0,ConN P f n0 args bin rin fun _=>Φ
mutual
def AV.mp(fb fr:Nat->Option Nat):AV->AV
 |.sref k=>match fr k with|some i=>.sref i|none=>.bad
 |.ptr k o=>match fb k with|some i=>.ptr i o|none=>.bad
 |.rpt k i o=>match fr k with|some j=>.rpt j i o|none=>.bad
 |.agg cs=>.agg (mpL fb fr cs)
 |.tup cs=>.tup (mpL fb fr cs)
 |.fn f cs=>.fn f (mpL fb fr cs)
 |.od _ _ _=>.bad
 |.op _ _ _=>.bad
 |a=>a
def mpL(fb fr:Nat->Option Nat):List AV->List AV
 |[]=>[]
 |a::l=>AV.mp fb fr a::mpL fb fr l
end
theorem JC(fb fr:Nat->Option Nat):∀l,mpL fb fr l=l.map (AV.mp fb fr)
 |[]=>rfl
 |a::l=>by rw[mpL,JC fb fr l];rfl
mutual
def AV.ren(k n:Nat):AV->AV
 |.sref i=>if i<n then .sref (k+i)else .bad
 |.agg cs=>.agg (renL k n cs)
 |.tup cs=>.tup (renL k n cs)
 |.fn f cs=>.fn f (renL k n cs)
 |.ptr _ _=>.bad
 |.rpt _ _ _=>.bad
 |.od _ _ _=>.bad
 |.op _ _ _=>.bad
 |a=>a
def renL(k n:Nat):List AV->List AV
 |[]=>[]
 |a::l=>AV.ren k n a::renL k n l
end
mutual
def AV.nwd(rows:List Row):AV->AV
 |.sref i=>match rows[i]? with|some r=>.sl .nw r.sz r.es|none=>.bad
 |.agg cs=>.agg (nwdL rows cs)
 |.tup cs=>.tup (nwdL rows cs)
 |.fn f cs=>.fn f (nwdL rows cs)
 |.ptr _ _=>.bad
 |.rpt _ _ _=>.bad
 |.od _ _ _=>.bad
 |.op _ _ _=>.bad
 |a=>a
def nwdL(rows:List Row):List AV->List AV
 |[]=>[]
 |a::l=>AV.nwd rows a::nwdL rows l
end
theorem V0h(k n:Nat):∀l,renL k n l=l.map (AV.ren k n)
 |[]=>rfl
 |a::l=>by rw[renL,V0h k n l];rfl
theorem W0h(rows:List Row):∀l,nwdL rows l=l.map (AV.nwd rows)
 |[]=>rfl
 |a::l=>by rw[nwdL,W0h rows l];rfl
def St.addrows(s:St)(k:Nat):List Row->St
 |[]=>s
 |r::rs=>St.addrows { s.kill k with rw:=fun j=>if j=k then some r else(s.kill k).rw j } (k+1) rs
def St.kill2(s:St):List Nat->St
 |[]=>s
 |k::ks=>St.kill2 (s.kill k) ks
def drops:List Nat->List (Option (List AV))->List Nat
 |k::ks,none::us=>k::drops ks us
 |_::ks,some _::us=>drops ks us
 |_,_=>[]
def upf:List Nat->List (Option (List AV))->Nat->Option (List AV)
 |k::ks,u::us,j=>if j=k then u else upf ks us j
 |_,_,_=>none
def bxf:List Nat->List (List AV)->Nat->Option (List AV)
 |k::ks,c::cs,j=>if j=k then some c else bxf ks cs j
 |_,_,_=>none
def setRows(s:St)(bks rks:List Nat)(upd:List (Option (List AV))):St :=
  { e:=(s.kill2 (drops rks upd)).e,bx:=fun j=>if j∈bks then((s.kill2 (drops rks upd)).bx j).map (fun cs=>List.replicate cs.length .bad)else(s.kill2 (drops rks upd)).bx j,
    rw:=fun j=>match upf rks upd j with|some es=>((s.kill2 (drops rks upd)).rw j).map (fun r=>{ r with es:=es })|none=>(s.kill2 (drops rks upd)).rw j,nx:=s.nx,my:=s.my,kn:=s.kn }
def Mb(s:St)(bks:List Nat)(bs:List (List AV)):St:={ s with bx:=fun j=>match bxf bks bs j with|some cs=>some cs|none=>s.bx j }
def frB(rks:List Nat)(upd:List (Option (List AV)))(base n i:Nat):Option Nat :=
 if i<rks.length then(match upd[i]? with|some (some _)=>rks[i]? | _=>none)else if i-rks.length<n then some (base+(i-rks.length))else none
def fbB(bks:List Nat)(i:Nat):Option Nat:=bks[i]?
def afterM(s:St)(n1 d:Nat)(bks rks:List Nat)(res:AV)(bout:List (List AV))(upd:List (Option (List AV)))(new:List Row):St :=
 St.set (Mb (({ setRows s bks rks upd with nx:=n1 }:St).addrows (1000*d+1000) new) bks (bout.map (mpL (fbB bks) (frB rks upd (1000*d+1000) new.length)))) d (res.mp (fbB bks) (frB rks upd (1000*d+1000) new.length))
def MI(s:St)(fb fr:Nat->Option Nat):List Nat->List (List AV)->Prop
 |[],[]=>True
 |k::ks,b::bs=>(∃cs,s.bx k=some cs/\b=mpL fb fr cs)/\MI s fb fr ks bs
 |_,_=>False
def J0r(s:St):List Nat->List Row->Prop
 |[],[]=>True
 |k::ks,r::rs=>s.rw k=some r/\r.sh=false/\J0r s ks rs
 |_,_=>False
def QT:List Nat->List (Option (List AV))->Nat->Nat->Prop
 |k::ks,some _::us,b,n=>(k<b\/b+n<=k)/\QT ks us b n
 |_::ks,none::us,b,n=>QT ks us b n
 |_,_,_,_=>True
def X0q(b n:Nat)(bks:List Nat):Prop:=∀k∈bks,k<b\/b+n<=k
def Y08:List AV->List (Nat×Nat×AV)->Option (List AV)
 |z,[]=>some z
 |z,(off,n,v)::ps=>if v.cells.length=n/\off+n<=z.length/\v.cells.all AV.one=true then Y08 (putC z off v.cells) ps else none
def Q0E(i:AV)(n:Nat):Option Nat:=match i with
 |.int _ j=>if 0<=j/\j<n then some j.toNat else none
 |_=>none
def J1q(i:AV)(n:Nat):Option Nat:=match i with
 |.int _ j=>if 0<=j/\j<=n then some j.toNat else none
 |_=>none
def St.lo(s:St)(o:Option X)(h:Nat):Option Nat:=match o with|none=>some 0|some x=>J1q (s.get x) h
def St.hi(s:St)(o:Option X)(n:Nat):Option Nat:=match o with|none=>some n|some x=>J1q (s.get x) n
def plain:AV->Bool
 |.bool _ | .int _ _ | .str _ | .nl | .sl _ _ _=>true
 |_=>false
def nosr:AV->Bool
 |.agg cs=>cs.all plain
 |a=>plain a
def allOne(l:List AV):Bool:=l.all AV.one
def LOp.dst:LOp->Nat
 |.mv d _ | .pk d _ _ _ | .un d _ | .bi d _ _ _ | .eb d _ _ _ | .es d _ _ _ _ | .sa d _ _ | .cv d _ _ | .fa d _ _ | .ia d _ _ _ | .ix d _ _ | .ld d _ _ _ | .al d _ | .bx d _ | .bd d _ _ | .bs d _ _ _ | .ms d _ _ _ _
 |.ln d _ | .ls d _ | .ap d _ _ _ _ | .sc d _ _ _ _ | .ss d _ _ _ | .ex d _ _ | .fd d _ _ _ _ | .nc d _ | .mm d _ _ _ | .b2s d _ | .s2b d _ | .mf d _ _ | .cl d _ _ | .cq d _ _ | .cc d _ _ | .cm d _ _ | .cn d _ _ | .lq d _ | .be d | .ae d _ _ _ _ | .oln d _ | .oia d _ _ _ | .ofa d _ _ | .old d _ | .co d _ _ | .cf d _ _ _=>d
 |.st _ _ _=>0
 |.ost _ _=>0
 |.g _ _ o=>o.dst
 |.cs t | .fz t | .fb t=>t
def St.args(s:St)(xs:List X):Option (List AV):=match s.dtL (xs.map s.get)with|some l=>some (rdtL l)|none=>none
def isFn (P : Program) (f : FuncId) : Bool := match P.funcs[f]? with | some fn => fn.body.isSome && fn.name != "runtime.NumGoroutine" | none => false
def GE(a b:AV):Prop:=∀(w:World) (g:Gh) (s:St) (v:Value),(∀i,g.ov i=none)->Gv w g s a v->Gv w g s b v
def GEs(l m:List AV):Prop:=l.length=m.length/\∀(i:Nat) (a b:AV),l[i]?=some a->m[i]?=some b->GE a b
theorem GE.refl(a:AV):GE a a:=fun _ _ _ _ _ h=>h
theorem GEs.refl(l:List AV):GEs l l:=⟨rfl,fun i a b h h'=>by rw[h]at h';cases h';exact .refl _⟩
def wop(P:Program):LOp->(St->Prop)->St->Prop
 |.mv d x,K,s=>K (s.set d (s.get x))
 |.pk d c a b,K,s=>match s.get c with
  |.bool t=>K (s.set d (if t then s.get a else s.get b))
  |_=>False
 |.un d x,K,s=>match s.get x with
  |.bool b=>K (s.set d (.bool !b))
  |_=>False
 |.bi d op x y,K,s=>match evB op (s.get x) (s.get y)with
  |some v=>K (s.set d v)
  |none=>False
 |.eb d ne x y,K,s=>match s.get x,s.get y with
  |.bool a,.bool b=>K (s.set d (.bool (if ne then !(a==b)else a==b)))
  |_,_=>False
 |.es d ne ks x y,K,s=>match s.get x,s.get y with
  |.agg a,.agg b=>match eqCells ks a b with
   |some r=>K (s.set d (.bool (if ne then !r else r)))
   |none=>False
  |_,_=>False
 |.sa d x y,K,s=>match s.get x,s.get y with
  |.str a,.str b=>a.length+b.length<=9223372036854775807/\K (s.set d (.str (a++b)))
  |_,_=>False
 |.cv d k x,K,s=>match s.get x with
  |.int _ n=>K (s.set d (.int k (k.wrap n)))
  |_=>False
 |.fa d x off,K,s=>match s.get x with
  |.ptr k o=>(s.bx k).isSome=true/\K (s.set d (.ptr k (o+off)))
  |.ept e o=>K (s.set d (.ept e (o+off)))
  |.eot e o=>K (s.set d (.eot e (o+off)))
  |.rpt k i o=>(s.rw k).isSome=true/\K (s.set d (.rpt k i (o+off)))
  |_=>False
 |.ia d x i n,K,s=>match s.get x with
  |.sl t sz es=>match Q0E (s.get i) es.length with
   |some j=>match es[j]? with
    |some e=>sz=n/\K (s.set d (if t.isOwn=true then .eot e 0 else .ept e 0))
    |none=>False
   |none=>False
  |.sref k=>match s.rw k with
   |some r=>match Q0E (s.get i) r.es.length with
    |some j=>r.sz=n/\K (s.set d (.rpt k j 0))
    |none=>False
   |none=>False
  |_=>False
 |.ix d x i,K,s=>match s.get x with
  |.str l=>match Q0E (s.get i) l.length with
   |some j=>match l[j]? with
    |some b=>K (s.set d (.int .u8 b.toNat))
    |none=>False
   |none=>False
  |_=>False
 |.ld d p n ag,K,s=>match s.ld (s.get p) n ag with
  |some v=>K (s.set d v)
  |none=>False
 |.st p x n,K,s=>match s.get p with
  |.ptr k off=>match s.bx k with
   |some cs=>(s.get x).cells.length=n/\off+n<=cs.length/\allOne (s.get x).cells=true/\K { s with bx:=fun j=>if j=k then some (putC cs off (s.get x).cells)else s.bx j }
   |none=>False
  |.rpt k i off=>match s.rw k with
   |some r=>match r.es[i]?,s.dt (s.get x)with
    |some e,some v=>r.sh=false/\v.cells.length=n/\off+n<=e.cells.length /\
      nosr (s.get x)=true/\K { s with rw:=fun j=>if j=k then some { r with es:=r.es.set i (if n=e.cells.length then v else .agg (putC e.cells off v.cells)) } else s.rw j }
    |_,_=>False
   |none=>False
  |_=>False
 |.al d z,K,s=>K (St.set { s.kill d with bx:=fun j=>if j=d then some (Z5 d z)else(s.kill d).bx j } d (.ptr d 0))
 |.bx d x,K,s=>allOne (s.get x).cells=true/\K (St.set { s.kill d with bx:=fun j=>if j=d then some (Z5 d (s.get x).cells)else(s.kill d).bx j } d (.ptr d 0))
 |.bd d z ps,K,s=>match Y08 z (ps.map fun(off,n,x)=>(off,n,s.get x))with
  |some cs=>allOne cs=true/\K (s.set d (.agg cs))
  |none=>False
 |.bs d sz ps own,K,s=>match s.dtL (ps.map s.get)with
  |some es=>(ps.map s.get).all nosr=true/\(∀e∈es,e.cells.length=sz)/\es.length*sz<=1000000/\es.length<=1000000/\(if own
    then K (St.set { s.kill d with rw:=fun j=>if j=d then some ⟨sz,es,false⟩else(s.kill d).rw j } d (.sref d))
    else K (s.set d (.sl .nw sz es)))
  |none=>False
 |.ms d sz by' z l,K,s=>match s.get l with
  |.int _ n=>0<=n/\by'*n<=140737488355328/\n<=9223372036854775807 /\
    K (St.set { s.kill d with rw:=fun j=>if j=d then some ⟨sz,List.replicate n.toNat (if sz=1 then z.getD 0 .bad else .agg z),false⟩else(s.kill d).rw j } d (.sref d))
  |_=>False
 |.ln d x,K,s=>match s.get x with
  |.sl _ _ es=>es.length<=9223372036854775807->K (s.set d (.int .i64 es.length))
  |.sref k=>match s.rw k with
   |some r=>r.es.length<=9223372036854775807->K (s.set d (.int .i64 r.es.length))
   |none=>False
  |.nl=>K (s.set d (.int .i64 0))
  |_=>False
 |.ls d x,K,s=>match s.get x with
  |.str l=>K (s.set d (.int .i64 l.length))
  |_=>False
 |.ap d x y sz by',K,s=>match s.dt (s.get y)with
  |some (.sl _ sy news)=>match s.get x with
   |.sref k=>match s.rw k with
    |some r=>r.sz=sz/\k<1000000000/\(news=[]\/sy=sz)/\(r.es.length+news.length)*by'<=140737488355328 /\
      K (St.set { s.kill k with rw:=fun j=>if j=k then some { r with es:=r.es++news } else(s.kill k).rw j } d (.sref k))
    |none=>False
   |.nl=>(news=[]\/sy=sz)/\news.length*by'<=140737488355328 /\
     K (St.set { s.kill d with rw:=fun j=>if j=d then some ⟨sz,news,false⟩else(s.kill d).rw j } d (.sref d))
   |_=>False
  |some .nl=>match s.get x with
   |.sref k=>match s.rw k with
    |some _=>K (s.set d (.sref k))
    |none=>False
   |.nl=>K (St.set { s.kill d with rw:=fun j=>if j=d then some ⟨sz,[],false⟩else(s.kill d).rw j } d (.sref d))
   |_=>False
  |_=>False
 |.sc d x lo hi n,K,s=>match s.get x with
  |.sl t sz es=>match s.hi hi es.length with
   |some h=>match s.lo lo h with
    |some l=>sz=n/\t.isOwn=false/\K (s.set d (.sl t sz ((es.take h).drop l)))
    |none=>False
   |none=>False
  |.sref k=>match s.rw k with
   |some r=>match s.hi hi r.es.length with
    |some h=>match s.lo lo h with
     |some l=>r.sz=n/\K (St.set { s with rw:=fun j=>if j=k then some { r with sh:=true } else s.rw j } d (.sl .nw r.sz ((r.es.take h).drop l)))
     |none=>False
    |none=>False
   |none=>False
  |.nl=>match s.hi hi 0 with
   |some h=>match s.lo lo h with
    |some _=>K (s.set d .nl)
    |none=>False
   |none=>False
  |_=>False
 |.ss d x lo hi,K,s=>match s.get x with
  |.str b=>match s.hi hi b.length with
   |some h=>match s.lo lo h with
    |some l=>K (s.set d (.str ((b.take h).drop l)))
    |none=>False
   |none=>False
  |_=>False
 |.ex d x i,K,s=>match s.get x with
  |.tup vs=>match vs[i]? with
   |some v=>K (s.set d v)
   |none=>False
  |_=>False
 |.fd d x off n ag,K,s=>match s.get x with
  |.agg cs=>match L0b cs off n ag with
   |some v=>K (s.set d v)
   |none=>False
  |_=>False
 |.nc d x,K,s=>match s.get x with
  |.ptr k o=>(s.bx k).isSome=true/\K (s.set d (.ptr k o))
  |.fn f cs=>K (s.set d (.fn f cs))
  |_=>False
 |.mm d mx x y,K,s=>match s.get x,s.get y with
  |.int k a,.int k' b=>k=k'/\K (s.set d (.int k (if mx then max a b else min a b)))
  |_,_=>False
 |.b2s d x,K,s=>match s.dt (s.get x)with
  |some (.sl _ _ es)=>∃l:List UInt8,es=l.map (fun b=>AV.int .u8 b.toNat)/\K (s.set d (.str l))
  |some .nl=>K (s.set d (.str []))
  |_=>False
 |.s2b d x,K,s=>match s.get x with
  |.str l=>l.length<=140737488355328/\K (s.set d (.sl .nw 1 (l.map fun b=>AV.int .u8 b.toNat)))
  |_=>False
 |.mf d f xs,K,s=>K (s.set d (.fn f (xs.map s.get)))
 |.cl d f xs,K,s=>∃as,s.args xs=some as/\∃res rows,Snd P f as res rows/\rows.length<=1000/\K ((s.addrows (1000*d+1000) rows).set d (res.ren (1000*d+1000) rows.length))
 |.cq d f xs,K,s=>∃as,s.args xs=some as/\∃res rows,Snd P f as res rows/\K (s.set d (res.nwd rows))
 |.cc d fx xs,K,s=>∃as,s.args (fx::xs)=some as/\∃f cap as',as=.fn f cap::as'/\isFn P f=true/\∃res rows,Snd P f (as'++cap) res rows/\K (s.set d (res.nwd rows))
 |.cm d f xs,K,s=>∃(bks rks:List Nat) (bin:List (List AV)) (rin:List Row) (as:List AV),(bks++rks).Nodup/\MI s (ix bks) (ix rks) bks bin/\J0r s rks rin/\((∀b∈bin,noOL b)/\(∀r∈rin,noOL r.es)/\∀x∈xs,(s.get x).noO) /\
   GEs (xs.map fun x=>(s.get x).mp (ix bks) (ix rks)) as/\∃Φ,ConN P f s.nx as bin rin Φ/\∀n1 res bout upd new,s.nx<=n1->bout.map List.length=bin.map List.length->upd.length=rin.length->Φ n1 res bout upd new ->
    new.length<=1000/\QT rks upd (1000*d+1000) new.length/\X0q (1000*d+1000) new.length bks/\K (afterM s n1 d bks rks res bout upd new)
 |.g t want o,K,s=>match s.e t with
  |.bool b=>if b=want then wop P o K s else K (s.set o.dst .und)
  |.und=>K (s.set o.dst .und)
  |_=>False
 |.cs t,K,s=>match s.e t with
  |.bool b=>(b=true->K (s.set t (.bool true)))/\(b=false->K (s.set t (.bool false)))
  |_=>False
 |.fb t,K,s=>match s.e t with
  |.ptr k 0=>match s.bx k with
   |some cs=>nosr (.agg cs)=true/\K (St.set (s.kill k) t (.ept (.agg cs) 0))
   |none=>False
  |.ept _ _=>K s
  |_=>False
 |.fz t,K,s=>match s.e t with
  |.sref k=>match s.rw k with
   |some r=>K (St.set { s with rw:=fun j=>if j=k then some { r with sh:=true } else s.rw j } t (.sl .nw r.sz r.es))
   |none=>False
  |.sl _ _ _=>K s
  |_=>False
 |.cn d f xs,K,s=>∃as,s.args xs=some as/\(xs.map s.get).all nosr=true/\(∀x∈xs,(s.get x).noO)/\∃Ψ,SndB P f as Ψ/\∀cs,Ψ cs->K (St.set { s.kill d with bx:=fun j=>if j=d then some (Z5 d cs)else(s.kill d).bx j } d (.ptr d 0))
 |.lq d x,K,s=>match s.get x with
  |.sl _ _ es=>es.length<=9223372036854775807/\K (s.set d (.int .i64 es.length))
  |.sref k=>match s.rw k with
   |some r=>r.es.length<=9223372036854775807/\K (s.set d (.int .i64 r.es.length))
   |none=>False
  |.nl=>K (s.set d (.int .i64 0))
  |_=>False
 |.be d,K,s=>K (s.set d .el)
 |.ae d x y sz by',K,s=>match s.get x with
  |.el=>match s.dt (s.get y)with
   |some (.sl _ sy news)=>(news=[]\/sy=sz)/\news.length*by'<=140737488355328/\K (s.set d (.sl .nw sz news))
   |some .nl=>K (s.set d (.sl .nw sz []))
   |_=>False
  |_=>False
 |.oln d x,K,s=>match s.get x with
  |.od _ _ n=>K (s.set d (.int .i64 n))
  |_=>False
 |.oia d x i n,K,s=>match s.get x with
  |.od m ks l=>match Q0E (s.get i) l with
   |some _=>ks.length=n/\K (s.set d (.op m ks 0))
   |none=>False
  |_=>False
 |.ofa d x off,K,s=>match s.get x with
  |.op m ks o=>K (s.set d (.op m ks (o+off)))
  |_=>False
 |.old d p,K,s=>match s.get p with
  |.op m ks off=>match ks[off]? with
   |some (.l ks')=>∀n,n<=1048576->K (s.set d (.od m ks' n))
   |_=>False
  |_=>False
 |.ost p x,K,s=>match s.get p with
  |.op m ks off=>match ks[off]? with
   |some k=>s.my m/\s.kn m/\X20 k (s.get x)=true/\K s
   |none=>False
  |_=>False
 |.co d f xs,K,s=>∃as,s.args xs=some as/\∃res rows,Snd P f as res rows/\(res.nwd rows).pl/\K (St.set { s with nx:=s.nx+1 } d ((res.nwd rows).ownt s.nx))
 |.cf d f m xs,K,s=>s.my m/\∃as Φ rks,Hav P f as Φ/\hvLs m (xs.map s.get) as/\(∀k∈rks,∀r,s.rw k=some r->W1r m r.es=true)/\∀k,Φ k->K (St.set (s.losing m rks) d (.int .i64 k))
mutual
def vm:AV->Value->Bool
 |.bool b,.bool b'=>b==b'
 |.int k n,.int k' n'=>decide (k=k')&&decide (n=n')
 |.str l,.string s=>l==s.data.toList
 |.nl,.slice none 0 0=>true
 |.sl .nw _ [],.slice none 0 0=>true
 |.agg cs,.agg vs=>allOne cs&&vmL cs vs.toList
 |.fn f [],.func (.func g) fi ca=>f==g&&fi.isEmpty&&ca.isEmpty
 |_,_=>false
def vmL:List AV->List Value->Bool
 |[],[]=>true
 |a::l,v::m=>vm a v&&vmL l m
 |_,_=>false
end
theorem vm_nl{v:Value}(h:vm .nl v=true):v=.slice none 0 0:=by
 cases v with
 |slice a l c =>
  cases a with
  |none=>cases l with
   |zero=>cases c with
    |zero=>rfl
    |succ c=>simp[vm]at h
   |succ l=>simp[vm]at h
  |some a=>simp[vm]at h
 |_=>simp[vm]at h
theorem vm_sl{t:Tag}{sz:Nat}{es:List AV}{v:Value}(h:vm (.sl t sz es) v=true):t=.nw/\es=[]/\v=.slice none 0 0:=by
 cases t with
 |nw =>
  cases es with
  |nil =>
   cases v with
   |slice a l c =>
    cases a with
    |none=>cases l with
     |zero=>cases c with
      |zero=>exact⟨rfl,rfl,rfl⟩
      |succ c=>simp[vm]at h
     |succ l=>simp[vm]at h
    |some a=>simp[vm]at h
   |_=>simp[vm]at h
  |cons x l=>cases v<;>simp[vm]at h
 |_=>cases v<;>simp[vm]at h
theorem vm_fn{f:Nat}{cs:List AV}{v:Value}(h:vm (.fn f cs) v=true):cs=[]/\v=.func (.func f) #[] #[]:=by
 cases cs with
 |nil =>
  cases v with
  |func fn fi ca =>
   cases fn with
   |func g=>simp[vm]at h;obtain⟨⟨rfl,rfl⟩,rfl⟩:=h;exact⟨rfl,rfl⟩
   |_=>simp[vm]at h
  |_=>simp[vm]at h
 |cons x l=>cases v<;>simp[vm]at h
section
variable{w:World}{S:Nat->Nat->Prop}{N:Tag->Nat->Value->Prop}
mutual
theorem X1U:∀{a:AV} {v:Value},vm a v=true->Rd w S N a v
 |.bool b,v,h=>by cases v<;>simp[vm]at h;subst h;exact .bool b
 |.int k n,v,h=>by cases v<;>simp[vm]at h;obtain⟨rfl,rfl⟩:=h;exact .int k n
 |.str l,v,h=>by
  cases v<;>simp[vm]at h
  rename_i s;subst h
  have:s=⟨s.data.toList.toArray⟩:=by simp
  rw[this];simpa using Rd.str (w:=w) (S:=S) (T:=N) s.data.toList
 |.nl,v,h=>by rw[vm_nl h];exact .nl
 |.agg cs,v,h=>by
  cases v<;>simp[vm]at h
  rename_i vs
  obtain⟨h1,h2⟩:=h
  have:=L1j h2
  have e:vs=vs.toList.toArray:=by simp
  rw[e]
  exact .agg cs vs.toList this.1 (by simpa[allOne]using h1) this.2
 |.fn f cs,v,h=>by
  obtain⟨rfl,rfl⟩:=vm_fn h
  exact .fn f [] [] rfl (by intro i a v h;simp at h)
 |.tup cs,v,h=>by simp[vm]at h
 |.sl _ _ _,v,h=>by obtain⟨rfl,rfl,rfl⟩:=vm_sl h;exact .sl0 _ _ _ _ fun _ e=>by cases e
 |.sref _,v,h=>by simp[vm]at h
 |.ptr _ _,v,h=>by simp[vm]at h
 |.ept _ _,v,h=>by simp[vm]at h
 |.rpt _ _ _,v,h=>by simp[vm]at h
 |.und,v,h=>by simp[vm]at h
 |.bad,v,h=>by simp[vm]at h
theorem L1j:∀{cs:List AV} {vs:List Value},vmL cs vs=true->cs.length=vs.length/\∀(i:Nat) (a:AV) (v:Value),cs[i]?=some a->vs[i]?=some v->Rd w S N a v
 |[],[],_=>⟨rfl,by intro i a v h;simp at h⟩
 |a::l,v::m,h=>by
  simp only[vmL,yD]at h
  have h1:=X1U h.1
  have h2:=L1j h.2
  refine⟨by simp[h2.1],fun i a' v' ha hv=>?_⟩
  cases i with
  |zero=>simp at ha hv;subst ha;subst hv;exact h1
  |succ i=>simp at ha hv;exact h2.2 i a' v' ha hv
 |[],_::_,h=>by simp[vmL]at h
 |_::_,[],h=>by simp[vmL]at h
end
end
def chkX:X->Operand->Bool
 |.t i,.tmp j=>i==j
 |.c a,.const v=>vm a v
 |.c (.fn f []),.func g=>f==g
 |_,_=>false
def chkK:X->Operand->Bool
 |.c .bad,.const _=>true
 |_,_=>false
section
variable{P:Program}{c:Cx}{g:Gh}{s:St}{a:Act}{w:World}
theorem Inv.get(I:Inv c g s a w){x:X}{p:Operand}(h:chkX x p=true):Gv w g s (s.get x) (a.eval p):=by
 cases x with
 |t i =>
  cases p<;>simp[chkX]at h
  subst h
  exact I.tm i
 |c v =>
  cases p with
  |const u=>exact .data _ _ (X1U h)
  |func f =>
   cases v with
   |fn f' cs =>
    cases cs with
    |nil =>
     simp only[chkX,beq_iff_eq]at h;subst h
     exact .data _ _ (.fn f' [] [] rfl (by intro i a v h;simp at h))
    |cons _ _=>simp[chkX]at h
   |_=>simp[chkX]at h
  |tmp _=>simp[chkX]at h
  |global _=>simp[chkX]at h
theorem Gv.bool_inv{b:Bool}{v:Value}(h:Gv w g s (.bool b) v):v=.bool b:=by cases h with|data _ _ h=>cases h;rfl
theorem Gv.int_inv{k:IntKind}{n:Int}{v:Value}(h:Gv w g s (.int k n) v):v=.int k n:=by cases h with|data _ _ h=>cases h;rfl
theorem Gv.str_inv{l:List UInt8}{v:Value}(h:Gv w g s (.str l) v):v=.string ⟨l.toArray⟩:=by cases h with|data _ _ h=>cases h;rfl
theorem Gv.nl_inv{v:Value}(h:Gv w g s .nl v):v=.slice none 0 0:=by cases h with|data _ _ h=>cases h;rfl
theorem Gv.und_inv{v:Value}(h:Gv w g s .und v):v=undef:=by cases h with|data _ _ h=>cases h|und=>rfl
theorem Gv.agg_inv{cs:List AV}{v:Value}(h:Gv w g s (.agg cs) v):∃vs:List Value,v=.agg vs.toArray/\cs.length=vs.length/\(∀a∈cs,a.one=true\/a=.bad) /\
  ∀(i:Nat) (a:AV) (v:Value),cs[i]?=some a->vs[i]?=some v->Gv w g s a v:=by
 cases h with
 |data _ _ h=>cases h with|agg _ vs hl h1 h=>exact⟨vs,rfl,hl,fun a ha=>.inl (h1 a ha),fun i a v ha hv=>.data _ _ (h i a v ha hv)⟩
 |agg _ vs hl h1 h=>exact⟨vs,rfl,hl,h1,h⟩
theorem Gv.tup_inv{cs:List AV}{v:Value}(h:Gv w g s (.tup cs) v):∃vs:List Value,v=.tuple vs.toArray/\cs.length=vs.length /\
  ∀(i:Nat) (a:AV) (v:Value),cs[i]?=some a->vs[i]?=some v->Gv w g s a v:=by
 cases h with
 |data _ _ h=>cases h
 |tup _ vs hl h=>exact⟨vs,rfl,hl,h⟩
theorem Gv.fn_inv{f:Nat}{cs:List AV}{v:Value}(h:Gv w g s (.fn f cs) v):∃vs:List Value,v=.func (.func f) #[] vs.toArray/\cs.length=vs.length /\
  ∀(i:Nat) (a:AV) (v:Value),cs[i]?=some a->vs[i]?=some v->Gv w g s a v:=by
 cases h with
 |data _ _ h=>cases h with|fn _ _ vs hl h=>exact⟨vs,rfl,hl,fun i a v ha hv=>.data _ _ (h i a v ha hv)⟩
 |fn _ _ vs hl h=>exact⟨vs,rfl,hl,h⟩
theorem Gv.sl_inv{t:Tag}{sz:Nat}{es:List AV}{v:Value}(h:Gv w g s (.sl t sz es) v):Rd w g.S g.T (.sl t sz es) v:=by cases h with|data _ _ h=>exact h
theorem Gv.sref_inv{k:Nat}{v:Value}{r:Row}(h:Gv w g s (.sref k) v)(hr:s.rw k=some r):v=g.rv k:=by
 cases h with
 |data _ _ h=>cases h
 |sref _ _ _ h=>exact h r hr
theorem Gv.ptr_inv{k off:Nat}{v:Value}{cs:List AV}(h:Gv w g s (.ptr k off) v)(hr:s.bx k=some cs):v=.pointer (some ⟨g.bb k,off,none⟩):=by
 cases h with
 |data _ _ h=>cases h
 |ptr _ _ _ _ h=>exact h cs hr
theorem Gv.rpt_inv{k i off:Nat}{v:Value}{r:Row}(h:Gv w g s (.rpt k i off) v)(hr:s.rw k=some r):∃b,(g.rv k).ownBlock=some b/\v=.pointer (some ⟨b,i*r.sz+off,none⟩):=by
 cases h with
 |data _ _ h=>cases h
 |rpt _ _ _ _ _ h=>exact h r hr
theorem Gv.eot_inv{e:AV}{off:Nat}{v:Value}(h:Gv w g s (.eot e off) v):∃(b o:Nat) (cv:Nat->Value),v=.pointer (some ⟨b,o+off,none⟩) /\
  (∀(j:Nat) (a:AV),e.cells[j]?=some a->w.cell? ⟨b,o+j,none⟩=some (cv j)/\g.S b (o+j)/\a.one=true) /\
  ∀(j:Nat) (a:AV),e.cells[j]?=some a->Rd w g.S g.T a (cv j):=by
 cases h with
 |data _ _ h=>cases h
 |eot _ _ b o cv hw h=>exact⟨b,o,cv,rfl,hw,h⟩
theorem Gv.ept_inv{e:AV}{off:Nat}{v:Value}(h:Gv w g s (.ept e off) v):∃(b o:Nat) (cv:Nat->Value),v=.pointer (some ⟨b,o+off,none⟩) /\
  (∀(j:Nat) (a:AV),e.cells[j]?=some a->w.cell? ⟨b,o+j,none⟩=some (cv j)/\g.S b (o+j)/\a.one=true) /\
  ∀(j:Nat) (a:AV),e.cells[j]?=some a->Rd w g.S g.T a (cv j):=by
 cases h with
 |data _ _ h=>cases h with|ept _ _ b o cv hw h=>exact⟨b,o,cv,rfl,fun j a hj=>⟨(hw j a hj).1,(hw j a hj).2.1,(hw j a hj).2.2.1⟩,h⟩
theorem Gv.ept_rd{e:AV}{off:Nat}{v:Value}(h:Gv w g s (.ept e off) v):Rd w g.S g.T (.ept e off) v:=by cases h with|data _ _ h=>exact h
theorem sok{o:Oper}{d:Nat}{K:St->Prop}{K':Act->World->Prop}{Q':Exit->Act->World->Prop}{g':Gh}{s':St}{w':World}{x:AV}{v:Value}
  (hK:∀g' s' a' w',Inv c g' s' a' w'->K s'->K' a' w') (hd:o.dst=some d) (hlt:d<c.nt)
  (hr:(execOp a.eval o).run P w=.ok (.value v) w') (I:Inv c g' s' a w') (hv:Gv w' g' s' x v) (h:K (s'.set d x)):o.wp P a w K' Q':=by
 unfold Oper.wp
 rw[hr,Oper.upon_value,hd]
 exact hK _ _ _ _ (I.put hlt hv) h
theorem V1k{op:BinOp}{k:IntKind}{a b r:Int}(t:TypeId)(p q:Operand)(h:op=.and/\r=bAnd k a b\/op=.xor/\r=bXor k a b) :
  ((do eqGuard op t p q (.int k a) (.int k b);binOp op t (.int k a) (.int k b):Sem Value)).run P w=.ok (.int k r) w:=by
 rcases h with⟨rfl,rfl⟩|⟨rfl,rfl⟩<;>simp[eqGuard,binOp,Op.intBits,bAnd,bXor]
theorem O1N{k k':IntKind}{a b:Int}(hb:0<=b)(t:TypeId)(p q:Operand) :
  ((do eqGuard .shr t p q (.int k a) (.int k' b);binOp .shr t (.int k a) (.int k' b):Sem Value)).run P w=.ok (.int k (bShr k a b)) w:=by
 simp[eqGuard,binOp,Op.shift,bShr,Int.not_lt.2 hb]
theorem M1N{op:BinOp}{x y v:AV}{vx vy:Value}(h:evB op x y=some v)(hx:Gv w g s x vx)(hy:Gv w g s y vy)(t:TypeId)(p q:Operand) :
    ∃u,((do eqGuard op t p q vx vy;binOp op t vx vy:Sem Value)).run P w=.ok u w/\Gv w g s v u:=by
  have int_case:∀{k k':IntKind} {a b:Int},x=.int k a->y=.int k' b->vx=.int k a/\vy=.int k' b:=by
    intro k k' a b e1 e2;subst e1;subst e2;exact⟨hx.int_inv,hy.int_inv⟩
  have str_case:∀{a b:List UInt8},x=.str a->y=.str b->vx=.string ⟨a.toArray⟩/\vy=.string ⟨b.toArray⟩:=by
    intro a b e1 e2;subst e1;subst e2;exact⟨hx.str_inv,hy.str_inv⟩
  unfold evB at h
  split at h
  all_goals first
    | (split at h
       · rename_i hk
         obtain⟨rfl,rfl⟩:=int_case rfl rfl
         first
           | (cases h;exact⟨_,O1N hk t p q,.data _ _ (.int _ _)⟩)
           | (subst hk;cases h
              first
                |exact⟨_,V1k t p q (.inl ⟨rfl,rfl⟩),.data _ _ (.int _ _)⟩
                |exact⟨_,V1k t p q (.inr ⟨rfl,rfl⟩),.data _ _ (.int _ _)⟩)
       · cases h;done)
    | (split at h
       · rename_i hk
         obtain⟨rfl,rfl⟩:=int_case rfl rfl
         first
           | (obtain⟨rfl,h0⟩:=hk;cases h
              refine⟨_,?_,.data _ _ (.int _ _)⟩
              simp[eqGuard,binOp,Op.intDiv,h0])
           | (subst hk;cases h
              first
                | (refine⟨_,?_,.data _ _ (.int _ _)⟩
                   simp[eqGuard,binOp,Op.intArith];done)
                | (refine⟨_,?_,.data _ _ (.bool _)⟩
                   simp[eqGuard,binOp,Op.intCmp];done))
       · cases h)
    | (obtain⟨rfl,rfl⟩:=str_case rfl rfl;cases h
       refine⟨_,?_,.data _ _ (.bool _)⟩
       simp[eqGuard,binOp,Op.stringOp,ByteArray.toList_eq,bne];done)
    |cases h
end
end
section
def tsz(P:Program)(t:TypeId):Option Nat:=(P.info? t).map (·.size)
def tby(P:Program)(t:TypeId):Option Nat:=(P.info? t).map (·.bytes)
def Y1A:TypeDesc->Bool | .struct _ | .array _ _=>true|_=>false
def tag?(P:Program)(t:TypeId):Option Bool:=(P.underlying t).map Y1A
section
variable{P:Program}{c:Cx}{g:Gh}{s:St}{a:Act}{w:World}
theorem Lm{t:TypeId}{n:Nat}(h:tsz P t=some n):(sizeOf t).run P w=.ok n w:=by
 unfold tsz at h
 obtain⟨i,hi,rfl⟩:=yC h
 simp[sizeOf,typeInfo,hi]
theorem J0g{t:TypeId}{b:Bool}(h:tag? P t=some b):(isAgg t).run P w=.ok b w:=by
 unfold tag? at h
 obtain⟨d,hd,rfl⟩:=yC h
 simp only[isAgg,Sem.run_bind,run_underlying hd,Result.andThen_ok]
 cases d<;>rfl
theorem WX(b o n:Nat):(⟨b,o,none⟩:Addr).add n=⟨b,o+n,none⟩:=by
 unfold Addr.add;split<;>simp_all
section ops
variable{o:Oper}{d:Nat}{K:St->Prop}{K':Act->World->Prop}{Q':Exit->Act->World->Prop}
theorem X1N(I:Inv c g s a w)(hK:∀g' s' a' w',Inv c g' s' a' w'->K s'->K' a' w')(hd:o.dst=some d)(hlt:d<c.nt)
  {x:X} {p:Operand} (ho:o.op=.assign p) (hx:chkK x p=true) (h:wop P (.mv d x) K s):o.wp P a w K' Q':=by
 have e:s.get x=.bad:=by
  unfold chkK at hx
  split at hx
  .rfl
  .cases hx
 simp only[wop,e]at h
 refine sok (g':=g) (s':=s) (w':=w) (v:=a.eval p) hK hd hlt ?_ I (.bad _) h
 simp[execOp,ho]
theorem W1I(I:Inv c g s a w)(hK:∀g' s' a' w',Inv c g' s' a' w'->K s'->K' a' w')(hd:o.dst=some d)(hlt:d<c.nt)
  {x:X} {p:Operand} (ho:o.op=.move p\/o.op=.assign p) (hx:chkX x p=true) (h:wop P (.mv d x) K s):o.wp P a w K' Q':=by
 refine sok (g':=g) (s':=s) (w':=w) (v:=a.eval p) hK hd hlt ?_ I (I.get hx) h
 rcases ho with ho|ho<;>simp[execOp,ho]
theorem Y1V(I:Inv c g s a w)(hK:∀g' s' a' w',Inv c g' s' a' w'->K s'->K' a' w')(hd:o.dst=some d)(hlt:d<c.nt)
  {x y z:X} {p q r:Operand} (ho:o.op=.pick p q r) (hx:chkX x p=true) (hy:chkX y q=true) (hz:chkX z r=true) (h:wop P (.pk d x y z) K s):o.wp P a w K' Q':=by
 simp only[wop]at h
 have gx:=I.get hx
 split at h
 .rename_i t e
  rw[e]at gx
  have ev:=gx.bool_inv
  refine sok (g':=g) (s':=s) (w':=w) (v:=if t then a.eval q else a.eval r) hK hd hlt ?_ I ?_ h
  .simp[execOp,ho,ev,asBool]
  .cases t
   .exact I.get hz
   .exact I.get hy
 .cases h
theorem O1U(I:Inv c g s a w)(hK:∀g' s' a' w',Inv c g' s' a' w'->K s'->K' a' w')(hd:o.dst=some d)(hlt:d<c.nt)
  {x:X} {p:Operand} {t:TypeId} (ho:o.op=.unOp .not t p) (hx:chkX x p=true) (h:wop P (.un d x) K s):o.wp P a w K' Q':=by
 simp only[wop]at h
 have gx:=I.get hx
 split at h
 .rename_i b e
  rw[e]at gx
  refine sok (g':=g) (s':=s) (w':=w) (v:=.bool !b) hK hd hlt ?_ I (.data _ _ (.bool _)) h
  simp[execOp,ho,gx.bool_inv,Op.unary]
 .cases h
theorem Y1X(I:Inv c g s a w)(hK:∀g' s' a' w',Inv c g' s' a' w'->K s'->K' a' w')(hd:o.dst=some d)(hlt:d<c.nt)
  {op:BinOp} {x y:X} {p q:Operand} {t u:TypeId} (ho:o.op=.binOp op t p q u) (hx:chkX x p=true) (hy:chkX y q=true) (h:wop P (.bi d op x y) K s):o.wp P a w K' Q':=by
 simp only[wop]at h
 split at h
 .rename_i v e
  obtain⟨z,hr,hg⟩:=M1N (P:=P) (w:=w) e (I.get hx) (I.get hy) t p q
  refine sok (g':=g) (s':=s) (w':=w) (v:=z) hK hd hlt ?_ I hg h
  simp only[execOp,ho,Sem.run_bind]at hr ⊢
  simp[hr]
 .cases h
theorem O0D(n:Nat){t:TypeId}(ht:P.underlying t=some .bool)(a b:Bool):(Op.equalIn (n+1) t (.bool a) (.bool b)).run P w=.ok (a==b) w:=by
 simp[Op.equalIn,run_underlying ht]
theorem L0T{t:TypeId}(ht:P.underlying t=some .bool)(a b:Bool):(Op.equal t (.bool a) (.bool b)).run P w=.ok (a==b) w:=O0D 9999 ht a b
theorem V1W(I:Inv c g s a w)(hK:∀g' s' a' w',Inv c g' s' a' w'->K s'->K' a' w')(hd:o.dst=some d)(hlt:d<c.nt)
  {ne:Bool} {x y:X} {p q:Operand} {t u:TypeId} (ho:o.op=.binOp (if ne then .neq else .eql) t p q u) (ht:P.underlying t=some .bool)
  (hx:chkX x p=true) (hy:chkX y q=true) (h:wop P (.eb d ne x y) K s):o.wp P a w K' Q':=by
 simp only[wop]at h
 have gx:=I.get hx
 have gy:=I.get hy
 split at h
 .rename_i x' y' e1 e2
  rw[e1]at gx;rw[e2]at gy
  refine sok (g':=g) (s':=s) (w':=w) (v:=.bool (if ne then !(x'==y')else x'==y')) hK hd hlt ?_ I (.data _ _ (.bool _)) h
  cases ne<;>simp[execOp,ho,gx.bool_inv,gy.bool_inv,eqGuard,binOp,L0T ht]
 .cases h
theorem Z1V(I:Inv c g s a w)(hK:∀g' s' a' w',Inv c g' s' a' w'->K s'->K' a' w')(hd:o.dst=some d)(hlt:d<c.nt)
  {x y:X} {p q:Operand} {t u:TypeId} (ho:o.op=.binOp .add t p q u)
  (hx:chkX x p=true) (hy:chkX y q=true) (h:wop P (.sa d x y) K s):o.wp P a w K' Q':=by
 simp only[wop]at h
 have gx:=I.get hx
 have gy:=I.get hy
 split at h
 .rename_i x' y' e1 e2
  rw[e1]at gx;rw[e2]at gy
  refine sok (g':=g) (s':=s) (w':=w) (v:=.string ⟨(x'++y').toArray⟩) hK hd hlt ?_ I (.data _ _ (.str _)) h.2
  have:=run_string_add_sum (P:=P) w ⟨x'.toArray⟩ ⟨y'.toArray⟩ (by simpa[ByteArray.size]using h.1)
  simp[execOp,ho,gx.str_inv,gy.str_inv,eqGuard,binOp,this,ByteArray.mk_append_mk]
 .cases h
theorem U1W(I:Inv c g s a w)(hK:∀g' s' a' w',Inv c g' s' a' w'->K s'->K' a' w')(hd:o.dst=some d)(hlt:d<c.nt)
  {k:IntKind} {x:X} {p:Operand} {t u:TypeId} (ho:o.op=.convert t u p) (ht:(P.underlying t).isSome=true) (hu:P.underlying u=some (.int k))
  (hx:chkX x p=true) (h:wop P (.cv d k x) K s):o.wp P a w K' Q':=by
 simp only[wop]at h
 have gx:=I.get hx
 obtain⟨td,ht⟩:=Option.isSome_iff_exists.1 ht
 split at h
 .rename_i k' n e
  rw[e]at gx
  refine sok (g':=g) (s':=s) (w':=w) (v:=.int k (k.wrap n)) hK hd hlt ?_ I (.data _ _ (.int _ _)) h
  simp[execOp,ho,gx.int_inv,convert,run_underlying ht,run_underlying hu,Conv.intToInt]
 .cases h
theorem Z1W(I:Inv c g s a w)(hK:∀g' s' a' w',Inv c g' s' a' w'->K s'->K' a' w')(hd:o.dst=some d)(hlt:d<c.nt)
  {x:X} {p:Operand} {t:TypeId} {f:Nat} {fs:Array Field} {fd:Field} {n:Nat} (ho:o.op=.fieldAddr t p f) (ht:P.underlying t=some (.struct fs)) (hf:fs[f]?=some fd)
  (hs:tsz P fd.type=some n) (hn:n≠0)
  (hx:chkX x p=true) (h:wop P (.fa d x fd.offset) K s):o.wp P a w K' Q':=by
 simp only[wop]at h
 have gx:=I.get hx
 have run:∀b o',a.eval p=.pointer (some ⟨b,o',none⟩)->(execOp a.eval o).run P w=.ok (.value (.pointer (some ⟨b,o'+fd.offset,none⟩))) w:=by
  intro b o' e
  simp[execOp,ho,e,Instr.fieldAt,run_underlying ht,hf,Instr.sureAddr,fieldPlace,Lm hs,hn,WX]
 split at h
 .rename_i k off e
  rw[e]at gx
  obtain⟨h1,h⟩:=h
  obtain⟨cs,hk⟩:=Option.isSome_iff_exists.1 h1
  exact sok (g':=g) (s':=s) (w':=w) hK hd hlt (run _ _ (gx.ptr_inv hk)) I (.ptr _ _ _ rfl fun cs' h'=>rfl) h
 .rename_i e' off e
  rw[e]at gx
  have gr:=gx.ept_rd
  generalize a.eval p=vp at *
  cases gr with
  |ept _ _ b o' cv h1 h2 =>
  refine sok (g':=g) (s':=s) (w':=w) hK hd hlt (run _ _ rfl) I (.data _ _ ?_) h
  rw[Nat.add_assoc]
  exact .ept _ _ b o' cv h1 h2
 .rename_i e' off e
  rw[e]at gx
  obtain⟨b,o',cv,hv,h1,h2⟩:=gx.eot_inv
  refine sok (g':=g) (s':=s) (w':=w) hK hd hlt (run _ _ hv) I ?_ h
  rw[Nat.add_assoc]
  exact .eot _ _ b o' cv h1 h2
 .rename_i k i off e
  rw[e]at gx
  obtain⟨h1,h⟩:=h
  obtain⟨r,hk⟩:=Option.isSome_iff_exists.1 h1
  obtain⟨b,hb,hv⟩:=gx.rpt_inv hk
  refine sok (g':=g) (s':=s) (w':=w) hK hd hlt (run _ _ hv) I (.rpt _ _ _ _ rfl fun r' h'=>⟨b,hb,?_⟩) h
  rw[hk]at h';cases h';rw[Nat.add_assoc]
 .cases h
theorem J0v{i:AV}{n j:Nat}(h:Q0E i n=some j):∃k q,i=.int k q/\0<=q/\q<n/\j=q.toNat:=by
 unfold Q0E at h
 split at h
 .rename_i k q
  split at h
  .rename_i hq;cases h;exact⟨k,q,rfl,hq.1,hq.2,rfl⟩
  .cases h
 .cases h
theorem X0r{es:List AV}{sz:Nat}(hs:∀e∈es,e.cells.length=sz){i:Nat}{e:AV}(he:es[i]?=some e){j:Nat}{a:AV}(ha:e.cells[j]?=some a):(flat es)[i*sz+j]?=some a:=by
 induction es generalizing i with
 |nil=>simp at he
 |cons x l ih =>
  have hx:x.cells.length=sz:=hs x (by simp)
  cases i with
  |zero =>
   simp at he;subst he
   have hj:j<x.cells.length:=(yB ha).1
   simp only[flat,ya,Nat.zero_mul,Nat.zero_add]
   rw[yK hj];exact ha
  |succ i =>
   simp at he
   have:=ih (fun e h=>hs e (by simp[h])) he
   simp only[flat,ya]at this ⊢
   rw[yS (by rw[hx,Nat.succ_mul];omega),hx]
   rw[show(i+1)*sz+j-sz=i*sz+j by rw[Nat.succ_mul];omega]
   exact this
theorem L1V(I:Inv c g s a w)(hK:∀g' s' a' w',Inv c g' s' a' w'->K s'->K' a' w')(hd:o.dst=some d)(hlt:d<c.nt)
  {x i:X} {p q:Operand} {t el:TypeId} {n:Nat} (ho:o.op=.indexAddr t p q) (ht:P.underlying t=some (.slice el)) (hs:tsz P el=some n)
  (hx:chkX x p=true) (hi:chkX i q=true) (h:wop P (.ia d x i n) K s):o.wp P a w K' Q':=by
 simp only[wop]at h
 have gx:=I.get hx
 have gi:=I.get hi
 have run:∀(b o' len cap:Nat) (k:IntKind) (z:Int),a.eval p=.slice (some ⟨b,o',none⟩) len cap->a.eval q=.int k z->0<=z->z<len ->
   (execOp a.eval o).run P w=.ok (.value (.pointer (some ⟨b,o'+z.toNat*n,none⟩))) w:=by
  intro b o' len cap k z e1 e2 h0 h1
  simp[execOp,ho,e1,e2,Instr.indexAt,run_underlying ht,asIntOf,Lm hs,h0,h1,WX]
 split at h
 .rename_i t' sz es e
  rw[e]at gx
  split at h
  .rename_i j hj
   obtain⟨k,z,e2,h0,h1,rfl⟩:=J0v hj
   rw[e2]at gi
   split at h
   .rename_i el' hel
    obtain⟨rfl,h⟩:=h
    have hr:=gx.sl_inv
    generalize a.eval p=vp at *
    cases hr with
    |sl0=>simp at hel
    |sl _ _ _ b o' cap cv hc hm hsz hw hn hrd =>
     refine sok (g':=g) (s':=s) (w':=w) hK hd hlt (run b o' _ cap k z rfl gi.int_inv h0 h1) I ?_ h
     cases hto:t'.isOwn with
     |true =>
      rw[yd rfl]
      refine .eot el' 0 b (o'+z.toNat*sz) (fun j=>cv (z.toNat*sz+j)) (fun j a ha=>?_) (fun j a ha=>hrd _ a (X0r hsz hel ha))
      have:=hw _ a (X0r hsz hel ha)
      rw[Nat.add_assoc];exact⟨this.1,this.2.1,this.2.2.1⟩
     |false =>
      rw[ye (by simp)]
      refine .data _ _ (.ept el' 0 b (o'+z.toNat*sz) (fun j=>cv (z.toNat*sz+j)) (fun j a ha=>?_) (fun j a ha=>hrd _ a (X0r hsz hel ha)))
      have:=hw _ a (X0r hsz hel ha)
      rw[Nat.add_assoc];exact⟨this.1,this.2.1,this.2.2.1,Gh.T_to_rd hto this.2.2.2⟩
   .cases h
  .cases h
 .rename_i k' e
  rw[e]at gx
  split at h
  .rename_i r hr
   split at h
   .rename_i j hj
    obtain⟨k,z,e2,h0,h1,rfl⟩:=J0v hj
    rw[e2]at gi
    obtain⟨rfl,h⟩:=h
    have hv:=gx.sref_inv hr
    obtain⟨xs,ty,ho',_⟩:=I.rws k' r hr
    rcases ho'.2 with⟨_,hz⟩|⟨b,cap,cur,hv',_⟩
    .omega
    .rw[hv']at hv
     have hob:(g.rv k').ownBlock=some b:=by rw[hv'];rfl
     refine sok (g':=g) (s':=s) (w':=w) hK hd hlt (run b 0 _ cap k z hv gi.int_inv h0 h1) I (.rpt _ _ _ _ rfl fun r' h'=>⟨b,hob,?_⟩) h
     rw[hr]at h';cases h';simp
   .cases h
  .cases h
 .cases h
end ops
end
end
section
section
variable{P:Program}{c:Cx}{g:Gh}{s:St}{a:Act}{w:World}
section ops
variable{o:Oper}{d:Nat}{K:St->Prop}{K':Act->World->Prop}{Q':Exit->Act->World->Prop}
theorem M1V(I:Inv c g s a w)(hK:∀g' s' a' w',Inv c g' s' a' w'->K s'->K' a' w')(hd:o.dst=some d)(hlt:d<c.nt)
  {x i:X} {p q:Operand} {t:TypeId} (ho:o.op=.index t p q) (ht:P.underlying t=some .string)
  (hx:chkX x p=true) (hi:chkX i q=true) (h:wop P (.ix d x i) K s):o.wp P a w K' Q':=by
 simp only[wop]at h
 have gx:=I.get hx
 have gi:=I.get hi
 split at h
 .rename_i l e
  rw[e]at gx
  split at h
  .rename_i j hj
   obtain⟨k,z,e2,h0,h1,rfl⟩:=J0v hj
   rw[e2]at gi
   split at h
   .rename_i b hb
    refine sok (g':=g) (s':=s) (w':=w) (v:=.int .u8 b.toNat) hK hd hlt ?_ I (.data _ _ (.int _ _)) h
    have hlt':z.toNat<l.length:=(yB hb).1
    have hget:(⟨l.toArray⟩:ByteArray)[z.toNat]?=some b:=by
     have:z.toNat<(⟨l.toArray⟩:ByteArray).size:=by simpa[ByteArray.size]using hlt'
     rw[getElem?_pos (⟨l.toArray⟩:ByteArray) z.toNat this]
     have hb':l[z.toNat]=b:=(yB hb).2
     have:(⟨l.toArray⟩:ByteArray)[z.toNat]'this=l.toArray[z.toNat]'(by simpa using hlt'):=rfl
     rw[this];simp[hb']
    simp[execOp,ho,gx.str_inv,gi.int_inv,Instr.index,run_underlying ht,asIntOf,h0,hget]
   .cases h
  .cases h
 .cases h
theorem Us{t:TypeId}{n:Nat}{ag:Bool}(hs:tsz P t=some n)(ha:tag? P t=some ag)(hn:ag=false->n=1)(b o:Nat)(vs:List Value)(hl:vs.length=n)
  (hc:∀(j:Nat) (v:Value),vs[j]?=some v->w.cell? ⟨b,o+j,none⟩=some v) :
  (loadVar t ⟨b,o,none⟩).run P w=.ok (if ag then .agg vs.toArray else vs.getD 0 undef) w:=by
 cases ag with
 |true =>
  have hr:=run_loadCells_list (P:=P) (w:=w) ⟨b,o,none⟩ vs (fun j v hj=>by rw[WX];exact hc j v hj)
  rw[hl]at hr
  simp[loadVar,J0g ha,Lm hs,hr]
 |false =>
  have h1:=hn rfl
  subst h1
  match vs,hl with
  |[v],_ =>
   have:=hc 0 v rfl
   simp only[Nat.add_zero]at this
   simp[loadVar,J0g ha,run_load,this]
theorem X0J{cs:List AV}{off n:Nat}{ag:Bool}{v:AV}(hp:L0b cs off n ag=some v)(hn:ag=false->n=1)(b o:Nat)
  (hc:∀(j:Nat) (a:AV),cs[j]?=some a->∃u,w.cell? ⟨b,o+j,none⟩=some u/\(a.one=true\/a=.bad)/\Gv w g s a u) :
  ∃vs:List Value,vs.length=n/\(∀(j:Nat) (u:Value),vs[j]?=some u->w.cell? ⟨b,o+off+j,none⟩=some u)/\Gv w g s v (if ag then .agg vs.toArray else vs.getD 0 undef):=by
 unfold L0b at hp
 cases ag with
 |true =>
  simp only[yb]at hp
  split at hp
  .rename_i hle
   cases hp
   refine⟨(List.range n).map fun j=>(w.cell? ⟨b,o+off+j,none⟩).getD undef,by simp,fun j u hj=>?_,?_⟩
   .rw[yF]at hj
    obtain⟨j',hj',rfl⟩:=yC hj
    have hlt:=(yB hj').1
    simp at hlt
    have:j'=j:=by rw[List.getElem?_range hlt]at hj';cases hj';rfl
    subst this
    obtain⟨u,hu,_⟩:=hc (off+j') cs[off+j'] (yA (by omega))
    rw[Nat.add_assoc,hu];rfl
   .simp only[yb]
    refine .agg _ _ (by simp;omega) ?_ ?_
    .intro a ha
     obtain⟨j,hj,rfl⟩:=List.getElem_of_mem ha
     simp at hj
     obtain⟨u,hu,h1,_⟩:=hc (off+j) cs[off+j] (yA (by omega))
     simpa using h1
    .intro j a v ha hv
     have hjn:j<n:=by
      have:=(yB hv).1;simpa using this
     rw[List.getElem?_take,yd hjn,List.getElem?_drop]at ha
     obtain⟨u,hu,_,hg⟩:=hc (off+j) a ha
     rw[yF,List.getElem?_range hjn]at hv
     simp only[Option.map_some,yI]at hv
     rw[Nat.add_assoc,hu]at hv
     simp at hv;subst hv;exact hg
  .cases hp
 |false =>
  simp only[yG,yc]at hp
  have h1:=hn rfl
  subst h1
  obtain⟨u,hu,_,hg⟩:=hc off v hp
  refine⟨[u],rfl,fun j u' hj=>?_,by simpa using hg⟩
  cases j with
  |zero=>simp at hj;subst hj;simpa[Nat.add_assoc]using hu
  |succ j=>simp at hj
theorem Y0i{es:List AV}{sz:Nat}(hs:∀e∈es,e.cells.length=sz):(flat es).length=es.length*sz:=by
 induction es with
 |nil=>simp[flat]
 |cons x l ih =>
  have:=ih (fun e h=>hs e (by simp[h]))
  simp only[flat,ya,yU,yT]at this ⊢
  rw[this,hs x (by simp),Nat.succ_mul];omega
theorem L12{S:Nat->Nat->Prop}{N:Tag->Nat->Value->Prop}{r:Row}{v:Value}(h:LI w S N r v){b:Nat}(hb:v.ownBlock=some b){j:Nat}{x:AV}(hx:(flat r.es)[j]?=some x) :
  ∃u,w.cell? ⟨b,j,none⟩=some u/\x.one=true/\u.oneCell'=true/\Rd w S N x u:=by
 obtain⟨xs,ty,ho,hs,hc⟩:=h
 have hj:j<(flat r.es).length:=(yB hx).1
 rw[Y0i hs,← ho.1]at hj
 have hu:xs[j]?=some xs[j]:=yA hj
 have:=ho.cells hb j _ hu
 rw[WX,Nat.zero_add]at this
 obtain⟨h1,h2,h3⟩:=hc j x _ hx hu
 exact⟨_,this,h1,h2,h3⟩
theorem Z20(I:Inv c g s a w){p:AV}{vp:Value}(hp:Gv w g s p vp){t:TypeId}{n:Nat}{ag:Bool}(hs:tsz P t=some n)(ha:tag? P t=some ag)(hn:ag=false->n=1)
  {v:AV} (h:s.ld p n ag=some v):∃u,(Instr.loadAt t vp).run P w=.ok u w/\Gv w g s v u:=by
 unfold St.ld at h
 split at h
 .rename_i e off
  obtain⟨b,o,cv,rfl,h1,h2⟩:=hp.ept_inv
  obtain⟨vs,hl,hc,hg⟩:=X0J (w:=w) (g:=g) (s:=s) h hn b o (fun j a ha=>⟨cv j,(h1 j a ha).1,.inl (h1 j a ha).2.2,.data _ _ (h2 j a ha)⟩)
  exact⟨_,by simp[Instr.loadAt,Instr.sureAddr,Us hs ha hn b (o+off) vs hl hc],hg⟩
 .rename_i e off
  obtain⟨b,o,cv,rfl,h1,h2⟩:=hp.eot_inv
  obtain⟨vs,hl,hc,hg⟩:=X0J (w:=w) (g:=g) (s:=s) h hn b o (fun j a ha=>⟨cv j,(h1 j a ha).1,.inl (h1 j a ha).2.2,.data _ _ (h2 j a ha)⟩)
  exact⟨_,by simp[Instr.loadAt,Instr.sureAddr,Us hs ha hn b (o+off) vs hl hc],hg⟩
 .rename_i k off
  split at h
  .rename_i cs hk
   rw[hp.ptr_inv hk]
   obtain⟨bs,ty,hb,hbl,hbc⟩:=I.bxs k cs hk
   obtain⟨vs,hl,hc,hg⟩:=X0J (w:=w) (g:=g) (s:=s) h hn (g.bb k) 0 (fun j a ha=>by
    have hj:j<bs.length:=by rw[hbl];exact(yB ha).1
    have hu:bs[j]?=some bs[j]:=yA hj
    obtain⟨q1,q2,q3⟩:=hbc j a _ ha hu
    refine⟨bs[j],?_,q1,q3⟩
    rw[cell_of_row w _ _ _ _ _ hb,Nat.zero_add];simp[hj])
   simp only[Nat.zero_add]at hc
   exact⟨_,by simp[Instr.loadAt,Instr.sureAddr,Us hs ha hn (g.bb k) off vs hl hc],hg⟩
  .cases h
 .rename_i k i off
  split at h
  .rename_i r hk
   split at h
   .rename_i e he
    obtain⟨b,hb,rfl⟩:=hp.rpt_inv hk
    have hsz:=(I.rws k r hk)
    obtain⟨xs,ty,_,hs',_⟩:=hsz
    obtain⟨vs,hl,hc,hg⟩:=X0J (w:=w) (g:=g) (s:=s) h hn b (i*r.sz) (fun j a ha=>by
     obtain⟨u,q1,q2,_,q3⟩:=L12 (I.rws k r hk) hb (X0r hs' he ha)
     exact⟨u,q1,.inl q2,.data _ _ q3⟩)
    exact⟨_,by simp[Instr.loadAt,Instr.sureAddr,Us hs ha hn b (i*r.sz+off) vs hl hc],hg⟩
   .cases h
  .cases h
 .cases h
theorem O1V(I:Inv c g s a w)(hK:∀g' s' a' w',Inv c g' s' a' w'->K s'->K' a' w')(hd:o.dst=some d)(hlt:d<c.nt)
  {x:X} {p:Operand} {t:TypeId} {n:Nat} {ag:Bool} (ho:o.op=.load t p) (hs:tsz P t=some n) (ha:tag? P t=some ag) (hn:ag=false->n=1)
  (hx:chkX x p=true) (h:wop P (.ld d x n ag) K s):o.wp P a w K' Q':=by
 simp only[wop]at h
 split at h
 .rename_i v hv
  obtain⟨u,hr,hg⟩:=Z20 (P:=P) I (I.get hx) hs ha hn hv
  refine sok (g':=g) (s':=s) (w':=w) (v:=u) hK hd hlt ?_ I hg h
  simp[execOp,ho,hr]
 .cases h
theorem Rd.sl_len{S:Nat->Nat->Prop}{N:Tag->Nat->Value->Prop}{t:Tag}{sz:Nat}{es:List AV}{v:Value}(h:Rd w S N (.sl t sz es) v):∃p cp,v=.slice p es.length cp/\es.length<=maxLen:=by
 cases h with
 |sl0 _ _ p c=>exact⟨p,c,rfl,by simp[maxLen]⟩
 |sl _ _ _ b o c cv hc hm=>exact⟨_,_,rfl,Nat.le_trans hc hm⟩
theorem Y1P{base:Nat}{e:TypeId}{size:Nat}{v:Value}{n:Nat}{xs:List Value}(h:w.ownsRow base e size v n xs):∃p cp,v=.slice p n cp/\n<=maxLen:=by
 rcases h.2 with⟨rfl,rfl⟩|⟨b,cap,cur,rfl,_,_,h1,h2,_⟩
 .exact⟨none,0,rfl,by simp[maxLen]⟩
 .exact⟨_,_,rfl,Nat.le_trans h1 h2⟩
theorem M1I(I:Inv c g s a w)(hK:∀g' s' a' w',Inv c g' s' a' w'->K s'->K' a' w')(hd:o.dst=some d)(hlt:d<c.nt)
  {x:X} {p:Operand} {t el:TypeId} (ho:o.op=.call { callee:=.builtin .len,args:=#[p],argTypes:=#[t] }) (ht:P.underlying t=some (.slice el))
  (hx:chkX x p=true) (h:wop P (.ln d x) K s):o.wp P a w K' Q':=by
 simp only[wop]at h
 have gx:=I.get hx
 have run:∀ad n cp,a.eval p=.slice ad n cp->(execOp a.eval o).run P w=.ok (.value (.int .i64 n)) w:=by
  intro ad n cp e
  simp[execOp,ho,resolve,invoke,builtin,e,Builtin.len_,run_underlying ht,goInt]
 split at h
 .rename_i t' sz es e
  rw[e]at gx
  obtain⟨ad,cp,hv,hm⟩:=gx.sl_inv.sl_len
  exact sok (g':=g) (s':=s) (w':=w) hK hd hlt (run _ _ _ hv) I (.data _ _ (.int _ _)) (h (by simpa[maxLen]using hm))
 .rename_i k e
  rw[e]at gx
  split at h
  .rename_i r hr
   obtain⟨xs,ty,ho',_⟩:=I.rws k r hr
   obtain⟨ad,cp,hv,hm⟩:=Y1P ho'
   exact sok (g':=g) (s':=s) (w':=w) hK hd hlt (run _ _ _ ((gx.sref_inv hr).trans hv)) I (.data _ _ (.int _ _)) (h (by simpa[maxLen]using hm))
  .cases h
 .rename_i e
  rw[e]at gx
  exact sok (g':=g) (s':=s) (w':=w) hK hd hlt (run _ _ _ gx.nl_inv) I (.data _ _ (.int _ _)) h
 .cases h
theorem W1V(I:Inv c g s a w)(hK:∀g' s' a' w',Inv c g' s' a' w'->K s'->K' a' w')(hd:o.dst=some d)(hlt:d<c.nt)
  {x:X} {p:Operand} {t el:TypeId} (ho:o.op=.call { callee:=.builtin .len,args:=#[p],argTypes:=#[t] }) (ht:P.underlying t=some (.slice el))
  (hx:chkX x p=true) (h:wop P (.lq d x) K s):o.wp P a w K' Q':=by
 refine M1I I hK hd hlt ho ht hx (x:=x) ?_
 simp only[wop]at h ⊢
 split at h
 .exact fun _=>h.2
 .split at h
  .exact fun _=>h.2
  .cases h
 .exact h
 .cases h
theorem Q1V(I:Inv c g s a w)(hK:∀g' s' a' w',Inv c g' s' a' w'->K s'->K' a' w')(hd:o.dst=some d)(hlt:d<c.nt)
  {x:X} {p:Operand} {t:TypeId} (ho:o.op=.call { callee:=.builtin .len,args:=#[p],argTypes:=#[t] }) (ht:P.underlying t=some .string)
  (hx:chkX x p=true) (h:wop P (.ls d x) K s):o.wp P a w K' Q':=by
 simp only[wop]at h
 have gx:=I.get hx
 split at h
 .rename_i l e
  rw[e]at gx
  refine sok (g':=g) (s':=s) (w':=w) (v:=.int .i64 l.length) hK hd hlt ?_ I (.data _ _ (.int _ _)) h
  have hsz:(⟨l.toArray⟩:ByteArray).size=l.length:=by show l.toArray.size=_;simp
  simp[execOp,ho,resolve,invoke,builtin,gx.str_inv,Builtin.len_,run_underlying ht,goInt,hsz]
 .cases h
theorem Y1W(I:Inv c g s a w)(hK:∀g' s' a' w',Inv c g' s' a' w'->K s'->K' a' w')(hd:o.dst=some d)(hlt:d<c.nt)
  {x:X} {p:Operand} {i:Nat} (ho:o.op=.extract p i) (hx:chkX x p=true) (h:wop P (.ex d x i) K s):o.wp P a w K' Q':=by
 simp only[wop]at h
 have gx:=I.get hx
 split at h
 .rename_i cs e
  rw[e]at gx
  obtain⟨vs,hv,hl,hg⟩:=gx.tup_inv
  split at h
  .rename_i v hi
   have hlt':i<vs.length:=by rw[← hl];exact(yB hi).1
   refine sok (g':=g) (s':=s) (w':=w) (v:=vs[i]) hK hd hlt ?_ I (hg i v _ hi (yA hlt')) h
   simp[execOp,ho,hv,Instr.extract,hlt']
  .cases h
 .cases h
theorem U0p{t:TypeId}{n:Nat}{ag:Bool}(hs:tsz P t=some n)(ha:tag? P t=some ag)(vs:List Value)(off:Nat)(u:Value)
  (hu:ag=false->vs[off]?=some u):(part t vs.toArray off).run P w=.ok (if ag then .agg ((vs.drop off).take n).toArray else u) w:=by
 cases ag with
 |true =>
  simp[part,J0g ha,Lm hs,List.extract_eq_take_drop,List.extract_toArray]
 |false=>simp[part,J0g ha,hu rfl]
theorem J1V(I:Inv c g s a w)(hK:∀g' s' a' w',Inv c g' s' a' w'->K s'->K' a' w')(hd:o.dst=some d)(hlt:d<c.nt)
  {x:X} {p:Operand} {t:TypeId} {f:Nat} {fs:Array Field} {fd:Field} {n:Nat} {ag:Bool} (ho:o.op=.field t p f) (ht:P.underlying t=some (.struct fs)) (hf:fs[f]?=some fd)
  (hs:tsz P fd.type=some n) (ha:tag? P fd.type=some ag)
  (hx:chkX x p=true) (h:wop P (.fd d x fd.offset n ag) K s):o.wp P a w K' Q':=by
 simp only[wop]at h
 have gx:=I.get hx
 split at h
 .rename_i cs e
  rw[e]at gx
  obtain⟨vs,hv,hl,h1,hg⟩:=gx.agg_inv
  split at h
  .rename_i v hp
   unfold L0b at hp
   cases ag with
   |true =>
    simp only[yb]at hp
    split at hp
    .rename_i hle
     cases hp
     refine sok (g':=g) (s':=s) (w':=w) (v:=.agg ((vs.drop fd.offset).take n).toArray) hK hd hlt ?_ I ?_ h
     .have:=U0p (P:=P) (w:=w) hs ha vs fd.offset undef (by simp)
      simp only[yb]at this
      simp[execOp,ho,hv,Instr.field,run_underlying ht,hf,asAgg,this]
     .refine .agg _ _ (by simp;omega) (fun a' ha'=>h1 a' (List.mem_of_mem_drop (List.mem_of_mem_take ha'))) (fun j a' v' hj hv'=>?_)
      rw[List.getElem?_take]at hj hv'
      split at hj
      .rename_i hjn
       rw[yd hjn,List.getElem?_drop]at hv'
       rw[List.getElem?_drop]at hj
       exact hg _ _ _ hj hv'
      .cases hj
    .cases hp
   |false =>
    simp only[yG,yc]at hp
    have hlt':fd.offset<vs.length:=by rw[← hl];exact(yB hp).1
    have hu:=yA hlt'
    refine sok (g':=g) (s':=s) (w':=w) (v:=vs[fd.offset]) hK hd hlt ?_ I (hg _ _ _ hp hu) h
    have:=U0p (P:=P) (w:=w) hs ha vs fd.offset vs[fd.offset] (fun _=>hu)
    simp only[yG,yc]at this
    simp[execOp,ho,hv,Instr.field,run_underlying ht,hf,asAgg,this]
  .cases h
 .cases h
theorem X1V(I:Inv c g s a w)(hK:∀g' s' a' w',Inv c g' s' a' w'->K s'->K' a' w')(hd:o.dst=some d)(hlt:d<c.nt)
  {x:X} {p:Operand} (ho:o.op=.nilCheck p) (hx:chkX x p=true) (h:wop P (.nc d x) K s):o.wp P a w K' Q':=by
 simp only[wop]at h
 have gx:=I.get hx
 split at h
 .rename_i k off e
  rw[e]at gx
  obtain⟨h1,h⟩:=h
  obtain⟨cs,hk⟩:=Option.isSome_iff_exists.1 h1
  refine sok (g':=g) (s':=s) (w':=w) (v:=a.eval p) hK hd hlt ?_ I gx h
  simp[execOp,ho,gx.ptr_inv hk]
 .rename_i f cs e
  rw[e]at gx
  obtain⟨vs,hv,_⟩:=gx.fn_inv
  refine sok (g':=g) (s':=s) (w':=w) (v:=a.eval p) hK hd hlt ?_ I gx h
  simp[execOp,ho,hv]
 .cases h
theorem U1V(I:Inv c g s a w)(hK:∀g' s' a' w',Inv c g' s' a' w'->K s'->K' a' w')(hd:o.dst=some d)(hlt:d<c.nt)
  {f:Nat} {xs:List X} {ps:List Operand} (ho:o.op=.makeFunc (.func f) #[] ps.toArray) (hx:xs.length=ps.length/\∀(i:Nat) (x:X) (p:Operand),xs[i]?=some x->ps[i]?=some p->chkX x p=true)
  (h:wop P (.mf d f xs) K s):o.wp P a w K' Q':=by
 simp only[wop]at h
 refine sok (g':=g) (s':=s) (w':=w) (v:=.func (.func f) #[] (ps.map a.eval).toArray) hK hd hlt ?_ I (.fn _ _ _ (by simp[hx.1]) (fun i x v hi hv=>?_)) h
 .simp[execOp,ho,Instr.makeFunc]
 .rw[yF]at hi hv
  obtain⟨x0,hx0,rfl⟩:=yC hi
  obtain⟨p0,hp0,rfl⟩:=yC hv
  exact I.get (hx.2 i x0 p0 hx0 hp0)
theorem O1I(I:Inv c g s a w)(hK:∀g' s' a' w',Inv c g' s' a' w'->K s'->K' a' w')(hd:o.dst=some d)(hlt:d<c.nt)
  {mx:Bool} {x y:X} {p q:Operand} {ts:Array TypeId} (ho:o.op=.call { callee:=.builtin (if mx then .max else .min),args:=#[p,q],argTypes:=ts })
  (hx:chkX x p=true) (hy:chkX y q=true) (h:wop P (.mm d mx x y) K s):o.wp P a w K' Q':=by
 simp only[wop]at h
 have gx:=I.get hx
 have gy:=I.get hy
 split at h
 .rename_i k m k' m' e1 e2
  rw[e1]at gx;rw[e2]at gy
  obtain⟨rfl,h⟩:=h
  refine sok (g':=g) (s':=s) (w':=w) (v:=.int k (if mx then max m m' else min m m')) hK hd hlt ?_ I (.data _ _ (.int _ _)) h
  cases mx
  .have:(if m'<m then m' else m)=min m m':=by split<;>omega
   simp[execOp,ho,resolve,invoke,builtin,gx.int_inv,gy.int_inv,Builtin.min_,Builtin.min2,this]
  .have:(if m<m' then m' else m)=max m m':=by split<;>omega
   simp[execOp,ho,resolve,invoke,builtin,gx.int_inv,gy.int_inv,Builtin.max_,Builtin.max2,this]
 .cases h
end ops
end
end
section
section
variable{P:Program}{c:Cx}{g:Gh}{s:St}{a:Act}{w:World}
theorem Rd.one_cell{S:Nat->Nat->Prop}{N:Tag->Nat->Value->Prop}{x:AV}{v:Value}(h:Rd w S N x v)(h1:x.one=true):v.oneCell'=true:=by
 cases h<;>first|rfl|simp[AV.one]at h1
theorem Gv.one_cell{x:AV}{v:Value}(h:Gv w g s x v)(h1:x.one=true):v.oneCell'=true:=by
 cases h with
 |data _ _ h=>exact h.one_cell h1
 |sref _ _ q _=>exact q
 |ptr _ _ _ q _=>exact q
 |rpt _ _ _ _ q _=>exact q
 |bad=>simp[AV.one]at h1
 |und=>simp[AV.one]at h1
 |agg=>simp[AV.one]at h1
 |tup=>simp[AV.one]at h1
 |eot=>rfl
 |od=>rfl
 |op=>rfl
 |el=>rfl
 |fn=>rfl
theorem O1f{v:Value}(h:v.oneCell'=true):v.cells=#[v]:=by cases v<;>first|rfl|simp[Value.oneCell']at h
theorem Gv.cells{x:AV}{v:Value}(h:Gv w g s x v)(h1:allOne x.cells=true):∃vs:List Value,v.cells=vs.toArray/\x.cells.length=vs.length /\
  ∀(i:Nat) (y:AV) (u:Value),x.cells[i]?=some y->vs[i]?=some u->y.one=true/\u.oneCell'=true/\Gv w g s y u:=by
 cases hx:x with
 |agg cs =>
  subst hx
  obtain⟨vs,rfl,hl,_,hg⟩:=h.agg_inv
  refine⟨vs,rfl,hl,fun i y u hy hu=>?_⟩
  have hone:y.one=true:=by
   simp only[allOne,AV.cells,List.all_eq_true]at h1
   exact h1 y (yE hy)
  exact⟨hone,(hg i y u hy hu).one_cell hone,hg i y u hy hu⟩
 |_ =>
  rw[← hx]
  have hxc:x.cells=[x]:=by rw[hx];rfl
  have hone:x.one=true:=by rw[hxc]at h1;simpa[allOne]using h1
  refine⟨[v],by rw[O1f (h.one_cell hone)],by rw[hxc];rfl,fun i y u hy hu=>?_⟩
  rw[hxc]at hy
  cases i with
  |zero=>simp at hy hu;subst hy;subst hu;exact⟨hone,h.one_cell hone,h⟩
  |succ i=>simp at hy
def Al(w:World)(g:Gh)(s:St)(cs:List AV)(vs:List Value):Prop :=
 cs.length=vs.length/\∀(i:Nat) (y:AV) (u:Value),cs[i]?=some y->vs[i]?=some u->(y.one=true\/y=.bad)/\u.oneCell'=true/\Gv w g s y u
theorem Y1l{cs vs:List AV}{off i:Nat}(h:off+vs.length<=cs.length) :
  (putC cs off vs)[i]?=if off<=i/\i<off+vs.length then vs[i-off]? else cs[i]?:=by
 unfold putC
 by_cases h1:i<off
 .rw[ye (by omega),List.append_assoc,yK (by simp;omega),List.getElem?_take,yd h1]
 .by_cases h2:i<off+vs.length
  .rw[yd ⟨by omega,h2⟩,List.append_assoc,yS (by simp;omega),yK (by simp;omega)]
   congr 1;simp;omega
  .rw[ye (by omega),yS (by simp;omega),List.getElem?_drop]
   congr 1;simp;omega
theorem Z1l{cs vs:List AV}{off:Nat}(h:off+vs.length<=cs.length):(putC cs off vs).length=cs.length:=by
 unfold putC;simp;omega
def putV(cs:List Value)(off:Nat)(vs:List Value):List Value:=cs.take off++vs++cs.drop (off+vs.length)
theorem U0h{cs vs:List Value}{off i:Nat}(h:off+vs.length<=cs.length) :
  (putV cs off vs)[i]?=if off<=i/\i<off+vs.length then vs[i-off]? else cs[i]?:=by
 unfold putV
 by_cases h1:i<off
 .rw[ye (by omega),List.append_assoc,yK (by simp;omega),List.getElem?_take,yd h1]
 .by_cases h2:i<off+vs.length
  .rw[yd ⟨by omega,h2⟩,List.append_assoc,yS (by simp;omega),yK (by simp;omega)]
   congr 1;simp;omega
  .rw[ye (by omega),yS (by simp;omega),List.getElem?_drop]
   congr 1;simp;omega
theorem Z0J{cs vs:List Value}{off:Nat}(h:off+vs.length<=cs.length):(putV cs off vs).length=cs.length:=by
 unfold putV;simp;omega
theorem Al.put{cs xs:List AV}{vs us:List Value}{off:Nat}(h:Al w g s cs vs)(h2:Al w g s xs us)(hle:off+xs.length<=cs.length):Al w g s (putC cs off xs) (putV vs off us):=by
 have e1:=h.1
 have e2:=h2.1
 refine⟨by rw[Z1l hle,Z0J (by omega)];exact e1,fun i y u hy hu=>?_⟩
 rw[Y1l hle]at hy
 rw[U0h (by omega),← e2]at hu
 split at hy
 .rename_i hc
  rw[yd hc]at hu
  exact h2.2 _ _ _ hy hu
 .rename_i hc
  rw[ye hc]at hu
  exact h.2 _ _ _ hy hu
theorem Z0R(off:Nat):∀(vs:List Value) (k:Nat) (cs:Array Value),off+k+vs.length<=cs.size ->
  ((vs.zipIdx k).foldl (fun cs (x:Value×Nat)=>cs.setIfInBounds (off+x.2) x.1) cs)=(putV cs.toList (off+k) vs).toArray
 |[],k,cs,h=>by simp[putV]
 |v::vs,k,cs,h=>by
  simp only[List.zipIdx_cons,List.foldl_cons]
  simp only[yT]at h
  rw[Z0R off vs (k+1) _ (by simp;omega)]
  congr 1
  apply List.ext_getElem?
  intro i
  rw[U0h (by simp;omega),U0h (by simp;omega)]
  simp only[Array.toList_setIfInBounds,List.getElem?_set,yT,Array.length_toList]
  by_cases h1:i=off+k
  .subst h1
   rw[ye (by omega),yd rfl,yd (by omega),yd ⟨by omega,by omega⟩];simp
  .by_cases h2:off+(k+1)<=i/\i<off+(k+1)+vs.length
   .rw[yd h2,yd ⟨by omega,by omega⟩]
    rw[show i-(off+k)=(i-(off+(k+1)))+1 by omega];rfl
   .rw[ye h2,ye (by omega),ye (by omega)]
theorem Q1B{place:Nat->Option (Nat×Nat)}:∀(ps:List (Nat×Nat×AV)) (qs:List (Nat×Value)) (z z':List AV) (cs:List Value),
    ps.length=qs.length->(∀(i off n:Nat) (x:AV) (j:Nat) (v:Value),ps[i]?=some (off,n,x)->qs[i]?=some (j,v)->place j=some (off,n)/\Gv w g s x v) ->
    Al w g s z cs->Y08 z ps=some z'->∃cs',Instr.fill place cs.toArray qs=some cs'.toArray/\Al w g s z' cs'
  |[],[],z,z',cs,_,_,hal,hb=>by simp only[Y08,yI]at hb;subst hb;exact⟨cs,rfl,hal⟩
  | (off,n,x)::ps,(j,v)::qs,z,z',cs,hl,hp,hal,hb=>by
    simp only[Y08]at hb
    split at hb
    · rename_i hc
      obtain⟨h1,h2,h3⟩:=hc
      obtain⟨hpl,hg⟩:=hp 0 off n x j v rfl rfl
      obtain⟨vs,hv,hvl,hva⟩:=hg.cells h3
      have hal':Al w g s x.cells vs:=⟨hvl,fun i y u hy hu=>⟨.inl (hva i y u hy hu).1,(hva i y u hy hu).2⟩⟩
      have hle:off+x.cells.length<=z.length:=by omega
      obtain⟨cs',hf,hr⟩:=Q1B ps qs (putC z off x.cells) z' (putV cs off vs) (by simpa using hl) (fun i=>hp (i+1)) (hal.put hal' hle) hb
      refine⟨cs',?_,hr⟩
      have hzl:=hal.1
      have:=Z0R off vs 0 cs.toArray (by simp;omega)
      simp only[Nat.add_zero]at this
      simp only[Instr.fill,hpl,hv]
      rw[ye (by simp;omega)]
      rw[← hf]
      congr 1
      simpa using this
    · cases hb
  |[],_::_,_,_,_,hl,_,_,_=>by simp at hl
  |_::_,[],_,_,_,hl,_,_,_=>by simp at hl
section ops
variable{o:Oper}{d:Nat}{K:St->Prop}{K':Act->World->Prop}{Q':Exit->Act->World->Prop}
theorem Y1j{z:List AV}{vs:List Value}(h:vmL z vs=true)(h1:allOne z=true):Al w g s z vs:=by
 obtain⟨hl,hr⟩:=L1j (w:=w) (S:=g.S) (N:=g.T) h
 refine⟨hl,fun i y u hy hu=>?_⟩
 have hone:y.one=true:=by simp only[allOne,List.all_eq_true]at h1;exact h1 y (yE hy)
 exact⟨.inl hone,(hr i y u hy hu).one_cell hone,.data _ _ (hr i y u hy hu)⟩
theorem O12{t:TypeId}{zv:Value}(h:((P.info? t).bind (·.zero))=some zv):(zeroValue t).run P w=.ok zv w:=by
 obtain⟨i,hi,hz⟩:=Option.bind_eq_some_iff.1 h
 simp[zeroValue,typeInfo,hi,hz]
theorem V1X(I:Inv c g s a w)(hK:∀g' s' a' w',Inv c g' s' a' w'->K s'->K' a' w')(hd:o.dst=some d)(hlt:d<c.nt)
  {z:List AV} {ps:List (Nat×Nat×X)} {qs:List (Nat×Operand)} {t:TypeId} {fs:Array Field} {zv:Value} (ho:o.op=.build t qs.toArray) (ht:P.underlying t=some (.struct fs))
  (hz:((P.info? t).bind (·.zero))=some zv) (hzm:vmL z zv.cells.toList=true) (hz1:allOne z=true)
  (hl:ps.length=qs.length) (hp:∀(i off n:Nat) (x:X) (j:Nat) (p:Operand),ps[i]?=some (off,n,x)->qs[i]?=some (j,p)->(∃fd,fs[j]?=some fd/\fd.offset=off/\tsz P fd.type=some n)/\chkX x p=true)
  (hsz:∀fd∈fs,(tsz P fd.type).isSome=true)
  (h:wop P (.bd d z ps) K s):o.wp P a w K' Q':=by
 simp only[wop]at h
 split at h
 .rename_i cs hb
  obtain⟨h1,h⟩:=h
  have hplaces:∀(l:List Field),(∀fd∈l,(tsz P fd.type).isSome=true)->(l.mapM (fun f=>do pure (f.offset,← sizeOf f.type)):Sem (List (Nat×Nat))).run P w =
    .ok (l.map fun f=>(f.offset,(tsz P f.type).getD 0)) w:=by
   intro l
   induction l with
   |nil=>intro _;simp
   |cons f l ih =>
    intro hl
    obtain⟨n,hn⟩:=Option.isSome_iff_exists.1 (hl f (by simp))
    simp only[List.mapM_cons,Sem.run_bind,Lm hn,Result.andThen_ok,Sem.run_pure,ih (fun x hx=>hl x (by simp[hx])),List.map_cons,hn,Option.getD_some]
  obtain⟨cs',hf,hal⟩:=Q1B (w:=w) (g:=g) (s:=s) (place:=fun i=>(fs.map fun f=>(f.offset,(tsz P f.type).getD 0))[i]?)
   (ps.map fun(off,n,x)=>(off,n,s.get x)) (qs.map fun(j,p)=>(j,a.eval p)) z cs zv.cells.toList (by simp[hl])
   (fun i off n x j v hi hj=>by
    rw[yF]at hi hj
    obtain⟨⟨off',n',x'⟩,hi',e⟩:=yC hi
    obtain⟨⟨j',p'⟩,hj',e'⟩:=yC hj
    simp only[Prod.mk.injEq]at e e'
    obtain⟨rfl,rfl,rfl⟩:=e
    obtain⟨rfl,rfl⟩:=e'
    obtain⟨⟨fd,h1,h2,h3⟩,h4⟩:=hp i _ _ _ _ _ hi' hj'
    exact⟨by simp[h1,h2,h3],I.get h4⟩)
   (Y1j hzm hz1) hb
  refine sok (g':=g) (s':=s) (w':=w) (v:=.agg cs'.toArray) hK hd hlt ?_ I (.agg _ _ hal.1 (fun y hy=>.inl (by simp only[allOne,List.all_eq_true]at h1;exact h1 y hy)) (fun i y u hy hu=>(hal.2 i y u hy hu).2.2)) h
  have hm:(fs.mapM (fun f=>do pure (f.offset,← sizeOf f.type)):Sem (Array (Nat×Nat))).run P w=.ok (fs.map fun f=>(f.offset,(tsz P f.type).getD 0)) w:=by
   have:=hplaces fs.toList (fun fd hfd=>hsz fd (by simpa using hfd))
   rw[Array.mapM_eq_mapM_toList]
   simp only[Sem.run_map,this,Result.andThen_ok]
   rw[← List.map_toArray,Array.toArray_toList]
  rw[Array.toArray_toList]at hf
  simp only[execOp,ho,Sem.run_bind,Instr.build,O12 hz,Result.andThen_ok,run_underlying ht,hm]
  have e1:(Array.map (fun(x:Nat×Operand)=>(x.1,a.eval x.2)) qs.toArray).toList=qs.map fun(j,p)=>(j,a.eval p):=by simp
  rw[e1,hf]
  simp
 .cases h
end ops
end
end
section
section
variable{P:Program}{c:Cx}{g:Gh}{s:St}{a:Act}{w:World}
theorem LI.mono{w':World}{S S':Nat->Nat->Prop}{N N':Tag->Nat->Value->Prop}{r:Row}{v:Value}(h:LI w S N r v)(hS:∀b o,S b o->S' b o)(hN:TLe S N N')
  (hc:∀b o,S b o->w'.cell? ⟨b,o,none⟩=w.cell? ⟨b,o,none⟩) (hb:∀b,v.ownBlock=some b->w'.heap[b]?=w.heap[b]?):LI w' S' N' r v:=by
 obtain⟨xs,ty,h1,h2,h3⟩:=h
 refine⟨xs,ty,⟨h1.1,?_⟩,h2,fun j x u hx hu=>⟨(h3 j x u hx hu).1,(h3 j x u hx hu).2.1,(h3 j x u hx hu).2.2.mono hS hN hc⟩⟩
 rcases h1.2 with h|⟨b,cap,cur,e1,e2,e3,e4⟩
 .exact .inl h
 .exact .inr ⟨b,cap,cur,e1,e2,by rw[hb b (by rw[e1];rfl)];exact e3,e4⟩
theorem OO.turn{w':World}{g':Gh}{s':St}{b b':Nat}{cs:List AV}(T:Turn (fun _=>True) w w' g g' s s')(hb:w'.heap[b']?=w.heap[b]?)(h:OO w g s b cs):OO w' g' s' b' cs:=by
 obtain⟨vs,ty,h1,h2,h3⟩:=h
 exact⟨vs,ty,by rw[hb];exact h1,h2,fun i x v hx hv=>⟨(h3 i x v hx hv).1,(h3 i x v hx hv).2.1,(h3 i x v hx hv).2.2.turn T⟩⟩
structure Wrote(w w':World)(b0:Nat):Prop where
 os:w'.os=w.os
 tape:w'.tape=w.tape
 output:w'.output=w.output
 size:w'.heap.size=w.heap.size
 block:∀k,k≠b0->w'.heap[k]?=w.heap[k]?
theorem Q0z(w:World)(b:Nat)(cs:Array Value):Wrote w (w.setRow b cs) b:=⟨rfl,rfl,rfl,by simp,fun k hk=>setRow_other w b k cs hk⟩
theorem Inv.setbox(I:Inv c g s a w){w':World}{k:Nat}{cs cs':List AV}(hk:s.bx k=some cs)(W:Wrote w w' (g.bb k))(hb:OO w' g { s with bx:=fun j=>if j=k then some cs' else s.bx j } (g.bb k) cs') :
    Inv c g { s with bx:=fun j=>if j=k then some cs' else s.bx j } a w':=by
  have hS:∀b o,g.S b o->w'.cell? ⟨b,o,none⟩=w.cell? ⟨b,o,none⟩:=fun b o ho=>World.cell?_of_block (W.block b (fun e=>(I.bxn k cs hk).2 o (e ▸ ho)))
  have T:Turn (fun _=>True) w w' g g s { s with bx:=fun j=>if j=k then some cs' else s.bx j } :=
    ⟨fun _ _ h=>h,fun _ h=>h,TLe.refl,hS,fun j _ r h=>⟨r,h,rfl,rfl⟩,fun j _ c' h=>by
      by_cases hj:j=k
      · subst hj;exact⟨cs,hk,rfl⟩
      · simp only[hj,yc]at h;exact⟨c',h,rfl⟩,fun _ _ h=>h,J0M fun b hb=>W.block b fun e=>I.ow.bx k cs hk (e ▸ hb)⟩
  refine⟨I.defers,I.nt,⟨W.os.trans I.fr.os,W.tape.trans I.fr.tape,W.output.trans I.fr.output,by rw[W.size];exact I.fr.size,?_⟩,fun i=>(I.tm i).turn T,?_,?_,?_,I.rwn,?_,?_,I.drr,?_,I.nn,I.nx,I.fix,I.sm,I.sb,I.ow.turn rfl (fun _ h=>h) (yV _) (fun b hb'=>W.block b (fun e=>I.ow.bx k cs hk (by rw[← e];exact hb'))) (fun j c1 h=>by
    by_cases hj:j=k
    · subst hj;exact I.ow.bx j cs hk
    · simp only[hj,yc]at h;exact I.ow.bx j c1 h) I.ow.rw,fun b o h q=>(I.uf b o h q).block (W.block b fun e=>(I.bxn k cs hk).2 o (e ▸ h)),I.sd⟩
  · intro b hb' hx
    rw[W.block b (fun e=>hx ((show Wr c g b by rw[e];exact(I.bxn k cs hk).1).2 hb'))]
    exact I.fr.block b hb' hx
  · intro j c1 h
    by_cases hj:j=k
    · subst hj;simp only[yb,yI]at h;subst h;exact hb
    · simp only[hj,yc]at h
      exact(I.bxs j c1 h).turn T (W.block _ (I.dbb j k c1 cs h hk hj))
  · intro j c1 h
    by_cases hj:j=k
    · subst hj;exact I.bxn j cs hk
    · simp only[hj,yc]at h;exact I.bxn j c1 h
  · intro j r h
    exact(I.rws j r h).mono (fun _ _ h=>h) TLe.refl hS (fun b hb'=>W.block b (fun e=>I.dbr k j cs r hk h (e ▸ hb')))
  · intro j j' c1 c2 h1 h2 hne
    have f:∀j c1,(if j=k then some cs' else s.bx j)=some c1->∃c0,s.bx j=some c0:=by
      intro j c1 h
      by_cases hj:j=k
      · subst hj;exact⟨cs,hk⟩
      · simp only[hj,yc]at h;exact⟨c1,h⟩
    obtain⟨d1,e1⟩:=f j c1 h1
    obtain⟨d2,e2⟩:=f j' c2 h2
    exact I.dbb j j' d1 d2 e1 e2 hne
  · intro j j' c1 r h1 h2
    by_cases hj:j=k
    · subst hj;exact I.dbr j j' cs r hk h2
    · simp only[hj,yc]at h1;exact I.dbr j j' c1 r h1 h2
  · intro b o ho;rw[W.size];exact I.sw b o ho
theorem Inv.setrow(I:Inv c g s a w){w':World}{k b0:Nat}{r r':Row}(hk:s.rw k=some r)(hsh:r.sh=false)(hsz:r'.sz=r.sz)(hb0:(g.rv k).ownBlock=some b0)(W:Wrote w w' b0)
    (hr:LI w' g.S g.T r' (g.rv k)) :
    Inv c g { s with rw:=fun j=>if j=k then some r' else s.rw j } a w':=by
  have hno:∀o,¬ g.S b0 o:=fun o ho=>by have:=((I.rwn k r hk b0 hb0).2 o ho).1;rw[hsh]at this;cases this
  have hS:∀b o,g.S b o->w'.cell? ⟨b,o,none⟩=w.cell? ⟨b,o,none⟩:=fun b o ho=>World.cell?_of_block (W.block b (fun e=>hno o (e ▸ ho)))
  have T:Turn (fun _=>True) w w' g g s { s with rw:=fun j=>if j=k then some r' else s.rw j } :=
    ⟨fun _ _ h=>h,fun _ h=>h,TLe.refl,hS,fun j _ r1 h=>by
      by_cases hj:j=k
      · subst hj;simp only[yb,yI]at h;subst h;exact⟨r,hk,hsz,rfl⟩
      · simp only[hj,yc]at h;exact⟨r1,h,rfl,rfl⟩,fun j _ c' h=>⟨c',h,rfl⟩,fun _ _ h=>h,J0M fun b hb=>W.block b fun e=>I.ow.rw k r hk b (e ▸ hb0) hb⟩
  refine⟨I.defers,I.nt,⟨W.os.trans I.fr.os,W.tape.trans I.fr.tape,W.output.trans I.fr.output,by rw[W.size];exact I.fr.size,?_⟩,fun i=>(I.tm i).turn T,?_,I.bxn,?_,?_,I.dbb,?_,?_,?_,I.nn,I.nx,I.fix,I.sm,I.sb,I.ow.turn rfl (fun _ h=>h) (yV _) (fun b hb'=>W.block b (fun e=>I.ow.rw k r hk b0 hb0 (by rw[← e];exact hb'))) I.ow.bx (fun j r1 h=>by
    by_cases hj:j=k
    · subst hj;exact I.ow.rw j r hk
    · simp only[hj,yc]at h;exact I.ow.rw j r1 h),fun b o h q=>(I.uf b o h q).block (W.block b fun e=>hno o (e ▸ h)),I.sd⟩
  · intro b hb' hx
    rw[W.block b (fun e=>hx ((show Wr c g b by rw[e];exact(I.rwn k r hk b0 hb0).1).2 hb'))]
    exact I.fr.block b hb' hx
  · intro j c1 h
    exact(I.bxs j c1 h).turn T (W.block _ (fun e=>I.dbr j k c1 r h hk (by rw[e];exact hb0)))
  · intro j r1 h
    by_cases hj:j=k
    · subst hj;simp only[yb,yI]at h;subst h;exact hr
    · simp only[hj,yc]at h
      exact(I.rws j r1 h).mono (fun _ _ h=>h) TLe.refl hS (fun b hb'=>W.block b (fun e=>I.drr j k r1 r h hk hj b hb' (e ▸ hb0)))
  · intro j r1 h b hb'
    by_cases hj:j=k
    · subst hj
      rw[hb0]at hb';cases hb'
      exact⟨(I.rwn j r hk b0 hb0).1,fun o ho=>absurd ho (hno o)⟩
    · simp only[hj,yc]at h;exact I.rwn j r1 h b hb'
  · intro j j' c1 r1 h1 h2
    by_cases hj:j'=k
    · subst hj;exact I.dbr j j' c1 r h1 hk
    · simp only[hj,yc]at h2;exact I.dbr j j' c1 r1 h1 h2
  · intro j j' r1 r2 h1 h2 hne
    have f:∀j r1,(if j=k then some r' else s.rw j)=some r1->∃r0,s.rw j=some r0:=by
      intro j r1 h
      by_cases hj:j=k
      · subst hj;exact⟨r,hk⟩
      · simp only[hj,yc]at h;exact⟨r1,h⟩
    obtain⟨d1,e1⟩:=f j r1 h1
    obtain⟨d2,e2⟩:=f j' r2 h2
    exact I.drr j j' d1 d2 e1 e2 hne
  · intro b o ho;rw[W.size];exact I.sw b o ho
theorem Inv.share(I:Inv c g s a w){k:Nat}{r:Row}(hk:s.rw k=some r) :
    Inv c { g with S:=fun b o=>g.S b o\/((g.rv k).ownBlock=some b/\o<r.es.length*r.sz) } { s with rw:=fun j=>if j=k then some { r with sh:=true } else s.rw j } a w:=by
  have T:Turn (fun _=>True) w w g { g with S:=fun b o=>g.S b o\/((g.rv k).ownBlock=some b/\o<r.es.length*r.sz) } s { s with rw:=fun j=>if j=k then some { r with sh:=true } else s.rw j } :=
    ⟨fun _ _ h=>.inl h,fun _ h=>h,TLe.of (fun _ h=>h) rfl,fun _ _ _=>rfl,fun j _ r1 h=>by
      by_cases hj:j=k
      · subst hj;simp only[yb,yI]at h;subst h;exact⟨r,hk,rfl,rfl⟩
      · simp only[hj,yc]at h;exact⟨r1,h,rfl,rfl⟩,fun j _ c' h=>⟨c',h,rfl⟩,fun _ _ h=>h,J14⟩
  have f:∀j r1,(if j=k then some { r with sh:=true } else s.rw j)=some r1->∃r0,s.rw j=some r0/\r1.sz=r0.sz/\r1.es=r0.es/\(r0.sh=true->r1.sh=true):=by
    intro j r1 h
    by_cases hj:j=k
    · subst hj;simp only[yb,yI]at h;subst h;exact⟨r,hk,rfl,rfl,fun _=>rfl⟩
    · simp only[hj,yc]at h;exact⟨r1,h,rfl,rfl,id⟩
  refine⟨I.defers,I.nt,I.fr,fun i=>(I.tm i).turn T,fun j c1 h=>(I.bxs j c1 h).turn T rfl,?_,?_,?_,I.dbb,?_,?_,?_,I.nn,I.nx,I.fix,fun b o h=>.inl (I.sm b o h),fun b o h=>h.elim (I.sb b o) (fun h=>by
    rcases Nat.lt_or_ge b c.w0.heap.size with hl|hl
    · exact .inr (.inr ((I.rwn k r hk b h.1).1.2 hl))
    · exact .inr (.inl hl)),I.ow.turn rfl (fun _ h=>h) (yV _) (fun _ _=>rfl) I.ow.bx (fun j r1 h=>by obtain⟨r0,h0,_⟩:=f j r1 h;exact I.ow.rw j r0 h0),fun b o h q=>h.elim (fun h=>I.uf b o h q) (fun h=>by
      obtain⟨xs,ty,hown,_⟩:=I.rws k r hk
      rcases hown.2 with⟨e,_⟩|⟨b',cap,cur,e,_,e3,_⟩
      · rw[e]at h;cases h.1
      · have h1:=h.1
        rw[e]at h1;cases h1
        exact .plain e3),fun b o h q=>h.elim (fun h=>I.sd b o h q) fun h=>I.ow.rw k r hk b h.1 (I.ow.dd b q)⟩
  · intro j c1 h
    refine⟨(I.bxn j c1 h).1,fun o ho=>?_⟩
    rcases ho with ho|⟨ho,_⟩
    · exact(I.bxn j c1 h).2 o ho
    · exact I.dbr j k c1 r h hk ho
  · intro j r1 h
    obtain⟨r0,h0,e1,e2,_⟩:=f j r1 h
    obtain⟨xs,ty,q1,q2,q3⟩:=(I.rws j r0 h0).mono T.S T.T T.cell (fun _ _=>rfl)
    exact⟨xs,ty,by rw[e1,e2];exact q1,by rw[e1,e2];exact q2,by rw[e2];exact q3⟩
  · intro j r1 h b hb
    by_cases hj:j=k
    · subst hj
      simp only[yb,yI]at h;subst h
      refine⟨(I.rwn j r hk b hb).1,fun o ho=>⟨rfl,?_⟩⟩
      rcases ho with ho|⟨_,ho⟩
      · exact((I.rwn j r hk b hb).2 o ho).2
      · exact ho
    · simp only[hj,yc]at h
      refine⟨(I.rwn j r1 h b hb).1,fun o ho=>?_⟩
      rcases ho with ho|⟨ho,_⟩
      · exact(I.rwn j r1 h b hb).2 o ho
      · exact absurd ho (I.drr j k r1 r h hk hj b hb)
  · intro j j' c1 r1 h1 h2
    obtain⟨r0,h0,_⟩:=f j' r1 h2
    exact I.dbr j j' c1 r0 h1 h0
  · intro j j' r1 r2 h1 h2 hne
    obtain⟨d1,e1,_⟩:=f j r1 h1
    obtain⟨d2,e2,_⟩:=f j' r2 h2
    exact I.drr j j' d1 d2 e1 e2 hne
  · intro b o ho
    rcases ho with ho|⟨ho,_⟩
    · exact I.sw b o ho
    · exact XT (I.rws k r hk) ho
theorem YW{S:Nat->Nat->Prop}{N:Tag->Nat->Value->Prop}{r:Row}{v:Value}(h:LI w S N r v)(hS:∀b o,v.ownBlock=some b->o<r.es.length*r.sz->S b o)(t:Tag)(hT:N t r.sz v):Rd w S N (.sl t r.sz r.es) v:=by
 have hh:=h
 obtain⟨xs,ty,ho,hs,hc⟩:=h
 rcases ho.2 with⟨rfl,hn⟩|⟨b,cap,cur,rfl,_,hb,h1,h2,h3,h4⟩
 .have:r.es=[]:=List.eq_nil_of_length_eq_zero hn
  rw[this];exact .sl0 t r.sz none 0 fun _ _=>trivial
 .refine .sl t r.sz r.es b 0 cap (fun j=>(w.cell? ⟨b,j,none⟩).getD undef) h1 h2 hs (fun j x hx=>?_) (fun _ _=>trivial) (fun j x hx=>?_)
  .obtain⟨u,q1,q2,_⟩:=L12 hh (b:=b) rfl hx
   have hj:j<(flat r.es).length:=(yB hx).1
   rw[Y0i hs]at hj
   rw[Nat.zero_add,q1]
   exact⟨rfl,hS b j rfl hj,q2,hT⟩
  .obtain⟨u,q1,_,_,q3⟩:=L12 hh (b:=b) rfl hx
   rw[q1];exact q3
section ops
variable{o:Oper}{d:Nat}{K:St->Prop}{K':Act->World->Prop}{Q':Exit->Act->World->Prop}
theorem Q1X(I:Inv c g s a w)(hK:∀g' s' a' w',Inv c g' s' a' w'->K s'->K' a' w')(hd:o.dst=some d)(hlt:d<c.nt)
  {z:List AV} {t:TypeId} {zv:Value} (ho:o.op=.alloc t) (hz:((P.info? t).bind (·.zero))=some zv) (hzm:vmL z zv.cells.toList=true) (hz1:allOne z=true)
  (h:wop P (.al d z) K s):o.wp P a w K' Q':=by
 simp only[wop]at h
 have I1:=I.grow (w':=w.alloc (.cells zv.cells t)) (S':=g.S) rfl rfl rfl (by simp) (fun k hk=>heap_alloc_old w _ hk) (fun _ _ h=>h) (fun _ _ h=>.inl h)
 have hnew:=heap_alloc_new w (.cells zv.cells t)
 have hal:=Y1j (w:=w.alloc (.cells zv.cells t)) (g:={ g with S:=g.S }) (s:=s) hzm hz1
 have hbox:OO (w.alloc (.cells zv.cells t)) { g with S:=g.S } s w.heap.size z:=⟨zv.cells.toList,t,by simpa using hnew,hal.1.symm,hal.2⟩
 have hvac:Vac c { g with S:=g.S } s w.heap.size:=I.vac (yV _)
 have I2:=I1.addbox d w.heap.size z hbox hvac (by have:=c.ntb;omega)
 refine sok (v:=.pointer (some ⟨w.heap.size,0,none⟩)) hK hd hlt ?_ I2 (.ptr _ _ _ rfl fun cs' h'=>by simp) h
 simp[execOp,ho,Instr.alloc,O12 hz,newVar,newRow]
theorem J1W(I:Inv c g s a w)(hK:∀g' s' a' w',Inv c g' s' a' w'->K s'->K' a' w')(hd:o.dst=some d)(hlt:d<c.nt)
    {x:X} {p:Operand} {t:TypeId} (ho:o.op=.box t p) (hx:chkX x p=true)
    (h:wop P (.bx d x) K s):o.wp P a w K' Q':=by
  simp only[wop]at h
  obtain⟨h1,h⟩:=h
  obtain⟨vs,hv,hvl,hva⟩:=(I.get hx).cells h1
  have I1:=I.grow (w':=w.alloc (.cells (a.eval p).cells t)) (S':=g.S) rfl rfl rfl (by simp) (fun k hk=>heap_alloc_old w _ hk) (fun _ _ h=>h) (fun _ _ h=>.inl h)
  have T:Turn (fun _=>True) w (w.alloc (.cells (a.eval p).cells t)) g { g with S:=g.S } s s :=
    ⟨fun _ _ h=>h,fun _ h=>h,TLe.of (fun _ h=>h) rfl,fun b o ho=>World.cell?_of_block (heap_alloc_old w _ (I.sw b o ho)),fun k _ r h=>⟨r,h,rfl,rfl⟩,fun k _ r h=>⟨r,h,rfl⟩,fun _ _ h=>h,J0M fun b hb=>heap_alloc_old w _ (I.ow.size hb)⟩
  have hbox:OO (w.alloc (.cells (a.eval p).cells t)) { g with S:=g.S } s w.heap.size (s.get x).cells :=
    ⟨vs,t,by rw[← hv];exact heap_alloc_new w _,hvl.symm,fun i y u hy hu=>⟨.inl (hva i y u hy hu).1,(hva i y u hy hu).2.1,(hva i y u hy hu).2.2.turn T⟩⟩
  have I2:=I1.addbox d w.heap.size _ hbox (I.vac (yV _)) (by have:=c.ntb;omega)
  refine sok (v:=.pointer (some ⟨w.heap.size,0,none⟩)) hK hd hlt ?_ I2 (.ptr _ _ _ rfl fun cs' h'=>by simp) h
  simp[execOp,ho,Instr.box,newVar,newRow]
theorem M1R(I:Inv c g s a w)(S':Nat->Nat->Prop)(hS:∀b o,g.S b o->S' b o)(hR:∀k r b o,s.rw k=some r->(g.rv k).ownBlock=some b->o<r.es.length*r.sz->S' b o) :
  ∀{x y:AV} {v:Value},s.dt x=some y->Gv w g s x v->Rd w S' g.T1 y v:=by
 have main:∀{x:AV} {v:Value},Gv w g s x v->∀y,s.dt x=some y->Rd w S' g.T1 y v:=by
  intro x v h
  have lst:∀(cs:List AV) (vs:List Value),cs.length=vs.length->(∀(i:Nat) (x:AV) (v:Value),cs[i]?=some x->vs[i]?=some v->∀y,s.dt x=some y->Rd w S' g.T1 y v) ->
    ∀ys,s.dtL cs=some ys->ys.length=vs.length/\∀(i:Nat) (y:AV) (v:Value),ys[i]?=some y->vs[i]?=some v->Rd w S' g.T1 y v:=by
   intro cs
   induction cs with
   |nil=>intro vs hl _ ys hy;simp only[St.dtL,yI]at hy;subst hy;exact⟨hl,by intro i y v h;simp at h⟩
   |cons x l ih =>
    intro vs hl hc ys hy
    match vs,hl with
    |v::vs,hl =>
     simp only[St.dtL]at hy
     split at hy
     .rename_i x' y' e1 e2
      simp only[yI]at hy;subst hy
      obtain⟨q1,q2⟩:=ih vs (by simpa using hl) (fun i=>hc (i+1)) y' e2
      refine⟨by simp[q1],fun i y u hy hu=>?_⟩
      cases i with
      |zero=>simp at hy hu;subst hy;subst hu;exact hc 0 x v rfl rfl _ e1
      |succ i=>simp at hy hu;exact q2 i y u hy hu
     .cases hy
  have rdl:∀{x:AV} {v:Value},Rd w g.S g.T x v->∀y,s.dt x=some y->Rd w S' g.T1 y v:=by
   intro x v h
   induction h with
   |bool b=>intro y hy;simp only[St.dt,yI]at hy;subst hy;exact .bool b
   |int k n=>intro y hy;simp only[St.dt,yI]at hy;subst hy;exact .int k n
   |str l=>intro y hy;simp only[St.dt,yI]at hy;subst hy;exact .str l
   |nl=>intro y hy;simp only[St.dt,yI]at hy;subst hy;exact .nl
   |sl0 t sz p q ho=>intro y hy;simp only[St.dt,yI]at hy;subst hy;exact .sl0 t sz p q ho
   |sl t sz es b o cc cv hcc hm hs hw hn h _ =>
    intro y hy;simp only[St.dt,yI]at hy;subst hy
    exact(Rd.sl t sz es b o cc cv hcc hm hs hw hn h).mono hS TLe.one (fun _ _ _=>rfl)
   |ept e off b o cv hw h _ =>
    intro y hy;simp only[St.dt,yI]at hy;subst hy
    exact(Rd.ept e off b o cv hw h).mono hS TLe.one (fun _ _ _=>rfl)
   |agg cs vs hl h1 h ih =>
    intro y hy
    simp only[St.dt]at hy
    obtain⟨ys,hys,rfl⟩:=yC hy
    obtain⟨q1,q2⟩:=lst cs vs hl ih ys hys
    refine .agg ys vs q1 ?_ q2
    have oneL:∀(cs ys:List AV),(∀x∈cs,x.one=true)->s.dtL cs=some ys->∀y∈ys,y.one=true:=by
     intro cs
     induction cs with
     |nil=>intro ys _ hy y hm;simp only[St.dtL,yI]at hy;subst hy;simp at hm
     |cons x l ih =>
      intro ys h1 hy y hm
      simp only[St.dtL]at hy
      split at hy
      .rename_i x' y' e1 e2
       simp only[yI]at hy;subst hy
       rcases yX hm with rfl|hm
       .have h0:=h1 x (by simp)
        cases x<;>simp[St.dt,AV.one]at e1 h0<;>first | (subst e1;rfl) | (obtain⟨_,_,rfl⟩:=e1;rfl)
       .exact ih y' (fun z hz=>h1 z (by simp[hz])) e2 y hm
      .cases hy
    exact oneL cs ys h1 hys
   |fn f cs vs hl h ih =>
    intro y hy
    simp only[St.dt]at hy
    obtain⟨ys,hys,rfl⟩:=yC hy
    obtain⟨q1,q2⟩:=lst cs vs hl ih ys hys
    exact .fn f ys vs q1 q2
  induction h with
  |data x v h=>exact rdl h
  |bad v=>intro y hy;simp[St.dt]at hy
  |und=>intro y hy;simp[St.dt]at hy
  |sref k v h1 h =>
   intro y hy
   simp only[St.dt]at hy
   obtain⟨r,hr,rfl⟩:=yC hy
   rw[h r hr]
   exact YW ((I.rws k r hr).mono hS TLe.one (fun _ _ _=>rfl) (fun _ _=>rfl)) (fun b o hb ho=>hR k r b o hr hb ho) .nw (.inr fun b hb=>⟨(I.rwn k r hr b hb).1.1,I.ow.rw k r hr b hb⟩)
  |ptr=>intro y hy;simp[St.dt]at hy
  |rpt=>intro y hy;simp[St.dt]at hy
  |eot e off b o cv hw h =>
   intro y hy;simp[St.dt]at hy
  |el=>intro y hy;simp[St.dt]at hy
  |od=>intro y hy;simp[St.dt]at hy
  |op=>intro y hy;simp[St.dt]at hy
  |tup=>intro y hy;simp[St.dt]at hy
  |agg cs vs hl h1 h ih =>
   intro y hy
   simp only[St.dt]at hy
   obtain⟨ys,hys,rfl⟩:=yC hy
   obtain⟨q1,q2⟩:=lst cs vs hl ih ys hys
   refine .agg ys vs q1 ?_ q2
   have oneL:∀(cs ys:List AV),(∀x∈cs,x.one=true\/x=.bad)->s.dtL cs=some ys->∀y∈ys,y.one=true:=by
    intro cs
    induction cs with
    |nil=>intro ys _ hy y hm;simp only[St.dtL,yI]at hy;subst hy;simp at hm
    |cons x l ih =>
     intro ys h1 hy y hm
     simp only[St.dtL]at hy
     split at hy
     .rename_i x' y' e1 e2
      simp only[yI]at hy;subst hy
      rcases yX hm with rfl|hm
      .have h0:=h1 x (by simp)
       cases x<;>simp[St.dt,AV.one]at e1 h0<;>first | (subst e1;rfl) | (obtain⟨_,_,rfl⟩:=e1;rfl)
      .exact ih y' (fun z hz=>h1 z (by simp[hz])) e2 y hm
     .cases hy
   exact oneL cs ys h1 hys
  |fn f cs vs hl h ih =>
   intro y hy
   simp only[St.dt]at hy
   obtain⟨ys,hys,rfl⟩:=yC hy
   obtain⟨q1,q2⟩:=lst cs vs hl ih ys hys
   exact .fn f ys vs q1 q2
 intro x y v hy h
 exact main h y hy
end ops
end
end
end Go.Proofs.YtpgaganbacipnaaGreat.Eng
