/-
  Lemmas, part 2.
-/
import Derived.Below
import Derived.Orders
import Derived.Deep.Draws
import Derived.WalkKit
import Derived.OwnWalk
namespace Go.Proofs.YtehomnafaoplgaaGreat
theorem bS{b c:Type}(a:b)(f:b → Option c):(some a).bind f=f a:=rfl
theorem yA{a:Type}{l:List a}{i:Nat}(h:i<l.length):l[i]?=some l[i]:=List.getElem?_eq_getElem h
theorem yB{b:Type}{l:List b}{i:Nat}{a:b}(h:l[i]?=some a):∃h:i<l.length,l[i]=a:=List.getElem?_eq_some_iff.1 h
theorem yC{d c:Type}{f:d → c}{o:Option d}{b:c}(h:o.map f=some b):∃a,o=some a ∧ f a=b:=Option.map_eq_some_iff.1 h
theorem yD(a b:Bool):((a&&b)=true)=(a=true ∧ b=true):=Bool.and_eq_true a b
theorem yE{b:Type}{l:List b}{i:Nat}{a:b}(h:l[i]?=some a):a∈l:=List.mem_of_getElem? h
theorem yF{a b:Type}{f:a → b}{l:List a}{i:Nat}:(l.map f)[i]?=l[i]?.map f:=List.getElem?_map
theorem yG:(false=true)=False:=Bool.false_eq_true
theorem yH{b:Type}(y:b){a:b}{l:List b}(h:a∈l):a∈y::l:=List.mem_cons_of_mem y h
theorem yI{c:Type}(a b:c):(some a=some b)=(a=b):=Option.some.injEq a b
theorem yJ{b:Type}{a:b}{l:List b}:a∈a::l:=List.mem_cons_self
theorem yK{a:Type}{l m:List a}{i:Nat}(h:i<l.length):(l++m)[i]?=l[i]?:=List.getElem?_append_left h
theorem yL:(!true)=false:=rfl
theorem yM{c:Type}{a b:c}:(bif false then a else b)=b:=rfl
theorem yN{c:Type}{a b:c}:(bif true then a else b)=a:=rfl
theorem yO{p:Prop}[Decidable p]:(decide p=true)=p:=decide_eq_true_eq
theorem yR{n m:Nat}(h:Nat.beq n m=true):n=m:=Nat.eq_of_beq_eq_true h
theorem yS{a:Type}{l m:List a}{i:Nat}(h:l.length ≤ i):(l++m)[i]?=m[i-l.length]?:=List.getElem?_append_right h
theorem yT{b:Type}{a:b}{l:List b}:(a::l).length=l.length+1:=rfl
theorem yU{a:Type}{l m:List a}:(l++m).length=l.length+m.length:=List.length_append
theorem yV(n:Nat):n ≤ n:=Nat.le_refl n
theorem yX{c:Type}{a b:c}{l:List c}(h:a∈b::l):a=b ∨ a∈l:=List.mem_cons.1 h
theorem yY{d c:Type}{f:d → c}{l:List d}{b:c}(h:b∈l.map f):∃a,a∈l ∧ f a=b:=List.mem_map.1 h
theorem yZ{n:Nat}:(n:Int).toNat=n:=Int.toNat_natCast n
theorem ya{b c:Type}{f:b → List c}{a:b}{l:List b}:(a::l).flatMap f=f a++l.flatMap f:=rfl
theorem yb{a:Type}{t e:a}{_:Decidable True}:ite True t e=t:=if_true t e
theorem yc{a:Type}{t e:a}{_:Decidable False}:ite False t e=e:=if_false t e
theorem yd{c:Prop}{h:Decidable c}(q:c){a:Type}{t e:a}:ite c t e=t:=if_pos q
theorem ye{c:Prop}{h:Decidable c}(q:¬ c){a:Type}{t e:a}:ite c t e=e:=if_neg q
theorem yW{c:Type}(a:c)(l:List c)(b:c)(m:List c):(a::l=b::m)=(a=b ∧ l=m):=List.cons.injEq a l b m
theorem bB2{a c b:Type}{o:Option a}{f:a->Option c}{g:a->c->Option b}{r:b}(h:(o.bind λx=>(f x).bind (g x))=some r):∃x,o=some x/\∃y,f x=some y/\g x y=some r:=by cases o with|none=>cases h|some x=>rw[Option.bind_some]at h;cases hf:f x with|none=>rw[hf]at h;cases h|some y=>rw[hf]at h;exact⟨x,rfl,y,hf,h⟩
theorem bB3{a b d c:Type}{o:Option a}{f:a->Option b}{g:a->b->Option d}{k:a->b->d->Option c}{r:c}(h:(o.bind λx=>(f x).bind λy=>(g x y).bind (k x y))=some r):∃x,o=some x/\∃y,f x=some y/\∃z,g x y=some z/\k x y z=some r:=by obtain⟨x,i,h⟩:=bB2 (g:=λx y=>(g x y).bind (k x y)) h;obtain⟨y,e,h⟩:=h;cases hg:g x y with|none=>rw[hg]at h;cases h|some z=>rw[hg]at h;exact⟨x,i,y,e,z,hg,h⟩
end Go.Proofs.YtehomnafaoplgaaGreat
namespace Go.Proofs.YtehomnafaoplgaaGreat.Eng
open Go Go.RowKit
section
inductive Tag|rd|nw|own(i:Nat)
 deriving DecidableEq
inductive DK|b|i(k:IntKind)|s|l(ks:List DK)
inductive AV
 |bool (b:Bool)
 |int (k:IntKind) (n:Int)
 |str (l:List UInt8)
 |agg (cs:List AV)
 |tup (cs:List AV)
 |sl (t:Tag) (sz:Nat) (es:List AV)
 |nl
 |el
 |sref (k:Nat)
 |ptr (k off:Nat)
 |ept (e:AV) (off:Nat)
 |eot (e:AV) (off:Nat)
 |rpt (k i off:Nat)
 |fn (f:Nat) (cap:List AV)
 |od (i:Nat) (ks:List DK) (n:Nat)
 |op (i:Nat) (ks:List DK) (off:Nat)
 |und
 |bad
def AV.cells:AV->List AV
 |.agg cs=>cs|a=>[a]
def AV.one:AV->Bool
 |.agg _ | .tup _ | .bad | .und=>false|_=>true
def flat(es:List AV):List AV:=es.flatMap AV.cells
mutual
def AV.dead(k:Nat):AV->AV
 |.sref j=>if j=k then .bad else .sref j
 |.ptr j o=>if j=k then .bad else .ptr j o
 |.rpt j i o=>if j=k then .bad else .rpt j i o
 |.agg cs=>.agg (U7 k cs)
 |.tup cs=>.tup (U7 k cs)
 |.fn f cs=>.fn f (U7 k cs)
 |a=>a
def U7(k:Nat):List AV->List AV
 |[]=>[]
 |a::l=>AV.dead k a::U7 k l
end
theorem Yd(k:Nat):∀l,U7 k l=l.map (AV.dead k)
 |[]=>rfl|a::l=>by rw[U7,Yd k l];rfl
structure Row where
 sz:Nat
 es:List AV
 sh:Bool
structure St where
 e:Nat->AV
 bx:Nat->Option (List AV)
 rw:Nat->Option Row
 nx:Nat
 my:Nat->Prop
 kn:Nat->Prop:=λ_=>False
structure Gh where
 S:Nat->Nat->Prop
 N:Nat->Prop
 bb:Nat->Nat
 rv:Nat->Value
 ov:Nat->Option (Nat->Prop):=λ_=>none
def Gh.own(g:Gh)(b:Nat):Prop:=∃i D,g.ov i=some D/\D b
def Gh.T(g:Gh):Tag->Nat->Value->Prop
 |.rd,_,v=>∀b,v.ownBlock=some b->¬ g.own b|.nw,_,v=>∀b,v.ownBlock=some b->g.N b/\¬ g.own b|.own i,_,v=>∃D,g.ov i=some D/\∀b,v.ownBlock=some b->D b
@[simp] theorem Gh.T_of (g:Gh)(S:Nat->Nat->Prop)(bb:Nat->Nat)(rv:Nat->Value):({ S:=S,N:=g.N,bb:=bb,rv:=rv,ov:=g.ov }:Gh).T=g.T:=by funext t;cases t<;>rfl
theorem Gh.T_eq{g g':Gh}(c:g'.N=g.N)(a:g'.ov=g.ov):g'.T=g.T:=by
 have e:g'.own=g.own:=by funext b;simp_all[Gh.own]
 funext t z v;cases t<;>simp[Gh.T,e,c,a]
def TLe(S:Nat->Nat->Prop)(T T':Tag->Nat->Value->Prop):Prop :=(∀t z b o n c,(∃o',S b o')->T t z (.slice (some ⟨b,o,none⟩) n c)->T' t z (.slice (some ⟨b,o,none⟩) n c))/\∀i z v,T (.own i) z v->T' (.own i) z v
theorem TLe.refl{S:Nat->Nat->Prop}{T:Tag->Nat->Value->Prop}:TLe S T T:=⟨λ_ _ _ _ _ _ _ h=>h,λ_ _ _ h=>h⟩
theorem TLe.call{g d:Gh}{S:Nat->Nat->Prop}{B:Nat}(p:∀i,d.ov i=none)(l:∀b o,S b o->B<=b)(m:∀b,d.N b->g.N b)(k:∀b,g.own b->b<B):TLe S d.T g.T:=by
 have f:∀{i:Nat} {z:Nat} {v:Value} {q:Prop},d.T (.own i) z v->q:=fun{i z v q} h=>by obtain⟨D,j,_⟩:=h;rw[p i]at j;cases j
 refine⟨λt z b o n c e h=>?_,λi z v h=>f h⟩;obtain⟨o',e⟩:=e;have s:=l b o' e;cases t with|rd=>exact λr a q=>by cases a;have:=k _ q;simp only at this;omega|nw=>exact λr a=>by cases a;exact⟨m _ (h _ rfl).1,by grind⟩|own i=>exact f h
def Tag.isOwn:Tag->Bool
 |.own _=>true|_=>false
theorem Gh.T_cut{g:Gh}{t:Tag}(a:t.isOwn=false){z b o n c o' n' c':Nat}(h:g.T t z (.slice (some ⟨b,o,none⟩) n c)):g.T t z (.slice (some ⟨b,o',none⟩) n' c'):=by cases t with|rd=>exact h|nw=>exact h|own i=>cases a
theorem Gh.T_to_rd{g:Gh}{t:Tag}(d:t.isOwn=false){z b o n c z' o' n' c':Nat}(h:g.T t z (.slice (some ⟨b,o,none⟩) n c)):g.T .rd z' (.slice (some ⟨b,o',none⟩) n' c'):=by cases t with|rd=>exact h|nw=>exact λe a=>(h e a).2|own i=>cases d
def Gh.T1(g:Gh):Tag->Nat->Value->Prop:=λt z v=>t=.rd\/g.T t z v
theorem TLe.one{S:Nat->Nat->Prop}{g:Gh}:TLe S g.T g.T1:=⟨λ_ _ _ _ _ _ _ h=>.inr h,λ_ _ _ h=>.inr h⟩
theorem Gh.T_rd{g:Gh}(h:∀i,g.ov i=none)(z:Nat)(v:Value):g.T .rd z v:=λb _ q=>by
 obtain⟨i,D,e,_⟩:=q
 rw[h i]at e;cases e
theorem TLe.of{S:Nat->Nat->Prop}{g g':Gh}(d:∀b,g.N b->g'.N b)(f:g'.ov=g.ov):TLe S g.T g'.T:=by
 have e:∀b,g'.own b↔g.own b:=by simp_all[Gh.own]
 refine⟨λt z b o n c _ h=>?_,by grind[Gh.T]⟩;cases t with|rd=>exact λb a=>by rw[e];exact h b a|nw=>exact λb a=>⟨d b (h b a).1,by rw[e];exact(h b a).2⟩|own i=>grind[Gh.T]
inductive Rd(w:World)(S:Nat->Nat->Prop)(T:Tag->Nat->Value->Prop):AV->Value->Prop
 |bool (b:Bool):Rd w S T (.bool b) (.bool b)
 |int (k:IntKind) (n:Int):Rd w S T (.int k n) (.int k n)
 |str (l:List UInt8):Rd w S T (.str l) (.string ⟨l.toArray⟩)
 |nl:Rd w S T .nl (.slice none 0 0)
 |agg (cs:List AV) (vs:List Value) (hl:cs.length=vs.length) (h1:∀a∈cs,a.one=true)
   (h:∀(i:Nat) (a:AV) (v:Value),cs[i]?=some a->vs[i]?=some v->Rd w S T a v):Rd w S T (.agg cs) (.agg vs.toArray)
 |fn (f:Nat) (cs:List AV) (vs:List Value) (hl:cs.length=vs.length)
   (h:∀(i:Nat) (a:AV) (v:Value),cs[i]?=some a->vs[i]?=some v->Rd w S T a v):Rd w S T (.fn f cs) (.func (.func f) #[] vs.toArray)
 |sl0 (t:Tag) (sz:Nat) (a:Option Addr) (c:Nat) (ho:∀i,t=.own i->True):Rd w S T (.sl t sz []) (.slice a 0 c)
 |sl (t:Tag) (sz:Nat) (es:List AV) (b o c:Nat) (cv:Nat->Value) (hc:es.length<=c) (hm:c<=maxLen)
   (hs:∀e∈es,e.cells.length=sz)
   (hw:∀(j:Nat) (a:AV),(flat es)[j]?=some a->w.cell? ⟨b,o+j,none⟩=some (cv j)/\S b (o+j)/\a.one=true/\T t sz (.slice (some ⟨b,o,none⟩) es.length c))
   (ho:∀i,t=.own i->True)
   (h:∀(j:Nat) (a:AV),(flat es)[j]?=some a->Rd w S T a (cv j)) :
   Rd w S T (.sl t sz es) (.slice (some ⟨b,o,none⟩) es.length c)
 |ept (e:AV) (off b o:Nat) (cv:Nat->Value) (hw:∀(j:Nat) (a:AV),e.cells[j]?=some a->w.cell? ⟨b,o+j,none⟩=some (cv j)/\S b (o+j)/\a.one=true/\T .rd 0 (.slice (some ⟨b,0,none⟩) 0 0))
   (h:∀(j:Nat) (a:AV),e.cells[j]?=some a->Rd w S T a (cv j)):Rd w S T (.ept e off) (.pointer (some ⟨b,o+off,none⟩))
theorem Rd.mono{w w':World}{S S':Nat->Nat->Prop}{T D:Tag->Nat->Value->Prop}(C:∀b o,S b o->S' b o)(B:TLe S T D)(A:∀b o,S b o->w'.cell? ⟨b,o,none⟩=w.cell? ⟨b,o,none⟩){a:AV}{v:Value}(h:Rd w S T a v):Rd w' S' D a v:=by induction h with|bool b=>exact .bool b|int k n=>exact .int k n|str l=>exact .str l|nl=>exact .nl|agg cs m r i _ d=>exact .agg cs m r i d|fn f cs m r _ d=>exact .fn f cs m r d|sl0 t p a c F=>exact .sl0 t p a c λ_ _=>trivial|sl t p es b o c z u G E q F _ d =>exact .sl t p es b o c z u G E (λj a s=>by obtain⟨i,g,y,x⟩:=q j a s;exact⟨by rw[A _ _ g];exact i,C _ _ g,y,B.1 _ _ _ _ _ _ ⟨_,g⟩ x⟩) (by omega) d|ept e off b o z q _ d=>exact .ept e off b o z (λj a s=>by obtain⟨i,g,y,x⟩:=q j a s;exact⟨by rw[A _ _ g];exact i,C _ _ g,y,B.1 _ _ _ _ _ _ ⟨_,g⟩ x⟩) d
def UnfB(w:World)(b:Nat):Prop:=∀o v,w.cell? ⟨b,o,none⟩=some v->w.frozen? ⟨b,o,none⟩=false
theorem UnfB.block{w w':World}{b:Nat}(h:w'.heap[b]?=w.heap[b]?)(u:UnfB w b):UnfB w' b:=λo v a=>by
 rw[World.cell?_of_block h]at a
 have:=u o v a
 grind[World.frozen?]
theorem UnfB.plain{w:World}{b:Nat}{cs:Array Value}{a:TypeId}(h:w.heap[b]?=some (.cells cs a (0,0))):UnfB w b:=λo v _=>by simp[World.frozen?,h]
def KRel(v v':Value):Prop:=v=v'\/(∃k a b,v=.int k a/\v'=.int k b)\/(∃a b,v=.bool a/\v'=.bool b)\/(∃a b,v=.string a/\v'=.string b)
inductive Od(w:World)(D:Nat->Prop):DK->Value->Prop
 |b (x:Bool):Od w D .b (.bool x)
 |i (k:IntKind) (n:Int):Od w D (.i k) (.int k n)
 |s (x:ByteArray):Od w D .s (.string x)
 |l0 (ks:List DK) (a:Option Addr) (c:Nat):Od w D (.l ks) (.slice a 0 c)
 |l (ks:List DK) (b o n c:Nat) (cv:Nat->Value) (hD:D b) (hn:n<=1048576) (hc:n<=c) (hm:c<=maxLen) (hw:∀j,j<n*ks.length->w.cell? ⟨b,o+j,none⟩=some (cv j))
   (h:∀(j:Nat) (k:DK),j<n*ks.length->ks[j % ks.length]?=some k->Od w D k (cv j)):Od w D (.l ks) (.slice (some ⟨b,o,none⟩) n c)
theorem Od.kinds{w w':World}{D:Nat->Prop}(u:∀b o v,D b->w.cell? ⟨b,o,none⟩=some v->∃v',w'.cell? ⟨b,o,none⟩=some v'/\KRel v v'){k:DK}{v:Value}(h:Od w D k v):∀{v':Value},KRel v v'->Od w' D k v':=by
 induction h with
 |b x =>
  rintro v' (rfl|⟨_,_,_,h,_⟩|⟨_,y,h,rfl⟩|⟨_,_,h,_⟩)
  .exact .b x
  .cases h
  .exact .b y
  cases h
 |i k n =>
  rintro v' (rfl|⟨_,_,m,h,rfl⟩|⟨_,_,h,_⟩|⟨_,_,h,_⟩)
  .exact .i k n
  .cases h;exact .i k m
  .cases h
  cases h
 |s x =>
  rintro v' (rfl|⟨_,_,_,h,_⟩|⟨_,_,h,_⟩|⟨_,y,h,rfl⟩)
  .exact .s x
  .cases h
  .cases h
  exact .s y
 |l0 ks a c =>
  rintro v' (rfl|⟨_,_,_,h,_⟩|⟨_,_,h,_⟩|⟨_,_,h,_⟩)
  .exact .l0 ks a c
  .cases h
  .cases h
  cases h
 |l ks b o n c z q d p e t h r =>
  rintro v' (rfl|⟨_,_,_,h,_⟩|⟨_,_,h,_⟩|⟨_,_,h,_⟩)
  .refine .l ks b o n c (λj=>(w'.cell? ⟨b,o+j,none⟩).getD undef) q d p e (λj g=>?_) λj k g f=>?_
   .grind
   grind
  .cases h
  .cases h
  cases h
inductive Gv(w:World)(g:Gh)(s:St):AV->Value->Prop
 |data (a:AV) (v:Value) (h:Rd w g.S g.T a v):Gv w g s a v
 |bad (v:Value):Gv w g s .bad v
 |und:Gv w g s .und undef
 |el (a:Option Addr):Gv w g s .el (.slice a 0 0)
 |sref (k:Nat) (v:Value) (h1:v.oneCell'=true) (h:∀r,s.rw k=some r->v=g.rv k):Gv w g s (.sref k) v
 |ptr (k off:Nat) (v:Value) (h1:v.oneCell'=true) (h:∀cs,s.bx k=some cs->v=.pointer (some ⟨g.bb k,off,none⟩)):Gv w g s (.ptr k off) v
 |rpt (k i off:Nat) (v:Value) (h1:v.oneCell'=true)
   (h:∀r,s.rw k=some r->∃b,(g.rv k).ownBlock=some b/\v=.pointer (some ⟨b,i*r.sz+off,none⟩)):Gv w g s (.rpt k i off) v
 |eot (e:AV) (off b o:Nat) (cv:Nat->Value) (hw:∀(j:Nat) (a:AV),e.cells[j]?=some a->w.cell? ⟨b,o+j,none⟩=some (cv j)/\g.S b (o+j)/\a.one=true)
   (h:∀(j:Nat) (a:AV),e.cells[j]?=some a->Rd w g.S g.T a (cv j)):Gv w g s (.eot e off) (.pointer (some ⟨b,o+off,none⟩))
 |od (i:Nat) (ks:List DK) (a:Option Addr) (n c:Nat) (D:Nat->Prop) (hD:g.ov i=some D) (h:Od w D (.l ks) (.slice a n c)):Gv w g s (.od i ks n) (.slice a n c)
 |op (i:Nat) (ks:List DK) (off b o:Nat) (D:Nat->Prop) (cv:Nat->Value) (hD:g.ov i=some D) (hb:D b) (hw:∀j,j<ks.length->w.cell? ⟨b,o+j,none⟩=some (cv j)) (h:∀(j:Nat) (k:DK),ks[j]?=some k->Od w D k (cv j)):Gv w g s (.op i ks off) (.pointer (some ⟨b,o+off,none⟩))
 |agg (cs:List AV) (vs:List Value) (hl:cs.length=vs.length) (h1:∀a∈cs,a.one=true\/a=.bad)
   (h:∀(i:Nat) (a:AV) (v:Value),cs[i]?=some a->vs[i]?=some v->Gv w g s a v):Gv w g s (.agg cs) (.agg vs.toArray)
 |tup (cs:List AV) (vs:List Value) (hl:cs.length=vs.length)
   (h:∀(i:Nat) (a:AV) (v:Value),cs[i]?=some a->vs[i]?=some v->Gv w g s a v):Gv w g s (.tup cs) (.tuple vs.toArray)
 |fn (f:Nat) (cs:List AV) (vs:List Value) (hl:cs.length=vs.length)
   (h:∀(i:Nat) (a:AV) (v:Value),cs[i]?=some a->vs[i]?=some v->Gv w g s a v):Gv w g s (.fn f cs) (.func (.func f) #[] vs.toArray)
structure Turn(p:Nat->Prop)(w w':World)(g g':Gh)(s s':St):Prop where
 S:∀b o,g.S b o->g'.S b o
 N:∀b,g.N b->g'.N b
 T:TLe g.S g.T g'.T
 cell:∀b o,g.S b o->w'.cell? ⟨b,o,none⟩=w.cell? ⟨b,o,none⟩
 rw:∀k,p k->∀r',s'.rw k=some r'->∃r,s.rw k=some r/\r'.sz=r.sz/\g'.rv k=g.rv k
 bx:∀k,p k->∀cs',s'.bx k=some cs'->∃cs,s.bx k=some cs/\g'.bb k=g.bb k
 ov:∀i D,g.ov i=some D->g'.ov i=some D
 kd:∀b o v,g.own b->w.cell? ⟨b,o,none⟩=some v->∃v',w'.cell? ⟨b,o,none⟩=some v'/\KRel v v'
theorem KRel.refl(v:Value):KRel v v:=.inl rfl
theorem Y1E{w:World}{g:Gh}:∀(b o:Nat)(v:Value),g.own b->w.cell? ⟨b,o,none⟩=some v->∃a,w.cell? ⟨b,o,none⟩=some a/\KRel v a:=λ_ _ v _ h=>⟨v,h,.refl v⟩
theorem O1e{w w':World}{g:Gh}(c:∀b,g.own b->w'.heap[b]?=w.heap[b]?):∀(b o:Nat)(v:Value),g.own b->w.cell? ⟨b,o,none⟩=some v->∃a,w'.cell? ⟨b,o,none⟩=some a/\KRel v a :=λb _ v d h=>⟨v,by rw[World.cell?_of_block (c b d)];exact h,.refl v⟩
theorem Od.turn{w w':World}{g g':Gh}{s s':St}{p:Nat->Prop}(T:Turn p w w' g g' s s'){i:Nat}{D:Nat->Prop}(e:g.ov i=some D){k:DK}{v c:Value}(h:Od w D k v)(a:KRel v c):Od w' D k c :=h.kinds (λb o v d a=>T.kd b o v ⟨i,D,e,d⟩ a) a
theorem L28{w w':World}{g g':Gh}{s s':St}{p:Nat->Prop}(T:Turn p w w' g g' s s'){i:Nat}{ks:List DK}{off b o:Nat}{D:Nat->Prop}{l:Nat->Value}(a:g.ov i=some D)(c:D b)(e:∀j,j<ks.length->w.cell? ⟨b,o+j,none⟩=some (l j))(h:∀(j:Nat)(k:DK),ks[j]?=some k->Od w D k (l j)):Gv w' g' s' (.op i ks off) (.pointer (some ⟨b,o+off,none⟩)):=by
 refine .op i ks off b o D (λj=>(w'.cell? ⟨b,o+j,none⟩).getD undef) (T.ov i D a) c (λj n=>?_) λj k f=>?_
 .obtain⟨m,d,_⟩:=T.kd b (o+j) _ ⟨i,D,a,c⟩ (e j n);rw[d];rfl
 obtain⟨m,d,q⟩:=T.kd b (o+j) _ ⟨i,D,a,c⟩ (e j (yB f).1);rw[d];exact(h j k f).turn T a q
theorem Gv.turn{w w':World}{g g':Gh}{s s':St}(T:Turn (λ_=>True) w w' g g' s s'){a:AV}{v:Value}(h:Gv w g s a v):Gv w' g' s' a v:=by
 induction h with
 |data a v h=>exact .data a v (h.mono T.S T.T T.cell)|bad v=>exact .bad v|und=>exact .und|el a=>exact .el a|sref k v d h=>exact .sref k v d λr' l=>by obtain⟨r,y,_,t⟩:=T.rw k trivial r' l;rw[t];exact h r y|ptr k off v d h=>exact .ptr k off v d λc' A=>by obtain⟨c,F,t⟩:=T.bx k trivial c' A;rw[t];exact h c F|rpt k i off v d h=>exact .rpt k i off v d λr' l=>by obtain⟨r,y,E,t⟩:=T.rw k trivial r' l;rw[t,E];exact h r y|eot e off b o C x h =>exact .eot e off b o C (λj a z=>by obtain⟨d,B,H⟩:=x j a z;exact⟨by rw[T.cell _ _ B];exact d,T.S _ _ B,H⟩) (λj a z=>(h j a z).mono T.S T.T T.cell)|od i ks a n c D u h=>exact .od i ks a n c D (T.ov i D u) (h.turn T u (.refl _))
 |op i ks off b o D C u G x h=>exact L28 T u G x h|agg cs m q d _ p=>exact .agg cs m q d p|tup cs m q _ p=>exact .tup cs m q p|fn f cs m q _ p=>exact .fn f cs m q p
theorem Rd.one_dead{w:World}{S:Nat->Nat->Prop}{T:Tag->Nat->Value->Prop}(k:Nat){a:AV}{v:Value}(h:Rd w S T a v)(b:a.one=true):(a.dead k).one=true:=by cases h<;>simp_all [AV.dead,AV.one]
theorem Rd.dead{w:World}{S:Nat->Nat->Prop}{T:Tag->Nat->Value->Prop}{k:Nat}{a:AV}{v:Value}(h:Rd w S T a v):Rd w S T (a.dead k) v:=by
 induction h with
 |bool b=>exact .bool b|int k n=>exact .int k n|str l=>exact .str l|nl=>exact .nl|sl0 t j a c y=>exact .sl0 t j a c y|sl t j es b o c s r A x m z h _=>exact .sl t j es b o c s r A x m z h|ept e off b o s m h _=>exact .ept e off b o s m h|agg cs g q C h u =>
  rw[AV.dead,Yd];refine .agg _ g (by simpa using q) ?_ ?_
  .intro a B;obtain⟨E,d,rfl⟩:=yY B;obtain⟨i,D,rfl⟩:=List.getElem_of_mem d;have p:i<g.length:=by omega
   exact(h i _ _ (by simp) (yA p)).one_dead k (C _ d)
  grind
 |fn f cs g q h u =>rw[AV.dead,Yd];refine .fn f _ g (by simpa using q) ?_;grind
theorem one_dead(k:Nat){a:AV}(h:a.one=true\/a=.bad):(a.dead k).one=true\/a.dead k=.bad:=by
 rcases h with h|rfl
 .cases a with|sref j=>rw[AV.dead];split<;>simp[AV.one]|ptr j o=>rw[AV.dead];split<;>simp[AV.one]|rpt j i o=>rw[AV.dead];split<;>simp[AV.one]|_=>simp[AV.dead,AV.one]at h ⊢
 right;rfl
theorem Gv.turn_dead{w w':World}{g g':Gh}{s s':St}{k:Nat}(T:Turn (·≠k) w w' g g' s s'){a:AV}{v:Value}(h:Gv w g s a v):Gv w' g' s' (a.dead k) v:=by
 have y:∀(cs:List AV) (d:List Value),(∀(i:Nat) (a:AV) (v:Value),cs[i]?=some a->d[i]?=some v->Gv w' g' s' (a.dead k) v) -> ∀(i:Nat) (a:AV) (v:Value),(cs.map (AV.dead k))[i]?=some a->d[i]?=some v->Gv w' g' s' a v:=by grind
 induction h with
 |data a v h=>exact .data _ v ((h.mono T.S T.T T.cell).dead)|bad v=>exact .bad v|und=>exact .und|el a=>exact .el a|sref j v m h =>
  rw[AV.dead];split
  .exact .bad v
  rename_i l;exact .sref j v m λr' p=>by obtain⟨r,A,_,u⟩:=T.rw j l r' p;rw[u];exact h r A
 |ptr j off v m h =>
  rw[AV.dead];split
  .exact .bad v
  rename_i l;exact .ptr j off v m λc' B=>by obtain⟨c,G,u⟩:=T.bx j l c' B;rw[u];exact h c G
 |rpt j i off v m h =>
  rw[AV.dead];split
  .exact .bad v
  rename_i l;exact .rpt j i off v m λr' p=>by obtain⟨r,A,F,u⟩:=T.rw j l r' p;rw[u,F];exact h r A
 |eot e off b o E z h =>exact .eot e off b o E (λj a l=>by obtain⟨m,C,K⟩:=z j a l;exact⟨by rw[T.cell _ _ C];exact m,T.S _ _ C,K⟩) (λj a l=>(h j a l).mono T.S T.T T.cell)|od i ks a n c D x h=>exact .od i ks a n c D (T.ov i D x) (h.turn T x (.refl _))|op i ks off b o D E x H z h=>exact L28 T x H z h|agg cs d t m _ q =>rw[AV.dead,Yd];refine .agg _ d (by simpa using t) ?_ (y cs d q);intro a J;obtain⟨L,I,rfl⟩:=yY J;grind[one_dead]|tup cs d t _ q=>rw[AV.dead,Yd];exact .tup _ d (by simpa using t) (y cs d q)|fn f cs d t _ q=>rw[AV.dead,Yd];exact .fn f _ d (by simpa using t) (y cs d q)
structure Cx where
 nt:Nat
 X:Nat->Prop
 Y:Nat->Prop
 S0:Nat->Nat->Prop
 w0:World
 rv0:Nat->Value
 bb0:Nat->Nat
 ntb:nt<=900000
 n0:Nat:=0
 my:Nat->Prop:=λ_=>True
 ov0:Nat->Option (Nat->Prop):=λ_=>none
 D:Nat->Prop:=λ_=>False
 s0:∀b o,S0 b o->b<w0.heap.size
 sx:∀b o,S0 b o->¬ X b
structure Frm(c:Cx)(w:World):Prop where
 os:w.os=c.w0.os
 tape:w.tape=c.w0.tape
 output:w.output=c.w0.output
 size:c.w0.heap.size<=w.heap.size
 block:∀k,k<c.w0.heap.size->¬ c.X k->w.heap[k]?=c.w0.heap[k]?
def Q01(w:World)(g:Gh)(s:St)(b:Nat)(cs:List AV):Prop :=
 ∃(vs:List Value) (ty:TypeId),w.heap[b]?=some (.cells vs.toArray ty (0,0))/\vs.length=cs.length /\
  ∀(i:Nat) (a:AV) (v:Value),cs[i]?=some a->vs[i]?=some v->(a.one=true\/a=.bad)/\v.oneCell'=true/\Gv w g s a v
def QU(w:World)(S:Nat->Nat->Prop)(T:Tag->Nat->Value->Prop)(r:Row)(v:Value):Prop :=
 ∃(xs:List Value) (ty:TypeId),w.ownsRow 0 ty r.sz v r.es.length xs/\(∀e∈r.es,e.cells.length=r.sz) /\
  (∀(j:Nat) (a:AV) (u:Value),(flat r.es)[j]?=some a->xs[j]?=some u->a.one=true/\u.oneCell'=true/\Rd w S T a u)
def Wr(c:Cx)(g:Gh)(b:Nat):Prop:=g.N b/\(b<c.w0.heap.size->c.X b)
structure OwnH(g:Gh)(s:St)(w:World):Prop where
 lt:∀i D,g.ov i=some D->i<s.nx
 own:∀i D,g.ov i=some D->∀b,D b->b<w.heap.size/\g.N b
 dis:∀i j D D',g.ov i=some D->g.ov j=some D'->i≠j->∀b,D b->¬ D' b
 bx:∀k cs,s.bx k=some cs->¬ g.own (g.bb k)
 rw:∀k r,s.rw k=some r->∀b,(g.rv k).ownBlock=some b->¬ g.own b
 uf:∀i D,g.ov i=some D->∀b,D b->UnfB w b
structure OwnI(c:Cx)(g:Gh)(s:St)(w:World):Prop extends OwnH g s w where
 my:∀i D,g.ov i=some D->s.my i->∀b,D b->Wr c g b
 mm:s.my=c.my
 n0:c.n0<=s.nx
 old:∀i,i<c.n0->g.ov i=c.ov0 i
 dd:∀b,c.D b->g.own b
 kn:∀i,s.kn i->i<s.nx/\∀D,g.ov i=some D->∀b,D b->c.D b
 dk:∀b o v,c.D b->c.w0.cell? ⟨b,o,none⟩=some v->∃v',w.cell? ⟨b,o,none⟩=some v'/\KRel v v'
theorem OwnH.size{g:Gh}{s:St}{w:World}(O:OwnH g s w){b:Nat}(h:g.own b):b<w.heap.size:=by obtain⟨i,D,c,a⟩:=h;exact(O.own i D c b a).1
theorem OwnI.size{c:Cx}{g:Gh}{s:St}{w:World}(O:OwnI c g s w){b:Nat}(h:g.own b):b<w.heap.size:=O.toOwnH.size h
theorem OwnH.turn{g g':Gh}{s s':St}{w w':World}(O:OwnH g s w)(c:g'.ov=g.ov)(t:∀b,g.N b->g'.N b)(l:s.nx<=s'.nx)(d:∀b,g.own b->w'.heap[b]?=w.heap[b]?)
  (a:∀k cs,s'.bx k=some cs->¬ g.own (g'.bb k)) (f:∀k r,s'.rw k=some r->∀b,(g'.rv k).ownBlock=some b->¬ g.own b):OwnH g' s' w' where
 lt:=λi D h=>Nat.lt_of_lt_of_le (O.lt i D (by rw[← c];exact h)) l
 own:=λi D h b a=>by
  rw[c]at h
  have m:=O.own i D h b a
  have e:=d b ⟨i,D,h,a⟩
  rw[Array.getElem?_eq_getElem m.1]at e
  grind
 dis:=λi j D p o n=>O.dis i j D p (by rw[← c];exact o) (by rw[← c];exact n)
 bx:=λk cs h q=>a k cs h (by simp_all[Gh.own])
 rw:=λk r h b e q=>f k r h b e (by simp_all[Gh.own])
 uf:=λi D h b a=>by
  rw[c]at h
  exact(O.uf i D h b a).block (d b ⟨i,D,h,a⟩)
theorem OwnI.turn{c:Cx}{g g':Gh}{s s':St}{w w':World}(O:OwnI c g s w)(e:g'.ov=g.ov)(n:∀b,g.N b->g'.N b)(j:s.nx<=s'.nx)(m:∀b,g.own b->w'.heap[b]?=w.heap[b]?)
  (a:∀k cs,s'.bx k=some cs->¬ g.own (g'.bb k)) (u:∀k r,s'.rw k=some r->∀b,(g'.rv k).ownBlock=some b->¬ g.own b) (l:s'.my=s.my:=by rfl) (f:∀i,s'.kn i->s.kn i:=by first|exact λ_ h=>h|exact λ_ h=>(show False from h).elim):OwnI c g' s' w' where
 toOwnH:=O.toOwnH.turn e n j m a u
 my:=λi D h d b a=>by
  have q:=O.my i D (by rw[← e];exact h) (by rw[← l];exact d) b a
  exact⟨n b q.1,q.2⟩
 mm:=l.trans O.mm
 n0:=Nat.le_trans O.n0 j
 old:=λi d=>by rw[e];exact O.old i d
 dd:=λb a=>by simpa only[Gh.own,e]using O.dd b a
 kn:=λi d=>⟨Nat.lt_of_lt_of_le (O.kn i (f i d)).1 j,λD h=>(O.kn i (f i d)).2 D (by rw[← e];exact h)⟩
 dk:=λb o v a t=>by
  obtain⟨p,y,x⟩:=O.dk b o v a t
  exact⟨p,by rw[World.cell?_of_block (m b (O.dd b a))];exact y,x⟩
theorem OwnH.none{g:Gh}{s:St}{w:World}(h:∀i,g.ov i=none):OwnH g s w where
 lt:=by grind
 own:=by grind
 dis:=by grind
 bx:=λk cs _ q=>by obtain⟨i,D,e,_⟩:=q;rw[h i]at e;cases e
 rw:=λk r _ b _ q=>by obtain⟨i,D,e,_⟩:=q;rw[h i]at e;cases e
 uf:=by grind
structure Inv(c:Cx)(g:Gh)(s:St)(a:Act)(w:World):Prop where
 defers:a.defers=[]
 nt:a.tmps.size=c.nt
 fr:Frm c w
 tm:∀i,Gv w g s (s.e i) (a.tmps.getD i undef)
 bxs:∀k cs,s.bx k=some cs->Q01 w g s (g.bb k) cs
 bxn:∀k cs,s.bx k=some cs->Wr c g (g.bb k)/\∀o,¬ g.S (g.bb k) o
 rws:∀k r,s.rw k=some r->QU w g.S g.T r (g.rv k)
 rwn:∀k r,s.rw k=some r->∀b,(g.rv k).ownBlock=some b->Wr c g b/\∀o,g.S b o->r.sh=true/\o<r.es.length*r.sz
 dbb:∀k k' cs cs',s.bx k=some cs->s.bx k'=some cs'->k≠k'->g.bb k≠g.bb k'
 dbr:∀k k' cs r,s.bx k=some cs->s.rw k'=some r->(g.rv k').ownBlock≠some (g.bb k)
 drr:∀k k' r r',s.rw k=some r->s.rw k'=some r'->k≠k'->∀b,(g.rv k).ownBlock=some b->(g.rv k').ownBlock≠some b
 sw:∀b o,g.S b o->b<w.heap.size
 nn:∀b,c.w0.heap.size<=b->g.N b
 nx:∀b,g.N b->b<c.w0.heap.size->c.Y b
 fix:∀k,1000000000<=k->g.rv k=c.rv0 k/\g.bb k=c.bb0 k
 sm:∀b o,c.S0 b o->g.S b o
 sb:∀b o,g.S b o->c.S0 b o\/c.w0.heap.size<=b\/c.X b
 ow:OwnI c g s w
 uf:∀b o,g.S b o->(c.w0.heap.size<=b\/c.X b)->UnfB w b
 sd:∀b o,g.S b o->¬ c.D b
theorem U0E{w:World}{g:Gh}{s:St}{b:Nat}{cs:List AV}(h:Q01 w g s b cs):b<w.heap.size:=by obtain⟨a,c,d,_⟩:=h;grind
theorem O06{w:World}{S:Nat->Nat->Prop}{T:Tag->Nat->Value->Prop}{r:Row}{v:Value}(h:QU w S T r v){b:Nat}(c:v.ownBlock=some b):b<w.heap.size:=by obtain⟨xs,d,a,_⟩:=h;exact(a.lt b c).2
structure Vac(c:Cx)(g:Gh)(s:St)(b:Nat):Prop where
 S:∀o,¬ g.S b o
 bx:∀k cs,s.bx k=some cs->g.bb k≠b
 rw:∀k r,s.rw k=some r->(g.rv k).ownBlock≠some b
 N:Wr c g b
 O:¬ g.own b
section
variable{c:Cx}{g:Gh}{s:St}{a:Act}{w:World}
theorem Inv.vac(I:Inv c g s a w){b:Nat}(h:w.heap.size<=b):Vac c g s b where
 S:=λo f=>by have:=I.sw b o f;omega
 bx:=λk cs d e=>by have:=U0E (I.bxs k cs d);omega
 rw:=λk r d e=>by have:=O06 (I.rws k r d) e;omega
 N:=⟨I.nn b (Nat.le_trans I.fr.size h),λi=>by have:=I.fr.size;omega⟩
 O:=λq=>by have:=I.ow.size q;omega
theorem Z2k{t:Array Value}{d i:Nat}{v:Value}(a:d<t.size):(t.setIfInBounds d v).getD i undef=if i=d then v else t.getD i undef:=by simp[Array.getD_eq_getD_getElem?,Array.getElem?_setIfInBounds];grind
def upd(e:Nat->AV)(i:Nat)(v:AV):Nat->AV:=λj=>if j=i then v else e j
def St.set(s:St)(d:Nat)(v:AV):St:={ s with e:=upd s.e d v }
theorem Y26{w':World}{g:Gh}{s s':St}(e:s'.bx=s.bx)(d:s'.rw=s.rw)(c:∀b o,g.S b o->w'.cell? ⟨b,o,none⟩=w.cell? ⟨b,o,none⟩)(a:∀b o v,g.own b->w.cell? ⟨b,o,none⟩=some v->∃v',w'.cell? ⟨b,o,none⟩=some v'/\KRel v v'):Turn (λ_=>True) w w' g g s s' where
 ov:=λ_ _ h=>h
 kd:=a
 S:=λ_ _ h=>h
 N:=λ_ h=>h
 T:=TLe.refl
 cell:=c
 rw:=by grind
 bx:=by grind
theorem Inv.put(I:Inv c g s a w){d:Nat}(l:d<c.nt){x:AV}{v:Value}(b:Gv w g s x v):Inv c g (s.set d x) (a.put (some d) v) w:=by
 have T:Turn (λ_=>True) w w g g s (s.set d x):=Y26 rfl rfl (by simp) Y1E;refine⟨I.defers,by simp[Act.put,I.nt],I.fr,?_,?_,I.bxn,I.rws,I.rwn,I.dbb,I.dbr,I.drr,I.sw,I.nn,I.nx,I.fix,I.sm,I.sb,I.ow.turn rfl (λ_ h=>h) (yV _) (λ_ _=>rfl) I.ow.bx I.ow.rw,I.uf,I.sd⟩
 .intro i;simp only[Act.put,St.set,upd];rw[Z2k (by rw[I.nt];exact l)];split
  .exact b.turn T
  exact(I.tm i).turn T
 intro k cs j;obtain⟨e,f,p,o,n⟩:=I.bxs k cs j;exact⟨e,f,p,o,λi a v m b=>⟨(by grind),(by grind),(n i a v m b).2.2.turn T⟩⟩
theorem Inv.grow(I:Inv c g s a w){w':World}{S':Nat->Nat->Prop}(G:w'.os=w.os)(l:w'.tape=w.tape)(z:w'.output=w.output)(y:w.heap.size<=w'.heap.size)(d:∀k,k<w.heap.size->w'.heap[k]?=w.heap[k]?)(A:∀b o,g.S b o->S' b o)(f:∀b o,S' b o->g.S b o\/(w.heap.size<=b/\b<w'.heap.size))(E:∀b o,S' b o->g.S b o\/UnfB w' b:=by exact λ_ _ h=>.inl h):Inv c { g with S:=S' } s a w':=by
 have T:Turn (λ_=>True) w w' g { g with S:=S' } s s := ⟨A,λ_ h=>h,TLe.of (λ_ h=>h) rfl,λb o m=>World.cell?_of_block (d b (I.sw b o m)),λk _ r h=>⟨r,h,rfl,rfl⟩,λk _ r h=>⟨r,h,rfl⟩,λ_ _ h=>h,O1e λb p=>d b (I.ow.size p)⟩;refine⟨I.defers,I.nt,⟨G.trans I.fr.os,l.trans I.fr.tape,z.trans I.fr.output,Nat.le_trans I.fr.size y,?_⟩,λi=>(I.tm i).turn T,?_,?_,?_,?_,I.dbb,I.dbr,I.drr,?_,I.nn,I.nx,I.fix,λb o h=>A b o (I.sm b o h),λb o h=>(f b o h).elim (I.sb b o) (λh=>.inr (.inl (Nat.le_trans I.fr.size h.1))),I.ow.turn rfl (λ_ h=>h) (yV _) (λb p=>d b (I.ow.size p)) I.ow.bx I.ow.rw,λb o h q=>(E b o h).elim (λh=>(I.uf b o h q).block (d b (I.sw b o h))) id,λb o h q=>(f b o h).elim (λh=>I.sd b o h q) λh=>by have:=I.ow.size (I.ow.dd b q);omega⟩
 .intro k e M;rw[d k (Nat.lt_of_lt_of_le e I.fr.size)];exact I.fr.block k e M
 .intro k cs e;have n:=U0E (I.bxs k cs e);obtain⟨L,C,B,H,x⟩:=I.bxs k cs e;exact⟨L,C,by rw[d _ n];exact B,H,λi a v t D=>⟨(x i a v t D).1,(x i a v t D).2.1,(x i a v t D).2.2.turn T⟩⟩
 .intro k cs e;have n:=U0E (I.bxs k cs e);refine⟨(I.bxn k cs e).1,λo m=>?_⟩;rcases f _ _ m with h|h
  .exact(I.bxn k cs e).2 o h
  have:=h.1;simp only at this;omega
 .intro k r e;obtain⟨xs,C,B,H,x⟩:=I.rws k r e;refine⟨xs,C,⟨B.1,?_⟩,H,λj a u t F=>⟨(x j a u t F).1,(x j a u t F).2.1,(x j a u t F).2.2.mono T.S T.T T.cell⟩⟩;rcases B.2 with h|⟨b,cap,J,K,P,O,N⟩
  .exact .inl h
  exact .inr ⟨b,cap,J,K,P,by rw[d b ((B.lt b (by simp[K];rfl)).2)];exact O,N⟩
 .intro k r e b p;have n:=O06 (I.rws k r e) p;refine⟨(I.rwn k r e b p).1,λo m=>?_⟩;rcases f _ _ m with h|h
  .exact(I.rwn k r e b p).2 o h
  omega
 intro b o m;rcases f _ _ m with h|h
 .exact Nat.lt_of_lt_of_le (I.sw b o h) y
 exact h.2
theorem Inv.drawn(I:Inv c g s a w)(n:Nat):Inv c g s a { w with drawn:=n } :=I.grow (w':={ w with drawn:=n }) (S':=g.S) rfl rfl rfl (yV _) (λ_ _=>rfl) (λ_ _ h=>h) (by grind)
def St.kill(s:St)(k:Nat):St :={ e:=λi=>(s.e i).dead k,bx:=λj=>if j=k then none else(s.bx j).map (U7 k),rw:=λj=>if j=k then none else s.rw j,nx:=s.nx,my:=s.my,kn:=s.kn }
theorem M8{k j:Nat}{cs:List AV}(h:(s.kill k).bx j=some cs):j≠k/\∃a,s.bx j=some a/\cs=U7 k a:=by
 simp only[St.kill]at h;split at h
 .cases h
 rename_i b;obtain⟨c0,c,rfl⟩:=yC h;grind
theorem Xc{k j:Nat}{r:Row}(h:(s.kill k).rw j=some r):j≠k/\s.rw j=some r:=by grind[St.kill]
theorem U0h{k b:Nat}{cs:List AV}{g':Gh}{s':St}(T:Turn (·≠k) w w g g' s s')(h:Q01 w g s b cs):Q01 w g' s' b (U7 k cs):=by obtain⟨e,f,q,p,o⟩:=h;refine⟨e,f,q,by rw[Yd];simpa using p,λi a v d n=>?_⟩;rw[Yd,yF]at d;obtain⟨r,c,rfl⟩:=yC d;obtain⟨m,l,j⟩:=o i r v c n;exact⟨one_dead k m,l,j.turn_dead T⟩
theorem Inv.addbox(I:Inv c g s a w)(k b:Nat)(cs:List AV)(C:Q01 w g s b cs)(q:Vac c g s b)(A:k<1000000000) : Inv c { g with bb:=λj=>if j=k then b else g.bb j } { s.kill k with bx:=λj=>if j=k then some (U7 k cs)else(s.kill k).bx j } a w:=by
 have T:Turn (·≠k) w w g { g with bb:=λj=>if j=k then b else g.bb j } s { s.kill k with bx:=λj=>if j=k then some (U7 k cs)else(s.kill k).bx j }:=by refine⟨λ_ _ h=>h,λ_ h=>h,TLe.of (λ_ h=>h) rfl,λ_ _ _=>rfl,λj d r h=>⟨r,(Xc h).2,rfl,rfl⟩,λj d c' h=>?_,λ_ _ h=>h,Y1E⟩;simp[d]at h;obtain⟨_,c0,l,_⟩:=M8 h;exact⟨c0,l,by simp[d]⟩
 have m:∀j f,(if j=k then some (U7 k cs)else(s.kill k).bx j)=some f -> (j=k/\f=U7 k cs)\/(j≠k/\∃c0,s.bx j=some c0/\f=U7 k c0):=by
  intro j f h;by_cases d:j=k
  .simp[d]at h;exact .inl ⟨d,h.symm⟩
  simp[d]at h;obtain⟨_,c0,l,p⟩:=M8 h;exact .inr ⟨d,c0,l,p⟩
 refine⟨I.defers,I.nt,I.fr,λi=>(I.tm i).turn_dead T,?_,?_,?_,?_,?_,?_,?_,I.sw,I.nn,I.nx,λj d=>⟨(I.fix j d).1,by simp[show j≠k by omega];exact(I.fix j d).2⟩,I.sm,I.sb,I.ow.turn rfl (λ_ h=>h) (yV _) (λ_ _=>rfl) (λj f h=>?_) (λj r h=>I.ow.rw j r (Xc h).2),I.uf,I.sd⟩
 .intro j f h;rcases m j f h with⟨rfl,rfl⟩|⟨d,c0,l,rfl⟩
  .simp[];grind[U0h]
  simp[d];exact U0h T (I.bxs j c0 l)
 .intro j f h;rcases m j f h with⟨rfl,rfl⟩|⟨d,c0,l,rfl⟩
  .simp[];exact⟨q.N,q.S⟩
  simp[d];exact I.bxn j c0 l
 .intro j r h;exact I.rws j r (Xc h).2
 .intro j r h;exact I.rwn j r (Xc h).2
 .intro j n z B p v o;rcases m j z p with⟨rfl,_⟩|⟨d,c0,l,_⟩<;>rcases m n B v with⟨rfl,_⟩|⟨t,y,x,_⟩
  .omega
  .simp[t];exact λe=>q.bx n y x e.symm
  .simp[d];exact q.bx j c0 l
  simp[d,t];exact I.dbb j n c0 y l x o
 .intro j n z r p v;have u:=(Xc v).2;rcases m j z p with⟨rfl,_⟩|⟨d,c0,l,_⟩
  .simp[];exact q.rw n r u
  simp[d];exact I.dbr j n c0 r l u
 .intro j n r r' p v o;exact I.drr j n r r' (Xc p).2 (Xc v).2 o
 rcases m j f h with⟨rfl,_⟩|⟨d,c0,l,_⟩
 .simp[];exact q.O
 simp[d];exact I.ow.bx j c0 l
theorem Inv.addrow(I:Inv c g s a w)(k:Nat)(u:Row)(B:Value)(E:QU w g.S g.T u B)(t:∀b,B.ownBlock=some b->Vac c g s b)(G:k<1000000000) : Inv c { g with rv:=λj=>if j=k then B else g.rv j } { s.kill k with rw:=λj=>if j=k then some u else(s.kill k).rw j } a w:=by
 have T:Turn (·≠k) w w g { g with rv:=λj=>if j=k then B else g.rv j } s { s.kill k with rw:=λj=>if j=k then some u else(s.kill k).rw j }:=by
  refine⟨λ_ _ h=>h,λ_ h=>h,TLe.of (λ_ h=>h) rfl,λ_ _ _=>rfl,λj d r h=>?_,λj d c' h=>?_,λ_ _ h=>h,Y1E⟩
  .simp[d]at h;exact⟨r,(Xc h).2,rfl,by simp[d]⟩
  obtain⟨_,c0,f,_⟩:=M8 h;grind
 have l:∀j r,(if j=k then some u else(s.kill k).rw j)=some r->(j=k/\r=u)\/(j≠k/\s.rw j=some r):=by
  intro j r h;by_cases d:j=k
  .grind
  simp[d]at h;grind[Xc]
 refine⟨I.defers,I.nt,I.fr,λi=>(I.tm i).turn_dead T,?_,?_,?_,?_,?_,?_,?_,I.sw,I.nn,I.nx,λj d=>⟨by simp[show j≠k by omega];exact(I.fix j d).1,(I.fix j d).2⟩,I.sm,I.sb,I.ow.turn rfl (λ_ h=>h) (yV _) (λ_ _=>rfl) (λj A h=>by obtain⟨_,c0,f,_⟩:=M8 h;exact I.ow.bx j c0 f) (λj r h b m=>?_),I.uf,I.sd⟩
 .intro j A h;obtain⟨_,c0,f,rfl⟩:=M8 h;exact U0h T (I.bxs j c0 f)
 .intro j A h;obtain⟨_,c0,f,rfl⟩:=M8 h;exact I.bxn j c0 f
 .intro j r h;rcases l j r h with⟨rfl,rfl⟩|⟨d,f⟩
  .simpa using E
  simpa[d]using I.rws j r f
 .intro j r h b m;rcases l j r h with⟨rfl,rfl⟩|⟨d,f⟩
  .simp[]at m;exact⟨(t b m).N,λo F=>absurd F ((t b m).S o)⟩
  simp[d]at m;exact I.rwn j r f b m
 .intro j p K L y x q;obtain⟨_,C,n,_⟩:=M8 y;obtain⟨_,J,D,_⟩:=M8 x;exact I.dbb j p C J n D q
 .intro j p K r y x;obtain⟨_,C,n,_⟩:=M8 y;rcases l p r x with⟨rfl,rfl⟩|⟨d,f⟩
  .simp[];exact λe=>(t _ e).bx j C n rfl
  simp[d];exact I.dbr j p C r n f
 .intro j p r r' y x q b;rcases l j r y with⟨rfl,rfl⟩|⟨d,f⟩<;>rcases l p r' x with⟨rfl,rfl⟩|⟨v,z⟩
  .omega
  .simp[v];exact λe=>(t b e).rw p r' z
  .simp[d];exact λe H=>(t b H).rw j r f e
  simp[d,v];exact I.drr j p r r' f z q b
 rcases l j r h with⟨rfl,rfl⟩|⟨d,f⟩
 .simp[]at m;exact(t b m).O
 simp[d]at m;exact I.ow.rw j r f b m
end
end
section
inductive X|t(i:Nat)|c(a:AV)
def St.get(s:St):X->AV
 |.t i=>s.e i|.c a=>a
mutual
def AV.rdt:AV->AV
 |.agg cs=>.agg (rdtL cs)
 |.tup cs=>.tup (rdtL cs)
 |.fn f cs=>.fn f (rdtL cs)
 |.sl _ sz es=>.sl .rd sz (rdtL es)
 |.ept e o=>.ept (AV.rdt e) o
 |a=>a
def rdtL:List AV->List AV
 |[]=>[]
 |a::l=>AV.rdt a::rdtL l
end
theorem U5:∀l,rdtL l=l.map AV.rdt
 |[]=>rfl|a::l=>by rw[rdtL,U5 l];rfl
mutual
def St.dt(s:St):AV->Option AV
 |.bool b=>some (.bool b)
 |.int k n=>some (.int k n)
 |.str l=>some (.str l)
 |.nl=>some .nl
 |.sl t sz es=>some (.sl t sz es)
 |.ept e o=>some (.ept e o)
 |.sref k=>(s.rw k).map λr=>.sl .nw r.sz r.es
 |.agg cs=>(St.dtL s cs).map .agg
 |.fn f cs=>(St.dtL s cs).map (.fn f)
 |_=>none
def St.dtL(s:St):List AV->Option (List AV)
 |[]=>some []
 |a::l=>match St.dt s a,St.dtL s l with
  |some x,some y=>some (x::y)
  |_,_=>none
end
mutual
def AV.free(m:Nat):AV->Bool
 |.agg cs=>M23 m cs
 |.tup cs=>M23 m cs
 |.fn _ cs=>M23 m cs
 |.sl t _ es=>(match t with | .own i=>!Nat.beq i m|_=>true)&&M23 m es
 |.ept e _=>AV.free m e
 |.eot _ _=>false
 |_=>true
def M23(m:Nat):List AV->Bool
 |[]=>true
 |a::l=>AV.free m a&&M23 m l
end
def AV.lose1(m:Nat)(a:AV):AV:=if a.free m=true then a else .bad
def AV.lose(m:Nat):AV->AV
 |.agg cs=>.agg (cs.map (AV.lose1 m))|a=>AV.lose1 m a
def St.losing(s:St)(m:Nat)(rks:List Nat):St:={ e:=λi=>(s.e i).lose m,bx:=λk=>(s.bx k).map λcs=>cs.map (AV.lose1 m),rw:=λj=>if j∈rks then s.rw j else none,nx:=s.nx,my:=s.my,kn:=s.kn }
mutual
def AV.pl:AV->Prop
 |.bool _=>True
 |.int _ _=>True
 |.str _=>True
 |.nl=>True
 |.sl _ _ es=>plL es
 |.agg cs=>plL cs
 |_=>False
def plL:List AV->Prop
 |[]=>True
 |a::l=>AV.pl a/\plL l
end
mutual
def AV.ownt(i:Nat):AV->AV
 |.agg cs=>.agg (O2s i cs)
 |.sl _ sz es=>.sl (.own i) sz (O2s i es)
 |a=>a
def O2s(i:Nat):List AV->List AV
 |[]=>[]
 |a::l=>AV.ownt i a::O2s i l
end
mutual
def AV.fitX(m:Nat):List DK->AV->Prop
 |ks,.agg cs=>fitC m ks cs
 |ks,.bool _=>ks=[.b]
 |ks,.int q _=>ks=[.i q]
 |ks,.str _=>ks=[.s]
 |ks,.nl=>∃k,ks=[.l k]
 |ks,.sl t sz es=>∃k,ks=[.l k]/\(es=[]\/(t=.own m/\sz=k.length/\0<sz/\es.length<=1048576/\fitE m k es))
 |_,_=>False
def fitE(m:Nat):List DK->List AV->Prop
 |_,[]=>True
 |ks,e::l=>AV.fitX m ks e/\fitE m ks l
def fitC(m:Nat):List DK->List AV->Prop
 |[],[]=>True
 |k::ks,a::l=>AV.fitX m [k] a/\fitC m ks l
 |_,_=>False
end
def hv1(m:Nat)(a b:AV):Prop:=match b with
 |.bad=>True
 |.od j ks n=>j=0/\(a=.od m ks n\/(a=.nl/\n=0)\/∃t sz es,a=.sl t sz es/\n=es.length/\AV.fitX m [.l ks] a)
 |.int k n=>a=.int k n
 |.str l=>a=.str l
 |.bool q=>a=.bool q
 |_=>False
def hvL(m:Nat):List AV->List AV->Prop
 |[],[]=>True|a::l,b::k=>hv1 m a b/\hvL m l k|_,_=>False
def hvA(m:Nat):AV->AV->Prop
 |.agg cs,.agg ds=>hvL m cs ds|a,b=>hv1 m a b
def hvLs(m:Nat):List AV->List AV->Prop
 |[],[]=>True|a::l,b::k=>hvA m a b/\hvLs m l k|_,_=>False
def Y2D:DK->AV->Bool
 |.i k,.int k' _=>decide (k=k')|.b,.bool _=>true|.s,.str _=>true|_,_=>false
def U0u(cs:List AV)(off n:Nat)(ag:Bool):Option AV :=if ag then(if off+n<=cs.length then some (.agg ((cs.drop off).take n))else none)else cs[off]?
def St.ld(s:St)(p:AV)(n:Nat)(ag:Bool):Option AV :=
 match p with
 |.ept e off=>U0u e.cells off n ag
 |.eot e off=>U0u e.cells off n ag
 |.ptr k off=>match s.bx k with|some cs=>U0u cs off n ag|none=>none
 |.rpt k i off=>match s.rw k with
  |some r=>match r.es[i]? with|some e=>U0u e.cells off n ag|none=>none
  |none=>none
 |_=>none
def putC(cs:List AV)(off:Nat)(vs:List AV):List AV:=cs.take off++vs++cs.drop (off+vs.length)
def eqCells:List Nat->List AV->List AV->Option Bool
 |[],[],[]=>some true|0::ks,.int k x::l,.int k' y::m=>if k=k' then(eqCells ks l m).map λr=>x==y&&r else none|1::ks,.str x::l,.str y::m=>(eqCells ks l m).map λr=>x==y&&r|2::ks,.bool x::l,.bool y::m=>(eqCells ks l m).map λr=>x==y&&r|_,_,_=>none
def bAnd(k:IntKind)(a b:Int):Int:=k.wrap ((BitVec.ofInt k.bits a &&& BitVec.ofInt k.bits b).toNat:Int)
def bXor(k:IntKind)(a b:Int):Int:=k.wrap ((BitVec.ofInt k.bits a ^^^ BitVec.ofInt k.bits b).toNat:Int)
def bShr(k:IntKind)(a b:Int):Int:=a.fdiv (2 ^ (min b.toNat k.bits))
def evB:BinOp->AV->AV->Option AV
 |.and,.int k a,.int k' b=>if k=k' then some (.int k (bAnd k a b))else none|.xor,.int k a,.int k' b=>if k=k' then some (.int k (bXor k a b))else none|.shr,.int k a,.int _ b=>if 0<=b then some (.int k (bShr k a b))else none|.add,.int k a,.int k' b=>if k=k' then some (.int k (k.wrap (a+b)))else none|.sub,.int k a,.int k' b=>if k=k' then some (.int k (k.wrap (a-b)))else none|.mul,.int k a,.int k' b=>if k=k' then some (.int k (k.wrap (a*b)))else none|.quo,.int k a,.int k' b=>if k=k'/\b≠0 then some (.int k (k.wrap (a.tdiv b)))else none|.rem,.int k a,.int k' b=>if k=k'/\b≠0 then some (.int k (a.tmod b))else none|.eql,.int k a,.int k' b=>if k=k' then some (.bool (a==b))else none|.neq,.int k a,.int k' b=>if k=k' then some (.bool (a != b))else none
 |.lss,.int k a,.int k' b=>if k=k' then some (.bool (decide (a<b)))else none|.leq,.int k a,.int k' b=>if k=k' then some (.bool (decide (a<=b)))else none|.gtr,.int k a,.int k' b=>if k=k' then some (.bool (decide (b<a)))else none|.geq,.int k a,.int k' b=>if k=k' then some (.bool (decide (b<=a)))else none|.eql,.str a,.str b=>some (.bool (a==b))|.neq,.str a,.str b=>some (.bool (a != b))|.lss,.str a,.str b=>some (.bool (Op.bytesLess a b))|.leq,.str a,.str b=>some (.bool (Op.bytesLess a b||a==b))|.gtr,.str a,.str b=>some (.bool (!(Op.bytesLess a b||a==b)))|.geq,.str a,.str b=>some (.bool (!(Op.bytesLess a b)))|_,_,_=>none
inductive LOp
 |mv (d:Nat) (x:X)
 |pk (d:Nat) (c a b:X)
 |un (d:Nat) (x:X)
 |bi (d:Nat) (op:BinOp) (x y:X)
 |eb (d:Nat) (ne:Bool) (x y:X)
 |es (d:Nat) (ne:Bool) (ks:List Nat) (x y:X)
 |sa (d:Nat) (x y:X)
 |cv (d:Nat) (k:IntKind) (x:X)
 |fa (d:Nat) (x:X) (off:Nat)
 |ia (d:Nat) (x i:X) (n:Nat)
 |ix (d:Nat) (x i:X)
 |ld (d:Nat) (p:X) (n:Nat) (ag:Bool)
 |st (p x:X) (n:Nat)
 |al (d:Nat) (z:List AV)
 |bx (d:Nat) (x:X)
 |bd (d:Nat) (z:List AV) (ps:List (Nat×Nat×X))
 |bs (d:Nat) (sz:Nat) (ps:List X) (own:Bool)
 |ms (d:Nat) (sz by':Nat) (z:List AV) (l:X)
 |ln (d:Nat) (x:X)
 |ls (d:Nat) (x:X)
 |ap (d:Nat) (x y:X) (sz by':Nat)
 |sc (d:Nat) (x:X) (lo hi:Option X) (n:Nat)
 |ss (d:Nat) (x:X) (lo hi:Option X)
 |ex (d:Nat) (x:X) (i:Nat)
 |fd (d:Nat) (x:X) (off n:Nat) (ag:Bool)
 |nc (d:Nat) (x:X)
 |mm (d:Nat) (mx:Bool) (x y:X)
 |b2s (d:Nat) (x:X)
 |s2b (d:Nat) (x:X)
 |mf (d f:Nat) (xs:List X)
 |cl (d f:Nat) (xs:List X)
 |cq (d f:Nat) (xs:List X)
 |cc (d:Nat) (f:X) (xs:List X)
 |cm (d f:Nat) (xs:List X)
 |g (t:Nat) (want:Bool) (o:LOp)
 |cs (t:Nat)
 |fz (t:Nat)
 |fb (t:Nat)
 |cn (d f:Nat) (xs:List X)
 |lq (d:Nat) (x:X)
 |be (d:Nat)
 |ae (d:Nat) (x y:X) (sz by':Nat)
 |ab (d:Nat) (x y:X)
 |oln (d:Nat) (x:X)
 |oia (d:Nat) (x i:X) (n:Nat)
 |ofa (d:Nat) (x:X) (off:Nat)
 |old (d:Nat) (p:X)
 |ost (p x:X)
 |co (d f:Nat) (xs:List X)
 |cf (d f m:Nat) (xs:List X)
mutual
def AV.noO:AV->Prop
 |.agg cs=>noOL cs
 |.tup cs=>noOL cs
 |.fn _ cs=>noOL cs
 |.sl t _ es=>t.isOwn=false/\noOL es
 |.ept e _=>AV.noO e
 |.eot _ _=>False
 |.od _ _ _=>False
 |.op _ _ _=>False
 |_=>True
def noOL:List AV->Prop
 |[]=>True
 |a::l=>AV.noO a/\noOL l
end
def L1o(rows:List Row):St:={ e:=λ_=>.und,bx:=λ_=>none,rw:=λi=>rows[i]?,nx:=0,my:=λ_=>False }
def Ret(B:Nat)(w':World)(res:AV)(rows:List Row)(v:Value):Prop :=
 ∃g:Gh,(∀b o,g.S b o->B<=b/\b<w'.heap.size)/\(∀b,g.N b->B<=b)/\(∀i,g.ov i=none)/\Gv w' g (L1o rows) res v /\
  (∀(i:Nat) (r:Row),rows[i]?=some r->QU w' g.S g.T r (g.rv i)/\∀b,(g.rv i).ownBlock=some b->B<=b/\∀o,¬ g.S b o) /\
  (∀(i j:Nat) (r r':Row),rows[i]?=some r->rows[j]?=some r'->i≠j->∀b,(g.rv i).ownBlock=some b->(g.rv j).ownBlock≠some b)/\∀b o,g.S b o->UnfB w' b
def Snd(P:Program)(f:FuncId)(args:List AV)(res:AV)(rows:List Row):Prop :=
 ∀(w:World) (S:Nat->Nat->Prop) (N:Tag->Nat->Value->Prop) (vs:List Value),(∀b o,S b o->b<w.heap.size)->vs.length=args.length ->
  (∀(i:Nat) (a:AV) (v:Value),args[i]?=some a->vs[i]?=some v->Rd w S N a v) ->
  Calls P f vs.toArray w λe w'=>∃v,e=.returned v/\Below w.heap.size w w'/\Ret w.heap.size w' res rows v
def rdT:Tag->Nat->Value->Prop:=λt _ _=>t=.rd
def SndB(P:Program)(f:FuncId)(args:List AV)(Ψ:List AV->Prop):Prop :=
 ∀(w:World) (S:Nat->Nat->Prop) (N:Tag->Nat->Value->Prop) (vs:List Value),(∀b o,S b o->b<w.heap.size)->vs.length=args.length ->
  (∀(i:Nat) (a:AV) (v:Value),args[i]?=some a->vs[i]?=some v->Rd w S N a v) ->
  Calls P f vs.toArray w λe w'=>∃b,e=.returned (.pointer (some ⟨b,0,none⟩))/\Below w.heap.size w w'/\w.heap.size<=b/\∃cs,Ψ cs/\∃(S2:Nat->Nat->Prop) (us:List Value) (ty:TypeId),
   (∀b o,S2 b o->S b o\/(w.heap.size<=b/\b<w'.heap.size/\UnfB w' b))/\(∀o,¬ S2 b o)/\w'.heap[b]?=some (.cells us.toArray ty (0,0))/\us.length=cs.length /\
   ∀(i:Nat) (a:AV) (u:Value),cs[i]?=some a->us[i]?=some u->a.one=true/\u.oneCell'=true/\Rd w' S2 rdT a u
def ix:List Nat->Nat->Option Nat
 |[],_=>none|k::ks,j=>if k=j then some 0 else(ix ks j).map (·+1)
theorem L2i:∀{ks:List Nat}{k i:Nat},ix ks k=some i->ks[i]?=some k
 |[],_,_,h=>by simp[ix]at h|x::ks,k,i,h=>by
  simp[ix]at h;split at h
  .rename_i e;cases h;simp[e]
  .obtain⟨j,a,rfl⟩:=yC h;simpa using L2i a
def hSt(n:Nat)(bx:List (List AV))(rw:List (Option Row)):St:={ e:=λ_=>.und,bx:=λi=>bx[i]?,rw:=λi=>(rw[i]?).join,nx:=n,my:=λ_=>False }
structure Heap(w:World)(g:Gh)(s:St):Prop where
 bxs:∀k cs,s.bx k=some cs->Q01 w g s (g.bb k) cs
 bxn:∀k cs,s.bx k=some cs->g.N (g.bb k)/\∀o,¬ g.S (g.bb k) o
 rws:∀k r,s.rw k=some r->QU w g.S g.T r (g.rv k)
 rwn:∀k r,s.rw k=some r->r.sh=false/\∀b,(g.rv k).ownBlock=some b->g.N b/\∀o,¬ g.S b o
 dbb:∀k k' cs cs',s.bx k=some cs->s.bx k'=some cs'->k≠k'->g.bb k≠g.bb k'
 dbr:∀k k' cs r,s.bx k=some cs->s.rw k'=some r->(g.rv k').ownBlock≠some (g.bb k)
 drr:∀k k' r r',s.rw k=some r->s.rw k'=some r'->k≠k'->∀b,(g.rv k).ownBlock=some b->(g.rv k').ownBlock≠some b
 sw:∀b o,g.S b o->b<w.heap.size
 ow:OwnH g s w
def OwnB(g:Gh)(nb nr b:Nat):Prop:=(∃i,i<nb/\g.bb i=b)\/(∃i,i<nr/\(g.rv i).ownBlock=some b)
def Ua:List Row->List (Option (List AV))->List Row->List (Option Row)
 |r::rs,u::us,new=>(u.map λes=>{ r with es:=es })::Ua rs us new
 |_,_,new=>new.map some
structure Kept(own:Nat->Prop)(w w':World):Prop where
 os:w'.os=w.os
 tape:w'.tape=w.tape
 output:w'.output=w.output
 size:w.heap.size<=w'.heap.size
 block:∀k,k<w.heap.size->¬ own k->w'.heap[k]?=w.heap[k]?
def ConN(P:Program)(f:FuncId)(n0:Nat)(args:List AV)(bin:List (List AV))(rin:List Row)(Φ:Nat->AV->List (List AV)->List (Option (List AV))->List Row->Prop):Prop :=
 ∀(w:World) (g:Gh) (vs:List Value),Heap w g (hSt n0 bin (rin.map some))->(∀b,w.heap.size<=b->g.N b)->vs.length=args.length ->
  (∀(i:Nat) (a:AV) (v:Value),args[i]?=some a->vs[i]?=some v->Gv w g (hSt n0 bin (rin.map some)) a v) ->
  Calls P f vs.toArray w λe w'=>∃v,e=.returned v/\Kept (OwnB g bin.length rin.length) w w'/\∃n1 res bout upd new,n0<=n1/\Φ n1 res bout upd new /\
   bout.map List.length=bin.map List.length/\upd.length=rin.length/\∃g':Gh,(∀b o,g'.S b o->(g.S b o\/w.heap.size<=b\/OwnB g bin.length rin.length b)/\(w.heap.size<=b\/OwnB g bin.length rin.length b->UnfB w' b))/\(∀b,g'.N b->g.N b) /\
   (∀i,i<bin.length->g'.bb i=g.bb i)/\(∀i es,upd[i]?=some (some es)->g'.rv i=g.rv i)/\Heap w' g' (hSt n1 bout (Ua rin upd new)) /\
   (∀(j:Nat) (r:Row),new[j]?=some r->∀b,(g'.rv (rin.length+j)).ownBlock=some b->w.heap.size<=b\/OwnB g bin.length rin.length b) /\
   (∀i,i<n0->g'.ov i=g.ov i)/\(∀i D,n0<=i->g'.ov i=some D->∀b,D b->w.heap.size<=b\/OwnB g bin.length rin.length b) /\
   Gv w' g' (hSt n1 bout (Ua rin upd new)) res v
def ghD(D:Nat->Prop):Gh:={ S:=λ_ _=>False,N:=λ_=>True,bb:=λ_=>0,rv:=λ_=>undef,ov:=λi=>if i=0 then some D else none }
def stH(args:List AV):St:={ e:=λi=>args.getD i .und,bx:=λ_=>none,rw:=λ_=>none,nx:=1,my:=λ_=>True,kn:=λi=>i=0 }
def Hav(P:Program)(f:FuncId)(args:List AV)(Φ:Int->Prop):Prop :=
 ∀(w:World) (D:Nat->Prop) (vs:List Value),(∀b,D b->b<w.heap.size/\UnfB w b)->vs.length=args.length ->
  (∀(i:Nat) (a:AV) (v:Value),args[i]?=some a->vs[i]?=some v->Gv w (ghD D) (stH []) a v) ->
  Calls P f vs.toArray w λe w'=>∃k,e=.returned (.int .i64 k)/\Φ k/\Kept D w w'/\(∀b,D b->UnfB w' b) /\
   ∀b o v,D b->w.cell? ⟨b,o,none⟩=some v->∃v',w'.cell? ⟨b,o,none⟩=some v'/\KRel v v'
def Con(P:Program)(f:FuncId)(args:List AV)(bin:List (List AV))(rin:List Row)(Φ:AV->List (List AV)->List (Option (List AV))->List Row->Prop):Prop :=∀n0,ConN P f n0 args bin rin λ_=>Φ
mutual
def AV.mp(fb fr:Nat->Option Nat):AV->AV
 |.sref k=>match fr k with|some i=>.sref i|none=>.bad
 |.ptr k o=>match fb k with|some i=>.ptr i o|none=>.bad
 |.rpt k i o=>match fr k with|some j=>.rpt j i o|none=>.bad
 |.agg cs=>.agg (mpL fb fr cs)
 |.tup cs=>.tup (mpL fb fr cs)
 |.fn f cs=>.fn f (mpL fb fr cs)
 |.od _ _ _=>.bad
 |.op _ _ _=>.bad
 |a=>a
def mpL(fb fr:Nat->Option Nat):List AV->List AV
 |[]=>[]
 |a::l=>AV.mp fb fr a::mpL fb fr l
end
theorem VN(fb fr:Nat->Option Nat):∀l,mpL fb fr l=l.map (AV.mp fb fr)
 |[]=>rfl|a::l=>by rw[mpL,VN fb fr l];rfl
mutual
def AV.ren(k n:Nat):AV->AV
 |.sref i=>if i<n then .sref (k+i)else .bad
 |.agg cs=>.agg (renL k n cs)
 |.tup cs=>.tup (renL k n cs)
 |.fn f cs=>.fn f (renL k n cs)
 |.ptr _ _=>.bad
 |.rpt _ _ _=>.bad
 |.od _ _ _=>.bad
 |.op _ _ _=>.bad
 |a=>a
def renL(k n:Nat):List AV->List AV
 |[]=>[]
 |a::l=>AV.ren k n a::renL k n l
end
mutual
def AV.nwd(rows:List Row):AV->AV
 |.sref i=>match rows[i]? with|some r=>.sl .nw r.sz r.es|none=>.bad
 |.agg cs=>.agg (nwdL rows cs)
 |.tup cs=>.tup (nwdL rows cs)
 |.fn f cs=>.fn f (nwdL rows cs)
 |.ptr _ _=>.bad
 |.rpt _ _ _=>.bad
 |.od _ _ _=>.bad
 |.op _ _ _=>.bad
 |a=>a
def nwdL(rows:List Row):List AV->List AV
 |[]=>[]
 |a::l=>AV.nwd rows a::nwdL rows l
end
theorem V0B(k n:Nat):∀l,renL k n l=l.map (AV.ren k n)
 |[]=>rfl|a::l=>by rw[renL,V0B k n l];rfl
theorem W0B(rows:List Row):∀l,nwdL rows l=l.map (AV.nwd rows)
 |[]=>rfl|a::l=>by rw[nwdL,W0B rows l];rfl
def St.addrows(s:St)(k:Nat):List Row->St
 |[]=>s|r::rs=>St.addrows { s.kill k with rw:=λj=>if j=k then some r else(s.kill k).rw j } (k+1) rs
def St.kill2(s:St):List Nat->St
 |[]=>s|k::ks=>St.kill2 (s.kill k) ks
def drops:List Nat->List (Option (List AV))->List Nat
 |k::ks,none::us=>k::drops ks us|_::ks,some _::us=>drops ks us|_,_=>[]
def upf:List Nat->List (Option (List AV))->Nat->Option (List AV)
 |k::ks,u::us,j=>if j=k then u else upf ks us j|_,_,_=>none
def bxf:List Nat->List (List AV)->Nat->Option (List AV)
 |k::ks,c::cs,j=>if j=k then some c else bxf ks cs j|_,_,_=>none
def setRows(s:St)(bks rks:List Nat)(upd:List (Option (List AV))):St :=
  { e:=(s.kill2 (drops rks upd)).e,bx:=λj=>if j∈bks then((s.kill2 (drops rks upd)).bx j).map (λcs=>List.replicate cs.length .bad)else(s.kill2 (drops rks upd)).bx j,
    rw:=λj=>match upf rks upd j with|some es=>((s.kill2 (drops rks upd)).rw j).map (λr=>{ r with es:=es })|none=>(s.kill2 (drops rks upd)).rw j,nx:=s.nx,my:=s.my,kn:=s.kn }
def Xf(s:St)(bks:List Nat)(bs:List (List AV)):St:={ s with bx:=λj=>match bxf bks bs j with|some cs=>some cs|none=>s.bx j }
def frB(rks:List Nat)(upd:List (Option (List AV)))(base n i:Nat):Option Nat :=if i<rks.length then(match upd[i]? with|some (some _)=>rks[i]? | _=>none)else if i-rks.length<n then some (base+(i-rks.length))else none
def fbB(bks:List Nat)(i:Nat):Option Nat:=bks[i]?
def afterM(s:St)(n1 d:Nat)(bks rks:List Nat)(res:AV)(bout:List (List AV))(upd:List (Option (List AV)))(new:List Row):St :=St.set (Xf (({ setRows s bks rks upd with nx:=n1 }:St).addrows (1000*d+1000) new) bks (bout.map (mpL (fbB bks) (frB rks upd (1000*d+1000) new.length)))) d (res.mp (fbB bks) (frB rks upd (1000*d+1000) new.length))
def UU(s:St)(fb fr:Nat->Option Nat):List Nat->List (List AV)->Prop
 |[],[]=>True|k::ks,b::bs=>(∃cs,s.bx k=some cs/\b=mpL fb fr cs)/\UU s fb fr ks bs|_,_=>False
def W0Q(s:St):List Nat->List Row->Prop
 |[],[]=>True|k::ks,r::rs=>s.rw k=some r/\r.sh=false/\W0Q s ks rs|_,_=>False
def J06:List Nat->List (Option (List AV))->Nat->Nat->Prop
 |k::ks,some _::us,b,n=>(k<b\/b+n<=k)/\J06 ks us b n|_::ks,none::us,b,n=>J06 ks us b n|_,_,_,_=>True
def U0N(b n:Nat)(bks:List Nat):Prop:=∀k∈bks,k<b\/b+n<=k
def Y0o:List AV->List (Nat×Nat×AV)->Option (List AV)
 |z,[]=>some z|z,(off,n,v)::ps=>if v.cells.length=n/\off+n<=z.length/\v.cells.all AV.one=true then Y0o (putC z off v.cells) ps else none
def Q1p(i:AV)(n:Nat):Option Nat:=match i with
 |.int _ j=>if 0<=j/\j<n then some j.toNat else none
 |_=>none
def L22(i:AV)(n:Nat):Option Nat:=match i with
 |.int _ j=>if 0<=j/\j<=n then some j.toNat else none
 |_=>none
def St.lo(s:St)(o:Option X)(h:Nat):Option Nat:=match o with|none=>some 0|some x=>L22 (s.get x) h
def St.hi(s:St)(o:Option X)(n:Nat):Option Nat:=match o with|none=>some n|some x=>L22 (s.get x) n
def plain:AV->Bool
 |.bool _ | .int _ _ | .str _ | .nl | .sl _ _ _=>true|_=>false
def nosr:AV->Bool
 |.agg cs=>cs.all plain|a=>plain a
def allOne(l:List AV):Bool:=l.all AV.one
def LOp.dst:LOp->Nat
 |.mv d _ | .pk d _ _ _ | .un d _ | .bi d _ _ _ | .eb d _ _ _ | .es d _ _ _ _ | .sa d _ _ | .cv d _ _ | .fa d _ _ | .ia d _ _ _ | .ix d _ _ | .ld d _ _ _ | .al d _ | .bx d _ | .bd d _ _ | .bs d _ _ _ | .ms d _ _ _ _|.ln d _ | .ls d _ | .ap d _ _ _ _ | .sc d _ _ _ _ | .ss d _ _ _ | .ex d _ _ | .fd d _ _ _ _ | .nc d _ | .mm d _ _ _ | .b2s d _ | .s2b d _ | .mf d _ _ | .cl d _ _ | .cq d _ _ | .cc d _ _ | .cm d _ _ | .cn d _ _ | .lq d _ | .be d | .ae d _ _ _ _ | .ab d _ _ | .oln d _ | .oia d _ _ _ | .ofa d _ _ | .old d _ | .co d _ _ | .cf d _ _ _=>d|.st _ _ _=>0|.ost _ _=>0|.g _ _ o=>o.dst|.cs t | .fz t | .fb t=>t
def St.args(s:St)(xs:List X):Option (List AV):=match s.dtL (xs.map s.get)with|some l=>some (rdtL l)|none=>none
def isFn (P : Program)(f : FuncId) : Bool := match P.funcs[f]? with | some fn => fn.body.isSome && fn.name != "runtime.NumGoroutine" | none => false
def GE(a b:AV):Prop:=∀(w:World) (g:Gh) (s:St) (v:Value),(∀i,g.ov i=none)->Gv w g s a v->Gv w g s b v
def GEs(l m:List AV):Prop:=l.length=m.length/\∀(i:Nat) (a b:AV),l[i]?=some a->m[i]?=some b->GE a b
theorem GE.refl(a:AV):GE a a:=λ_ _ _ _ _ h=>h
theorem GEs.refl(l:List AV):GEs l l:=⟨rfl,λi a b h c=>by rw[h]at c;cases c;exact .refl _⟩
def wop(P:Program):LOp->(St->Prop)->St->Prop
 |.mv d x,K,s=>K (s.set d (s.get x))|.pk d c a b,K,s=>match s.get c with
  |.bool t=>K (s.set d (if t then s.get a else s.get b))
  |_=>False
 |.un d x,K,s=>match s.get x with
  |.bool b=>K (s.set d (.bool !b))
  |_=>False
 |.bi d op x y,K,s=>match evB op (s.get x) (s.get y)with
  |some v=>K (s.set d v)
  |none=>False
 |.eb d ne x y,K,s=>match s.get x,s.get y with
  |.bool a,.bool b=>K (s.set d (.bool (if ne then !(a==b)else a==b)))
  |_,_=>False
 |.es d ne ks x y,K,s=>match s.get x,s.get y with
  |.agg a,.agg b=>match eqCells ks a b with
   |some r=>K (s.set d (.bool (if ne then !r else r)))
   |none=>False
  |_,_=>False
 |.sa d x y,K,s=>match s.get x,s.get y with
  |.str a,.str b=>a.length+b.length<=9223372036854775807/\K (s.set d (.str (a++b)))
  |_,_=>False
 |.cv d k x,K,s=>match s.get x with
  |.int _ n=>K (s.set d (.int k (k.wrap n)))
  |_=>False
 |.fa d x off,K,s=>match s.get x with
  |.ptr k o=>(s.bx k).isSome=true/\K (s.set d (.ptr k (o+off)))
  |.ept e o=>K (s.set d (.ept e (o+off)))
  |.eot e o=>K (s.set d (.eot e (o+off)))
  |.rpt k i o=>(s.rw k).isSome=true/\K (s.set d (.rpt k i (o+off)))
  |_=>False
 |.ia d x i n,K,s=>match s.get x with
  |.sl t sz es=>match Q1p (s.get i) es.length with
   |some j=>match es[j]? with
    |some e=>sz=n/\K (s.set d (if t.isOwn=true then .eot e 0 else .ept e 0))
    |none=>False
   |none=>False
  |.sref k=>match s.rw k with
   |some r=>match Q1p (s.get i) r.es.length with
    |some j=>r.sz=n/\K (s.set d (.rpt k j 0))
    |none=>False
   |none=>False
  |_=>False
 |.ix d x i,K,s=>match s.get x with
  |.str l=>match Q1p (s.get i) l.length with
   |some j=>match l[j]? with
    |some b=>K (s.set d (.int .u8 b.toNat))
    |none=>False
   |none=>False
  |_=>False
 |.ld d p n ag,K,s=>match s.ld (s.get p) n ag with
  |some v=>K (s.set d v)
  |none=>False
 |.st p x n,K,s=>match s.get p with
  |.ptr k off=>match s.bx k with
   |some cs=>(s.get x).cells.length=n/\off+n<=cs.length/\allOne (s.get x).cells=true/\K { s with bx:=λj=>if j=k then some (putC cs off (s.get x).cells)else s.bx j }
   |none=>False
  |.rpt k i off=>match s.rw k with
   |some r=>match r.es[i]?,s.dt (s.get x)with
    |some e,some v=>r.sh=false/\v.cells.length=n/\off+n<=e.cells.length /\
      nosr (s.get x)=true/\K { s with rw:=λj=>if j=k then some { r with es:=r.es.set i (if n=e.cells.length then v else .agg (putC e.cells off v.cells)) } else s.rw j }
    |_,_=>False
   |none=>False
  |_=>False
 |.al d z,K,s=>K (St.set { s.kill d with bx:=λj=>if j=d then some (U7 d z)else(s.kill d).bx j } d (.ptr d 0))
 |.bx d x,K,s=>allOne (s.get x).cells=true/\K (St.set { s.kill d with bx:=λj=>if j=d then some (U7 d (s.get x).cells)else(s.kill d).bx j } d (.ptr d 0))
 |.bd d z ps,K,s=>match Y0o z (ps.map λ(off,n,x)=>(off,n,s.get x))with
  |some cs=>allOne cs=true/\K (s.set d (.agg cs))
  |none=>False
 |.bs d sz ps own,K,s=>match s.dtL (ps.map s.get)with
  |some es=>(ps.map s.get).all nosr=true/\(∀e∈es,e.cells.length=sz)/\es.length*sz<=1000000/\es.length<=1000000/\(if own
    then K (St.set { s.kill d with rw:=λj=>if j=d then some ⟨sz,es,false⟩else(s.kill d).rw j } d (.sref d))
    else K (s.set d (.sl .nw sz es)))
  |none=>False
 |.ms d sz by' z l,K,s=>match s.get l with
  |.int _ n=>0<=n/\by'*n<=140737488355328/\n<=9223372036854775807 /\
    K (St.set { s.kill d with rw:=λj=>if j=d then some ⟨sz,List.replicate n.toNat (if sz=1 then z.getD 0 .bad else .agg z),false⟩else(s.kill d).rw j } d (.sref d))
  |_=>False
 |.ln d x,K,s=>match s.get x with
  |.sl _ _ es=>es.length<=9223372036854775807->K (s.set d (.int .i64 es.length))
  |.sref k=>match s.rw k with
   |some r=>r.es.length<=9223372036854775807->K (s.set d (.int .i64 r.es.length))
   |none=>False
  |.nl=>K (s.set d (.int .i64 0))
  |_=>False
 |.ls d x,K,s=>match s.get x with
  |.str l=>K (s.set d (.int .i64 l.length))
  |_=>False
 |.ap d x y sz by',K,s=>match s.dt (s.get y)with
  |some (.sl _ sy news)=>match s.get x with
   |.sref k=>match s.rw k with
    |some r=>r.sz=sz/\k<1000000000/\(news=[]\/sy=sz)/\(r.es.length+news.length)*by'<=140737488355328 /\
      K (St.set { s.kill k with rw:=λj=>if j=k then some { r with es:=r.es++news } else(s.kill k).rw j } d (.sref k))
    |none=>False
   |.nl=>(news=[]\/sy=sz)/\news.length*by'<=140737488355328 /\
     K (St.set { s.kill d with rw:=λj=>if j=d then some ⟨sz,news,false⟩else(s.kill d).rw j } d (.sref d))
   |_=>False
  |some .nl=>match s.get x with
   |.sref k=>match s.rw k with
    |some _=>K (s.set d (.sref k))
    |none=>False
   |.nl=>K (St.set { s.kill d with rw:=λj=>if j=d then some ⟨sz,[],false⟩else(s.kill d).rw j } d (.sref d))
   |_=>False
  |_=>False
 |.sc d x lo hi n,K,s=>match s.get x with
  |.sl t sz es=>match s.hi hi es.length with
   |some h=>match s.lo lo h with
    |some l=>sz=n/\t.isOwn=false/\K (s.set d (.sl t sz ((es.take h).drop l)))
    |none=>False
   |none=>False
  |.sref k=>match s.rw k with
   |some r=>match s.hi hi r.es.length with
    |some h=>match s.lo lo h with
     |some l=>r.sz=n/\K (St.set { s with rw:=λj=>if j=k then some { r with sh:=true } else s.rw j } d (.sl .nw r.sz ((r.es.take h).drop l)))
     |none=>False
    |none=>False
   |none=>False
  |.nl=>match s.hi hi 0 with
   |some h=>match s.lo lo h with
    |some _=>K (s.set d .nl)
    |none=>False
   |none=>False
  |_=>False
 |.ss d x lo hi,K,s=>match s.get x with
  |.str b=>match s.hi hi b.length with
   |some h=>match s.lo lo h with
    |some l=>K (s.set d (.str ((b.take h).drop l)))
    |none=>False
   |none=>False
  |_=>False
 |.ex d x i,K,s=>match s.get x with
  |.tup vs=>match vs[i]? with
   |some v=>K (s.set d v)
   |none=>False
  |_=>False
 |.fd d x off n ag,K,s=>match s.get x with
  |.agg cs=>match U0u cs off n ag with
   |some v=>K (s.set d v)
   |none=>False
  |_=>False
 |.nc d x,K,s=>match s.get x with
  |.ptr k o=>(s.bx k).isSome=true/\K (s.set d (.ptr k o))
  |.fn f cs=>K (s.set d (.fn f cs))
  |_=>False
 |.mm d mx x y,K,s=>match s.get x,s.get y with
  |.int k a,.int k' b=>k=k'/\K (s.set d (.int k (if mx then max a b else min a b)))
  |_,_=>False
 |.b2s d x,K,s=>match s.dt (s.get x)with
  |some (.sl _ _ es)=>∃l:List UInt8,es=l.map (λb=>AV.int .u8 b.toNat)/\K (s.set d (.str l))
  |some .nl=>K (s.set d (.str []))
  |_=>False
 |.s2b d x,K,s=>match s.get x with
  |.str l=>l.length<=140737488355328/\K (s.set d (.sl .nw 1 (l.map λb=>AV.int .u8 b.toNat)))
  |_=>False
 |.mf d f xs,K,s=>K (s.set d (.fn f (xs.map s.get)))|.cl d f xs,K,s=>∃as,s.args xs=some as/\∃res rows,Snd P f as res rows/\rows.length<=1000/\K ((s.addrows (1000*d+1000) rows).set d (res.ren (1000*d+1000) rows.length))|.cq d f xs,K,s=>∃as,s.args xs=some as/\∃res rows,Snd P f as res rows/\K (s.set d (res.nwd rows))|.cc d fx xs,K,s=>∃as,s.args (fx::xs)=some as/\∃f cap as',as=.fn f cap::as'/\isFn P f=true/\∃res rows,Snd P f (as'++cap) res rows/\K (s.set d (res.nwd rows))|.cm d f xs,K,s=>∃(bks rks:List Nat) (bin:List (List AV)) (rin:List Row) (as:List AV),(bks++rks).Nodup/\UU s (ix bks) (ix rks) bks bin/\W0Q s rks rin/\((∀b∈bin,noOL b)/\(∀r∈rin,noOL r.es)/\∀x∈xs,(s.get x).noO) /\ GEs (xs.map λx=>(s.get x).mp (ix bks) (ix rks)) as/\∃Φ,ConN P f s.nx as bin rin Φ/\∀n1 res bout upd new,s.nx<=n1->bout.map List.length=bin.map List.length->upd.length=rin.length->Φ n1 res bout upd new -> new.length<=1000/\J06 rks upd (1000*d+1000) new.length/\U0N (1000*d+1000) new.length bks/\K (afterM s n1 d bks rks res bout upd new)
 |.g t want o,K,s=>match s.e t with
  |.bool b=>if b=want then wop P o K s else K (s.set o.dst .und)
  |.und=>K (s.set o.dst .und)
  |_=>False
 |.cs t,K,s=>match s.e t with
  |.bool b=>(b=true->K (s.set t (.bool true)))/\(b=false->K (s.set t (.bool false)))
  |_=>False
 |.fb t,K,s=>match s.e t with
  |.ptr k 0=>match s.bx k with
   |some cs=>nosr (.agg cs)=true/\K (St.set (s.kill k) t (.ept (.agg cs) 0))
   |none=>False
  |.ept _ _=>K s
  |_=>False
 |.fz t,K,s=>match s.e t with
  |.sref k=>match s.rw k with
   |some r=>K (St.set { s with rw:=λj=>if j=k then some { r with sh:=true } else s.rw j } t (.sl .nw r.sz r.es))
   |none=>False
  |.sl _ _ _=>K s
  |_=>False
 |.cn d f xs,K,s=>∃as,s.args xs=some as/\(xs.map s.get).all nosr=true/\(∀x∈xs,(s.get x).noO)/\∃Ψ,SndB P f as Ψ/\∀cs,Ψ cs->K (St.set { s.kill d with bx:=λj=>if j=d then some (U7 d cs)else(s.kill d).bx j } d (.ptr d 0))
 |.lq d x,K,s=>match s.get x with
  |.sl _ _ es=>es.length<=9223372036854775807/\K (s.set d (.int .i64 es.length))
  |.sref k=>match s.rw k with
   |some r=>r.es.length<=9223372036854775807/\K (s.set d (.int .i64 r.es.length))
   |none=>False
  |.nl=>K (s.set d (.int .i64 0))
  |_=>False
 |.be d,K,s=>K (s.set d .el)|.ae d x y sz by',K,s=>match s.get x with
  |.el=>match s.dt (s.get y)with
   |some (.sl _ sy news)=>(news=[]\/sy=sz)/\news.length*by'<=140737488355328/\K (s.set d (.sl .nw sz news))
   |some .nl=>K (s.set d (.sl .nw sz []))
   |_=>False
  |_=>False
 |.ab d x y,K,s=>match s.get y with
  |.str l=>match s.get x with
   |.sref k=>match s.rw k with
    |some r=>r.sz=1/\k<1000000000/\r.es.length+l.length<=140737488355328 /\
      K (St.set { s.kill k with rw:=λj=>if j=k then some { r with es:=r.es++l.map λb=>AV.int .u8 b.toNat } else(s.kill k).rw j } d (.sref k))
    |none=>False
   |_=>False
  |_=>False
 |.oln d x,K,s=>match s.get x with
  |.od _ _ n=>K (s.set d (.int .i64 n))
  |_=>False
 |.oia d x i n,K,s=>match s.get x with
  |.od m ks l=>match Q1p (s.get i) l with
   |some _=>ks.length=n/\K (s.set d (.op m ks 0))
   |none=>False
  |_=>False
 |.ofa d x off,K,s=>match s.get x with
  |.op m ks o=>K (s.set d (.op m ks (o+off)))
  |_=>False
 |.old d p,K,s=>match s.get p with
  |.op m ks off=>match ks[off]? with
   |some (.l ks')=>∀n,n<=1048576->K (s.set d (.od m ks' n))
   |_=>False
  |_=>False
 |.ost p x,K,s=>match s.get p with
  |.op m ks off=>match ks[off]? with
   |some k=>s.my m/\s.kn m/\Y2D k (s.get x)=true/\K s
   |none=>False
  |_=>False
 |.co d f xs,K,s=>∃as,s.args xs=some as/\∃res rows,Snd P f as res rows/\(res.nwd rows).pl/\K (St.set { s with nx:=s.nx+1 } d ((res.nwd rows).ownt s.nx))
 |.cf d f m xs,K,s=>s.my m/\∃as Φ rks,Hav P f as Φ/\hvLs m (xs.map s.get) as/\(∀k∈rks,∀r,s.rw k=some r->M23 m r.es=true)/\∀k,Φ k->K (St.set (s.losing m rks) d (.int .i64 k))
mutual
def vm:AV->Value->Bool
 |.bool b,.bool b'=>b==b'
 |.int k n,.int k' n'=>decide (k=k')&&decide (n=n')
 |.str l,.string s=>l==s.data.toList
 |.nl,.slice none 0 0=>true
 |.sl .nw _ [],.slice none 0 0=>true
 |.agg cs,.agg vs=>allOne cs&&vmL cs vs.toList
 |.fn f [],.func (.func g) fi ca=>f==g&&fi.isEmpty&&ca.isEmpty
 |_,_=>false
def vmL:List AV->List Value->Bool
 |[],[]=>true
 |a::l,v::m=>vm a v&&vmL l m
 |_,_=>false
end
theorem vm_nl{v:Value}(h:vm .nl v=true):v=.slice none 0 0:=by grind[vm]
theorem vm_sl{t:Tag}{b:Nat}{es:List AV}{v:Value}(h:vm (.sl t b es) v=true):t=.nw/\es=[]/\v=.slice none 0 0:=by
 cases t with
 |nw =>
  cases es with
  |nil =>
   cases v with
   |slice a l c =>
    cases a with
    |none=>cases l with
     |zero=>cases c with
      |zero=>simp
      |succ c=>simp[vm]at h
     |succ l=>simp[vm]at h
    |some a=>simp[vm]at h
   |_=>simp[vm]at h
  |cons x l=>cases v<;>simp[vm]at h
 |_=>cases v<;>simp[vm]at h
theorem vm_fn{f:Nat}{cs:List AV}{v:Value}(h:vm (.fn f cs) v=true):cs=[]/\v=.func (.func f) #[] #[]:=by
 cases cs with
 |nil =>
  cases v with
  |func a b c =>cases a with|func g=>simp[vm]at h;grind|_=>simp[vm]at h
  |_=>simp[vm]at h
 |cons x l=>cases v<;>simp[vm]at h
section
variable{w:World}{S:Nat->Nat->Prop}{N:Tag->Nat->Value->Prop}
mutual
theorem X2x:∀{a:AV} {v:Value},vm a v=true->Rd w S N a v
 |.bool b,v,h=>by cases v<;>simp[vm]at h;subst h;exact .bool b
 |.int k n,v,h=>by cases v<;>simp[vm]at h;obtain⟨rfl,rfl⟩:=h;exact .int k n
 |.str l,v,h=>by
  cases v<;>simp[vm]at h
  rename_i s;subst h
  have:s=⟨s.data.toList.toArray⟩:=by simp
  rw[this];simpa using Rd.str (w:=w) (S:=S) (T:=N) s.data.toList
 |.nl,v,h=>by rw[vm_nl h];exact .nl
 |.agg cs,v,h=>by
  cases v<;>simp[vm]at h
  rename_i vs
  obtain⟨h1,h2⟩:=h
  have:=Z1W h2
  have e:vs=vs.toList.toArray:=by simp
  rw[e]
  exact .agg cs vs.toList this.1 (by simpa[allOne]using h1) this.2
 |.fn f cs,v,h=>by
  obtain⟨rfl,rfl⟩:=vm_fn h
  exact .fn f [] [] rfl (by intro i a v h;simp at h)
 |.tup cs,v,h=>by simp[vm]at h
 |.sl _ _ _,v,h=>by obtain⟨rfl,rfl,rfl⟩:=vm_sl h;exact .sl0 _ _ _ _ λ_ e=>by cases e
 |.sref _,v,h=>by simp[vm]at h
 |.ptr _ _,v,h=>by simp[vm]at h
 |.ept _ _,v,h=>by simp[vm]at h
 |.rpt _ _ _,v,h=>by simp[vm]at h
 |.und,v,h=>by simp[vm]at h
 |.bad,v,h=>by simp[vm]at h
theorem Z1W:∀{cs:List AV} {vs:List Value},vmL cs vs=true->cs.length=vs.length/\∀(i:Nat) (a:AV) (v:Value),cs[i]?=some a->vs[i]?=some v->Rd w S N a v
 |[],[],_=>⟨rfl,by intro i a v h;simp at h⟩
 |a::l,v::m,h=>by
  simp only[vmL,yD]at h
  have h1:=X2x h.1
  have h2:=Z1W h.2
  refine⟨by simp[h2.1],λi a' v' ha hv=>?_⟩
  cases i with
  |zero=>simp at ha hv;subst ha;subst hv;exact h1
  |succ i=>simp at ha hv;exact h2.2 i a' v' ha hv
 |[],_::_,h=>by simp[vmL]at h
 |_::_,[],h=>by simp[vmL]at h
end
end
def chkX:X->Operand->Bool
 |.t i,.tmp j=>i==j|.c a,.const v=>vm a v|.c (.fn f []),.func g=>f==g|_,_=>false
def chkK:X->Operand->Bool
 |.c .bad,.const _=>true|_,_=>false
section
variable{P:Program}{c:Cx}{g:Gh}{s:St}{a:Act}{w:World}
theorem Inv.get(I:Inv c g s a w){x:X}{p:Operand}(h:chkX x p=true):Gv w g s (s.get x) (a.eval p):=by
 cases x with
 |t i =>cases p<;>simp[chkX]at h;subst h;exact I.tm i|c v =>
  cases p with
  |const u=>exact .data _ _ (X2x h)|func f =>
   cases v with
   |fn b cs =>cases cs with|nil =>simp[chkX,beq_iff_eq]at h;subst h;exact .data _ _ (.fn b [] [] rfl (by simp))|cons _ _=>simp[chkX]at h
   |_=>simp[chkX]at h
  |tmp _=>simp[chkX]at h|global _=>simp[chkX]at h
theorem Gv.bool_inv{b:Bool}{v:Value}(h:Gv w g s (.bool b) v):v=.bool b:=by cases h with|data _ _ h=>cases h;rfl
theorem Gv.int_inv{k:IntKind}{n:Int}{v:Value}(h:Gv w g s (.int k n) v):v=.int k n:=by cases h with|data _ _ h=>cases h;rfl
theorem Gv.str_inv{l:List UInt8}{v:Value}(h:Gv w g s (.str l) v):v=.string ⟨l.toArray⟩:=by cases h with|data _ _ h=>cases h;rfl
theorem Gv.nl_inv{v:Value}(h:Gv w g s .nl v):v=.slice none 0 0:=by cases h with|data _ _ h=>cases h;rfl
theorem Gv.und_inv{v:Value}(h:Gv w g s .und v):v=undef:=by cases h with|data _ _ h=>cases h|und=>rfl
theorem Gv.agg_inv{cs:List AV}{v:Value}(h:Gv w g s (.agg cs) v):∃b:List Value,v=.agg b.toArray/\cs.length=b.length/\(∀a∈cs,a.one=true\/a=.bad) /\ ∀(i:Nat)(a:AV)(v:Value),cs[i]?=some a->b[i]?=some v->Gv w g s a v:=by
 cases h with
 |data _ _ h=>cases h with|agg _ b c f h=>exact⟨b,rfl,c,by grind,λi a v e d=>.data _ _ (h i a v e d)⟩
 |agg _ b c f h=>grind
theorem Gv.tup_inv{cs:List AV}{v:Value}(h:Gv w g s (.tup cs) v):∃b:List Value,v=.tuple b.toArray/\cs.length=b.length /\ ∀(i:Nat)(a:AV)(v:Value),cs[i]?=some a->b[i]?=some v->Gv w g s a v:=by cases h with|data _ _ h=>cases h|tup _ b c h=>grind
theorem Gv.fn_inv{f:Nat}{cs:List AV}{v:Value}(h:Gv w g s (.fn f cs) v):∃b:List Value,v=.func (.func f) #[] b.toArray/\cs.length=b.length /\ ∀(i:Nat)(a:AV)(v:Value),cs[i]?=some a->b[i]?=some v->Gv w g s a v:=by
 cases h with
 |data _ _ h=>cases h with|fn _ _ b c h=>exact⟨b,rfl,c,λi a v e d=>.data _ _ (h i a v e d)⟩
 |fn _ _ b c h=>grind
theorem Gv.sl_inv{t:Tag}{a:Nat}{b:List AV}{v:Value}(h:Gv w g s (.sl t a b) v):Rd w g.S g.T (.sl t a b) v:=by cases h with|data _ _ h=>exact h
theorem Gv.sref_inv{k:Nat}{v:Value}{r:Row}(h:Gv w g s (.sref k) v)(a:s.rw k=some r):v=g.rv k:=by cases h with|data _ _ h=>cases h|sref _ _ _ h=>exact h r a
theorem Gv.ptr_inv{k off:Nat}{v:Value}{cs:List AV}(h:Gv w g s (.ptr k off) v)(a:s.bx k=some cs):v=.pointer (some ⟨g.bb k,off,none⟩):=by cases h with|data _ _ h=>cases h|ptr _ _ _ _ h=>exact h cs a
theorem Gv.rpt_inv{k i off:Nat}{v:Value}{r:Row}(h:Gv w g s (.rpt k i off) v)(a:s.rw k=some r):∃b,(g.rv k).ownBlock=some b/\v=.pointer (some ⟨b,i*r.sz+off,none⟩):=by cases h with|data _ _ h=>cases h|rpt _ _ _ _ _ h=>exact h r a
theorem Gv.eot_inv{e:AV}{off:Nat}{v:Value}(h:Gv w g s (.eot e off) v):∃(b o:Nat)(c:Nat->Value),v=.pointer (some ⟨b,o+off,none⟩) /\ (∀(j:Nat)(a:AV),e.cells[j]?=some a->w.cell? ⟨b,o+j,none⟩=some (c j)/\g.S b (o+j)/\a.one=true) /\ ∀(j:Nat)(a:AV),e.cells[j]?=some a->Rd w g.S g.T a (c j):=by cases h with|data _ _ h=>cases h|eot _ _ b o c d h=>exact⟨b,o,c,rfl,d,h⟩
theorem Gv.ept_inv{e:AV}{off:Nat}{v:Value}(h:Gv w g s (.ept e off) v):∃(b o:Nat)(c:Nat->Value),v=.pointer (some ⟨b,o+off,none⟩) /\ (∀(j:Nat)(a:AV),e.cells[j]?=some a->w.cell? ⟨b,o+j,none⟩=some (c j)/\g.S b (o+j)/\a.one=true) /\ ∀(j:Nat)(a:AV),e.cells[j]?=some a->Rd w g.S g.T a (c j):=by cases h with|data _ _ h=>cases h with|ept _ _ b o c d h=>exact⟨b,o,c,rfl,by grind,h⟩
theorem Gv.ept_rd{e:AV}{off:Nat}{v:Value}(h:Gv w g s (.ept e off) v):Rd w g.S g.T (.ept e off) v:=by cases h with|data _ _ h=>exact h
theorem sok{o:Oper}{d:Nat}{K:St->Prop}{f:Act->World->Prop}{l:Exit->Act->World->Prop}{g':Gh}{s':St}{w':World}{x:AV}{v:Value}(k:∀g' s' e w',Inv c g' s' e w'->K s'->f e w')(j:o.dst=some d)(b:d<c.nt)(i:(execOp a.eval o).run P w=.ok (.value v) w')(I:Inv c g' s' a w')(g:Gv w' g' s' x v)(h:K (s'.set d x)):o.wp P a w f l:=by unfold Oper.wp;rw[i,Oper.upon_value,j];exact k _ _ _ _ (I.put b g) h
theorem O1W{c:BinOp}{k:IntKind}{a b r:Int}(t:TypeId)(p q:Operand)(h:c=.and/\r=bAnd k a b\/c=.xor/\r=bXor k a b) : ((do eqGuard c t p q (.int k a) (.int k b);binOp c t (.int k a) (.int k b):Sem Value)).run P w=.ok (.int k r) w:=by rcases h with⟨rfl,rfl⟩|⟨rfl,rfl⟩<;>simp[eqGuard,binOp,Op.intBits,bAnd,bXor]
theorem V2r{k c:IntKind}{a b:Int}(d:0<=b)(t:TypeId)(p q:Operand) : ((do eqGuard .shr t p q (.int k a) (.int c b);binOp .shr t (.int k a) (.int c b):Sem Value)).run P w=.ok (.int k (bShr k a b)) w:=by simp[eqGuard,binOp,Op.shift,bShr,Int.not_lt.2 d]
theorem U2r{j:BinOp}{x y v:AV}{f e:Value}(h:evB j x y=some v)(r:Gv w g s x f)(o:Gv w g s y e)(t:TypeId)(p q:Operand) : ∃u,((do eqGuard j t p q f e;binOp j t f e:Sem Value)).run P w=.ok u w/\Gv w g s v u:=by
 have c:∀{k l:IntKind} {a b:Int},x=.int k a->y=.int l b->f=.int k a/\e=.int l b:=by intro k l a b n m;subst n;subst m;exact⟨r.int_inv,o.int_inv⟩
 have d:∀{a b:List UInt8},x=.str a->y=.str b->f=.string ⟨a.toArray⟩/\e=.string ⟨b.toArray⟩:=by intro a b n m;subst n;subst m;exact⟨r.str_inv,o.str_inv⟩
 unfold evB at h;split at h;all_goals first
   | (split at h
      · rename_i i
        obtain⟨rfl,rfl⟩:=c rfl rfl
        first
          | (cases h;exact⟨_,V2r i t p q,.data _ _ (.int _ _)⟩)
          | (subst i;cases h
             first
               |exact⟨_,O1W t p q (.inl ⟨rfl,rfl⟩),.data _ _ (.int _ _)⟩
               |exact⟨_,O1W t p q (.inr ⟨rfl,rfl⟩),.data _ _ (.int _ _)⟩)
      · cases h;done)
   | (split at h
      · rename_i i
        obtain⟨rfl,rfl⟩:=c rfl rfl
        first
          | (obtain⟨rfl,z⟩:=i;cases h
             refine⟨_,?_,.data _ _ (.int _ _)⟩
             simp[eqGuard,binOp,Op.intDiv,z])
          | (subst i;cases h
             first
               | (refine⟨_,?_,.data _ _ (.int _ _)⟩
                  simp[eqGuard,binOp,Op.intArith];done)
               | (refine⟨_,?_,.data _ _ (.bool _)⟩
                  simp[eqGuard,binOp,Op.intCmp];done))
      · cases h)
   | (obtain⟨rfl,rfl⟩:=d rfl rfl;cases h
      refine⟨_,?_,.data _ _ (.bool _)⟩
      simp[eqGuard,binOp,Op.stringOp,ByteArray.toList_eq,bne];done)
   |cases h
end
end
section
def tsz(P:Program)(t:TypeId):Option Nat:=(P.info? t).map (·.size)
def tby(P:Program)(t:TypeId):Option Nat:=(P.info? t).map (·.bytes)
def Z2c:TypeDesc->Bool | .struct _ | .array _ _=>true|_=>false
def tag?(P:Program)(t:TypeId):Option Bool:=(P.underlying t).map Z2c
section
variable{P:Program}{c:Cx}{g:Gh}{s:St}{a:Act}{w:World}
theorem Ws{t:TypeId}{n:Nat}(h:tsz P t=some n):(sizeOf t).run P w=.ok n w:=by unfold tsz at h;obtain⟨i,a,rfl⟩:=yC h;simp_all[sizeOf,typeInfo]
theorem Z0B{t:TypeId}{b:Bool}(h:tag? P t=some b):(isAgg t).run P w=.ok b w:=by unfold tag? at h;obtain⟨d,a,rfl⟩:=yC h;simp[isAgg,Sem.run_bind,run_underlying a,Result.andThen_ok];cases d<;>rfl
theorem O0b(b o n:Nat):(⟨b,o,none⟩:Addr).add n=⟨b,o+n,none⟩:=by unfold Addr.add;split<;>simp_all
section ops
variable{o:Oper}{d:Nat}{K:St->Prop}{K':Act->World->Prop}{Q':Exit->Act->World->Prop}
theorem Z2r(I:Inv c g s a w)(l:∀g' s' i w',Inv c g' s' i w'->K s'->K' i w')(k:o.dst=some d)(f:d<c.nt){x:X}{p:Operand}(j:o.op=.assign p)(b:chkK x p=true)(h:wop P (.mv d x) K s):o.wp P a w K' Q':=by
 have e:s.get x=.bad:=by
  unfold chkK at b;split at b
  .rfl
  cases b
 simp[wop,e]at h;refine sok (g':=g) (s':=s) (w':=w) (v:=a.eval p) l k f ?_ I (.bad _) h;simp[execOp,j]
theorem Y2m(I:Inv c g s a w)(k:∀g' s' f w',Inv c g' s' f w'->K s'->K' f w')(j:o.dst=some d)(e:d<c.nt){x:X}{p:Operand}(b:o.op=.move p\/o.op=.assign p)(i:chkX x p=true)(h:wop P (.mv d x) K s):o.wp P a w K' Q':=by refine sok (g':=g) (s':=s) (w':=w) (v:=a.eval p) k j e ?_ I (I.get i) h;rcases b with b|b<;>simp[execOp,b]
theorem Y2y(I:Inv c g s a w)(n:∀g' s' i w',Inv c g' s' i w'->K s'->K' i w')(m:o.dst=some d)(b:d<c.nt){x y z:X}{p q r:Operand}(u:o.op=.pick p q r)(l:chkX x p=true)(k:chkX y q=true)(j:chkX z r=true)(h:wop P (.pk d x y z) K s):o.wp P a w K' Q':=by
 simp[wop]at h;have f:=I.get l;split at h
 .rename_i t e;rw[e]at f;have A:=f.bool_inv;refine sok (g':=g) (s':=s) (w':=w) (v:=if t then a.eval q else a.eval r) n m b ?_ I ?_ h
  .simp_all[execOp,asBool]
  cases t
  .exact I.get j
  exact I.get k
 cases h
theorem O2x(I:Inv c g s a w)(n:∀g' s' j w',Inv c g' s' j w'->K s'->K' j w')(m:o.dst=some d)(f:d<c.nt){x:X}{p:Operand}{t:TypeId}(l:o.op=.unOp .not t p)(k:chkX x p=true)(h:wop P (.un d x) K s):o.wp P a w K' Q':=by
 simp[wop]at h;have i:=I.get k;split at h
 .rename_i b e;rw[e]at i;refine sok (g':=g) (s':=s) (w':=w) (v:=.bool !b) n m f ?_ I (.data _ _ (.bool _)) h;simp[execOp,l,i.bool_inv,Op.unary]
 cases h
theorem Y2A(I:Inv c g s a w)(A:∀g' s' j w',Inv c g' s' j w'->K s'->K' j w')(r:o.dst=some d)(b:d<c.nt){f:BinOp}{x y:X}{p q:Operand}{t u:TypeId}(m:o.op=.binOp f t p q u)(l:chkX x p=true)(k:chkX y q=true)(h:wop P (.bi d f x y) K s):o.wp P a w K' Q':=by
 simp[wop]at h;split at h
 .rename_i v e;obtain⟨z,i,n⟩:=U2r (P:=P) (w:=w) e (I.get l) (I.get k) t p q;refine sok (g':=g) (s':=s) (w':=w) (v:=z) A r b ?_ I n h;simp only[execOp,m,Sem.run_bind]at i ⊢;simp[i]
 cases h
theorem O14(n:Nat){t:TypeId}(c:P.underlying t=some .bool)(a b:Bool):(Op.equalIn (n+1) t (.bool a) (.bool b)).run P w=.ok (a==b) w:=by simp[Op.equalIn,run_underlying c]
theorem M1o{t:TypeId}(c:P.underlying t=some .bool)(a b:Bool):(Op.equal t (.bool a) (.bool b)).run P w=.ok (a==b) w:=O14 9999 c a b
theorem V2z(I:Inv c g s a w)(B:∀g' s' l w',Inv c g' s' l w'->K s'->K' l w')(A:o.dst=some d)(e:d<c.nt){b:Bool}{x y:X}{p q:Operand}{t u:TypeId}(z:o.op=.binOp (if b then .neq else .eql) t p q u)(r:P.underlying t=some .bool)(n:chkX x p=true)(m:chkX y q=true)(h:wop P (.eb d b x y) K s):o.wp P a w K' Q':=by
 simp[wop]at h;have k:=I.get n;have j:=I.get m;split at h
 .rename_i i f D C;rw[D]at k;rw[C]at j;refine sok (g':=g) (s':=s) (w':=w) (v:=.bool (if b then !(i==f)else i==f)) B A e ?_ I (.data _ _ (.bool _)) h;cases b<;>simp[execOp,z,k.bool_inv,j.bool_inv,eqGuard,binOp,M1o r]
 cases h
theorem Z2y(I:Inv c g s a w)(z:∀g' s' k w',Inv c g' s' k w'->K s'->K' k w')(r:o.dst=some d)(b:d<c.nt){x y:X}{p q:Operand}{t u:TypeId}(n:o.op=.binOp .add t p q u)(m:chkX x p=true)(l:chkX y q=true)(h:wop P (.sa d x y) K s):o.wp P a w K' Q':=by
 simp[wop]at h;have j:=I.get m;have i:=I.get l;split at h
 .rename_i f e B A;rw[B]at j;rw[A]at i;refine sok (g':=g) (s':=s) (w':=w) (v:=.string ⟨(f++e).toArray⟩) z r b ?_ I (.data _ _ (.str _)) h.2;have:=run_string_add_sum (P:=P) w ⟨f.toArray⟩ ⟨e.toArray⟩ (by simpa[ByteArray.size]using h.1);simp[execOp,n,j.str_inv,i.str_inv,eqGuard,binOp,this,ByteArray.mk_append_mk]
 cases h
theorem U2z(I:Inv c g s a w)(y:∀g' s' j w',Inv c g' s' j w'->K s'->K' j w')(r:o.dst=some d)(f:d<c.nt){k:IntKind}{x:X}{p:Operand}{t u:TypeId}(q:o.op=.convert t u p)(b:(P.underlying t).isSome=true)(m:P.underlying u=some (.int k))(l:chkX x p=true)(h:wop P (.cv d k x) K s):o.wp P a w K' Q':=by
 simp[wop]at h;have i:=I.get l;obtain⟨z,b⟩:=Option.isSome_iff_exists.1 b;split at h
 .rename_i A n e;rw[e]at i;refine sok (g':=g) (s':=s) (w':=w) (v:=.int k (k.wrap n)) y r f ?_ I (.data _ _ (.int _ _)) h;simp[execOp,q,i.int_inv,convert,run_underlying b,run_underlying m,Conv.intToInt]
 cases h
theorem Z2z(I:Inv c g s a w)(y:∀g' s' F w',Inv c g' s' F w'->K s'->K' F w')(v:o.dst=some d)(l:d<c.nt){x:X}{p:Operand}{t:TypeId}{f:Nat}{E:Array Field}{z:Field}{n:Nat}(Q:o.op=.fieldAddr t p f)(N:P.underlying t=some (.struct E))(S:E[f]?=some z)(O:tsz P z.type=some n)(R:n≠0)(G:chkX x p=true)(h:wop P (.fa d x z.offset) K s):o.wp P a w K' Q':=by
 simp[wop]at h;have m:=I.get G;have j:∀b o',a.eval p=.pointer (some ⟨b,o',none⟩)->(execOp a.eval o).run P w=.ok (.value (.pointer (some ⟨b,o'+z.offset,none⟩))) w:=by simp_all[execOp,Instr.fieldAt,run_underlying,Instr.sureAddr,fieldPlace,Ws,O0b]
 split at h
 .rename_i k off e;rw[e]at m;obtain⟨q,h⟩:=h;obtain⟨cs,u⟩:=Option.isSome_iff_exists.1 q;exact sok (g':=g) (s':=s) (w':=w) y v l (j _ _ (m.ptr_inv u)) I (.ptr _ _ _ rfl λM D=>rfl) h
 .rename_i L off e;rw[e]at m;have J:=m.ept_rd;generalize a.eval p=vp at *;cases J with|ept _ _ b o' C q B =>
  refine sok (g':=g) (s':=s) (w':=w) y v l (j _ _ rfl) I (.data _ _ ?_) h;rw[Nat.add_assoc];exact .ept _ _ b o' C q B
 .rename_i L off e;rw[e]at m;obtain⟨b,o',C,A,q,B⟩:=m.eot_inv;refine sok (g':=g) (s':=s) (w':=w) y v l (j _ _ A) I ?_ h;rw[Nat.add_assoc];exact .eot _ _ b o' C q B
 .rename_i k i off e;rw[e]at m;obtain⟨q,h⟩:=h;obtain⟨r,u⟩:=Option.isSome_iff_exists.1 q;obtain⟨b,H,A⟩:=m.rpt_inv u;refine sok (g':=g) (s':=s) (w':=w) y v l (j _ _ A) I (.rpt _ _ _ _ rfl λr' D=>⟨b,H,?_⟩) h;rw[u]at D;grind
 cases h
theorem O0W{i:AV}{n j:Nat}(h:Q1p i n=some j):∃k q,i=.int k q/\0<=q/\q<n/\j=q.toNat:=by unfold Q1p at h;grind
theorem L0P{es:List AV}{b:Nat}(f:∀e∈es,e.cells.length=b){i:Nat}{e:AV}(c:es[i]?=some e){j:Nat}{a:AV}(m:e.cells[j]?=some a):(flat es)[i*b+j]?=some a:=by induction es generalizing i with|nil=>simp at c|cons x l g =>have d:=f x (by simp);cases i with|zero =>simp at c;subst c;have k:j<x.cells.length:=(by grind);simp_all[flat,Nat.zero_mul,Nat.zero_add,yK]|succ i =>simp at c;have:=g (λe h=>f e (by simp[h])) c;simp[flat]at this ⊢;rw[yS (by rw[d,Nat.succ_mul];omega),d];rw[show(i+1)*b+j-b=i*b+j by rw[Nat.succ_mul];omega];exact this
theorem L2y(I:Inv c g s a w)(U:∀g' s' Z w',Inv c g' s' Z w'->K s'->K' Z w')(T:o.dst=some d)(C:d<c.nt){x i:X}{p q:Operand}{t W:TypeId}{n:Nat}(ho:o.op=.indexAddr t p q)(ht:P.underlying t=some (.slice W))(hs:tsz P W=some n)(hx:chkX x p=true)(hi:chkX i q=true)(h:wop P (.ia d x i n) K s):o.wp P a w K' Q':=by
 simp[wop]at h;have J:=I.get hx;have L:=I.get hi;have v:∀(b o' m cap:Nat) (k:IntKind) (z:Int),a.eval p=.slice (some ⟨b,o',none⟩) m cap->a.eval q=.int k z->0<=z->z<m -> (execOp a.eval o).run P w=.ok (.value (.pointer (some ⟨b,o'+z.toNat*n,none⟩))) w:=by intro b o' m cap k z e1 G E D;simp[execOp,ho,e1,G,Instr.indexAt,run_underlying ht,asIntOf,Ws hs,E,D,O0b]
 split at h
 .rename_i t' H es e;rw[e]at J;split at h
  .rename_i j O;obtain⟨k,z,G,E,D,rfl⟩:=O0W O;rw[G]at L;split at h
   .rename_i F f;obtain⟨rfl,h⟩:=h;have B:=J.sl_inv;generalize a.eval p=vp at *;cases B with|sl0=>simp at f|sl _ _ _ b o' cap Y hc hm l R hn A =>refine sok (g':=g) (s':=s) (w':=w) U T C (v b o' _ cap k z rfl L.int_inv E D) I ?_ h;cases hto:t'.isOwn with|true =>rw[yd rfl];refine .eot F 0 b (o'+z.toNat*H) (λj=>Y (z.toNat*H+j)) (λj a u=>?_) (λj a u=>A _ a (L0P l f u));have:=R _ a (L0P l f u);rw[Nat.add_assoc];exact⟨this.1,this.2.1,this.2.2.1⟩|false =>rw[ye (by simp)];refine .data _ _ (.ept F 0 b (o'+z.toNat*H) (λj=>Y (z.toNat*H+j)) (λj a u=>?_) (λj a u=>A _ a (L0P l f u)));have:=R _ a (L0P l f u);rw[Nat.add_assoc];exact⟨this.1,this.2.1,this.2.2.1,Gh.T_to_rd hto this.2.2.2⟩
   cases h
  cases h
 .rename_i Q e;rw[e]at J;split at h
  .rename_i r B;split at h
   .rename_i j O;obtain⟨k,z,G,E,D,rfl⟩:=O0W O;rw[G]at L;obtain⟨rfl,h⟩:=h;have S:=J.sref_inv B;obtain⟨xs,ty,N,_⟩:=I.rws Q r B;rcases N.2 with⟨_,hz⟩|⟨b,cap,cur,y,_⟩
    .omega
    rw[y]at S;have M:(g.rv Q).ownBlock=some b:=by rw[y];rfl
    refine sok (g':=g) (s':=s) (w':=w) U T C (v b 0 _ cap k z S L.int_inv E D) I (.rpt _ _ _ _ rfl λr' V=>⟨b,M,?_⟩) h;rw[B]at V;cases V;simp
   cases h
  cases h
 cases h
end ops
end
end
section
section
variable{P:Program}{c:Cx}{g:Gh}{s:St}{a:Act}{w:World}
section ops
variable{o:Oper}{d:Nat}{K:St->Prop}{K':Act->World->Prop}{Q':Exit->Act->World->Prop}
theorem M2y(I:Inv c g s a w)(H:∀g' s' A w',Inv c g' s' A w'->K s'->K' A w')(G:o.dst=some d)(n:d<c.nt){x i:X}{p q:Operand}{t:TypeId}(D:o.op=.index t p q)(C:P.underlying t=some .string)(B:chkX x p=true)(F:chkX i q=true)(h:wop P (.ix d x i) K s):o.wp P a w K' Q':=by
 simp[wop]at h;have u:=I.get B;have y:=I.get F;split at h
 .rename_i l e;rw[e]at u;split at h
  .rename_i j E;obtain⟨k,z,L,J,N,rfl⟩:=O0W E;rw[L]at y;split at h
   .rename_i b M;refine sok (g':=g) (s':=s) (w':=w) (v:=.int .u8 b.toNat) H G n ?_ I (.data _ _ (.int _ _)) h;have f:z.toNat<l.length:=(by omega);have m:(⟨l.toArray⟩:ByteArray)[z.toNat]?=some b:=by
     have:z.toNat<(⟨l.toArray⟩:ByteArray).size:=by grind[ByteArray.size]
     rw[getElem?_pos (⟨l.toArray⟩:ByteArray) z.toNat this];have r:l[z.toNat]=b:=(by grind);have:(⟨l.toArray⟩:ByteArray)[z.toNat]'this=l.toArray[z.toNat]'(by simpa using f):=rfl;rw[this];simp[r]
    simp[execOp,D,u.str_inv,y.int_inv,Instr.index,run_underlying C,asIntOf,J,m]
   cases h
  cases h
 cases h
theorem XB{t:TypeId}{n:Nat}{c:Bool}(k:tsz P t=some n)(l:tag? P t=some c)(g:c=false->n=1)(b o:Nat)(a:List Value)(d:a.length=n)(e:∀(j:Nat)(v:Value),a[j]?=some v->w.cell? ⟨b,o+j,none⟩=some v) : (loadVar t ⟨b,o,none⟩).run P w=.ok (if c then .agg a.toArray else a.getD 0 undef) w:=by cases c with|true =>have f:=run_loadCells_list (P:=P) (w:=w) ⟨b,o,none⟩ a (λj v h=>by rw[O0b];exact e j v h);rw[d]at f;simp_all[loadVar,Z0B,Ws]|false =>have i:=g rfl;subst i;match a,d with|[v],_ =>have:=e 0 v rfl;simp_all[Nat.add_zero,loadVar,Z0B,run_load]
theorem M19{cs:List AV}{off n:Nat}{i:Bool}{v:AV}(c:U0u cs off n i=some v)(q:i=false->n=1)(b o:Nat)(m:∀(j:Nat)(a:AV),cs[j]?=some a->∃u,w.cell? ⟨b,o+j,none⟩=some u/\(a.one=true\/a=.bad)/\Gv w g s a u) : ∃h:List Value,h.length=n/\(∀(j:Nat)(u:Value),h[j]?=some u->w.cell? ⟨b,o+off+j,none⟩=some u)/\Gv w g s v (if i then .agg h.toArray else h.getD 0 undef):=by
 unfold U0u at c;cases i with
 |true =>
  simp only[yb]at c;split at c
  .rename_i r;cases c;refine⟨(List.range n).map λj=>(w.cell? ⟨b,o+off+j,none⟩).getD undef,by simp,λj u f=>?_,?_⟩
   .rw[yF]at f;obtain⟨k,d,rfl⟩:=yC f;have e:=(yB d).1;simp at e;have:k=j:=by rw[List.getElem?_range e]at d;cases d;rfl
    subst this;obtain⟨u,l,_⟩:=m (off+k) cs[off+k] (yA (by omega));rw[Nat.add_assoc,l];rfl
   simp[];refine .agg _ _ (by simp;omega) ?_ ?_
   .intro a x;obtain⟨j,f,rfl⟩:=List.getElem_of_mem x;simp at f;obtain⟨u,l,p,_⟩:=m (off+j) cs[off+j] (yA (by omega));simpa using p
   grind
  cases c
 |false =>simp[]at c;have p:=q rfl;subst p;obtain⟨u,l,_,t⟩:=m off v c;refine⟨[u],rfl,λj y f=>?_,by simpa using t⟩;grind
theorem L0B{a:List AV}{b:Nat}(c:∀e∈a,e.cells.length=b):(flat a).length=a.length*b:=by induction a with|nil=>simp[flat]|cons x l d =>have:=d (λe h=>c e (by simp[h]));simp[flat]at this ⊢;rw[this,c x (by simp),Nat.succ_mul];omega
theorem Q1B{S:Nat->Nat->Prop}{N:Tag->Nat->Value->Prop}{r:Row}{v:Value}(h:QU w S N r v){b:Nat}(f:v.ownBlock=some b){j:Nat}{x:AV}(i:(flat r.es)[j]?=some x) : ∃u,w.cell? ⟨b,j,none⟩=some u/\x.one=true/\u.oneCell'=true/\Rd w S N x u:=by
 obtain⟨xs,g,a,d,k⟩:=h;have e:j<(flat r.es).length:=(by grind);rw[L0B d,← a.1]at e;have c:xs[j]?=some xs[j]:=by simp
 have:=a.cells f j _ c;rw[O0b,Nat.zero_add]at this;grind
theorem J2C(I:Inv c g s a w){p:AV}{M:Value}(l:Gv w g s p M){t:TypeId}{n:Nat}{L:Bool}(T:tsz P t=some n)(d:tag? P t=some L)(m:L=false->n=1){v:AV}(h:s.ld p n L=some v):∃u,(Instr.loadAt t M).run P w=.ok u w/\Gv w g s v u:=by
 unfold St.ld at h;split at h
 .rename_i e off;obtain⟨b,o,K,rfl,J,H⟩:=l.ept_inv;obtain⟨x,C,q,D⟩:=M19 (w:=w) (g:=g) (s:=s) h m b o (λj a d=>⟨K j,(J j a d).1,by grind,.data _ _ (H j a d)⟩);grind[Instr.loadAt,Instr.sureAddr,XB]
 .rename_i e off;obtain⟨b,o,K,rfl,J,H⟩:=l.eot_inv;obtain⟨x,C,q,D⟩:=M19 (w:=w) (g:=g) (s:=s) h m b o (λj a d=>⟨K j,(J j a d).1,by grind,.data _ _ (H j a d)⟩);grind[Instr.loadAt,Instr.sureAddr,XB]
 .rename_i k off;split at h
  .rename_i cs f;rw[l.ptr_inv f];obtain⟨bs,O,G,E,F⟩:=I.bxs k cs f;obtain⟨x,C,q,D⟩:=M19 (w:=w) (g:=g) (s:=s) h m (g.bb k) 0 (λj a d=>by
    have R:j<bs.length:=by rw[E];grind
    have Q:bs[j]?=some bs[j]:=by simp
    obtain⟨z,N,y⟩:=F j a _ d Q;refine⟨bs[j],?_,z,y⟩;rw[cell_of_row w _ _ _ _ _ G,Nat.zero_add];simp[R])
   simp[Nat.zero_add]at q;grind[Instr.loadAt,Instr.sureAddr,XB]
  cases h
 .rename_i k i off;split at h
  .rename_i r f;split at h
   .rename_i e S;obtain⟨b,G,rfl⟩:=l.rpt_inv f;have A:=(I.rws k r f);obtain⟨xs,O,_,B,_⟩:=A;obtain⟨x,C,q,D⟩:=M19 (w:=w) (g:=g) (s:=s) h m b (i*r.sz) (λj a d=>by obtain⟨u,z,N,_,y⟩:=Q1B (I.rws k r f) G (L0P B S d);exact⟨u,z,.inl N,.data _ _ y⟩);grind[Instr.loadAt,Instr.sureAddr,XB]
   cases h
  cases h
 cases h
theorem O2y(I:Inv c g s a w)(y:∀g' s' f w',Inv c g' s' f w'->K s'->K' f w')(q:o.dst=some d)(b:d<c.nt){x:X}{p:Operand}{t:TypeId}{n:Nat}{e:Bool}(A:o.op=.load t p)(k:tsz P t=some n)(r:tag? P t=some e)(l:e=false->n=1)(i:chkX x p=true)(h:wop P (.ld d x n e) K s):o.wp P a w K' Q':=by
 simp[wop]at h;split at h
 .rename_i v j;obtain⟨u,z,m⟩:=J2C (P:=P) I (I.get i) k r l j;refine sok (g':=g) (s':=s) (w':=w) (v:=u) y q b ?_ I m h;simp_all[execOp]
 cases h
theorem Rd.sl_len{S:Nat->Nat->Prop}{N:Tag->Nat->Value->Prop}{t:Tag}{a:Nat}{es:List AV}{v:Value}(h:Rd w S N (.sl t a es) v):∃p d,v=.slice p es.length d/\es.length<=maxLen:=by cases h with|sl0 _ _ p c=>simp|sl _ _ _ b o c g f e=>grind
theorem M2s{c:Nat}{e:TypeId}{a:Nat}{v:Value}{n:Nat}{xs:List Value}(h:w.ownsRow c e a v n xs):∃p f,v=.slice p n f/\n<=maxLen:=by
 rcases h.2 with⟨rfl,rfl⟩|⟨b,cap,d,rfl,_,_,i,g,_⟩
 .simp
 grind
theorem V2m(I:Inv c g s a w)(v:∀g' s' z w',Inv c g' s' z w'->K s'->K' z w')(u:o.dst=some d)(f:d<c.nt){x:X}{p:Operand}{t E:TypeId}(C:o.op=.call { callee:=.builtin .len,args:=#[p],argTypes:=#[t] })(B:P.underlying t=some (.slice E))(A:chkX x p=true)(h:wop P (.ln d x) K s):o.wp P a w K' Q':=by
 simp[wop]at h;have i:=I.get A;have b:∀l n j,a.eval p=.slice l n j->(execOp a.eval o).run P w=.ok (.value (.int .i64 n)) w:=by intro l n j e;simp[execOp,C,resolve,invoke,builtin,e,Builtin.len_,run_underlying B,goInt]
 split at h
 .rename_i G H es e;rw[e]at i;obtain⟨l,j,m,D⟩:=i.sl_inv.sl_len;exact sok (g':=g) (s':=s) (w':=w) v u f (b _ _ _ m) I (.data _ _ (.int _ _)) (by grind[maxLen])
 .rename_i k e;rw[e]at i;split at h
  .rename_i r y;obtain⟨xs,F,q,_⟩:=I.rws k r y;obtain⟨l,j,m,D⟩:=M2s q;exact sok (g':=g) (s':=s) (w':=w) v u f (b _ _ _ ((i.sref_inv y).trans m)) I (.data _ _ (.int _ _)) (by grind[maxLen])
  cases h
 .rename_i e;rw[e]at i;exact sok (g':=g) (s':=s) (w':=w) v u f (b _ _ _ i.nl_inv) I (.data _ _ (.int _ _)) h
 cases h
theorem W2y(I:Inv c g s a w)(l:∀g' s' e w',Inv c g' s' e w'->K s'->K' e w')(k:o.dst=some d)(b:d<c.nt){x:X}{p:Operand}{t m:TypeId}(j:o.op=.call { callee:=.builtin .len,args:=#[p],argTypes:=#[t] })(i:P.underlying t=some (.slice m))(f:chkX x p=true)(h:wop P (.lq d x) K s):o.wp P a w K' Q':=by apply V2m I l k b j i f (x:=x);grind[wop]
theorem Q2y(I:Inv c g s a w)(r:∀g' s' j w',Inv c g' s' j w'->K s'->K' j w')(q:o.dst=some d)(f:d<c.nt){x:X}{p:Operand}{t:TypeId}(n:o.op=.call { callee:=.builtin .len,args:=#[p],argTypes:=#[t] })(m:P.underlying t=some .string)(k:chkX x p=true)(h:wop P (.ls d x) K s):o.wp P a w K' Q':=by
 simp[wop]at h;have i:=I.get k;split at h
 .rename_i l e;rw[e]at i;refine sok (g':=g) (s':=s) (w':=w) (v:=.int .i64 l.length) r q f ?_ I (.data _ _ (.int _ _)) h;have b:(⟨l.toArray⟩:ByteArray).size=l.length:=by show l.toArray.size=_;simp
  simp[execOp,n,resolve,invoke,builtin,i.str_inv,Builtin.len_,run_underlying m,goInt,b]
 cases h
theorem Y2z(I:Inv c g s a w)(u:∀g' s' l w',Inv c g' s' l w'->K s'->K' l w')(t:o.dst=some d)(b:d<c.nt){x:X}{p:Operand}{i:Nat}(z:o.op=.extract p i)(m:chkX x p=true)(h:wop P (.ex d x i) K s):o.wp P a w K' Q':=by
 simp[wop]at h;have k:=I.get m;split at h
 .rename_i cs e;rw[e]at k;obtain⟨f,y,n,r⟩:=k.tup_inv;split at h
  .rename_i v q;have j:i<f.length:=by rw[← n];grind
   refine sok (g':=g) (s':=s) (w':=w) (v:=f[i]) u t b ?_ I (r i v _ q (by simp)) h;simp_all[execOp,Instr.extract]
  cases h
 cases h
theorem U0M{t:TypeId}{n:Nat}{a:Bool}(e:tsz P t=some n)(d:tag? P t=some a)(b:List Value)(off:Nat)(u:Value)(c:a=false->b[off]?=some u):(part t b.toArray off).run P w=.ok (if a then .agg ((b.drop off).take n).toArray else u) w:=by cases a with|true =>simp_all[part,Z0B,Ws,List.extract_eq_take_drop,List.extract_toArray]|false=>simp[part,Z0B d,c rfl]
theorem J2y(I:Inv c g s a w)(C:∀g' s' u w',Inv c g' s' u w'->K s'->K' u w')(A:o.dst=some d)(m:d<c.nt){x:X}{p:Operand}{t:TypeId}{f:Nat}{E:Array Field}{b:Field}{n:Nat}{r:Bool}(O:o.op=.field t p f)(N:P.underlying t=some (.struct E))(Q:E[f]?=some b)(z:tsz P b.type=some n)(B:tag? P b.type=some r)(F:chkX x p=true)(h:wop P (.fd d x b.offset n r) K s):o.wp P a w K' Q':=by
 simp[wop]at h;have D:=I.get F;split at h
 .rename_i cs e;rw[e]at D;obtain⟨k,M,H,R,L⟩:=D.agg_inv;split at h
  .rename_i v i;unfold U0u at i;cases r with
   |true =>
    simp only[yb]at i;split at i
    .rename_i G;cases i;refine sok (g':=g) (s':=s) (w':=w) (v:=.agg ((k.drop b.offset).take n).toArray) C A m ?_ I ?_ h
     .have:=U0M (P:=P) (w:=w) z B k b.offset undef (by simp);simp_all[execOp,Instr.field,run_underlying,asAgg]
     refine .agg _ _ (by simp;omega) (by grind) (λj u v' J q=>?_);rw[List.getElem?_take]at J q;grind
    cases i
   |false =>
    simp[]at i;have l:b.offset<k.length:=by rw[← H];grind
    have y:=yA l;refine sok (g':=g) (s':=s) (w':=w) (v:=k[b.offset]) C A m ?_ I (L _ _ _ i y) h;have:=U0M (P:=P) (w:=w) z B k b.offset k[b.offset] (λ_=>y);simp_all[execOp,Instr.field,run_underlying,asAgg]
  cases h
 cases h
theorem X2y(I:Inv c g s a w)(l:∀g' s' m w',Inv c g' s' m w'->K s'->K' m w')(j:o.dst=some d)(i:d<c.nt){x:X}{p:Operand}(q:o.op=.nilCheck p)(n:chkX x p=true)(h:wop P (.nc d x) K s):o.wp P a w K' Q':=by
 simp[wop]at h;have b:=I.get n;split at h
 .rename_i k off e;rw[e]at b;obtain⟨t,h⟩:=h;obtain⟨cs,r⟩:=Option.isSome_iff_exists.1 t;refine sok (g':=g) (s':=s) (w':=w) (v:=a.eval p) l j i ?_ I b h;simp[execOp,q,b.ptr_inv r]
 .rename_i f cs e;rw[e]at b;obtain⟨u,y,_⟩:=b.fn_inv;refine sok (g':=g) (s':=s) (w':=w) (v:=a.eval p) l j i ?_ I b h;simp_all[execOp]
 cases h
theorem U2y(I:Inv c g s a w)(r:∀g' s' k w',Inv c g' s' k w'->K s'->K' k w')(q:o.dst=some d)(b:d<c.nt){f:Nat}{xs:List X}{ps:List Operand}(y:o.op=.makeFunc (.func f) #[] ps.toArray)(m:xs.length=ps.length/\∀(i:Nat)(x:X)(p:Operand),xs[i]?=some x->ps[i]?=some p->chkX x p=true)(h:wop P (.mf d f xs) K s):o.wp P a w K' Q':=by
 simp[wop]at h;refine sok (g':=g) (s':=s) (w':=w) (v:=.func (.func f) #[] (ps.map a.eval).toArray) r q b ?_ I (.fn _ _ _ (by simp[m.1]) (λi x v j e=>?_)) h
 .simp_all[execOp,Instr.makeFunc]
 rw[yF]at j e;obtain⟨t,l,rfl⟩:=yC j;obtain⟨u,n,rfl⟩:=yC e;exact I.get (by grind)
theorem X2m(I:Inv c g s a w)(z:∀g' s' l w',Inv c g' s' l w'->K s'->K' l w')(u:o.dst=some d)(e:d<c.nt){mx:Bool}{x y:X}{p q:Operand}{n:Array TypeId}(j:o.op=.call { callee:=.builtin (if mx then .max else .min),args:=#[p,q],argTypes:=n })(t:chkX x p=true)(r:chkX y q=true)(h:wop P (.mm d mx x y) K s):o.wp P a w K' Q':=by
 simp[wop]at h;have i:=I.get t;have f:=I.get r;split at h
 .rename_i k m C b B A;rw[B]at i;rw[A]at f;obtain⟨rfl,h⟩:=h;refine sok (g':=g) (s':=s) (w':=w) (v:=.int k (if mx then max m b else min m b)) z u e ?_ I (.data _ _ (.int _ _)) h;cases mx
  .have:(if b<m then b else m)=min m b:=by split<;>omega
   simp[execOp,j,resolve,invoke,builtin,i.int_inv,f.int_inv,Builtin.min_,Builtin.min2,this]
  have:(if m<b then b else m)=max m b:=by split<;>omega
  simp[execOp,j,resolve,invoke,builtin,i.int_inv,f.int_inv,Builtin.max_,Builtin.max2,this]
 cases h
end ops
end
end
section
section
variable{P:Program}{c:Cx}{g:Gh}{s:St}{a:Act}{w:World}
theorem Rd.one_cell{S:Nat->Nat->Prop}{N:Tag->Nat->Value->Prop}{x:AV}{v:Value}(h:Rd w S N x v)(a:x.one=true):v.oneCell'=true:=by cases h<;>first|rfl|grind[AV.one]
theorem Gv.one_cell{x:AV}{v:Value}(h:Gv w g s x v)(a:x.one=true):v.oneCell'=true:=by cases h with|data _ _ h=>exact h.one_cell a|sref _ _ q _=>exact q|ptr _ _ _ q _=>exact q|rpt _ _ _ _ q _=>exact q|bad=>grind[AV.one]|und=>grind[AV.one]|agg=>grind[AV.one]|tup=>grind[AV.one]|eot=>rfl|od=>rfl|op=>rfl|el=>rfl|fn=>rfl
theorem Z1R{v:Value}(h:v.oneCell'=true):v.cells=#[v]:=by cases v<;>first|rfl|grind[Value.oneCell']
theorem Gv.cells{x:AV}{v:Value}(h:Gv w g s x v)(f:allOne x.cells=true):∃d:List Value,v.cells=d.toArray/\x.cells.length=d.length /\ ∀(i:Nat)(y:AV)(u:Value),x.cells[i]?=some y->d[i]?=some u->y.one=true/\u.oneCell'=true/\Gv w g s y u:=by
 cases hx:x with
 |agg cs =>
  subst hx;obtain⟨d,rfl,k,_,j⟩:=h.agg_inv;refine⟨d,rfl,k,λi y u b e=>?_⟩;have a:y.one=true:=by simp[allOne,AV.cells,List.all_eq_true]at f;exact f y (yE b)
  exact⟨a,(j i y u b e).one_cell a,j i y u b e⟩
 |_ =>
  rw[← hx];have c:x.cells=[x]:=by rw[hx];rfl
  have a:x.one=true:=by rw[c]at f;simpa[allOne]using f
  refine⟨[v],by rw[Z1R (h.one_cell a)],by rw[c];rfl,λi y u b e=>?_⟩;rw[c]at b;cases i with|zero=>simp at b e;subst b;subst e;exact⟨a,h.one_cell a,h⟩|succ i=>simp at b
def Al(w:World)(g:Gh)(s:St)(cs:List AV)(vs:List Value):Prop :=cs.length=vs.length/\∀(i:Nat) (y:AV) (u:Value),cs[i]?=some y->vs[i]?=some u->(y.one=true\/y=.bad)/\u.oneCell'=true/\Gv w g s y u
theorem Q1X{cs a:List AV}{off i:Nat}(h:off+a.length<=cs.length) : (putC cs off a)[i]?=if off<=i/\i<off+a.length then a[i-off]? else cs[i]?:=by
 unfold putC;by_cases c:i<off
 .rw[ye (by omega),List.append_assoc,yK (by simp;omega),List.getElem?_take,yd c]
 by_cases b:i<off+a.length
 .rw[yd ⟨by omega,b⟩,List.append_assoc,yS (by simp;omega),yK (by simp;omega)];congr 1;simp;omega
 rw[ye (by omega),yS (by simp;omega),List.getElem?_drop];congr 1;simp;omega
theorem U1X{cs a:List AV}{off:Nat}(h:off+a.length<=cs.length):(putC cs off a).length=cs.length:=by unfold putC;simp;omega
def putV(cs:List Value)(off:Nat)(vs:List Value):List Value:=cs.take off++vs++cs.drop (off+vs.length)
theorem U0B{cs a:List Value}{off i:Nat}(h:off+a.length<=cs.length) : (putV cs off a)[i]?=if off<=i/\i<off+a.length then a[i-off]? else cs[i]?:=by
 unfold putV;by_cases c:i<off
 .rw[ye (by omega),List.append_assoc,yK (by simp;omega),List.getElem?_take,yd c]
 by_cases b:i<off+a.length
 .rw[yd ⟨by omega,b⟩,List.append_assoc,yS (by simp;omega),yK (by simp;omega)];congr 1;simp;omega
 rw[ye (by omega),yS (by simp;omega),List.getElem?_drop];congr 1;simp;omega
theorem O19{cs a:List Value}{off:Nat}(h:off+a.length<=cs.length):(putV cs off a).length=cs.length:=by unfold putV;simp;omega
theorem Al.put{cs xs:List AV}{e us:List Value}{off:Nat}(h:Al w g s cs e)(f:Al w g s xs us)(b:off+xs.length<=cs.length):Al w g s (putC cs off xs) (putV e off us):=by
 have k:=h.1;have j:=f.1;refine⟨by rw[U1X b,O19 (by omega)];exact k,λi y u c a=>?_⟩;rw[Q1X b]at c;rw[U0B (by omega),← j]at a;split at c
 .rename_i d;rw[yd d]at a;exact f.2 _ _ _ c a
 rename_i d;rw[ye d]at a;exact h.2 _ _ _ c a
theorem Q1l(off:Nat):∀(a:List Value)(k:Nat)(cs:Array Value),off+k+a.length<=cs.size -> ((a.zipIdx k).foldl (λcs (x:Value×Nat)=>cs.setIfInBounds (off+x.2) x.1) cs)=(putV cs.toList (off+k) a).toArray
 |[],k,cs,h=>by simp[putV]|v::a,k,cs,h=>by
  simp[List.zipIdx_cons,List.foldl_cons];simp[]at h;rw[Q1l off a (k+1) _ (by simp;omega)];congr 1;apply List.ext_getElem?;intro i;rw[U0B (by simp;omega),U0B (by simp;omega)];simp[Array.toList_setIfInBounds,List.getElem?_set,Array.length_toList];by_cases c:i=off+k
  .subst c;rw[ye (by omega),yd rfl,yd (by omega),yd ⟨by omega,by omega⟩];simp
  .by_cases b:off+(k+1)<=i/\i<off+(k+1)+a.length
   .rw[yd b,yd ⟨by omega,by omega⟩];rw[show i-(off+k)=(i-(off+(k+1)))+1 by omega];rfl
   .rw[ye b,ye (by omega),ye (by omega)]
theorem L2d{place:Nat->Option (Nat×Nat)}:∀(ps:List (Nat×Nat×AV))(qs:List (Nat×Value))(z z':List AV)(cs:List Value), ps.length=qs.length->(∀(i off n:Nat)(x:AV)(j:Nat)(v:Value),ps[i]?=some (off,n,x)->qs[i]?=some (j,v)->place j=some (off,n)/\Gv w g s x v) -> Al w g s z cs->Y0o z ps=some z'->∃b,Instr.fill place cs.toArray qs=some b.toArray/\Al w g s z' b
 |[],[],z,z',cs,_,_,a,hb=>by simp[Y0o]at hb;subst hb;exact⟨cs,rfl,a⟩| (off,n,x)::ps,(j,v)::qs,z,z',cs,hl,hp,a,hb=>by
  simp only[Y0o]at hb;split at hb
  .rename_i A;obtain⟨D,C,B⟩:=A;obtain⟨h,r⟩:=hp 0 off n x j v rfl rfl;obtain⟨e,p,f,c⟩:=r.cells B;have d:Al w g s x.cells e:=⟨f,λi y u l m=>⟨.inl (c i y u l m).1,(c i y u l m).2⟩⟩;have k:off+x.cells.length<=z.length:=by omega
   obtain⟨b,t,q⟩:=L2d ps qs (putC z off x.cells) z' (putV cs off e) (by simpa using hl) (λi=>hp (i+1)) (a.put d k) hb;refine⟨b,?_,q⟩;have o:=a.1;have:=Q1l off e 0 cs.toArray (by simp;omega);simp[Nat.add_zero]at this;simp only[Instr.fill,h,p];rw[ye (by simp;omega)];rw[← t];congr 1;simpa using this
  .cases hb
 |[],_::_,_,_,_,hl,_,_,_=>by simp at hl|_::_,[],_,_,_,hl,_,_,_=>by simp at hl
section ops
variable{o:Oper}{d:Nat}{K:St->Prop}{K':Act->World->Prop}{Q':Exit->Act->World->Prop}
theorem M1U{z:List AV}{b:List Value}(h:vmL z b=true)(j:allOne z=true):Al w g s z b:=by
 obtain⟨f,e⟩:=Z1W (w:=w) (S:=g.S) (N:=g.T) h;refine⟨f,λi y u c d=>?_⟩;have a:y.one=true:=by grind[allOne,List.all_eq_true,yE]
 exact⟨.inl a,(e i y u c d).one_cell a,.data _ _ (e i y u c d)⟩
theorem V1B{t:TypeId}{a:Value}(h:((P.info? t).bind (·.zero))=some a):(zeroValue t).run P w=.ok a w:=by obtain⟨i,c,b⟩:=Option.bind_eq_some_iff.1 h;simp_all[zeroValue,typeInfo]
theorem V2A(I:Inv c g s a w)(hK:∀g' s' R w',Inv c g' s' R w'->K s'->K' R w')(hd:o.dst=some d)(D:d<c.nt){z:List AV}{ps:List (Nat×Nat×X)}{qs:List (Nat×Operand)}{t:TypeId}{m:Array Field}{r:Value}(Y:o.op=.build t qs.toArray)(V:P.underlying t=some (.struct m))(S:((P.info? t).bind (·.zero))=some r)(A:vmL z r.cells.toList=true)(B:allOne z=true)(hl:ps.length=qs.length)(W:∀(i off n:Nat)(x:X)(j:Nat)(p:Operand),ps[i]?=some (off,n,x)->qs[i]?=some (j,p)->(∃k,m[j]?=some k/\k.offset=off/\tsz P k.type=some n)/\chkX x p=true)(C:∀k∈m,(tsz P k.type).isSome=true)(h:wop P (.bd d z ps) K s):o.wp P a w K' Q':=by
 simp[wop]at h;split at h
 .rename_i cs hb;obtain⟨O,h⟩:=h;have b:∀(l:List Field),(∀k∈l,(tsz P k.type).isSome=true)->(l.mapM (λf=>do pure (f.offset,← sizeOf f.type)):Sem (List (Nat×Nat))).run P w = .ok (l.map λf=>(f.offset,(tsz P f.type).getD 0)) w:=by intro l;induction l with|nil=>intro _;simp|cons f l ih =>simp_all[Option.isSome_iff_exists,List.mapM_cons,Sem.run_bind,Ws,Result.andThen_ok,List.map_cons,Option.getD_some]
  obtain⟨H,N,q⟩:=L2d (w:=w) (g:=g) (s:=s) (place:=λi=>(m.map λf=>(f.offset,(tsz P f.type).getD 0))[i]?)
   (ps.map λ(off,n,x)=>(off,n,s.get x)) (qs.map λ(j,p)=>(j,a.eval p)) z cs r.cells.toList (by simp[hl])
   (λi off n x j v M L=>by
    rw[yF]at M L
    obtain⟨⟨J,n',x'⟩,F,e⟩:=yC M
    obtain⟨⟨j',p'⟩,E,Q⟩:=yC L
    simp[Prod.mk.injEq]at e Q
    obtain⟨rfl,rfl,rfl⟩:=e
    obtain⟨rfl,rfl⟩:=Q
    obtain⟨⟨k,O,h2,h3⟩,h4⟩:=W i _ _ _ _ _ F E
    exact⟨by simp[O,h2,h3],I.get h4⟩)
   (M1U A B) hb
  refine sok (g':=g) (s':=s) (w':=w) (v:=.agg H.toArray) hK hd D ?_ I (.agg _ _ q.1 (by grind[allOne,List.all_eq_true]) (λi y u T U=>(q.2 i y u T U).2.2)) h;have Z:(m.mapM (λf=>do pure (f.offset,← sizeOf f.type)):Sem (Array (Nat×Nat))).run P w=.ok (m.map λf=>(f.offset,(tsz P f.type).getD 0)) w:=by have:=b m.toList (λk G=>C k (by simpa using G));rw[Array.mapM_eq_mapM_toList];simp only[Sem.run_map,this,Result.andThen_ok];rw[← List.map_toArray,Array.toArray_toList]
  rw[Array.toArray_toList]at N;simp only[execOp,Y,Sem.run_bind,Instr.build,V1B S,Result.andThen_ok,run_underlying V,Z];have e1:(Array.map (λ(x:Nat×Operand)=>(x.1,a.eval x.2)) qs.toArray).toList=qs.map λ(j,p)=>(j,a.eval p):=by simp
  rw[e1,N];simp
 cases h
end ops
end
end
section
section
variable{P:Program}{c:Cx}{g:Gh}{s:St}{a:Act}{w:World}
theorem QU.mono{w':World}{S S':Nat->Nat->Prop}{N N':Tag->Nat->Value->Prop}{r:Row}{v:Value}(h:QU w S N r v)(l:∀b o,S b o->S' b o)(m:TLe S N N')(i:∀b o,S b o->w'.cell? ⟨b,o,none⟩=w.cell? ⟨b,o,none⟩)(k:∀b,v.ownBlock=some b->w'.heap[b]?=w.heap[b]?):QU w' S' N' r v:=by
 obtain⟨xs,e,c,p,n⟩:=h;refine⟨xs,e,⟨c.1,?_⟩,p,λj x u f g=>⟨(by grind),(by grind),(n j x u f g).2.2.mono l m i⟩⟩;rcases c.2 with h|⟨b,cap,a,d,t,s,q⟩
 .exact .inl h
 exact .inr ⟨b,cap,a,d,t,by rw[k b (by rw[d];rfl)];exact s,q⟩
theorem Q01.turn{w':World}{g':Gh}{s':St}{b a:Nat}{cs:List AV}(T:Turn (λ_=>True) w w' g g' s s')(j:w'.heap[a]?=w.heap[b]?)(h:Q01 w g s b cs):Q01 w' g' s' a cs:=by obtain⟨c,d,m,l,k⟩:=h;exact⟨c,d,by rw[j];exact m,l,λi x v e f=>⟨(by grind),(by grind),(k i x v e f).2.2.turn T⟩⟩
structure Wrote(w w':World)(b0:Nat):Prop where
 os:w'.os=w.os
 tape:w'.tape=w.tape
 output:w'.output=w.output
 size:w'.heap.size=w.heap.size
 block:∀k,k≠b0->w'.heap[k]?=w.heap[k]?
theorem X10(w:World)(b:Nat)(cs:Array Value):Wrote w (w.setRow b cs) b:=⟨rfl,rfl,rfl,by simp,by grind[setRow_other]⟩
theorem Inv.setbox(I:Inv c g s a w){w':World}{k:Nat}{cs n:List AV}(p:s.bx k=some cs)(W:Wrote w w' (g.bb k))(A:Q01 w' g { s with bx:=λj=>if j=k then some n else s.bx j } (g.bb k) n) : Inv c g { s with bx:=λj=>if j=k then some n else s.bx j } a w':=by
 have B:∀b o,g.S b o->w'.cell? ⟨b,o,none⟩=w.cell? ⟨b,o,none⟩:=λb o x=>World.cell?_of_block (W.block b (λe=>(I.bxn k cs p).2 o (e ▸ x)));have T:Turn (λ_=>True) w w' g g s { s with bx:=λj=>if j=k then some n else s.bx j } := ⟨λ_ _ h=>h,λ_ h=>h,TLe.refl,B,by grind,by grind,λ_ _ h=>h,O1e λb A=>W.block b λe=>I.ow.bx k cs p (e ▸ A)⟩;refine⟨I.defers,I.nt,⟨W.os.trans I.fr.os,W.tape.trans I.fr.tape,W.output.trans I.fr.output,by rw[W.size];exact I.fr.size,?_⟩,λi=>(I.tm i).turn T,?_,?_,?_,I.rwn,?_,?_,I.drr,?_,I.nn,I.nx,I.fix,I.sm,I.sb,I.ow.turn rfl (λ_ h=>h) (yV _) (λb d=>W.block b (λe=>I.ow.bx k cs p (by rw[← e];exact d))) (λj l h=>by
  by_cases m:j=k
  .subst m;exact I.ow.bx j cs p
  simp[m]at h;exact I.ow.bx j l h) I.ow.rw,λb o h q=>(I.uf b o h q).block (W.block b λe=>(I.bxn k cs p).2 o (e ▸ h)),I.sd⟩
 .intro b d z;rw[W.block b (λe=>z ((show Wr c g b by rw[e];exact(I.bxn k cs p).1).2 d))];exact I.fr.block b d z
 .intro j l h;by_cases m:j=k
  .grind
  simp[m]at h;exact(I.bxs j l h).turn T (W.block _ (I.dbb j k l cs h p m))
 .intro j l h;by_cases m:j=k
  .subst m;exact I.bxn j cs p
  simp[m]at h;exact I.bxn j l h
 .intro j r h;exact(I.rws j r h).mono (λ_ _ h=>h) TLe.refl B (λb d=>W.block b (λe=>I.dbr k j cs r p h (e ▸ d)))
 .intro j t l G v u y;have f:∀j l,(if j=k then some n else s.bx j)=some l->∃c0,s.bx j=some c0:=by grind
  obtain⟨F,D⟩:=f j l v;obtain⟨E,C⟩:=f t G u;exact I.dbb j t F E D C y
 .intro j t l r v u;by_cases m:j=k
  .subst m;exact I.dbr j t cs r p u
  simp[m]at v;exact I.dbr j t l r v u
 intro b o x;rw[W.size];exact I.sw b o x
theorem Inv.setrow(I:Inv c g s a w){w':World}{k t:Nat}{r r':Row}(p:s.rw k=some r)(A:r.sh=false)(H:r'.sz=r.sz)(l:(g.rv k).ownBlock=some t)(W:Wrote w w' t)(O:QU w' g.S g.T r' (g.rv k)) : Inv c g { s with rw:=λj=>if j=k then some r' else s.rw j } a w':=by
 have B:∀o,¬ g.S t o:=λo x=>by have:=((I.rwn k r p t l).2 o x).1;rw[A]at this;cases this
 have E:∀b o,g.S b o->w'.cell? ⟨b,o,none⟩=w.cell? ⟨b,o,none⟩:=λb o x=>World.cell?_of_block (W.block b (by grind));have T:Turn (λ_=>True) w w' g g s { s with rw:=λj=>if j=k then some r' else s.rw j } := ⟨λ_ _ h=>h,λ_ h=>h,TLe.refl,E,by grind,by grind,λ_ _ h=>h,O1e λb J=>W.block b λe=>I.ow.rw k r p b (e ▸ l) J⟩;refine⟨I.defers,I.nt,⟨W.os.trans I.fr.os,W.tape.trans I.fr.tape,W.output.trans I.fr.output,by rw[W.size];exact I.fr.size,?_⟩,λi=>(I.tm i).turn T,?_,I.bxn,?_,?_,I.dbb,?_,?_,?_,I.nn,I.nx,I.fix,I.sm,I.sb,I.ow.turn rfl (λ_ h=>h) (yV _) (λb d=>W.block b (λe=>I.ow.rw k r p t l (by rw[← e];exact d))) I.ow.bx (λj m h=>by
  by_cases n:j=k
  .subst n;exact I.ow.rw j r p
  simp[n]at h;exact I.ow.rw j m h),λb o h q=>(I.uf b o h q).block (W.block b λe=>B o (e ▸ h)),I.sd⟩
 .intro b d D;rw[W.block b (λe=>D ((show Wr c g b by rw[e];exact(I.rwn k r p t l).1).2 d))];exact I.fr.block b d D
 .intro j v h;exact(I.bxs j v h).turn T (W.block _ (λe=>I.dbr j k v r h p (by rw[e];exact l)))
 .intro j m h;by_cases n:j=k
  .grind
  simp[n]at h;exact(I.rws j m h).mono (λ_ _ h=>h) TLe.refl E (λb d=>W.block b (λe=>I.drr j k m r h p n b d (e ▸ l)))
 .intro j m h b d;by_cases n:j=k
  .subst n;rw[l]at d;cases d;exact⟨(I.rwn j r p t l).1,by grind⟩
  simp[n]at h;exact I.rwn j m h b d
 .intro j u v m z y;by_cases n:u=k
  .subst n;exact I.dbr j u v r z p
  simp[n]at y;exact I.dbr j u v m z y
 .intro j u m F z y C;have f:∀j m,(if j=k then some r' else s.rw j)=some m->∃G,s.rw j=some G:=by grind
  obtain⟨N,L⟩:=f j m z;obtain⟨M,K⟩:=f u F y;exact I.drr j u N M L K C
 intro b o x;rw[W.size];exact I.sw b o x
theorem Inv.share(I:Inv c g s a w){k:Nat}{r:Row}(n:s.rw k=some r) : Inv c { g with S:=λb o=>g.S b o\/((g.rv k).ownBlock=some b/\o<r.es.length*r.sz) } { s with rw:=λj=>if j=k then some { r with sh:=true } else s.rw j } a w:=by
 have T:Turn (λ_=>True) w w g { g with S:=λb o=>g.S b o\/((g.rv k).ownBlock=some b/\o<r.es.length*r.sz) } s { s with rw:=λj=>if j=k then some { r with sh:=true } else s.rw j } := ⟨by grind,λ_ h=>h,TLe.of (λ_ h=>h) rfl,λ_ _ _=>rfl,by grind,by grind,λ_ _ h=>h,Y1E⟩;have f:∀j l,(if j=k then some { r with sh:=true } else s.rw j)=some l->∃m,s.rw j=some m/\l.sz=m.sz/\l.es=m.es/\(m.sh=true->l.sh=true):=by grind
 refine⟨I.defers,I.nt,I.fr,λi=>(I.tm i).turn T,λj p h=>(I.bxs j p h).turn T rfl,?_,?_,?_,I.dbb,?_,?_,?_,I.nn,I.nx,I.fix,λb o h=>.inl (I.sm b o h),λb o h=>h.elim (I.sb b o) (λh=>by
  rcases Nat.lt_or_ge b c.w0.heap.size with F|F
  .exact .inr (.inr ((I.rwn k r n b h.1).1.2 F))
  omega),I.ow.turn rfl (λ_ h=>h) (yV _) (λ_ _=>rfl) I.ow.bx (λj l h=>by obtain⟨m,y,_⟩:=f j l h;exact I.ow.rw j m y),λb o h q=>h.elim (λh=>I.uf b o h q) (λh=>by
   obtain⟨xs,E,v,_⟩:=I.rws k r n;rcases v.2 with⟨e,_⟩|⟨P,cap,O,e,_,L,_⟩
   .rw[e]at h;cases h.1
   have t:=h.1;rw[e]at t;cases t;exact .plain L),λb o h q=>h.elim (λh=>I.sd b o h q) λh=>I.ow.rw k r n b h.1 (I.ow.dd b q)⟩
 .intro j p h;refine⟨(I.bxn j p h).1,λo d=>?_⟩;rcases d with d|⟨d,_⟩
  .exact(I.bxn j p h).2 o d
  exact I.dbr j k p r h n d
 .intro j l h;obtain⟨m,y,A,z,_⟩:=f j l h;obtain⟨xs,E,K,J,H⟩:=(I.rws j m y).mono T.S T.T T.cell (λ_ _=>rfl);exact⟨xs,E,by rw[A,z];exact K,by rw[A,z];exact J,by rw[z];exact H⟩
 .intro j l h b x;by_cases C:j=k
  .subst C;simp[]at h;subst h;refine⟨(I.rwn j r n b x).1,λo d=>⟨rfl,?_⟩⟩;rcases d with d|⟨_,d⟩
   .exact((I.rwn j r n b x).2 o d).2
   exact d
  simp[C]at h;refine⟨(I.rwn j l h b x).1,λo d=>?_⟩;rcases d with d|⟨d,_⟩
  .exact(I.rwn j l h b x).2 o d
  exact absurd d (I.drr j k l r h n C b x)
 .intro j u p l t D;obtain⟨m,y,_⟩:=f u l D;exact I.dbr j u p m t y
 .intro j u l G t D B;obtain⟨N,A,_⟩:=f j l t;obtain⟨M,z,_⟩:=f u G D;exact I.drr j u N M A z B
 intro b o d;rcases d with d|⟨d,_⟩
 .exact I.sw b o d
 exact O06 (I.rws k r n) d
theorem V0a{S:Nat->Nat->Prop}{N:Tag->Nat->Value->Prop}{r:Row}{v:Value}(h:QU w S N r v)(n:∀b o,v.ownBlock=some b->o<r.es.length*r.sz->S b o)(t:Tag)(m:N t r.sz v):Rd w S N (.sl t r.sz r.es) v:=by
 have f:=h;obtain⟨xs,y,k,d,z⟩:=h;rcases k.2 with⟨rfl,l⟩|⟨b,cap,s,rfl,_,A,q,p,C,B⟩
 .have:=List.eq_nil_of_length_eq_zero l;rw[this];exact .sl0 t r.sz none 0 λ_ _=>trivial
 refine .sl t r.sz r.es b 0 cap (λj=>(w.cell? ⟨b,j,none⟩).getD undef) q p d (λj x c=>?_) (by simp) (λj x c=>?_)
 .obtain⟨u,a,i,_⟩:=Q1B f (b:=b) rfl c;have e:j<(flat r.es).length:=(by grind);rw[L0B d]at e;rw[Nat.zero_add,a];exact⟨rfl,n b j rfl e,i,m⟩
 obtain⟨u,a,_,_,g⟩:=Q1B f (b:=b) rfl c;rw[a];exact g
section ops
variable{o:Oper}{d:Nat}{K:St->Prop}{K':Act->World->Prop}{Q':Exit->Act->World->Prop}
theorem Q2A(I:Inv c g s a w)(u:∀g' s' p w',Inv c g' s' p w'->K s'->K' p w')(r:o.dst=some d)(n:d<c.nt){z:List AV}{t:TypeId}{b:Value}(C:o.op=.alloc t)(B:((P.info? t).bind (·.zero))=some b)(l:vmL z b.cells.toList=true)(m:allOne z=true)(h:wop P (.al d z) K s):o.wp P a w K' Q':=by simp[wop]at h;have A:=I.grow (w':=w.alloc (.cells b.cells t)) (S':=g.S) rfl rfl rfl (by simp) (λk q=>heap_alloc_old w _ q) (λ_ _ h=>h) (λ_ _ h=>.inl h);have f:=heap_alloc_new w (.cells b.cells t);have j:=M1U (w:=w.alloc (.cells b.cells t)) (g:={ g with S:=g.S }) (s:=s) l m;have i:Q01 (w.alloc (.cells b.cells t)) { g with S:=g.S } s w.heap.size z:=⟨b.cells.toList,t,by simpa using f,j.1.symm,j.2⟩;have e:Vac c { g with S:=g.S } s w.heap.size:=I.vac (yV _);have y:=A.addbox d w.heap.size z i e (by have:=c.ntb;omega);refine sok (v:=.pointer (some ⟨w.heap.size,0,none⟩)) u r n ?_ y (.ptr _ _ _ rfl λx D=>by simp) h;simp_all[execOp,Instr.alloc,V1B,newVar,newRow]
theorem J2z(I:Inv c g s a w)(G:∀g' s' z w',Inv c g' s' z w'->K s'->K' z w')(E:o.dst=some d)(n:d<c.nt){x:X}{p:Operand}{t:TypeId}(q:o.op=.box t p)(B:chkX x p=true)(h:wop P (.bx d x) K s):o.wp P a w K' Q':=by simp[wop]at h;obtain⟨H,h⟩:=h;obtain⟨A,C,l,e⟩:=(I.get B).cells H;have M:=I.grow (w':=w.alloc (.cells (a.eval p).cells t)) (S':=g.S) rfl rfl rfl (by simp) (λk D=>heap_alloc_old w _ D) (λ_ _ h=>h) (λ_ _ h=>.inl h);have T:Turn (λ_=>True) w (w.alloc (.cells (a.eval p).cells t)) g { g with S:=g.S } s s := ⟨λ_ _ h=>h,λ_ h=>h,TLe.of (λ_ h=>h) rfl,λb o q=>World.cell?_of_block (heap_alloc_old w _ (I.sw b o q)),λk _ r h=>⟨r,h,rfl,rfl⟩,λk _ r h=>⟨r,h,rfl⟩,λ_ _ h=>h,O1e λb F=>heap_alloc_old w _ (I.ow.size F)⟩;have f:Q01 (w.alloc (.cells (a.eval p).cells t)) { g with S:=g.S } s w.heap.size (s.get x).cells := ⟨A,t,by rw[← C];exact heap_alloc_new w _,l.symm,λi y u j m=>⟨.inl (e i y u j m).1,(e i y u j m).2.1,(e i y u j m).2.2.turn T⟩⟩;have L:=M.addbox d w.heap.size _ f (I.vac (yV _)) (by have:=c.ntb;omega);refine sok (v:=.pointer (some ⟨w.heap.size,0,none⟩)) G E n ?_ L (.ptr _ _ _ rfl λJ N=>by simp) h;simp_all[execOp,Instr.box,newVar,newRow]
theorem V2v(I:Inv c g s a w)(S':Nat->Nat->Prop)(P:∀b o,g.S b o->S' b o)(hR:∀k r b o,s.rw k=some r->(g.rv k).ownBlock=some b->o<r.es.length*r.sz->S' b o) : ∀{x y:AV}{v:Value},s.dt x=some y->Gv w g s x v->Rd w S' g.T1 y v:=by
 have V:∀{x:AV} {v:Value},Gv w g s x v->∀y,s.dt x=some y->Rd w S' g.T1 y v:=by
  intro x v h;have A:∀(cs:List AV) (j:List Value),cs.length=j.length->(∀(i:Nat) (x:AV) (v:Value),cs[i]?=some x->j[i]?=some v->∀y,s.dt x=some y->Rd w S' g.T1 y v) -> ∀ys,s.dtL cs=some ys->ys.length=j.length/\∀(i:Nat) (y:AV) (v:Value),ys[i]?=some y->j[i]?=some v->Rd w S' g.T1 y v:=by
   intro cs;induction cs with
   |nil=>simp[St.dtL]|cons x l u =>
    intro j z hc ys d;match j,z with
    |v::j,z =>
     simp only[St.dtL]at d;split at d
     .rename_i U L D R;simp only[yI]at d;subst d;obtain⟨C,B⟩:=u j (by simpa using z) (λi=>hc (i+1)) L R;grind
     cases d
  have N:∀{x:AV} {v:Value},Rd w g.S g.T x v->∀y,s.dt x=some y->Rd w S' g.T1 y v:=by
   intro x v h;induction h with
   |bool b=>intro y d;simp only[St.dt,yI]at d;subst d;exact .bool b|int k n=>intro y d;simp only[St.dt,yI]at d;subst d;exact .int k n|str l=>intro y d;simp only[St.dt,yI]at d;subst d;exact .str l|nl=>intro y d;simp only[St.dt,yI]at d;subst d;exact .nl|sl0 t M p q Y=>intro y d;simp only[St.dt,yI]at d;subst d;exact .sl0 t M p q Y|sl t M es b o cc K O E X H Z h _ =>intro y d;simp only[St.dt,yI]at d;subst d;exact(Rd.sl t M es b o cc K O E X H Z h).mono P TLe.one (by simp)|ept e off b o K H h _ =>intro y d;simp only[St.dt,yI]at d;subst d;exact(Rd.ept e off b o K H h).mono P TLe.one (by simp)|agg cs j z F h u =>
    intro y d;simp only[St.dt]at d;obtain⟨ys,m,rfl⟩:=yC d;obtain⟨C,B⟩:=A cs j z u ys m;refine .agg ys j C ?_ B;have G:∀(cs ys:List AV),(∀x∈cs,x.one=true)->s.dtL cs=some ys->∀y∈ys,y.one=true:=by
     intro cs;induction cs with
     |nil=>simp[St.dtL]|cons x l u =>
      intro ys F d y E;simp only[St.dtL]at d;split at d
      .rename_i U L D R;simp only[yI]at d;subst d;rcases yX E with rfl|E
       .have Q:=F x (by simp);cases x<;>simp[St.dt,AV.one]at D Q<;>first | (subst D;rfl) | (obtain⟨_,_,rfl⟩:=D;rfl)
       grind
      cases d
    grind
   |fn f cs j z h u =>intro y d;simp only[St.dt]at d;obtain⟨ys,m,rfl⟩:=yC d;obtain⟨C,B⟩:=A cs j z u ys m;exact .fn f ys j C B
  induction h with
  |data x v h=>exact N h|bad v=>simp[St.dt]|und=>simp[St.dt]|sref k v F h =>intro y d;simp only[St.dt]at d;obtain⟨r,J,rfl⟩:=yC d;rw[h r J];exact V0a ((I.rws k r J).mono P TLe.one (by simp) (λ_ _=>rfl)) (by grind) .nw (.inr λb W=>⟨(I.rwn k r J b W).1.1,I.ow.rw k r J b W⟩)|ptr=>simp[St.dt]|rpt=>simp[St.dt]|eot e off b o K H h =>simp[St.dt]|el=>simp[St.dt]|od=>simp[St.dt]|op=>simp[St.dt]|tup=>simp[St.dt]|agg cs j z F h u =>
   intro y d;simp only[St.dt]at d;obtain⟨ys,m,rfl⟩:=yC d;obtain⟨C,B⟩:=A cs j z u ys m;refine .agg ys j C ?_ B;have G:∀(cs ys:List AV),(∀x∈cs,x.one=true\/x=.bad)->s.dtL cs=some ys->∀y∈ys,y.one=true:=by
    intro cs;induction cs with
    |nil=>simp[St.dtL]|cons x l u =>
     intro ys F d y E;simp only[St.dtL]at d;split at d
     .rename_i U L D R;simp only[yI]at d;subst d;rcases yX E with rfl|E
      .have Q:=F x (by simp);cases x<;>simp[St.dt,AV.one]at D Q<;>first | (subst D;rfl) | (obtain⟨_,_,rfl⟩:=D;rfl)
      grind
     cases d
   grind
  |fn f cs j z h u =>intro y d;simp only[St.dt]at d;obtain⟨ys,m,rfl⟩:=yC d;obtain⟨C,B⟩:=A cs j z u ys m;exact .fn f ys j C B
 grind
end ops
end
end
end Go.Proofs.YtehomnafaoplgaaGreat.Eng
