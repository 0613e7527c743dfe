/-
  Lemmas, part 7.
-/
import Derived.Test.YtpgaganbacipnaaGreatS6
import Derived.Deep.Slices
import Derived.ProofKit
namespace Go.Proofs.YtpgaganbacipnaaGreat.Eng
open Go Go.RowKit
section
inductive Ty
 |bool
 |int (k:IntKind)
 |str
 |sl (e:Ty)
 |st (fs:List Ty)
mutual
def Ty.size:Ty->Nat
 |.st fs=>W1a fs
 |_=>1
def W1a:List Ty->Nat
 |[]=>0
 |f::fs=>f.size+W1a fs
end
def Ty.isSt:Ty->Bool
 |.st _=>true
 |_=>false
mutual
def Ty.ok:Ty->List AV->Prop
 |.bool,l=>∃b,l=[.bool b]
 |.int k,l=>∃n,l=[.int k n]/\(Lit.int k n).wf=true
 |.str,l=>∃s,l=[.str s]/\s.length<=maxLen
 |.sl e,l=>l=[.nl]\/∃es:List AV,l=[.sl .rd e.size es]/\es.length<=maxLen/\∀x∈es,x.cells.length=e.size/\(if e.isSt then ∃cs,x=.agg cs else x.one=true)/\Ty.ok e x.cells
 |.st fs,l=>okL fs l
def okL:List Ty->List AV->Prop
 |[],l=>l=[]
 |f::fs,l=>∃l1 l2,l=l1++l2/\Ty.ok f l1/\okL fs l2
end
mutual
def X0o(P:Program):Ty->TypeId->Bool
 |.bool,t=>(match P.underlying t with|some .bool=>true|_=>false)
 |.int k,t=>(match P.underlying t with|some (.int k')=>decide (k'=k)|_=>false)
 |.str,t=>(match P.underlying t with|some .string=>true|_=>false)
 |.sl e,t=>(match P.underlying t with|some (.slice u)=>X0o P e u&&P.cellsOf u==e.size&&e.size != 0|_=>false)
 |.st fs,t=>(match P.underlying t with|some (.struct gs)=>V1f P fs gs.toList 0&&P.cellsOf t==W1a fs|_=>false)
def V1f(P:Program):List Ty->List Field->Nat->Bool
 |[],[],_=>true
 |f::fs,g::gs,o=>g.offset==o&&X0o P f g.type&&P.cellsOf g.type==f.size&&V1f P fs gs (o+f.size)
 |_,_,_=>false
end
section
variable{H:Type}{enc:TypeId×Value->H}{P:Program}{w:World}{base:Nat}{spare:Nat->Bool}{held:Bool}
def AllS(w:World):Nat->Nat->Prop:=fun b _=>b<w.heap.size
def Cells(w:World)(l:List AV)(cs:List Value):Prop :=
 l.length=cs.length/\∀(i:Nat) (a:AV) (v:Value),l[i]?=some a->cs[i]?=some v->a.one=true/\Rd w (AllS w) rdT a v
theorem L1C{a:AV}{v:Value}(h1:a.one=true)(h:Rd w (AllS w) rdT a v):Cells w [a] [v]:=by
 refine⟨rfl,fun i x u hx hu=>?_⟩
 cases i with
 |zero=>simp at hx hu;subst hx;subst hu;exact⟨h1,h⟩
 |succ i=>simp at hx
theorem W1C{l1 l2:List AV}{c1 c2:List Value}(h1:Cells w l1 c1)(h2:Cells w l2 c2):Cells w (l1++l2) (c1++c2):=by
 refine⟨by simp[h1.1,h2.1],fun i x u hx hu=>?_⟩
 rcases Nat.lt_or_ge i l1.length with hi|hi
 .rw[yK hi]at hx
  rw[yK (by rw[← h1.1];exact hi)]at hu
  exact h1.2 i x u hx hu
 .rw[yS hi]at hx
  rw[yS (by rw[← h1.1];exact hi),← h1.1]at hu
  exact h2.2 _ x u hx hu
theorem U1S{b o:Nat}{sp:Option Nat}{v:Value}(h:w.cell? ⟨b,o,sp⟩=some v):b<w.heap.size:=by
 unfold World.cell? at h
 rcases Nat.lt_or_ge b w.heap.size with hl|hl
 .exact hl
 .rw[Array.getElem?_eq_none hl]at h;cases h
theorem O1C{b o:Nat}{sp:Option Nat}{v:Value}(h:w.cell? ⟨b,o,sp⟩=some v):sp=none:=by
 unfold World.cell? at h
 split at h
 .split at h
  .cases h
  .rename_i hs;simpa using hs
 .cases h
mutual
theorem U13:∀{τ:Ty} {l:List AV},τ.ok l->l.length=τ.size
 |.bool,l,h=>by obtain⟨b,rfl⟩:=(by simpa[Ty.ok]using h:∃b,l=[.bool b]);rfl
 |.int k,l,h=>by simp only[Ty.ok]at h;obtain⟨n,rfl,_⟩:=h;rfl
 |.str,l,h=>by simp only[Ty.ok]at h;obtain⟨n,rfl,_⟩:=h;rfl
 |.sl e,l,h=>by
  simp only[Ty.ok]at h
  rcases h with rfl|⟨es,rfl,_⟩<;>rfl
 |.st fs,l,h=>by simp only[Ty.ok]at h;simp only[Ty.size];exact M1l h
theorem M1l:∀{fs:List Ty} {l:List AV},okL fs l->l.length=W1a fs
 |[],l,h=>by simp only[okL]at h;subst h;rfl
 |f::fs,l,h=>by
  simp only[okL]at h
  obtain⟨l1,l2,rfl,h1,h2⟩:=h
  simp only[yU,W1a,U13 h1,M1l h2]
end
theorem Y1L{sz:Nat}(hsz:0<sz):∀(es:List AV),(∀e∈es,e.cells.length=sz)->∀(j:Nat) (a:AV),(flat es)[j]?=some a->∃e,es[j / sz]?=some e/\e.cells[j % sz]?=some a
 |[],_,j,a,h=>by simp[flat]at h
 |e::es,hs,j,a,h=>by
  simp only[flat,ya]at h
  have he:=hs e (by simp)
  rcases Nat.lt_or_ge j sz with hj|hj
  .rw[yK (by rw[he];exact hj)]at h
   exact⟨e,by simp[Nat.div_eq_of_lt hj],by rw[Nat.mod_eq_of_lt hj];exact h⟩
  .rw[yS (by rw[he];exact hj),he]at h
   obtain⟨e',h1,h2⟩:=Y1L hsz es (fun x hx=>hs x (by simp[hx])) (j-sz) a h
   refine⟨e',?_,?_⟩
   .have:j / sz=(j-sz) / sz+1:=by
     rw[← Nat.add_div_right _ hsz];congr 1;omega
    rw[this];simpa using h1
   .have:j % sz=(j-sz) % sz:=by
     rw[← Nat.add_mod_right (j-sz) sz];congr 1;omega
    rw[this];exact h2
mutual
theorem X0u:∀(τ:Ty) {t:TypeId} {fuel:Nat} {cs:List Value} {x:DataW H×List MemPlace},X0o P τ t=true->DataW.trod enc P w base spare held fuel t cs=some x ->
  ∃l,τ.ok l/\Cells w l cs
 |.bool,t,fuel,cs,x,hc,h=>by
  simp only[X0o]at hc
  split at hc
  .rename_i hu
   cases fuel with
   |zero=>simp[DataW.trod]at h
   |succ fuel =>
    unfold DataW.trod at h
    rw[hu]at h
    split at h<;>simp_all
    rename_i b0
    exact⟨[.bool b0],by simp only[Ty.ok];exact⟨_,rfl⟩,L1C rfl (.bool _)⟩
  .cases hc
 |.int k,t,fuel,cs,x,hc,h=>by
  simp only[X0o]at hc
  split at hc
  .rename_i k' hu
   cases fuel with
   |zero=>simp[DataW.trod]at h
   |succ fuel =>
    have hk:k'=k:=by simpa using hc
    subst hk
    unfold DataW.trod at h
    rw[hu]at h
    split at h<;>simp_all
    rename_i k1 n1 _
    obtain⟨⟨rfl,h2⟩,_⟩:=h
    exact⟨[.int _ n1],by simp only[Ty.ok];exact⟨n1,rfl,h2⟩,L1C rfl (.int _ _)⟩
  .cases hc
 |.str,t,fuel,cs,x,hc,h=>by
  simp only[X0o]at hc
  split at hc
  .rename_i hu
   cases fuel with
   |zero=>simp[DataW.trod]at h
   |succ fuel =>
    unfold DataW.trod at h
    rw[hu]at h
    split at h<;>simp_all
    rename_i s0
    refine⟨[.str s0.data.toList],?_,L1C rfl ?_⟩
    .simp only[Ty.ok]
     exact⟨_,rfl,by have h1:=h.1;unfold ByteArray.size at h1;rw[Array.length_toList];exact h1⟩
    .have:s0=⟨s0.data.toList.toArray⟩:=by simp
     have h2:=Rd.str (w:=w) (S:=AllS w) (T:=rdT) s0.data.toList
     rw[← this]at h2
     exact h2
  .cases hc
 |.sl e,t,fuel,cs,x,hc,h=>by
  simp only[X0o]at hc
  split at hc
  .rename_i u hu
   simp only[yD,beq_iff_eq,bne_iff_ne]at hc
   obtain⟨⟨hce,hcc⟩,hne⟩:=hc
   rcases Go.Deep.open_slice hu h with⟨rfl,_⟩|⟨a,len,cap,m,n,D,Pl,rfl,hb,hlc,hcm,hm,_,hel⟩
   .exact⟨[.nl],by simp[Ty.ok],L1C rfl .nl⟩
   .have hlm:len<=m:=by rw[hm];split<;>omega
    have hex:∀i,i<len->∃(l:List AV) (cs':List Value),e.ok l/\Cells w l cs'/\w.cells? base (a.add (i*e.size)) e.size=some cs':=fun i hi=>by
     obtain⟨cs',h1,h2⟩:=hel i (by omega)
     rw[hcc]at h1
     obtain⟨l,q1,q2⟩:=X0u e hce h2
     exact⟨l,cs',q1,q2,h1⟩
    classical
    let L:Nat->List AV:=fun i=>if hi:i<len then(hex i hi).choose else[]
    have hL:∀i,i<len->∃cs',e.ok (L i)/\Cells w (L i) cs'/\w.cells? base (a.add (i*e.size)) e.size=some cs':=fun i hi=>by
     have:=(hex i hi).choose_spec
     simp only[L,dif_pos hi];exact this
    let mkV:List AV->AV:=fun l=>if e.isSt then .agg l else l.getD 0 .bad
    have hmk:∀l cs',e.ok l->Cells w l cs'->(mkV l).cells=l/\(if e.isSt then ∃cs,mkV l=.agg cs else(mkV l).one=true):=fun l cs' hl hcl=>by
     simp only[mkV]
     cases hst:e.isSt with
     |true=>simp[AV.cells]
     |false =>
      have hsz:=U13 hl
      have:e.size=1:=by cases e<;>simp[Ty.isSt]at hst<;>rfl
      rw[this]at hsz
      match l,hsz with
      |[y],_ =>
       have hlen:=hcl.1
       simp at hlen
       obtain⟨v0,hv0⟩:∃v0,cs'[0]?=some v0:=⟨cs'[0]'(by omega),yA (by omega)⟩
       have h1:=(hcl.2 0 y v0 rfl hv0).1
       simp
       exact⟨by cases y<;>first|rfl|simp[AV.one]at h1,h1⟩
    let es:List AV:=(List.range len).map fun i=>mkV (L i)
    have hes:es.length=len:=by simp[es]
    have hget:∀i e',es[i]?=some e'->i<len/\e'=mkV (L i):=fun i e' hi=>by
     simp only[es,yF]at hi
     obtain⟨j,hj,rfl⟩:=yC hi
     have hlt:i<len:=by have:=(yB hj).1;simpa using this
     rw[List.getElem?_range hlt]at hj
     cases hj
     exact⟨hlt,rfl⟩
    have hall:∀x∈es,x.cells.length=e.size/\(if e.isSt then ∃cs,x=.agg cs else x.one=true)/\e.ok x.cells:=fun x hx=>by
     obtain⟨i,hi,rfl⟩:=List.getElem_of_mem hx
     obtain⟨hlt,he⟩:=hget i _ (yA hi)
     obtain⟨cs',q1,q2,q3⟩:=hL i hlt
     obtain⟨p1,p2⟩:=hmk _ _ q1 q2
     rw[he,p1]
     exact⟨U13 q1,p2,q1⟩
    refine⟨[.sl .rd e.size es],by simp only[Ty.ok];exact .inr ⟨es,rfl,by omega,hall⟩,L1C rfl ?_⟩
    rcases Nat.eq_zero_or_pos len with h0|hpos
    .have:es=[]:=List.eq_nil_of_length_eq_zero (by omega)
     rw[this,h0]
     exact .sl0 _ _ _ _ fun _ e=>by cases e
    .have hszp:0<e.size:=Nat.pos_of_ne_zero hne
     have hsp:a.spot=none:=by
      obtain⟨cs',q1,q2,q3⟩:=hL 0 hpos
      obtain⟨_,hcl,hat⟩:=World.cells?_some q3
      have:=hat 0 hszp
      simp only[Nat.zero_mul,Addr.add,yb]at this
      rw[yA (by omega)]at this
      obtain⟨b,o,sp⟩:=a
      exact O1C this
     obtain⟨b,o,sp⟩:=a
     simp only at hsp
     subst hsp
     have hadd:∀o k,(⟨b,o,none⟩:Addr).add k=⟨b,o+k,none⟩:=fun o k=>by
      unfold Addr.add
      split
      .rename_i hk;subst hk;rfl
      .rfl
     have hcell:∀(j:Nat) (y:AV),(flat es)[j]?=some y->∃v,w.cell? ⟨b,o+j,none⟩=some v/\y.one=true/\Rd w (AllS w) rdT y v:=fun j y hj=>by
      obtain⟨e',h1,h2⟩:=Y1L hszp es (fun x hx=>(hall x hx).1) j y hj
      obtain⟨hlt,rfl⟩:=hget _ _ h1
      obtain⟨cs',q1,q2,q3⟩:=hL _ hlt
      obtain⟨p1,_⟩:=hmk _ _ q1 q2
      rw[p1]at h2
      obtain⟨_,hcl,hat⟩:=World.cells?_some q3
      have hmod:j % e.size<e.size:=Nat.mod_lt _ hszp
      have h3:=hat (j % e.size) hmod
      rw[hadd,hadd]at h3
      have hjj:o+j / e.size*e.size+j % e.size=o+j:=by
       have:=Nat.div_add_mod j e.size
       rw[Nat.mul_comm]at this;omega
      rw[hjj,yA (by omega)]at h3
      exact⟨_,h3,q2.2 _ _ _ h2 (yA (by omega))⟩
     rw[← hes]
     refine .sl .rd e.size es b o cap (fun j=>(w.cell? ⟨b,o+j,none⟩).getD undef) (by omega) hcm (fun x hx=>(hall x hx).1) (fun j y hj=>?_) (fun _ e=>by cases e) (fun j y hj=>?_)
     .obtain⟨v,h1,h2,h3⟩:=hcell j y hj
      rw[h1]
      exact⟨rfl,U1S h1,h2,rfl⟩
     .obtain⟨v,h1,h2,h3⟩:=hcell j y hj
      simp only[h1,Option.getD_some]
      exact h3
  .cases hc
 |.st fs,t,fuel,cs,x,hc,h=>by
  simp only[X0o]at hc
  split at hc
  .rename_i gs hu
   simp only[yD,beq_iff_eq]at hc
   obtain⟨xs,n,_,_,hlen,hxl,hf⟩:=DataW.trod_struct hu h
   have:=V0K fs (gs:=gs.toList) (o:=0) (n:=n) (cs:=cs) hc.1 (fun i f hi=>by
    have h1:=hf i f (by simpa using hi)
    have hlt:i<xs.length:=by rw[hxl];have:=(yB hi).1;simpa using this
    rw[yA hlt]at h1
    exact⟨_,h1⟩) (by rw[hlen,hc.2];simp)
   simpa[Ty.ok]using this
  .cases hc
theorem V0K:∀(fs:List Ty) {gs:List Field} {o n:Nat} {cs:List Value},V1f P fs gs o=true ->
  (∀(i:Nat) (f:Field),gs[i]?=some f->∃x,DataW.trod enc P w base spare held n f.type ((cs.drop f.offset).take (P.cellsOf f.type))=some x)->cs.length=o+W1a fs ->
  ∃l,okL fs l/\Cells w l (cs.drop o)
 |[],gs,o,n,cs,hc,h,hl=>by
  simp only[W1a]at hl
  refine⟨[],rfl,?_⟩
  rw[List.drop_eq_nil_of_le (by omega)]
  exact⟨rfl,by intro i a v h;simp at h⟩
 |f::fs,[],o,n,cs,hc,h,hl=>by simp[V1f]at hc
 |f::fs,g::gs,o,n,cs,hc,h,hl=>by
  simp only[V1f,yD,beq_iff_eq]at hc
  obtain⟨⟨⟨h1,h2⟩,h3⟩,h4⟩:=hc
  obtain⟨x,hx⟩:=h 0 g rfl
  rw[h1,h3]at hx
  obtain⟨l1,q1,q2⟩:=X0u f h2 hx
  simp only[W1a]at hl
  obtain⟨l2,q3,q4⟩:=V0K fs (o:=o+f.size) h4 (fun i f' hi=>h (i+1) f' (by simpa using hi)) (by omega)
  refine⟨l1++l2,by simp only[okL];exact⟨l1,l2,rfl,q1,q3⟩,?_⟩
  have:cs.drop o=(cs.drop o).take f.size++cs.drop (o+f.size):=by
   rw[← List.drop_drop,List.take_append_drop]
  rw[this]
  exact W1C q2 q4
end
end
end
section
def Ty.okV(τ:Ty)(a:AV):Prop:=match τ with
 |.st fs=>∃cs,a=.agg cs/\okL fs cs
 |τ=>τ.ok [a]
def okVs:List Ty->List AV->Prop
 |[],l=>l=[]
 |τ::τs,l=>∃a l',l=a::l'/\τ.okV a/\okVs τs l'
def Lx(P:Program):List Ty->List TypeId->Bool
 |[],[]=>true
 |τ::τs,t::ts=>X0o P τ t&&P.readableRec t&&decide (t<P.types.size)&&Lx P τs ts
 |_,_=>false
section
variable{H:Type}{enc:TypeId×Value->H}{P:Program}
theorem Y1Y{w:World}{τ:Ty}{t:TypeId}{v:Value}{d:DataW H}{p:List MemPlace}{base:Nat}{spare:Nat->Bool}{held:Bool}{b0:Nat}(hc:X0o P τ t=true)
  (hv:Value.okWide P w .any b0 t v) (h:DataW.Trod enc P w base spare held t v d p):∃a,τ.okV a/\Rd w (AllS w) rdT a v:=by
 obtain⟨fuel,h⟩:=h
 obtain⟨l,h1,h2⟩:=X0u τ hc h
 have one:v.cells=#[v]->τ.size=1->(∀a,l=[a]->τ.okV a)->∃a,τ.okV a/\Rd w (AllS w) rdT a v:=fun hvc hs hk=>by
  have hsz:=U13 h1
  rw[hs]at hsz
  rw[hvc]at h2
  match l,hsz with
  |[a],_=>exact⟨a,hk a rfl,(h2.2 0 a v rfl rfl).2⟩
 cases τ with
 |st fs =>
  simp only[X0o]at hc
  split at hc
  .rename_i gs hu
   obtain⟨cs,rfl,_⟩:=WideShapes.okWide_struct hu hv
   simp only[Ty.ok]at h1
   refine⟨.agg l,⟨l,rfl,h1⟩,?_⟩
   have e:cs=cs.toList.toArray:=by simp
   have hl:l.length=cs.toList.length:=h2.1
   have h3:=Rd.agg (w:=w) (S:=AllS w) (T:=rdT) l cs.toList hl (fun a ha=>by
    obtain⟨i,hi,rfl⟩:=List.getElem_of_mem ha
    exact(h2.2 i _ _ (yA hi) (yA (show i<cs.toList.length by rw[← hl];exact hi))).1) (fun i a v hi hv=>(h2.2 i a v hi hv).2)
   rw[← e]at h3
   exact h3
  .cases hc
 |bool =>
  simp only[X0o]at hc
  split at hc
  .rename_i hu
   obtain⟨b,rfl⟩:=WideShapes.okWide_bool hu hv
   exact one rfl rfl (fun a e=>by rw[e]at h1;exact h1)
  .cases hc
 |int k =>
  simp only[X0o]at hc
  split at hc
  .rename_i k' hu
   obtain⟨b,rfl⟩:=WideShapes.okWide_int hu hv
   exact one rfl rfl (fun a e=>by rw[e]at h1;exact h1)
  .cases hc
 |str =>
  simp only[X0o]at hc
  split at hc
  .rename_i hu
   obtain⟨b,rfl⟩:=WideShapes.okWide_string hu hv
   exact one rfl rfl (fun a e=>by rw[e]at h1;exact h1)
  .cases hc
 |sl e =>
  simp only[X0o]at hc
  split at hc
  .rename_i u hu
   obtain⟨a,n,c,rfl⟩:=WideShapes.okWide_slice hu hv
   exact one rfl rfl (fun a e=>by rw[e]at h1;exact h1)
  .cases hc
theorem M0z{w:World}{base:Nat}{spare:Nat->Bool}{held:Bool}{b0:Nat}:∀{τs:List Ty} {ts:List TypeId} {vs:List Value} {ds:List (DataW H)} {p:List MemPlace},Lx P τs ts=true ->
  (∀(j:Nat) (t:TypeId) (v:Value),ts[j]?=some t->vs[j]?=some v->Value.okWide P w .any b0 t v)->DataW.TrodAll enc P w base spare held ts vs ds p ->
  ∃as,okVs τs as/\vs.length=as.length/\∀(i:Nat) (a:AV) (v:Value),as[i]?=some a->vs[i]?=some v->Rd w (AllS w) rdT a v
 |[],[],vs,ds,p,_,_,h=>by
  match vs,ds,h with
  |[],[],_=>exact⟨[],rfl,rfl,by intro i a v h;simp at h⟩
  |[],_::_,h=>cases h
  |_::_,_,h=>cases h
 |τ::τs,t::ts,vs,ds,p,hc,hok,h=>by
  simp only[Lx,yD]at hc
  match vs,ds,h with
  |v::vs,d::ds,⟨p1,q1,h1,h2,_⟩ =>
   obtain⟨a,ha,hr⟩:=Y1Y hc.1.1.1 (hok 0 t v rfl rfl) h1
   obtain⟨as,has,hl,hrs⟩:=M0z hc.2 (fun j t v ht hv=>hok (j+1) t v (by simpa using ht) (by simpa using hv)) h2
   refine⟨a::as,⟨a,as,rfl,ha,has⟩,by simp[hl],fun i x u hx hu=>?_⟩
   cases i with
   |zero=>simp at hx hu;subst hx;subst hu;exact hr
   |succ i=>exact hrs i x u (by simpa using hx) (by simpa using hu)
  |[],_,h=>cases ‹List (DataW H)›<;>cases h
  |_::_,[],h=>cases h
 |[],_::_,_,_,_,hc,_,_=>by simp[Lx]at hc
 |_::_,[],_,_,_,hc,_,_=>by simp[Lx]at hc
theorem W0o{w w':World}(hl:laidOutB P=true)(hb:Below w.heap.size w w'):∀{τs:List Ty} {ts:List TypeId} {vs:List Value} {ds:List (DataW H)} {p:List MemPlace},Lx P τs ts=true ->
  (∀x∈p,x.block<w.heap.size)->DataW.TrodAll enc P w 0 (fun _=>true) true ts vs ds p->DataW.TrodAll enc P w' 0 (fun b=>decide (b<w.heap.size)) true ts vs ds p
 |[],[],vs,ds,p,_,_,h=>by
  match vs,ds,h with
  |[],[],h=>exact h
  |[],_::_,h=>cases h
  |_::_,_,h=>cases h
 |τ::τs,t::ts,vs,ds,p,hc,hlt,h=>by
  simp only[Lx,yD,yO]at hc
  match vs,ds,h with
  |v::vs,d::ds,⟨p1,q1,h1,h2,e⟩ =>
   subst e
   exact⟨p1,q1,Below.trod hl hc.1.1.2 hc.1.2 h1 hb (fun x hx=>hlt x (List.mem_append.2 (.inl hx))),W0o hl hb hc.2 (fun x hx=>hlt x (List.mem_append.2 (.inr hx))) h2,rfl⟩
  |[],_,h=>cases ‹List (DataW H)›<;>cases h
  |_::_,[],h=>cases h
 |[],_::_,_,_,_,hc,_,_=>by simp[Lx]at hc
 |_::_,[],_,_,_,hc,_,_=>by simp[Lx]at hc
theorem O1F{f:FuncId}{fn:Func}{s:ChangeSpec}{τs:List Ty}{tb:TypeId}(hl:laidOutB P=true)(hc:Lx P τs fn.params.toList=true)(hrt:fn.resultTypes=#[tb])
  (htb:P.underlying tb=some .bool) (hvars:s.vars=[]) (hspec:∀ds:List (DataW H),ds.length=τs.length->s.fn H ds={ results:=[.lit (.bool true)],args:=ds })
  (hS:∀as,okVs τs as->Snd P f as (.bool true) [])
  (W:World) (base:Nat) (args:Array Value) (ds gs:List (DataW H)) (before:List MemPlace)
  (hval:∀(j:Nat) (t:TypeId) (v:Value),fn.params[j]?=some t->args[j]?=some v->Value.okWide P W .any base t v)
  (hW:DataW.Whole enc P fn.params.toList s.vars false W args.toList ds gs before) :
  Calls P f args W fun e W'=>∃v,e=.returned v/\s.post enc P fn false true false false W args v W':=by
 have hW':=hW
 obtain⟨p,q,hA,hV,rfl,hfz,hnd⟩:=hW
 obtain⟨as,has,hlen,hrd⟩:=M0z hc (fun j t v ht hv=>hval j t v (by simpa using ht) (by simpa using hv)) hA
 have hcall:=hS as has W (AllS W) rdT args.toList (fun b o h=>h) hlen hrd
 rw[show args.toList.toArray=args by simp]at hcall
 refine hcall.mono fun e W' hq=>?_
 obtain⟨v,rfl,hb,g,_,_,_,hg,_⟩:=hq
 have hv:=hg.bool_inv
 subst hv
 refine⟨_,rfl,?_⟩
 have hdl:∀{τs:List Ty} {ts:List TypeId} {vs:List Value} {ds:List (DataW H)} {p:List MemPlace},Lx P τs ts=true->DataW.TrodAll enc P W 0 (fun _=>true) true ts vs ds p->ds.length=τs.length:=by
  intro τs
  induction τs with
  |nil =>
   intro ts vs ds p hc h
   cases ts with
   |nil=>cases vs<;>cases ds<;>first|rfl|cases h
   |cons _ _=>simp[Lx]at hc
  |cons τ τs ih =>
   intro ts vs ds p hc h
   cases ts with
   |nil=>simp[Lx]at hc
   |cons t ts =>
    cases vs with
    |nil=>cases ds<;>cases h
    |cons v vs =>
     cases ds with
     |nil=>cases h
     |cons d ds =>
      obtain⟨p1,q1,h1,h2,_⟩:=h
      simp only[Lx,yD]at hc
      simp[ih hc.2 h2]
 have hgs:gs=[]:=by
  rw[hvars]at hV
  cases gs with
  |nil=>rfl
  |cons _ _=>exact hV.elim
 subst hgs
 have hsp:=hspec ds (hdl hc hA)
 have hV':=hV
 rw[hvars]at hV'
 have hpv:q=[]:=hV'
 subst hpv
 refine⟨ds,[],p++[],[],p,[],hW',?_,?_,?_,hb.frame _,fun h=>(by cases h)⟩
 .rw[List.append_nil,hsp,hrt]
  refine⟨[],[],⟨1,?_⟩,rfl,rfl⟩
  simp[DataW.trod,htb,Value.cells]
 .rw[List.append_nil,hsp]
  exact W0o hl hb hc (fun x hx=>hW'.lt x (by simpa using hx)) hA
 .rw[List.append_nil,hsp,hvars]
  rfl
def Q1C(P:Program)(fn:Func):Bool:=match fn.resultTypes.toList with
 |[t]=>(match P.underlying t with|some .bool=>true|_=>false)
 |_=>false
theorem U1C{P:Program}{fn:Func}(h:Q1C P fn=true):∃t,fn.resultTypes=#[t]/\P.underlying t=some .bool:=by
 unfold Q1C at h
 split at h
 .rename_i t e
  split at h
  .rename_i e2
   refine⟨t,?_,e2⟩
   have:fn.resultTypes=fn.resultTypes.toList.toArray:=by simp
   rw[this,e]
  .cases h
 .cases h
theorem Y1z{f:FuncId}{fn:Func}{s:ChangeSpec}{τs:List Ty}(hl:laidOutB P=true)(hc:Lx P τs fn.params.toList=true)(hrt:Q1C P fn=true)
  (hvars:s.vars=[]) (hspec:∀ds:List (DataW H),ds.length=τs.length->s.fn H ds={ results:=[.lit (.bool true)],args:=ds })
  (hS:∀as,okVs τs as->Snd P f as (.bool true) [])
  (W:World) (base:Nat) (args:Array Value) (ds gs:List (DataW H)) (before:List MemPlace)
  (hval:∀(j:Nat) (t:TypeId) (v:Value),fn.params[j]?=some t->args[j]?=some v->Value.okWide P W .any base t v)
  (hW:DataW.Whole enc P fn.params.toList s.vars false W args.toList ds gs before) :
  Calls P f args W fun e W'=>∃v,e=.returned v/\s.post enc P fn false true false false W args v W':=by
 obtain⟨t,h1,h2⟩:=U1C hrt
 exact O1F hl hc h1 h2 hvars hspec hS W base args ds gs before hval hW
end
end
section
def rkey(fx:List Bool)(i:Nat):Nat:=if fx.getD i true then 1000000000+i else 500000000+i
def cfb(n j:Nat):Option Nat:=if j<n then some (2000000000+j)else none
def cfr(fx:List Bool)(n i:Nat):Option Nat:=if i<n then some (rkey fx i)else none
def stC(n0:Nat)(args:List AV)(bin:List (List AV))(rin:List Row)(fx:List Bool):St :=
  { e:=fun i=>(args.getD i .und).mp (cfb bin.length) (cfr fx rin.length)
    bx:=fun k=>if 2000000000<=k then(bin[k-2000000000]?).map (mpL (cfb bin.length) (cfr fx rin.length))else none
    rw:=fun k=>if 1000000000<=k then(if fx.getD (k-1000000000) true then rin[k-1000000000]? else none)
      else if 500000000<=k then(if fx.getD (k-500000000) true then none else rin[k-500000000]?)else none
    nx:=n0
    my:=fun i=>n0<=i }
def cob(n k:Nat):Option Nat:=if 2000000000<=k then(if k-2000000000<n then some (k-2000000000)else none)else none
def cor(upd:List (Option (List AV)))(ks:List Nat)(n k:Nat):Option Nat :=
 if 1000000000<=k then(match upd[k-1000000000]? with|some (some _)=>some (k-1000000000)|_=>none)else(ix ks k).map fun j=>n+j
def L1f(s:St)(fb fr:Nat->Option Nat):Nat->List (List AV)->Prop
 |_,[]=>True
 |k,b::bs=>(∃cs,s.bx k=some cs/\b=mpL fb fr cs)/\L1f s fb fr (k+1) bs
def updC(s:St)(fx:List Bool):Nat->List Row->List (Option (List AV))->Prop
 |i,r::rs,some es::us=>(fx.getD i true=true/\s.rw (1000000000+i)=some { r with es:=es }/\r.sh=false)/\updC s fx (i+1) rs us
 |i,_::rs,none::us=>updC s fx (i+1) rs us
 |_,[],[]=>True
 |_,_,_=>False
def O0b:List Nat->Prop
 |[]=>True
 |k::ks=>k<1000000000/\O0b ks
def X1w(rs:List Rv)(bin:List (List AV))(rin:List Row)(fx:List Bool)(Φ:Nat->AV->List (List AV)->List (Option (List AV))->List Row->Prop)(e:Ex)(s:St):Prop :=
 (match e with | .ext _=>False|_=>True)/\∃(l:List AV) (bout:List (List AV)) (upd:List (Option (List AV))) (ks:List Nat) (new:List Row),s.rvs rs=some l /\
  L1f s (cob bin.length) (cor upd ks rin.length) 2000000000 bout/\updC s fx 0 rin upd/\ks.Nodup/\O0b ks/\J0r s ks new/\bout.map List.length=bin.map List.length /\
  Φ s.nx ((W0L l).mp (cob bin.length) (cor upd ks rin.length)) bout upd new
section
variable{P:Program}{c:Cx}{g:Gh}{s:St}{a:Act}{w:World}
theorem M1f{fb fr:Nat->Option Nat}:∀{bs:List (List AV)} {k:Nat},L1f s fb fr k bs->∀(i:Nat) (b:List AV),bs[i]?=some b->∃cs,s.bx (k+i)=some cs/\b=mpL fb fr cs
 |[],k,_,i,b,h=>by simp at h
 |b0::bs,k,h,i,b,hb=>by
  cases i with
  |zero=>simp at hb;subst hb;exact h.1
  |succ i =>
   obtain⟨cs,h1,h2⟩:=M1f h.2 i b (by simpa using hb)
   exact⟨cs,by rw[show k+(i+1)=k+1+i by omega];exact h1,h2⟩
theorem O1g{fx:List Bool}:∀{rin:List Row} {upd:List (Option (List AV))} {k:Nat},updC s fx k rin upd->upd.length=rin.length /\
  ∀(i:Nat) (es:List AV),upd[i]?=some (some es)->∃r,rin[i]?=some r/\fx.getD (k+i) true=true/\s.rw (1000000000+(k+i))=some { r with es:=es }/\r.sh=false
 |[],[],k,_=>⟨rfl,by intro i es h;simp at h⟩
 |r::rs,some es::us,k,h=>by
  obtain⟨h1,h2⟩:=O1g h.2
  refine⟨by simp[h1],fun i es' hi=>?_⟩
  cases i with
  |zero=>simp at hi;subst hi;exact⟨r,rfl,h.1⟩
  |succ i =>
   obtain⟨r',q1,q2,q3,q4⟩:=h2 i es' (by simpa using hi)
   rw[show k+(i+1)=k+1+i by omega]
   exact⟨r',by simpa using q1,q2,q3,q4⟩
 |r::rs,none::us,k,h=>by
  obtain⟨h1,h2⟩:=O1g (show updC s fx (k+1) rs us from h)
  refine⟨by simp[h1],fun i es' hi=>?_⟩
  cases i with
  |zero=>simp at hi
  |succ i =>
   obtain⟨r',q1,q2,q3,q4⟩:=h2 i es' (by simpa using hi)
   rw[show k+(i+1)=k+1+i by omega]
   exact⟨r',by simpa using q1,q2,q3,q4⟩
 |[],_::_,_,h=>h.elim
 |_::_,[],_,h=>by simp[updC]at h
theorem W0b:∀{ks:List Nat} {k:Nat},O0b ks->k∈ks->k<1000000000
 |[],k,_,h=>by simp at h
 |k0::ks,k,h,hk=>by
  rcases yX hk with rfl|hk
  .exact h.1
  .exact W0b h.2 hk
theorem M21{n0:Nat}{f:FuncId}{fn:Func}{l:L}{rs:List Rv}{args:List AV}{bin:List (List AV)}{rin:List Row}{Φ:Nat->AV->List (List AV)->List (Option (List AV))->List Row->Prop}(fx:List Bool)
  (hf:P.funcs[f]?=some fn) (hc:chkF P args.length l rs fn=true) (hrl:rin.length<=1000)
  (h:(∀r∈rin,r.sh=false)->den P l (X1w rs bin rin fx Φ) (stC n0 args bin rin fx)):ConN P f n0 args bin rin Φ:=by
 simp only[chkF,yD,yO]at hc
 obtain⟨⟨⟨⟨hc,hr⟩,hr4⟩,hn⟩,hnb⟩:=hc
 cases hb:fn.body with
 |none=>rw[hb]at hc;cases hc
 |some code =>
  rw[hb]at hc
  simp only at hc
  intro w g vs H hN hvl hvs
  have hT:∀gi:Gh,gi.S=g.S->gi.N=g.N->gi.ov=g.ov->TLe g.S g.T gi.T:=fun gi _ h2 h3=>TLe.of (fun b q=>by rw[h2];exact q) h3
  have h:=h (fun r hr'=>by
   obtain⟨i,hi,rfl⟩:=List.getElem_of_mem hr'
   exact(H.rwn i rin[i] (by simp[hSt,yA hi])).1)
  let gi:Gh:={ S:=g.S,N:=g.N,bb:=fun k=>g.bb (k-2000000000),rv:=fun k=>if 1000000000<=k then g.rv (k-1000000000)else g.rv (k-500000000),ov:=g.ov }
  have noX:∀b o,g.S b o->¬ OwnB g bin.length rin.length b:=by
   rintro b o hs (⟨i,hi,e⟩|⟨i,hi,e⟩)
   .exact(H.bxn i bin[i] (by simp[hSt,yA hi])).2 o (by rw[e];exact hs)
   .exact((H.rwn i rin[i] (by simp[hSt,yA hi])).2 b e).2 o hs
  let c:Cx:={ nt:=fn.ntmps,X:=OwnB g bin.length rin.length,Y:=g.N,S0:=g.S,w0:=w,rv0:=gi.rv,bb0:=gi.bb,ntb:=hnb,n0:=n0,my:=fun i=>n0<=i,ov0:=g.ov,s0:=H.sw,sx:=noX }
  have hrw:∀k r,(stC n0 args bin rin fx).rw k=some r->∃i,i<rin.length/\rin[i]?=some r/\k=rkey fx i/\gi.rv k=g.rv i/\(hSt n0 bin (rin.map some)).rw i=some r:=by
   intro k r hk
   simp only[stC]at hk
   split at hk
   .rename_i h1
    split at hk
    .rename_i h2
     have hi:=(yB hk).1
     refine⟨k-1000000000,hi,hk,by unfold rkey;rw[yd h2];omega,by simp only[gi,h1,yb],by simp[hSt,hk]⟩
    .cases hk
   .rename_i h1
    split at hk
    .rename_i h3
     split at hk
     .cases hk
     .rename_i h2
      have hi:=(yB hk).1
      refine⟨k-500000000,hi,hk,by unfold rkey;rw[ye h2];omega,by simp only[gi,h1,yc],by simp[hSt,hk]⟩
    .cases hk
  have hbx:∀k cs,(stC n0 args bin rin fx).bx k=some cs->∃i,i<bin.length/\k=2000000000+i/\gi.bb k=g.bb i/\∃c0,(hSt n0 bin (rin.map some)).bx i=some c0/\cs=mpL (cfb bin.length) (cfr fx rin.length) c0:=by
   intro k cs hk
   simp only[stC]at hk
   split at hk
   .rename_i h1
    obtain⟨c0,h2,rfl⟩:=yC hk
    exact⟨k-2000000000,(yB h2).1,by omega,rfl,c0,h2,rfl⟩
   .cases hk
  have kinj:∀i j,i<rin.length->j<rin.length->rkey fx i=rkey fx j->i=j:=by
   intro i j hi hj e
   unfold rkey at e
   split at e<;>split at e<;>omega
  have toR:∀i k,cfr fx rin.length i=some k->∀r',(stC n0 args bin rin fx).rw k=some r'->∃r,(hSt n0 bin (rin.map some)).rw i=some r/\r'.sz=r.sz/\gi.rv k=g.rv i:=by
   intro i k hik r' hr'
   obtain⟨j,h1,h2,h3,h4,h5⟩:=hrw k r' hr'
   unfold cfr at hik
   split at hik
   .rename_i hi
    cases hik
    have:=kinj i j hi h1 h3
    subst this
    exact⟨r',h5,rfl,h4⟩
   .cases hik
  have toB:∀i k,cfb bin.length i=some k->∀c',(stC n0 args bin rin fx).bx k=some c'->∃c,(hSt n0 bin (rin.map some)).bx i=some c/\gi.bb k=g.bb i:=by
   intro i k hik c' hc'
   obtain⟨j,h1,h2,h3,c0,h4,_⟩:=hbx k c' hc'
   unfold cfb at hik
   split at hik
   .cases hik
    have:i=j:=by omega
    subst this
    exact⟨c0,h4,h3⟩
   .cases hik
  have I:Inv c gi (stC n0 args bin rin fx) { tmps:=vs.toArray++Array.replicate (fn.ntmps-vs.toArray.size) undef,defers:=[] } w:=by
   refine⟨rfl,by simp only[Array.size_append,List.size_toArray,Array.size_replicate,c];omega,⟨rfl,rfl,rfl,yV _,fun _ _ _=>rfl⟩,fun i=>?_,fun k cs h=>?_,fun k cs h=>?_,fun k r h=>?_,fun k r h b hb'=>?_,
    fun k k' cs cs' h h' hne=>?_,fun k k' cs r h h'=>?_,fun k k' r r' h h' hne b hb'=>?_,H.sw,hN,fun _ h _=>h,fun _ _=>⟨rfl,rfl⟩,fun _ _ h=>h,fun _ _ h=>.inl h,⟨⟨H.ow.lt,H.ow.own,H.ow.dis,fun k cs h q=>?_,fun k r h b hb' q=>?_,H.ow.uf⟩,fun i D h hi b hb'=>absurd (H.ow.lt i D h) (Nat.not_lt.2 hi),rfl,yV _,fun _ _=>rfl,fun _ h=>(show False from h).elim,fun _ h=>(show False from h).elim,fun _ _ _ h=>(show False from h).elim⟩,fun b o h q=>q.elim (fun q=>absurd (H.sw b o h) (Nat.not_lt.2 q)) fun q=>absurd q (noX b o h),fun _ _ _ h=>h⟩
   .simp only[stC]
    rcases Nat.lt_or_ge i args.length with hi|hi
    .have hiv:i<vs.length:=by omega
     have e1:args.getD i .und=args[i]:=by simp[List.getD_eq_getElem?_getD,hi]
     have e2:(vs.toArray++Array.replicate (fn.ntmps-vs.toArray.size) undef).getD i undef=vs[i]:=by
      simp[Array.getD_eq_getD_getElem?,Array.getElem?_append_left,hiv]
     rw[e1,e2]
     exact(hvs i args[i] vs[i] (yA hi) (yA hiv)).mp (g:=g) (g':=gi) (s':=stC n0 args bin rin fx) (fun _ _ h=>h) (hT gi rfl rfl rfl) (fun _ _ _=>rfl) toR toB
    .have e1:args.getD i .und=.und:=by simp[List.getD_eq_getElem?_getD,List.getElem?_eq_none hi]
     have e2:(vs.toArray++Array.replicate (fn.ntmps-vs.toArray.size) undef).getD i undef=undef:=by
      rw[Array.getD_eq_getD_getElem?,Array.getElem?_append_right (by simp;omega),Array.getElem?_replicate]
      split<;>rfl
     rw[e1,e2]
     exact .und
   .obtain⟨j,h1,h2,h3,c0,h4,rfl⟩:=hbx k cs h
    rw[h3]
    exact(H.bxs j c0 h4).mp (g:=g) (g':=gi) (s':=stC n0 args bin rin fx) (fun _ _ h=>h) (hT gi rfl rfl rfl) (fun _ _ _=>rfl) toR toB rfl
   .obtain⟨j,h1,h2,h3,c0,h4,rfl⟩:=hbx k cs h
    rw[h3]
    exact⟨⟨(H.bxn j c0 h4).1,fun _=>.inl ⟨j,h1,rfl⟩⟩,(H.bxn j c0 h4).2⟩
   .obtain⟨j,h1,h2,h3,h4,h5⟩:=hrw k r h
    have e:gi.T=g.T:=Gh.T_eq rfl rfl
    rw[h4,e];exact H.rws j r h5
   .obtain⟨j,h1,h2,h3,h4,h5⟩:=hrw k r h
    rw[h4]at hb'
    obtain⟨q1,q2⟩:=(H.rwn j r h5).2 b hb'
    exact⟨⟨q1,fun _=>.inr ⟨j,h1,hb'⟩⟩,fun o ho=>absurd ho (q2 o)⟩
   .obtain⟨j,h1,h2,h3,c0,h4,rfl⟩:=hbx k cs h
    obtain⟨j',h1',h2',h3',c0',h4',rfl⟩:=hbx k' cs' h'
    rw[h3,h3']
    exact H.dbb j j' c0 c0' h4 h4' (fun e=>hne (by omega))
   .obtain⟨j,h1,h2,h3,c0,h4,rfl⟩:=hbx k cs h
    obtain⟨j',h1',h2',h3',h4',h5'⟩:=hrw k' r h'
    rw[h3,h4']
    exact H.dbr j j' c0 r h4 h5'
   .obtain⟨j,h1,h2,h3,h4,h5⟩:=hrw k r h
    obtain⟨j',h1',h2',h3',h4',h5'⟩:=hrw k' r' h'
    rw[h4]at hb';rw[h4']
    exact H.drr j j' r r' h5 h5' (fun e=>hne (by rw[h3,h3',e])) b hb'
   .obtain⟨j,h1,h2,h3,c0,h4,rfl⟩:=hbx k cs h
    have q:gi.own (g.bb j):=by rw[← h3];exact q
    exact H.ow.bx j c0 h4 (by obtain⟨i,D,q1,q2⟩:=q;exact⟨i,D,q1,q2⟩)
   .obtain⟨j,h1,h2,h3,h4,h5⟩:=hrw k r h
    have hb':(g.rv j).ownBlock=some b:=by rw[← h4];exact hb'
    exact H.ow.rw j r h5 b hb' (by obtain⟨i,D,q1,q2⟩:=q;exact⟨i,D,q1,q2⟩)
  refine calls_of_wp hf hb ?_
  refine W0y (c:=c) hc (fun e g' s' a' w' I' hp=>?_) I h
  have fin:(∃v,(results fn a'.tmps).run P w'=.ok v w'/\∃v',Ending.returned v=.returned v'/\Kept (OwnB g bin.length rin.length) w w'/\∃n1 res bout upd new,n0<=n1/\Φ n1 res bout upd new /\
    bout.map List.length=bin.map List.length/\upd.length=rin.length/\∃g':Gh,(∀b o,g'.S b o->(g.S b o\/w.heap.size<=b\/OwnB g bin.length rin.length b)/\(w.heap.size<=b\/OwnB g bin.length rin.length b->UnfB w' b))/\(∀b,g'.N b->g.N b) /\
    (∀i,i<bin.length->g'.bb i=g.bb i)/\(∀i es,upd[i]?=some (some es)->g'.rv i=g.rv i)/\Heap w' g' (hSt n1 bout (V7 rin upd new)) /\
    (∀(j:Nat) (r:Row),new[j]?=some r->∀b,(g'.rv (rin.length+j)).ownBlock=some b->w.heap.size<=b\/OwnB g bin.length rin.length b) /\
    (∀i,i<n0->g'.ov i=g.ov i)/\(∀i D,n0<=i->g'.ov i=some D->∀b,D b->w.heap.size<=b\/OwnB g bin.length rin.length b) /\
    Gv w' g' (hSt n1 bout (V7 rin upd new)) res v'):=by
   obtain⟨_,l',bout,upd,ks,new,p1,p2,p3,p4,p5,p6,p7,p8⟩:=hp
   obtain⟨u,q1,q2⟩:=Z0n (P:=P) I' hr4 hr p1
   have p2:=M1f p2
   obtain⟨hul,p3⟩:=O1g p3
   obtain⟨hkl,p6⟩:=J0R p6
   have hbl:bout.length=bin.length:=by simpa using congrArg List.length p7
   have hNg:∀b,g'.N b->g.N b:=fun b hb'=>by
    rcases Nat.lt_or_ge b w.heap.size with hl|hl
    .exact I'.nx b hb' hl
    .exact hN b hl
   let G:Gh:={ S:=g'.S,N:=g'.N,bb:=fun i=>g'.bb (2000000000+i),rv:=fun i=>if i<rin.length then g'.rv (1000000000+i)else g'.rv (ks.getD (i-rin.length) 0),ov:=g'.ov }
   have hTG:TLe g'.S g'.T G.T:=TLe.of (fun _ q=>q) rfl
   have bkey:∀i cs,(hSt s'.nx bout (V7 rin upd new)).bx i=some cs->i<bin.length/\∃c0,s'.bx (2000000000+i)=some c0/\cs=mpL (cob bin.length) (cor upd ks rin.length) c0:=by
    intro i cs hi
    have hi':bout[i]?=some cs:=hi
    obtain⟨c0,h1,h2⟩:=p2 i cs hi'
    exact⟨by rw[← hbl];exact(yB hi').1,c0,h1,h2⟩
   have rkey':∀i r,(hSt s'.nx bout (V7 rin upd new)).rw i=some r->∃k,s'.rw k=some r/\r.sh=false/\G.rv i=g'.rv k/\((i<rin.length/\k=1000000000+i)\/(rin.length<=i/\ks[i-rin.length]?=some k)):=by
    intro i r hi
    rcases Nat.lt_or_ge i rin.length with hl|hl
    .have hu:i<upd.length:=by omega
     have e:=Y0n (new:=new) (yA hl) (yA hu)
     simp only[hSt,e,Option.join]at hi
     cases hui:upd[i]with
     |none=>simp[hui]at hi
     |some es =>
      simp only[hui,Option.map_some,bS,_root_.id,yI]at hi
      obtain⟨r0,z1,z2,z3,z4⟩:=p3 i es (by rw[yA hu,hui])
      rw[yA hl]at z1
      cases z1
      subst hi
      exact⟨1000000000+i,by simpa using z3,z4,by simp[G,hl],.inl ⟨hl,rfl⟩⟩
    .have e:=X0n (rin:=rin) (upd:=upd) (new:=new) (j:=i-rin.length) hul
     rw[show rin.length+(i-rin.length)=i by omega]at e
     simp only[hSt,e,Option.join]at hi
     cases hn':new[i-rin.length]? with
     |none=>simp[hn']at hi
     |some r0 =>
      simp only[hn',Option.map_some,bS,_root_.id,yI]at hi
      subst hi
      have hlt:i-rin.length<ks.length:=by rw[hkl];exact(yB hn').1
      obtain⟨z1,z2⟩:=p6 _ _ _ (yA hlt) hn'
      refine⟨ks[i-rin.length],z1,z2,?_,.inr ⟨hl,yA hlt⟩⟩
      simp only[G,Nat.not_lt.2 hl,yc,List.getD_eq_getElem?_getD,yA hlt,Option.getD_some]
   have kinj':∀i i' k,((i<rin.length/\k=1000000000+i)\/(rin.length<=i/\ks[i-rin.length]?=some k))->((i'<rin.length/\k=1000000000+i')\/(rin.length<=i'/\ks[i'-rin.length]?=some k))->i=i':=by
    intro i i' k h1 h2
    rcases h1 with⟨h1,e1⟩|⟨h1,e1⟩<;>rcases h2 with⟨h2,e2⟩|⟨h2,e2⟩
    .omega
    .have:=W0b p5 (yE e2);omega
    .have:=W0b p5 (yE e1);omega
    .have:=(List.getElem?_inj (i:=i-rin.length) (j:=i'-rin.length) (yB e1).1 p4).1 (by rw[e1,e2]);omega
   have nR:∀k i,cor upd ks rin.length k=some i->∀r',(hSt s'.nx bout (V7 rin upd new)).rw i=some r'->∃r,s'.rw k=some r/\r'.sz=r.sz/\G.rv i=g'.rv k:=by
    intro k i hki r' hr'
    obtain⟨k',z1,z2,z3,z4⟩:=rkey' i r' hr'
    have:k'=k:=by
     unfold cor at hki
     split at hki
     .rename_i hk
      split at hki
      .rename_i es he
       have hki:=Option.some.inj hki
       have:=(yB he).1
       rcases z4 with⟨z4,z5⟩|⟨z4,z5⟩<;>omega
      .cases hki
     .obtain⟨j,hj,rfl⟩:=yC hki
      have:=L1F hj
      rcases z4 with⟨z4,z5⟩|⟨z4,z5⟩
      .omega
      .rw[show rin.length+j-rin.length=j by omega,this]at z5
       cases z5;rfl
    subst this
    exact⟨r',z1,rfl,z3⟩
   have nB:∀k i,cob bin.length k=some i->∀c',(hSt s'.nx bout (V7 rin upd new)).bx i=some c'->∃c,s'.bx k=some c/\G.bb i=g'.bb k:=by
    intro k i hki c' hc'
    obtain⟨_,c0,z1,_⟩:=bkey i c' hc'
    unfold cob at hki
    split at hki
    .split at hki
     .have hki:=Option.some.inj hki
      rename_i hk _
      have e:2000000000+i=k:=by omega
      exact⟨c0,by rw[e]at z1;exact z1,by simp only[G,e]⟩
     .cases hki
    .cases hki
   have blkW:∀b,Wr c g' b->w.heap.size<=b\/OwnB g bin.length rin.length b:=by
    intro b hw
    rcases Nat.lt_or_ge b w.heap.size with hl|hl
    .exact .inr (hw.2 hl)
    .exact .inl hl
   refine⟨u,q1,u,rfl,⟨I'.fr.os,I'.fr.tape,I'.fr.output,I'.fr.size,fun k hk hx=>I'.fr.block k hk hx⟩,s'.nx,_,bout,upd,new,I'.ow.n0,p8,p7,hul,G,fun b o ho=>⟨I'.sb b o ho,I'.uf b o ho⟩,hNg,fun i hi=>?_,fun i es hi=>?_,?_,fun j r hj b hb'=>?_,fun i hi=>I'.ow.old i hi,fun i D hi hv b hb'=>blkW b (I'.ow.my i D hv (by rw[I'.ow.mm];exact hi) b hb'),?_⟩
   .have:=(I'.fix (2000000000+i) (by omega)).2
    show g'.bb (2000000000+i)=g.bb i
    rw[this]
    show g.bb (2000000000+i-2000000000)=g.bb i
    rw[Nat.add_sub_cancel_left]
   .obtain⟨r,z1,_⟩:=p3 i es hi
    have hl:=(yB z1).1
    have:=(I'.fix (1000000000+i) (by omega)).1
    show(if i<rin.length then g'.rv (1000000000+i)else g'.rv (ks.getD (i-rin.length) 0))=g.rv i
    rw[yd hl,this]
    show(if 1000000000<=1000000000+i then g.rv (1000000000+i-1000000000)else g.rv (1000000000+i-500000000))=g.rv i
    rw[yd (Nat.le_add_right _ _),Nat.add_sub_cancel_left]
   .refine⟨fun i cs hi=>?_,fun i cs hi=>?_,fun i r hi=>?_,fun i r hi=>?_,fun i i' cs cs' hi hi' hne=>?_,fun i i' cs r hi hi'=>?_,fun i i' r r' hi hi' hne b hb'=>?_,I'.sw,⟨I'.ow.lt,I'.ow.own,I'.ow.dis,fun i cs hi q=>?_,fun i r hi b hb' q=>?_,I'.ow.uf⟩⟩
    .obtain⟨_,c0,z1,rfl⟩:=bkey i cs hi
     exact(I'.bxs _ c0 z1).mp (g:=g') (g':=G) (s':=hSt s'.nx bout (V7 rin upd new)) (fun _ _ h=>h) hTG (fun _ _ _=>rfl) nR nB rfl
    .obtain⟨_,c0,z1,rfl⟩:=bkey i cs hi
     exact⟨(I'.bxn _ c0 z1).1.1,(I'.bxn _ c0 z1).2⟩
    .obtain⟨k,z1,z2,z3,_⟩:=rkey' i r hi
     have e:G.T=g'.T:=Gh.T_eq rfl rfl
     rw[z3,e];exact I'.rws k r z1
    .obtain⟨k,z1,z2,z3,_⟩:=rkey' i r hi
     rw[z3]
     refine⟨z2,fun b hb'=>⟨(I'.rwn k r z1 b hb').1.1,fun o ho=>?_⟩⟩
     have:=((I'.rwn k r z1 b hb').2 o ho).1
     rw[z2]at this;cases this
    .obtain⟨_,c0,z1,_⟩:=bkey i cs hi
     obtain⟨_,c0',z1',_⟩:=bkey i' cs' hi'
     exact I'.dbb _ _ c0 c0' z1 z1' (by omega)
    .obtain⟨_,c0,z1,_⟩:=bkey i cs hi
     obtain⟨k,y1,y2,y3,_⟩:=rkey' i' r hi'
     rw[y3];exact I'.dbr _ _ c0 r z1 y1
    .obtain⟨k,z1,z2,z3,z4⟩:=rkey' i r hi
     obtain⟨k',y1,y2,y3,y4⟩:=rkey' i' r' hi'
     rw[z3]at hb';rw[y3]
     exact I'.drr k k' r r' z1 y1 (fun e=>hne (kinj' i i' k z4 (by rw[e];exact y4))) b hb'
    .obtain⟨_,c0,z1,_⟩:=bkey i cs hi
     exact I'.ow.bx _ c0 z1 q
    .obtain⟨k,z1,z2,z3,_⟩:=rkey' i r hi
     rw[z3]at hb'
     exact I'.ow.rw k r z1 b hb' q
   .have hlt:j<ks.length:=by rw[hkl];exact(yB hj).1
    obtain⟨z1,z2⟩:=p6 j _ r (yA hlt) hj
    have e:G.rv (rin.length+j)=g'.rv ks[j]:=by
     simp only[G,show ¬ rin.length+j<rin.length by omega,yc,List.getD_eq_getElem?_getD,show rin.length+j-rin.length=j by omega,yA hlt,Option.getD_some]
    rw[e]at hb'
    exact blkW b (I'.rwn _ r z1 b hb').1
   .exact q2.mp (g:=g') (g':=G) (s':=hSt s'.nx bout (V7 rin upd new)) (fun _ _ h=>h) hTG (fun _ _ _=>rfl) nR nB
  cases e with
  |nrm=>exact⟨I'.defers,fin⟩
  |ret=>exact⟨I'.defers,fin⟩
  |ext id=>exact hp.1.elim
theorem L21{f:FuncId}{l:L}{rs:List Rv}{args:List AV}{bin:List (List AV)}{rin:List Row}{Φ:AV->List (List AV)->List (Option (List AV))->List Row->Prop}{n:Nat}(fx:List Bool)
  (hc:YF P f n l rs=true) (hn:args.length=n) (hrl:rin.length<=1000)
  (h:∀n0,(∀r∈rin,r.sh=false)->den P l (X1w rs bin rin fx fun _=>Φ) (stC n0 args bin rin fx)):Con P f args bin rin Φ:=by
 unfold YF at hc
 split at hc
 .rename_i fn hf
  subst hn
  exact fun n0=>M21 fx hf hc hrl (h n0)
 .cases hc
end
end
section
section
variable{P:Program}{R:Ex->St->Prop}{k:List It}{s:St}
theorem Con.wk{f:FuncId}{as as':List AV}{bin:List (List AV)}{rin:List Row}{Φ:AV->List (List AV)->List (Option (List AV))->List Row->Prop}(h:Con P f as' bin rin Φ)(hk:wkLs (AV.wkA fun _=>False) as as'):Con P f as bin rin Φ:=by
 intro n0 w g vs H hN hl hr
 obtain⟨e1,e2⟩:=Y0u hk
 refine h n0 w g vs H hN (by omega) fun i b v hb hv=>?_
 have hi:i<as.length:=by have:=(yB hb).1;omega
 exact(hr i _ v (yA hi) hv).wkA (fun _ h=>h.elim) (e2 i _ b (yA hi) hb)
theorem do_cm{d f:Nat}{xs:List X}{K:St->Prop}{as:List AV}(bks rks:List Nat){bin:List (List AV)}{rin:List Row}{Φ:AV->List (List AV)->List (Option (List AV))->List Row->Prop}
    (hC:Con P f as bin rin Φ) (h1:UW (bks++rks)=true) (h2:MI s (ix bks) (ix rks) bks bin) (h3:J0r s rks rin)
    (ha:wkLs (AV.wkA fun _=>False) (xs.map fun x=>((s.get x).mp (ix bks) (ix rks)).rdt) as)
    (h:∀n1 res bout upd new,bout.map List.length=bin.map List.length->upd.length=rin.length->Φ res bout upd new->new.length<=1000/\QT rks upd (1000*d+1000) new.length/\X0q (1000*d+1000) new.length bks /\
      K (afterM s n1 d bks rks res bout upd new))
    (hb:∀b∈bin,noOL b:=by first | (simp;done) | (simp[*];done)) (hr:∀r∈rin,noOL r.es:=by first | (simp;done) | (simp[*];done)) (ho:∀x∈xs,(s.get x).noO:=by first | (simp;done) | (simp[*];done)):wop P (.cm d f xs) K s :=
  ⟨bks,rks,bin,rin,_,Uq h1,h2,h3,⟨hb,hr,ho⟩,by have:=GEs.rdt (xs.map fun x=>(s.get x).mp (ix bks) (ix rks));rwa [List.map_map]at this,fun _=>Φ,hC.wk ha s.nx,fun n1 res bout upd new _=>h n1 res bout upd new⟩
end
attribute [simp] MI J0r QT X0q afterM setRows Mb St.kill2 drops upf bxf frB fbB AV.mp mpL stC rkey cfb cfr cob cor L1f updC O0b
end
section
structure LS where
 te:List (Nat×AV)
 tg:List (Nat×Nat×Bool×AV)
 tb:List (Nat×List AV)
 tr:List (Nat×Row)
structure LS.has(σ:LS)(s:St):Prop where
 e:∀t v,lk σ.te t=some v->s.e t=v
 g:∀t g w v,(t,g,w,v)∈σ.tg->(s.e g=.bool w/\s.e t=v)\/(s.e g≠.bool w/\s.e t=.und)
 b:∀k cs,lk σ.tb k=some cs->s.bx k=some cs
 r:∀k r,lk σ.tr k=some r->s.rw k=some r/\s.bx k=none
 n:∀k,lk σ.tb k=none->s.bx k=none
def er{α:Type}(d:Nat):List (Nat×α)->List (Nat×α)
  |[]=>[]
  | (k,v)::l=>match Nat.beq k d with
    |true=>er d l
    |false=>(k,v)::er d l
def erg(d:Nat):List (Nat×Nat×Bool×AV)->List (Nat×Nat×Bool×AV)
  |[]=>[]
  | (k,g,w,v)::l=>match Nat.beq k d with
    |true=>erg d l
    |false=>match Nat.beq g d with
      |true=>erg d l
      |false=>(k,g,w,v)::erg d l
theorem U0M{α:Type}{d:Nat}:∀{l:List (Nat×α)} {i:Nat} {v:α},lk (er d l) i=some v->i≠d/\lk l i=some v
  |[],_,_,h=>by cases h
  | (k,u)::l,i,v,h=>by
    simp only[er]at h
    split at h
    · rename_i e
      have e:=yR e
      obtain⟨h1,h2⟩:=U0M h
      refine⟨h1,?_⟩
      simp only[lk]
      rw[show Nat.beq i k=false from Bool.eq_false_iff.2 fun q=>h1 (by rw[yR q,e])]
      exact h2
    · rename_i e
      simp only[lk]at h ⊢
      split at h
      · rename_i q
        refine⟨fun e2=>?_,?_⟩
        · have:=yR q;subst this;subst e2;simp at e
        · exact h
      · exact U0M h
theorem Y0M{d t g:Nat}{w:Bool}{v:AV}:∀{l:List (Nat×Nat×Bool×AV)},(t,g,w,v)∈erg d l->t≠d/\g≠d/\(t,g,w,v)∈l
  |[],h=>by cases h
  | (k,g',w',v')::l,h=>by
    simp only[erg]at h
    split at h
    · obtain⟨h1,h2,h3⟩:=Y0M h;exact⟨h1,h2,yH _ h3⟩
    · rename_i e1
      split at h
      · obtain⟨h1,h2,h3⟩:=Y0M h;exact⟨h1,h2,yH _ h3⟩
      · rename_i e2
        rcases yX h with h|h
        · cases h
          exact⟨fun q=>by subst q;simp at e1,fun q=>by subst q;simp at e2,yJ ..⟩
        · obtain⟨h1,h2,h3⟩:=Y0M h;exact⟨h1,h2,yH _ h3⟩
theorem W1B{α:Type}{d:Nat}:∀{l:List (Nat×α)} {i:Nat},lk (er d l) i=none->i=d\/lk l i=none
  |[],_,_=>.inr rfl
  | (k,u)::l,i,h=>by
    simp only[er]at h
    split at h
    · rename_i e
      have e:=yR e
      subst e
      rcases W1B h with h|h
      · exact .inl h
      · by_cases hi:i=k
        · exact .inl hi
        · right
          simp only[lk]
          rw[show Nat.beq i k=false from Bool.eq_false_iff.2 fun q=>hi (yR q)]
          exact h
    · simp only[lk]at h ⊢
      split at h
      · cases h
      · rename_i e2;exact W1B h
theorem L1y{α:Type}(f:α->α):∀{l:List (Nat×α)} {i:Nat},lk (l.map fun p=>(p.1,f p.2)) i=none->lk l i=none
  |[],_,_=>rfl
  | (k,u)::l,i,h=>by
    simp only[List.map_cons,lk]at h ⊢
    split at h
    · cases h
    · exact L1y f h
theorem O1m{α:Type}{d i:Nat}{u:α}{l:List (Nat×α)}(h:lk ((d,u)::l) i=none):i≠d/\lk l i=none:=by
 simp only[lk]at h
 split at h
 .cases h
 .rename_i e;exact⟨fun q=>by subst q;simp at e,h⟩
theorem U0c{α:Type}{d i:Nat}{u v:α}{l:List (Nat×α)}(h:lk ((d,u)::l) i=some v):(i=d/\u=v)\/lk l i=some v:=by
 simp only[lk]at h
 split at h
 .rename_i e;cases h;exact .inl ⟨yR e,rfl⟩
 .exact .inr h
theorem J1y{α:Type}(f:α->α):∀{l:List (Nat×α)} {i:Nat} {v:α},lk (l.map fun p=>(p.1,f p.2)) i=some v->∃u,lk l i=some u/\v=f u
  |[],_,_,h=>by cases h
  | (k,u)::l,i,v,h=>by
    simp only[List.map_cons,lk]at h ⊢
    split at h
    · cases h;exact⟨u,rfl,rfl⟩
    · exact J1y f h
def LS.set(σ:LS)(d:Nat)(v:AV):LS:={ σ with te:=(d,v)::er d σ.te,tg:=erg d σ.tg }
def LS.setc(σ:LS)(d g:Nat)(w:Bool)(v:AV):LS:={ σ with te:=er d σ.te,tg:=(d,g,w,v)::erg d σ.tg }
def LS.kill(σ:LS)(k:Nat):LS :=
  { te:=σ.te.map fun p=>(p.1,p.2.dead k),tg:=σ.tg.map fun p=>(p.1,p.2.1,p.2.2.1,p.2.2.2.dead k),tb:=(er k σ.tb).map fun p=>(p.1,Z5 k p.2),tr:=er k σ.tr }
def LS.box(σ:LS)(k:Nat)(cs:List AV):LS:={ σ with tb:=(k,cs)::er k σ.tb,tr:=er k σ.tr }
def LS.row(σ:LS)(k:Nat)(r:Row):LS:={ σ with tr:=(k,r)::er k σ.tr,tb:=er k σ.tb }
section
variable{σ:LS}{s:St}
theorem LS.has.set(H:σ.has s)(d:Nat)(v:AV):(σ.set d v).has (s.set d v):=by
 refine⟨fun t u h=>?_,fun t g w u h=>?_,fun k cs h=>H.b k cs h,fun k r h=>H.r k r h,H.n⟩
 .rcases U0c h with⟨rfl,rfl⟩|h
  .simp
  .obtain⟨h1,h2⟩:=U0M h
   simp[h1,H.e t u h2]
 .obtain⟨h1,h2,h3⟩:=Y0M h
  simpa[h1,h2]using H.g t g w u h3
theorem LS.has.setc(H:σ.has s)(d g:Nat)(w:Bool)(v u:AV)(hd:g≠d)(h:(s.e g=.bool w/\u=v)\/(s.e g≠.bool w/\u=.und)):(σ.setc d g w v).has (s.set d u):=by
 refine⟨fun t x hx=>?_,fun t g' w' x hx=>?_,fun k cs h=>H.b k cs h,fun k r h=>H.r k r h,H.n⟩
 .obtain⟨h1,h2⟩:=U0M hx
  simp[h1,H.e t x h2]
 .rcases yX hx with e|hx
  .cases e;simpa[hd]using h
  .obtain⟨h1,h2,h3⟩:=Y0M hx
   simpa[h1,h2]using H.g t g' w' x h3
theorem Z1D{k:Nat}{w:Bool}{a:AV}:a.dead k=.bool w↔a=.bool w:=by
 cases a<;>simp only[AV.dead]<;>first | (split<;>simp;done)|simp
theorem LS.has.kill(H:σ.has s)(k:Nat):(σ.kill k).has (s.kill k):=by
 refine⟨fun t u h=>?_,fun t g w u h=>?_,fun j cs h=>?_,fun j r h=>?_,fun j h=>?_⟩
 .obtain⟨x,h1,rfl⟩:=J1y (fun a=>AV.dead k a) h
  simp[H.e t x h1]
 .obtain⟨⟨t',g',w',v'⟩,hm,he⟩:=yY h
  cases he
  rcases H.g _ _ _ _ hm with⟨h1,h2⟩|⟨h1,h2⟩
  .exact .inl ⟨by simp[h1,AV.dead],by simp[h2]⟩
  .exact .inr ⟨by simpa[Z1D]using h1,by simp[h2,AV.dead]⟩
 .obtain⟨x,h1,rfl⟩:=J1y (fun a=>Z5 k a) h
  obtain⟨h2,h3⟩:=U0M h1
  simp[h2,H.b j x h3]
 .obtain⟨h2,h3⟩:=U0M h
  obtain⟨q1,q2⟩:=H.r j r h3
  simp[h2,q1,q2]
 .rcases W1B (L1y (fun l=>Z5 k l) h)with rfl|h
  .simp
  .simp[H.n j h]
theorem LS.has.box(H:σ.has s)(k:Nat)(cs:List AV):(σ.box k cs).has { s with bx:=fun j=>if j=k then some cs else s.bx j }:=by
 refine⟨H.e,H.g,fun j c h=>?_,fun j r h=>?_,fun j h=>?_⟩
 .rcases U0c h with⟨rfl,rfl⟩|h
  .simp
  .obtain⟨h1,h2⟩:=U0M h
   simp[h1,H.b j c h2]
 .obtain⟨h1,h2⟩:=U0M h
  simp[h1,H.r j r h2]
 .obtain⟨h1,h2⟩:=O1m h
  rcases W1B h2 with h2|h2
  .exact absurd h2 h1
  .simp[h1,H.n j h2]
theorem LS.has.row(H:σ.has s)(k:Nat)(r:Row)(hb:s.bx k=none):(σ.row k r).has { s with rw:=fun j=>if j=k then some r else s.rw j }:=by
 refine⟨H.e,H.g,fun j c h=>?_,fun j r' h=>?_,fun j h=>(W1B h).elim (fun q=>by rw[q];exact hb) (H.n j)⟩
 .obtain⟨_,h2⟩:=U0M h
  exact H.b j c h2
 .rcases U0c h with⟨rfl,rfl⟩|h
  .simp[hb]
  .obtain⟨h1,h2⟩:=U0M h
   simp[h1,H.r j r' h2]
end
def sat(s:St)(A:List (Nat×Bool)):Prop:=∀p∈A,s.e p.1=.bool p.2
def fndg(t:Nat):List (Nat×Nat×Bool×AV)->Option (Nat×Bool×AV)
  |[]=>none
  | (k,g,w,v)::l=>match Nat.beq t k with
    |true=>some (g,w,v)
    |false=>fndg t l
theorem W04{t g:Nat}{w:Bool}{v:AV}:∀{l:List (Nat×Nat×Bool×AV)},fndg t l=some (g,w,v)->(t,g,w,v)∈l
  |[],h=>by cases h
  | (k,g',w',v')::l,h=>by
    simp only[fndg]at h
    split at h
    · rename_i e;have:=yR e;subst this;cases h;exact yJ ..
    · exact yH _ (W04 h)
def clo(tg:List (Nat×Nat×Bool×AV)):Nat->Nat->Bool->List (Nat×Bool)
 |0,g,w=>[(g,w)]
 |n+1,g,w=>(g,w)::(match fndg g tg with|some (g',w',_)=>clo tg n g' w'|none=>[])
theorem Y0e{σ:LS}{s:St}(H:σ.has s):∀{n g:Nat} {w:Bool},s.e g=.bool w->sat s (clo σ.tg n g w)
 |0,g,w,h=>by intro p hp;simp[clo]at hp;subst hp;exact h
 |n+1,g,w,h=>by
  intro p hp
  simp only[clo]at hp
  rcases yX hp with rfl|hp
  .exact h
  .split at hp
   .rename_i g' w' v' e
    rcases H.g _ _ _ _ (W04 e)with⟨h1,_⟩|⟨_,h2⟩
    .exact Y0e H h1 p hp
    .rw[h]at h2;cases h2
   .cases hp
def eqb:Bool->Bool->Bool
 |true,true=>true
 |false,false=>true
 |_,_=>false
theorem V21{a b:Bool}(h:eqb a b=true):a=b:=by cases a<;>cases b<;>simp[eqb]at h<;>rfl
def inA(g:Nat)(w:Bool):List (Nat×Bool)->Bool
  |[]=>false
  | (k,u)::l=>match Nat.beq g k with
    |true=>match eqb w u with
      |true=>true
      |false=>inA g w l
    |false=>inA g w l
theorem X1A{g:Nat}{w:Bool}:∀{A:List (Nat×Bool)},inA g w A=true->(g,w)∈A
  |[],h=>by cases h
  | (k,u)::l,h=>by
    simp only[inA]at h
    split at h
    · rename_i e1
      split at h
      · rename_i e2
        rw[yR e1,V21 e2];exact yJ ..
      · exact yH _ (X1A h)
    · exact yH _ (X1A h)
def rdv(A:List (Nat×Bool))(σ:LS)(t:Nat):Option AV:=match lk σ.te t with
 |some v=>some v
 |none=>match fndg t σ.tg with
  |some (g,w,v)=>match inA g w A with
   |true=>some v
   |false=>none
  |none=>none
def gt(A:List (Nat×Bool))(σ:LS):X->Option AV
 |.t i=>rdv A σ i
 |.c a=>some a
def gts(A:List (Nat×Bool))(σ:LS):List X->Option (List AV)
 |[]=>some []
 |x::xs=>match gt A σ x with
  |some v=>match gts A σ xs with
   |some l=>some (v::l)
   |none=>none
  |none=>none
section
variable{σ:LS}{s:St}{A:List (Nat×Bool)}
theorem J0p(H:σ.has s)(hA:sat s A){t:Nat}{v:AV}(h:rdv A σ t=some v):s.e t=v:=by
 unfold rdv at h
 split at h
 .rename_i u e;cases h;exact H.e t _ e
 .split at h
  .rename_i g w u e
   split at h
   .rename_i e2
    cases h
    rcases H.g _ _ _ _ (W04 e)with⟨_,h2⟩|⟨h1,_⟩
    .exact h2
    .exact absurd (hA _ (X1A e2)) h1
   .cases h
  .cases h
theorem V5(H:σ.has s)(hA:sat s A){x:X}{v:AV}(h:gt A σ x=some v):s.get x=v:=by
 cases x with
 |t i=>exact J0p H hA h
 |c a=>cases h;rfl
theorem U0k(H:σ.has s)(hA:sat s A):∀{xs:List X} {l:List AV},gts A σ xs=some l->xs.map s.get=l
 |[],l,h=>by cases h;rfl
 |x::xs,l,h=>by
  simp only[gts]at h
  split at h
  .rename_i v e
   split at h
   .rename_i l' e2
    cases h
    rw[List.map_cons,V5 H hA e,U0k H hA e2]
   .cases h
  .cases h
theorem O1u{A B:List (Nat×Bool)}(hA:sat s A)(hB:sat s B):sat s (A++B):=fun p hp=>(List.mem_append.1 hp).elim (hA p) (hB p)
end
def pkV(t:Bool):AV->AV->Option AV
 |.bool x,.bool y=>some (.bool (bif t then x else y))
 |.int k x,.int k' y=>if k=k' then some (.int k (bif t then x else y))else none
 |.str x,.str y=>some (.str (bif t then x else y))
 |_,_=>none
theorem V1Y{t:Bool}{a b v:AV}(h:pkV t a b=some v):(t=true->v=a)/\(t=false->v=b):=by
 unfold pkV at h
 split at h
 .cases h;cases t<;>simp
 .split at h
  .rename_i e;subst e;cases h;cases t<;>simp
  .cases h
 .cases h;cases t<;>simp
 .cases h
def ldv(σ:LS)(p:AV)(n:Nat)(ag:Bool):Option AV:=match p with
 |.ept e off=>L0b e.cells off n ag
 |.eot e off=>L0b e.cells off n ag
 |.ptr k off=>match lk σ.tb k with
  |some cs=>L0b cs off n ag
  |none=>none
 |_=>none
def gtp(A:List (Nat×Bool))(σ:LS):List (Nat×Nat×X)->Option (List (Nat×Nat×AV))
  |[]=>some []
  | (o,n,x)::ps=>match gt A σ x with
    |some v=>match gtp A σ ps with
      |some l=>some ((o,n,v)::l)
      |none=>none
    |none=>none
theorem U1K{σ:LS}{s:St}{A:List (Nat×Bool)}(H:σ.has s)(hA:sat s A):∀{ps:List (Nat×Nat×X)} {l:List (Nat×Nat×AV)},gtp A σ ps=some l->(ps.map fun(off,n,x)=>(off,n,s.get x))=l
  |[],l,h=>by cases h;rfl
  | (o,n,x)::ps,l,h=>by
    simp only[gtp]at h
    split at h
    · rename_i v e
      split at h
      · rename_i l' e2
        cases h
        rw[List.map_cons,U1K H hA e2]
        simp only[V5 H hA e]
      · cases h
    · cases h
def pv(A:List (Nat×Bool))(σ:LS):LOp->Option AV
 |.mv _ x=>gt A σ x
 |.pk _ (.t i) a b=>match rdv A σ i with
  |some (.bool t)=>match gt (clo σ.tg 9 i true++A) σ a with
   |some x=>match gt (clo σ.tg 9 i false++A) σ b with
    |some y=>pkV t x y
    |none=>none
   |none=>none
  |_=>none
 |.un _ x=>match gt A σ x with
  |some (.bool b)=>some (.bool (!b))
  |_=>none
 |.bi _ op x y=>match gt A σ x with
  |some a=>match gt A σ y with
   |some b=>evB op a b
   |none=>none
  |none=>none
 |.eb _ ne x y=>match gt A σ x with
  |some (.bool a)=>match gt A σ y with
   |some (.bool b)=>match ne with
    |true=>some (.bool (!(a==b)))
    |false=>some (.bool (a==b))
   |_=>none
  |_=>none
 |.es _ ne ks x y=>match gt A σ x with
  |some (.agg a)=>match gt A σ y with
   |some (.agg b)=>match eqCells ks a b with
    |some r=>match ne with
     |true=>some (.bool (!r))
     |false=>some (.bool r)
    |none=>none
   |_=>none
  |_=>none
 |.cv _ k x=>match gt A σ x with
  |some (.int _ n)=>some (.int k (k.wrap n))
  |_=>none
 |.fa _ x off=>match gt A σ x with
  |some (.ptr k o)=>match lk σ.tb k with
   |some _=>some (.ptr k (o+off))
   |none=>none
  |some (.ept e o)=>some (.ept e (o+off))
  |some (.eot e o)=>some (.eot e (o+off))
  |some (.rpt k i o)=>match lk σ.tr k with
   |some _=>some (.rpt k i (o+off))
   |none=>none
  |_=>none
 |.ld _ p n ag=>match gt A σ p with
  |some v=>ldv σ v n ag
  |none=>none
 |.bd _ z ps=>match gtp A σ ps with
  |some l=>match Y08 z l with
   |some cs=>match allOne cs with
    |true=>some (.agg cs)
    |false=>none
   |none=>none
  |none=>none
 |.ln _ x=>match gt A σ x with
  |some .nl=>some (.int .i64 0)
  |_=>none
 |.lq _ x=>match gt A σ x with
  |some .nl=>some (.int .i64 0)
  |_=>none
 |.ls _ x=>match gt A σ x with
  |some (.str l)=>some (.int .i64 l.length)
  |_=>none
 |.ex _ x i=>match gt A σ x with
  |some (.tup vs)=>vs[i]?
  |_=>none
 |.fd _ x off n ag=>match gt A σ x with
  |some (.agg cs)=>L0b cs off n ag
  |_=>none
 |.nc _ x=>match gt A σ x with
  |some (.ptr k o)=>match lk σ.tb k with
   |some _=>some (.ptr k o)
   |none=>none
  |some (.fn f cs)=>some (.fn f cs)
  |_=>none
 |.mm _ mx x y=>match gt A σ x with
  |some (.int k a)=>match gt A σ y with
   |some (.int k' b)=>if k=k' then match mx with
     |true=>some (.int k (max a b))
     |false=>some (.int k (min a b))
    else none
   |_=>none
  |_=>none
 |.mf _ f xs=>match gts A σ xs with
  |some l=>some (.fn f l)
  |none=>none
 |.be _=>some .el
 |.ae _ x y sz _=>match gt A σ x with
  |some .el=>match gt A σ y with
   |some .nl=>some (.sl .nw sz [])
   |_=>none
  |_=>none
 |.bs _ sz ps own=>match own with
  |true=>none
  |false=>match gts A σ ps with
   |some es=>if es.all nosr=true/\(es.all fun e=>Nat.beq e.cells.length sz)=true/\es.length*sz<=1000000/\es.length<=1000000 then some (.sl .nw sz es)else none
   |none=>none
 |_=>none
theorem Q13{s:St}:∀{l:List AV},l.all nosr=true->s.dtL l=some l
 |[],_=>rfl
 |a::l,h=>by
  simp only[List.all_cons,yD]at h
  rw[St.dtL,W13 h.1,Q13 h.2]
section
variable{P:Program}{σ:LS}{s:St}{A:List (Nat×Bool)}
theorem pv_ok(H:σ.has s)(hA:sat s A){l:LOp}{v:AV}(h:pv A σ l=some v){K:St->Prop}(hK:K (s.set l.dst v)):wop P l K s:=by
 cases l with
 |mv d x=>simp only[wop];rw[V5 H hA h];exact hK
 |pk d c a b =>
  cases c with
  |c _=>simp[pv]at h
  |t i =>
   simp only[pv]at h
   split at h
   .rename_i t e
    have e1:=J0p H hA e
    split at h
    .rename_i x ex
     split at h
     .rename_i y ey
      obtain⟨h1,h2⟩:=V1Y h
      simp only[wop,M1G,e1]
      cases t
      .have:=V5 H (O1u (Y0e H e1) hA) ey
       rw[ye (by simp),this,← h2 rfl];exact hK
      .have:=V5 H (O1u (Y0e H e1) hA) ex
       rw[yd rfl,this,← h1 rfl];exact hK
     .cases h
    .cases h
   .cases h
 |un d x =>
  simp only[pv]at h
  split at h
  .rename_i b e;cases h;simp only[wop];rw[V5 H hA e];exact hK
  .cases h
 |bi d op x y =>
  simp only[pv]at h
  split at h
  .rename_i a e
   split at h
   .rename_i b e2
    simp only[wop];rw[V5 H hA e,V5 H hA e2,h];exact hK
   .cases h
  .cases h
 |eb d ne x y =>
  simp only[pv]at h
  split at h
  .rename_i a e
   split at h
   .rename_i b e2
    simp only[wop];rw[V5 H hA e,V5 H hA e2]
    cases ne<;>(cases h;exact hK)
   .cases h
  .cases h
 |es d ne ks x y =>
  simp only[pv]at h
  split at h
  .rename_i a e
   split at h
   .rename_i b e2
    split at h
    .rename_i r e3
     simp only[wop];rw[V5 H hA e,V5 H hA e2]
     simp only[e3]
     cases ne<;>(cases h;exact hK)
    .cases h
   .cases h
  .cases h
 |cv d k x =>
  simp only[pv]at h
  split at h
  .rename_i k' n e;cases h;simp only[wop];rw[V5 H hA e];exact hK
  .cases h
 |fa d x off =>
  simp only[pv]at h
  split at h
  .rename_i k o e
   split at h
   .rename_i cs e2
    cases h;simp only[wop];rw[V5 H hA e];exact⟨by simp[H.b _ _ e2],hK⟩
   .cases h
  .rename_i e' o e;cases h;simp only[wop];rw[V5 H hA e];exact hK
  .rename_i e' o e;cases h;simp only[wop];rw[V5 H hA e];exact hK
  .rename_i k i o e
   split at h
   .rename_i r e2
    cases h;simp only[wop];rw[V5 H hA e];exact⟨by simp[(H.r _ _ e2).1],hK⟩
   .cases h
  .cases h
 |ld d p n ag =>
  simp only[pv]at h
  split at h
  .rename_i u e
   simp only[wop];rw[V5 H hA e]
   have:s.ld u n ag=some v:=by
    unfold ldv at h
    split at h
    .exact h
    .exact h
    .split at h
     .rename_i cs e2;simp only[St.ld,H.b _ _ e2];exact h
     .cases h
    .cases h
   rw[this];exact hK
  .cases h
 |bd d z ps =>
  simp only[pv]at h
  split at h
  .rename_i l e
   split at h
   .rename_i cs e2
    split at h
    .rename_i e3
     cases h
     simp only[wop];rw[U1K H hA e];simp only[e2];exact⟨e3,hK⟩
    .cases h
   .cases h
  .cases h
 |ln d x =>
  simp only[pv]at h
  split at h
  .rename_i e;cases h;simp only[wop];rw[V5 H hA e];exact hK
  .cases h
 |lq d x =>
  simp only[pv]at h
  split at h
  .rename_i e;cases h;simp only[wop];rw[V5 H hA e];exact hK
  .cases h
 |be d =>
  cases h
  exact hK
 |ae d x y sz by' =>
  simp only[pv]at h
  split at h
  .rename_i ex
   split at h
   .rename_i ey
    cases h;simp only[wop];rw[V5 H hA ex];simp only;rw[V5 H hA ey];exact hK
   .cases h
  .cases h
 |ls d x =>
  simp only[pv]at h
  split at h
  .rename_i l e;cases h;simp only[wop];rw[V5 H hA e];exact hK
  .cases h
 |ex d x i =>
  simp only[pv]at h
  split at h
  .rename_i vs e;simp only[wop];rw[V5 H hA e];simp only[h];exact hK
  .cases h
 |fd d x off n ag =>
  simp only[pv]at h
  split at h
  .rename_i cs e;simp only[wop];rw[V5 H hA e];simp only[h];exact hK
  .cases h
 |nc d x =>
  simp only[pv]at h
  split at h
  .rename_i k o e
   split at h
   .rename_i cs e2;cases h;simp only[wop];rw[V5 H hA e];exact⟨by simp[H.b _ _ e2],hK⟩
   .cases h
  .rename_i f cs e;cases h;simp only[wop];rw[V5 H hA e];exact hK
  .cases h
 |mm d mx x y =>
  simp only[pv]at h
  split at h
  .rename_i k a e
   split at h
   .rename_i k' b e2
    split at h
    .rename_i e3
     simp only[wop];rw[V5 H hA e,V5 H hA e2]
     cases mx<;>(cases h;exact⟨e3,hK⟩)
    .cases h
   .cases h
  .cases h
 |mf d f xs =>
  simp only[pv]at h
  split at h
  .rename_i l e;cases h;simp only[wop];rw[U0k H hA e];exact hK
  .cases h
 |bs d sz ps own =>
  simp only[pv]at h
  split at h
  .cases h
  .split at h
   .rename_i es ex
    split at h
    .rename_i hc
     cases h
     have q:=U0k H hA ex
     simp only[wop];rw[q,Q13 hc.1]
     refine⟨hc.1,fun e he=>yR (List.all_eq_true.1 hc.2.1 e he),hc.2.2.1,hc.2.2.2,?_⟩
     rw[ye (by simp)]
     exact hK
    .cases h
   .cases h
 |_=>cases h
end
end
section
def idx{α:Type}(l:List α)(i:Int):Option α:=if 0<=i then l[i.toNat]? else none
def bhi(h:Option Int)(n:Nat):Option Nat:=match h with
 |none=>some n
 |some i=>if 0<=i/\i<=n then some i.toNat else none
def blo(h:Option Int)(n:Nat):Option Nat:=match h with
 |none=>some 0
 |some i=>if 0<=i/\i<=n then some i.toNat else none
def cutL{α:Type}(l:List α)(lo hi:Option Int):Option (List α):=match bhi hi l.length with
 |some h=>match blo lo h with
  |some a=>some ((l.take h).drop a)
  |none=>none
 |none=>none
def appL{α:Type}(bs:Nat)(l m:List α):Option (List α):=if(l.length+m.length)*bs<=140737488355328 then some (l++m)else none
def catS(a b:List UInt8):Option (List UInt8):=if a.length+b.length<=9223372036854775807 then some (a++b)else none
def mkL{α:Type}(bs:Nat)(n:Int)(z:α):Option (List α):=if 0<=n/\bs*n<=140737488355328/\n<=9223372036854775807 then some (List.replicate n.toNat z)else none
def quoI(k:IntKind)(a b:Int):Option Int:=if b=0 then none else some (k.wrap (a.tdiv b))
def remI(a b:Int):Option Int:=if b=0 then none else some (a.tmod b)
def shrI(k:IntKind)(a b:Int):Option Int:=if 0<=b then some (bShr k a b)else none
theorem V0{α β:Type}(f:α->β){l:List α}{i:Int}{x:α}(h:idx l i=some x):idx (l.map f) i=some (f x):=by
 unfold idx at *
 split at h
 .rename_i e;rw[yd e,yF,h];rfl
 .cases h
theorem Z1{α:Type}{l:List α}{i:Nat}{x:α}(h:l[i]?=some x):idx l (i:Int)=some x:=by
 unfold idx;rw[yd (by omega)];simpa using h
theorem Q7{α:Type}{l:List α}{i:Int}{x:α}(h:idx l i=some x):l[i.toNat]?=some x:=by
 unfold idx at h
 split at h
 .exact h
 .cases h
theorem Z1K{α:Type}{l:List α}{i:Int}{x:α}(h:idx l i=some x):0<=i/\i<l.length:=by
 unfold idx at h
 split at h
 .have:=(yB h).1;omega
 .cases h
theorem UX{α β:Type}(f:α->β){l m:List α}{lo hi:Option Int}(h:cutL l lo hi=some m):cutL (l.map f) lo hi=some (m.map f):=by
 unfold cutL at *
 rw[List.length_map]
 split at h
 .split at h
  .cases h;simp[List.map_take,List.map_drop]
  .cases h
 .cases h
theorem L0{α β:Type}(f:α->β){n:Nat}{l m r:List α}(h:appL n l m=some r):appL n (l.map f) (m.map f)=some (r.map f):=by
 unfold appL at *
 split at h
 .rename_i e;cases h;rw[List.length_map,List.length_map,yd e,List.map_append]
 .cases h
theorem YH{α β:Type}(f:α->β)(l:List α)(i:Nat)(x:α):(l.map f).set i (f x)=(l.set i x).map f:=by
 rw[List.map_set]
def TT:Tag->Nat->Value->Prop:=fun _ _ _=>True
def AEs(l l':List AV):Prop:=l.length=l'.length/\∀(w:World) (S:Nat->Nat->Prop) (i:Nat) (a a':AV) (v:Value),l[i]?=some a->l'[i]?=some a'->Rd w S TT a v->Rd w S TT a' v
theorem AEs.refl(l:List AV):AEs l l:=⟨rfl,fun w S i a a' v h h' hr=>by rw[h]at h';cases h';exact hr⟩
def mrg1:AV->AV->AV
 |.nl,.sl t sz es=>match es with
  |[]=>.sl t sz []
  |_=>.nl
 |.sl _ sz es,.sl t _ _=>.sl t sz es
 |a,_=>a
def Z0M:List AV->List AV->List AV
 |a::l,b::m=>mrg1 a b::Z0M l m
 |l,_=>l
def mrg2:AV->AV->AV
 |.agg cs,.agg ds=>.agg (Z0M cs ds)
 |.ept (.agg cs) o,.ept (.agg ds) _=>.ept (.agg (Z0M cs ds)) o
 |a,b=>mrg1 a b
def X1c:List AV->List AV->List AV
 |a::l,b::m=>mrg2 a b::X1c l m
 |l,_=>l
def mrg:AV->AV->AV
 |.fn f cs,.fn _ ds=>.fn f (X1c cs ds)
 |a,b=>mrg2 a b
def mrgL:List AV->List AV->List AV
 |a::l,b::m=>mrg a b::mrgL l m
 |l,_=>l
section
variable{w:World}{S:Nat->Nat->Prop}
theorem Rd.mrg1{a b:AV}{v:Value}(h:Rd w S TT a v):Rd w S TT (mrg1 a b) v:=by
 unfold Eng.mrg1
 split
 .split
  .cases h;exact .sl0 _ _ _ _ fun _ _=>trivial
  .exact h
 .cases h with
  |sl0 _ _ a c _=>exact .sl0 _ _ _ _ fun _ _=>trivial
  |sl _ _ _ b o c cv h1 h2 h3 h4 h5 h6=>exact .sl _ _ _ b o c cv h1 h2 h3 (fun j a hj=>⟨(h4 j a hj).1,(h4 j a hj).2.1,(h4 j a hj).2.2.1,trivial⟩) (fun _ _=>trivial) h6
 .exact h
theorem W1l{a b:AV}(h:a.one=true):(mrg1 a b).one=true:=by
 unfold Eng.mrg1
 split
 .split<;>rfl
 .rfl
 .exact h
theorem O0d:∀{l m:List AV} {i:Nat} {x:AV},(Z0M l m)[i]?=some x->∃a b,l[i]?=some a/\(x=a\/x=mrg1 a b)
 |[],m,i,x,h=>by simp[Z0M]at h
 |a::l,[],i,x,h=>⟨x,x,h,.inl rfl⟩
 |a::l,b::m,0,x,h=>by simp[Z0M]at h;exact⟨a,b,rfl,.inr h.symm⟩
 |a::l,b::m,i+1,x,h=>by
  obtain⟨a',b',h1,h2⟩:=O0d (l:=l) (m:=m) (i:=i) (by simpa[Z0M]using h)
  exact⟨a',b',by simpa using h1,h2⟩
theorem W1c:∀(l m:List AV),(Z0M l m).length=l.length
 |[],_=>rfl
 |_::_,[]=>rfl
 |a::l,b::m=>by simp[Z0M,W1c l m]
theorem Rd.mrg2{a b:AV}{v:Value}(h:Rd w S TT a v):Rd w S TT (mrg2 a b) v:=by
 unfold Eng.mrg2
 split
 .rename_i cs ds
  cases h with
  |agg _ vs hl h1 h =>
   refine .agg _ vs (by rw[W1c];exact hl) (fun x hx=>?_) fun i x v hx hv=>?_
   .obtain⟨i,hi⟩:=List.getElem?_of_mem hx
    obtain⟨a,b,q1,q2⟩:=O0d hi
    have:=h1 a (yE q1)
    rcases q2 with rfl|rfl
    .exact this
    .exact W1l this
   .obtain⟨a,b,q1,q2⟩:=O0d hx
    rcases q2 with rfl|rfl
    .exact h i _ v q1 hv
    .exact(h i a v q1 hv).mrg1
 .rename_i cs o ds o'
  cases h with
  |ept _ off b o cv hw h =>
   refine .ept _ _ b _ cv (fun j x hx=>?_) fun j x hx=>?_
   .obtain⟨a,b,q1,q2⟩:=O0d (show(Z0M cs ds)[j]?=some x from hx)
    obtain⟨z1,z2,z3,z4⟩:=hw j a q1
    rcases q2 with rfl|rfl
    .exact⟨z1,z2,z3,z4⟩
    .exact⟨z1,z2,W1l z3,trivial⟩
   .obtain⟨a,b,q1,q2⟩:=O0d (show(Z0M cs ds)[j]?=some x from hx)
    rcases q2 with rfl|rfl
    .exact h j _ q1
    .exact(h j a q1).mrg1
 .exact h.mrg1
theorem J1d:∀{l m:List AV} {i:Nat} {x:AV},(X1c l m)[i]?=some x->∃a b,l[i]?=some a/\(x=a\/x=mrg2 a b)
 |[],m,i,x,h=>by simp[X1c]at h
 |a::l,[],i,x,h=>⟨x,x,h,.inl rfl⟩
 |a::l,b::m,0,x,h=>by simp[X1c]at h;exact⟨a,b,rfl,.inr h.symm⟩
 |a::l,b::m,i+1,x,h=>by
  obtain⟨a',b',h1,h2⟩:=J1d (l:=l) (m:=m) (i:=i) (by simpa[X1c]using h)
  exact⟨a',b',by simpa using h1,h2⟩
theorem Q1c:∀(l m:List AV),(X1c l m).length=l.length
 |[],_=>rfl
 |_::_,[]=>rfl
 |a::l,b::m=>by simp[X1c,Q1c l m]
theorem Rd.mrg{a b:AV}{v:Value}(h:Rd w S TT a v):Rd w S TT (mrg a b) v:=by
 unfold Eng.mrg
 split
 .rename_i f cs g ds
  cases h with
  |fn _ _ vs hl h =>
   refine .fn f _ vs (by rw[Q1c];exact hl) fun i x v hx hv=>?_
   obtain⟨a,b,q1,q2⟩:=J1d hx
   rcases q2 with rfl|rfl
   .exact h i _ v q1 hv
   .exact(h i a v q1 hv).mrg2
 .exact h.mrg2
theorem M1n:∀{l m:List AV},mrgL l m=m->l.length=m.length/\∀(i:Nat) (a b:AV),l[i]?=some a->m[i]?=some b->mrg a b=b
 |[],m,h=>by
  simp only[mrgL]at h;subst h
  exact⟨rfl,by intro i a b h;simp at h⟩
 |a::l,[],h=>by simp[mrgL]at h
 |a::l,b::m,h=>by
  simp only[mrgL,yW]at h
  obtain⟨q1,q2⟩:=M1n h.2
  refine⟨by simp[q1],fun i x y hx hy=>?_⟩
  cases i with
  |zero=>simp at hx hy;subst hx;subst hy;exact h.1
  |succ i=>exact q2 i x y (by simpa using hx) (by simpa using hy)
variable{N:Tag->Nat->Value->Prop}
mutual
theorem Rd.unrdt:∀(a:AV) {v:Value},Rd w S N a.rdt v->Rd w S TT a v
 |.bool b,v,h=>by cases h;exact .bool b
 |.int k n,v,h=>by cases h;exact .int k n
 |.str l,v,h=>by cases h;exact .str l
 |.nl,v,h=>by cases h;exact .nl
 |.agg cs,v,h=>by
  rw[AV.rdt]at h
  cases h with
  |agg _ vs hl h1 h =>
   refine .agg cs vs (by simpa[X3]using hl) (fun x hx=>?_) fun i x v hx hv=>unrdtL cs i x hx _ (h i x.rdt v (by rw[X3,yF,hx];rfl) hv)
   have:=h1 x.rdt (by rw[X3];exact List.mem_map_of_mem hx)
   cases x<;>simp[AV.rdt,AV.one]at this ⊢
 |.fn f cs,v,h=>by
  rw[AV.rdt]at h
  cases h with
  |fn _ _ vs hl h=>exact .fn f cs vs (by simpa[X3]using hl) fun i x v hx hv=>unrdtL cs i x hx _ (h i x.rdt v (by rw[X3,yF,hx];rfl) hv)
 |.sl t sz es,v,h=>by
  rw[AV.rdt]at h
  generalize hz:rdtL es=zs at h
  cases h with
  |sl0 _ _ a c _ =>
   have:es=[]:=by
    rw[X3]at hz
    simpa using hz
   subst this
   exact .sl0 _ _ _ _ fun _ _=>trivial
  |sl _ _ _ b o c cv h1 h2 h3 h4 h5 h6 =>
   subst hz
   have hl:(rdtL es).length=es.length:=by rw[X3];simp
   rw[hl]
   refine .sl t sz es b o c cv (by rw[← hl];exact h1) h2 (fun e he=>?_) (fun j x hj=>?_) (fun _ _=>trivial) fun j x hj=>?_
   .have:=h3 e.rdt (by rw[X3];exact List.mem_map_of_mem he)
    cases e<;>simp[AV.rdt,AV.cells,X3]at this ⊢<;>exact this
   .have q:(flat (rdtL es))[j]?=some x.rdt:=by rw[O0J,yF,hj];rfl
    obtain⟨z1,z2,z3,_⟩:=h4 j _ q
    exact⟨z1,z2,by cases x<;>simp[AV.rdt,AV.one]at z3 ⊢,trivial⟩
   .have q:(flat (rdtL es))[j]?=some x.rdt:=by rw[O0J,yF,hj];rfl
    exact unrdtF es j x hj _ (h6 j _ q)
 |.ept e o,v,h=>by
  rw[AV.rdt]at h
  cases h with
  |ept _ off b o cv hw h =>
   have hc:e.rdt.cells=e.cells.map AV.rdt:=by cases e<;>simp[AV.rdt,AV.cells,X3]
   refine .ept e _ b _ cv (fun j x hx=>?_) fun j x hx=>?_
   .obtain⟨z1,z2,z3,_⟩:=hw j x.rdt (by rw[hc,yF,hx];rfl)
    exact⟨z1,z2,by cases x<;>simp[AV.rdt,AV.one]at z3 ⊢,trivial⟩
   .exact unrdtC e j x hx _ (h j x.rdt (by rw[hc,yF,hx];rfl))
 |.tup _,v,h=>by rw[AV.rdt]at h;cases h
 |.sref k,v,h=>by have h:Rd w S N (.sref k) v:=h;cases h
 |.ptr k o,v,h=>by have h:Rd w S N (.ptr k o) v:=h;cases h
 |.eot e o,v,h=>by have h:Rd w S N (.eot e o) v:=h;cases h
 |.rpt k i o,v,h=>by have h:Rd w S N (.rpt k i o) v:=h;cases h
 |.und,v,h=>by have h:Rd w S N (.und) v:=h;cases h
 |.el,v,h=>by have h:Rd w S N (.el) v:=h;cases h
 |.od i ks n,v,h=>by have h:Rd w S N (.od i ks n) v:=h;cases h
 |.op i ks o,v,h=>by have h:Rd w S N (.op i ks o) v:=h;cases h
 |.bad,v,h=>by have h:Rd w S N (.bad) v:=h;cases h
termination_by a=>(SizeOf.sizeOf a,0)
theorem Rd.unrdtL:∀(l:List AV) (i:Nat) (a:AV),l[i]?=some a->∀v,Rd w S N a.rdt v->Rd w S TT a v
 |[],i,a,h,_,_=>by simp at h
 |x::l,0,a,h,v,hr=>by
  have e:x=a:=by simpa using h
  exact e ▸ Rd.unrdt x (e ▸ hr)
 |x::l,i+1,a,h,v,hr=>Rd.unrdtL l i a (by simpa using h) v hr
termination_by l=>(SizeOf.sizeOf l,0)
theorem Rd.unrdtF:∀(l:List AV) (i:Nat) (a:AV),(flat l)[i]?=some a->∀v,Rd w S N a.rdt v->Rd w S TT a v
 |[],i,a,h,_,_=>by simp[flat]at h
 |x::l,i,a,h,v,hr=>by
  have e:flat (x::l)=x.cells++flat l:=by simp[flat]
  rw[e,List.getElem?_append]at h
  split at h
  .exact Rd.unrdtC x i a h v hr
  .exact Rd.unrdtF l _ a h v hr
termination_by l=>(SizeOf.sizeOf l,0)
theorem Rd.unrdtC:∀(e:AV) (i:Nat) (a:AV),e.cells[i]?=some a->∀v,Rd w S N a.rdt v->Rd w S TT a v
 |.agg cs,i,a,h,v,hr=>Rd.unrdtL cs i a h v hr
 |.bool b,i,a,h,v,hr | .int _ _,i,a,h,v,hr | .str _,i,a,h,v,hr | .nl,i,a,h,v,hr | .el,i,a,h,v,hr | .od _ _ _,i,a,h,v,hr | .op _ _ _,i,a,h,v,hr | .sl _ _ _,i,a,h,v,hr | .ept _ _,i,a,h,v,hr
 |.tup _,i,a,h,v,hr | .sref _,i,a,h,v,hr | .ptr _ _,i,a,h,v,hr | .eot _ _,i,a,h,v,hr | .rpt _ _ _,i,a,h,v,hr | .fn _ _,i,a,h,v,hr | .und,i,a,h,v,hr | .bad,i,a,h,v,hr=>by
  cases i with
  |zero =>
   simp only[AV.cells,List.getElem?_cons_zero,yI]at h
   exact h ▸ Rd.unrdt _ (h ▸ hr)
  |succ i=>simp[AV.cells]at h
termination_by e=>(SizeOf.sizeOf e,1)
end
theorem Snd.aes{P:Program}{f:FuncId}{l as as':List AV}{res:AV}{rows:List Row}(h:Snd P f as' res rows)(hae:AEs as as')(hm:mrgL l as=as):Snd P f (rdtL l) res rows:=by
 intro w S N vs hS hvl hvs
 obtain⟨hl,hm⟩:=M1n hm
 have hrl:(rdtL l).length=l.length:=by rw[X3];simp
 have hal:=hae.1
 refine h w S TT vs hS (by omega) fun i a v ha hv=>?_
 have hi:i<as'.length:=(yB ha).1
 have hi1:i<l.length:=by omega
 have hi2:i<as.length:=by omega
 have h1:l[i]?=some l[i]:=yA hi1
 have h2:as[i]?=some as[i]:=yA hi2
 refine hae.2 w S i as[i] a v h2 ha ?_
 have:=Rd.unrdt (N:=N) l[i] (hvs i l[i].rdt v (by rw[X3,yF,h1];rfl) hv)
 rw[← hm i _ _ h1 h2]
 exact this.mrg
end
def LS.dc(σ:LS):AV->Option AV
 |.sref k=>match lk σ.tr k with
  |some r=>some (.sl .nw r.sz r.es)
  |none=>none
 |.bool b=>some (.bool b)
 |.int k n=>some (.int k n)
 |.str l=>some (.str l)
 |.nl=>some .nl
 |.sl t sz es=>some (.sl t sz es)
 |.ept e o=>some (.ept e o)
 |_=>none
def LS.dcL(σ:LS):List AV->Option (List AV)
 |[]=>some []
 |a::l=>match σ.dc a with
  |some x=>match σ.dcL l with
   |some y=>some (x::y)
   |none=>none
  |none=>none
def LS.d2(σ:LS):AV->Option AV
 |.agg cs=>match σ.dcL cs with
  |some l=>some (.agg l)
  |none=>none
 |a=>σ.dc a
def LS.d2L(σ:LS):List AV->Option (List AV)
 |[]=>some []
 |a::l=>match σ.d2 a with
  |some x=>match σ.d2L l with
   |some y=>some (x::y)
   |none=>none
  |none=>none
def LS.dt(σ:LS):AV->Option AV
 |.fn f cs=>match σ.d2L cs with
  |some l=>some (.fn f l)
  |none=>none
 |a=>σ.d2 a
def LS.dtL(σ:LS):List AV->Option (List AV)
 |[]=>some []
 |a::l=>match σ.dt a with
  |some x=>match σ.dtL l with
   |some y=>some (x::y)
   |none=>none
  |none=>none
section
variable{σ:LS}{s:St}
theorem Q1H(H:σ.has s){a x:AV}(h:σ.dc a=some x):s.dt a=some x:=by
 unfold LS.dc at h
 split at h
 .split at h
  .rename_i r e;cases h;simp[St.dt,(H.r _ _ e).1]
  .cases h
 all_goals first | (cases h;rfl)|cases h
theorem J1K(H:σ.has s):∀{l m:List AV},σ.dcL l=some m->s.dtL l=some m
 |[],m,h=>by cases h;rfl
 |a::l,m,h=>by
  simp only[LS.dcL]at h
  split at h
  .rename_i x e
   split at h
   .rename_i y e2;cases h;rw[St.dtL,Q1H H e,J1K H e2]
   .cases h
  .cases h
theorem W21(H:σ.has s){a x:AV}(h:σ.d2 a=some x):s.dt a=some x:=by
 unfold LS.d2 at h
 split at h
 .split at h
  .rename_i l e;cases h;rw[St.dt,J1K H e];rfl
  .cases h
 .exact Q1H H h
theorem Z1L(H:σ.has s):∀{l m:List AV},σ.d2L l=some m->s.dtL l=some m
 |[],m,h=>by cases h;rfl
 |a::l,m,h=>by
  simp only[LS.d2L]at h
  split at h
  .rename_i x e
   split at h
   .rename_i y e2;cases h;rw[St.dtL,W21 H e,Z1L H e2]
   .cases h
  .cases h
theorem Q21(H:σ.has s){a x:AV}(h:σ.dt a=some x):s.dt a=some x:=by
 unfold LS.dt at h
 split at h
 .split at h
  .rename_i l e;cases h;rw[St.dt,Z1L H e];rfl
  .cases h
 .exact W21 H h
theorem M1B(H:σ.has s):∀{l m:List AV},σ.dtL l=some m->s.dtL l=some m
 |[],m,h=>by cases h;rfl
 |a::l,m,h=>by
  simp only[LS.dtL]at h
  split at h
  .rename_i x e
   split at h
   .rename_i y e2;cases h;rw[St.dtL,Q21 H e,M1B H e2]
   .cases h
  .cases h
end
end
section
inductive Act|a(v:AV)|l(es:List AV)|i(i:Int)|n(n:Nat)|s(l:List UInt8)|o(o:Option Int)|w(f:Nat)(as:List AV)(bin:List (List AV))(rin:List (Nat×List AV))
def allG:List (Bool×Bool)->Prop
  |[]=>True
  | (b,w)::r=>b=w/\allG r
structure Rw(q:Prop) where
 a:AV
 b:AV
 h:q->a=b
def V1g(P:Program)(f sz:Nat)(es as:List AV)(ret:Bool)(es':List AV):Prop:=Con P f (.sref 0::as) [] [⟨sz,es,false⟩] fun res bout upd new =>
 bout=[]/\(match ret with|true=>res=.sref 1/\upd=[none]/\new=[⟨sz,es',false⟩]|false=>res=.tup []/\upd=[some es']/\new=[])
def ownR(rin:List (Nat×List AV)):List Row:=rin.map fun p=>⟨p.1,p.2,false⟩
def ConD(P:Program)(f:FuncId)(as:List AV)(bin:List (List AV))(rin:List (Nat×List AV))(res:AV)(bout:List (List AV))(upd:List (Option (List AV)))(new:List (Nat×List AV)):Prop :=
 Con P f as bin (ownR rin) fun r b u n=>r=res/\b=bout/\u=upd/\n=ownR new
inductive Hint(P:Program)(q:Prop)
 |ln (es:List AV) (n:Nat) (h:q->es.length=n)
 |le (es:List AV) (n:Nat) (h:q->es.length=n) (h2:q->n<=9223372036854775807)
 |ix (es:List AV) (i:Int) (e:AV) (h:q->idx es i=some e)
 |el (es:List AV) (j:Nat) (e:AV) (h:q->es[j]?=some e)
 |sx (l:List UInt8) (i:Int) (b:UInt8) (h:q->idx l i=some b)
 |sto (es:List AV) (j:Nat) (e ne:AV) (es':List AV) (h:q->es[j]?=some e) (h2:q->es.set j ne=es')
 |ap (es news:List AV) (bs:Nat) (es':List AV) (h:q->appL bs es news=some es')
 |ms (bs:Nat) (n:Int) (z:AV) (es:List AV) (h:q->mkL bs n z=some es)
 |sc (es:List AV) (lo hi:Option Int) (es':List AV) (h:q->cutL es lo hi=some es')
 |ss (l:List UInt8) (lo hi:Option Int) (y:List UInt8) (h:q->cutL l lo hi=some y)
 |sa (x y z:List UInt8) (h:q->catS x y=some z)
 |quo (k:IntKind) (x y z:Int) (h:q->quoI k x y=some z)
 |rem (x y z:Int) (h:q->remI x y=some z)
 |shr (k:IntKind) (x y z:Int) (h:q->shrI k x y=some z)
 |b2s (es:List AV) (l:List UInt8) (h:q->es=l.map fun b=>AV.int .u8 b.toNat)
 |s2b (l:List UInt8) (es:List AV) (h:q->l.length<=140737488355328) (h2:q->(l.map fun b=>AV.int .u8 b.toNat)=es)
 |call (f:Nat) (as as':List AV) (res:AV) (rows:List Row) (hae:AEs as as') (h:q->Snd P f as' res rows)
 |clsr (f:Nat) (as as':List AV) (res:AV) (rows:List Row) (hae:AEs as as') (hf:isFn P f=true) (h:q->Snd P f as' res rows)
 |cw (f:Nat) (bks rks:List Nat) (bin:List (List AV)) (rin:List (Nat×List AV)) (as0 as:List AV) (res:AV) (bout:List (List AV)) (upd:List (Option (List AV))) (new:List (Nat×List AV))
  (hae:GEs as0 as) (hb:∀b∈bin,noOL b) (hr:∀r∈rin,noOL r.2) (ho:noOL as0) (h:q->ConD P f as bin rin res bout upd new)
 |cz (f:Nat) (bks:List Nat) (bin:List (List AV)) (as0 as:List AV) (res:AV) (bout:List (List AV)) (hb:∀b∈bin,noOL b) (ho:noOL as0) (hr:q->rdtL as0=as) (h:q->ConD P f as bin [] res bout [] [])
 |bn (f:Nat) (as0 as1 as cs:List AV) (ho:q->noOL as0) (hr:q->rdtL as1=as) (h:q->SndB P f as fun c=>c=cs)
 |cr (f sz:Nat) (es vs as:List AV) (ret:Bool) (es':List AV) (hn:q->noOL es) (hv:q->noOL vs) (hr:q->rdtL vs=as) (h:q->V1g P f sz es as ret es')
structure HE(P:Program) where
 k:Nat
 gs:List (Bool×Bool)
 h:Option (Hint P (allG gs))
 r:Option (Rw (allG gs))
def Hint.exp{P:Program}{q:Prop}:Hint P q->List Act
 |.ln es _ _=>[.l es]
 |.le es _ _ _=>[.l es]
 |.ix es i _ _=>[.l es,.i i]
 |.el es j _ _=>[.l es,.n j]
 |.sx l i _ _=>[.s l,.i i]
 |.sto es j _ ne _ _ _=>[.l es,.n j,.a ne]
 |.ap es news bs _ _=>[.l es,.l news,.n bs]
 |.ms bs n z _ _=>[.n bs,.i n,.a z]
 |.sc es lo hi _ _=>[.l es,.o lo,.o hi]
 |.ss l lo hi _ _=>[.s l,.o lo,.o hi]
 |.sa x y _ _=>[.s x,.s y]
 |.quo _ x y _ _=>[.i x,.i y]
 |.rem x y _ _=>[.i x,.i y]
 |.shr _ x y _ _=>[.i x,.i y]
 |.b2s es _ _=>[.l es]
 |.s2b l _ _ _=>[.s l]
 |.call f as _ _ _ _ _=>[.n f,.l as]
 |.clsr f as _ _ _ _ _ _=>[.n f,.l as]
 |.cw f _ _ bin rin as0 _ _ _ _ _ _ _ _ _ _=>[.w f as0 bin rin]
 |.cz f _ bin as0 _ _ _ _ _ _ _=>[.w f as0 bin []]
 |.bn f as0 as1 _ _ _ _ _=>[.n f,.l as0,.l as1]
 |.cr f sz es vs _ _ _ _ _ _ _=>[.n f,.n sz,.l es,.l vs]
def Rw.exp{p:Prop}(q:Option (Rw p)):List Act:=match q with|some q=>[.a q.a]|none=>[]
def hexp{P:Program}{p:Prop}(q:Option (Hint P p)):List Act:=match q with|some q=>q.exp|none=>[]
def kdec(a b:IntKind):Bool:=decide (a=b)
def gto(A:List (Nat×Bool))(σ:LS):Option X->Option (Option Int)
 |none=>some none
 |some x=>match gt A σ x with
  |some (.int _ i)=>some (some i)
  |_=>none
def pvh{P:Program}{q:Prop}(A:List (Nat×Bool))(σ:LS):Option (Hint P q)->LOp->Option (AV×List Act)
 |none,l=>match l with
  |.b2s _ x=>match gt A σ x with
   |some .nl=>some (.str [],[])
   |_=>none
  |l=>match pv A σ l with
   |some v=>some (v,[])
   |none=>none
 |some h,l=>match h with
  |.ln _ n _=>match l with
   |.ln _ x=>match gt A σ x with
    |some (.sl _ _ es)=>some (.int .i64 n,[.l es])
    |some (.sref k)=>match lk σ.tr k with
     |some r=>some (.int .i64 n,[.l r.es])
     |none=>none
    |_=>none
   |_=>none
  |.le _ n _ _=>match l with
   |.lq _ x=>match gt A σ x with
    |some (.sl _ _ es)=>some (.int .i64 n,[.l es])
    |some (.sref k)=>match lk σ.tr k with
     |some r=>some (.int .i64 n,[.l r.es])
     |none=>none
    |_=>none
   |_=>none
  |.ix _ _ e _=>match l with
   |.ia _ x i n=>match gt A σ i with
    |some (.int _ j)=>match gt A σ x with
     |some (.sl t sz es)=>match Nat.beq sz n with
      |true=>match t with
       |.own _=>some (.eot e 0,[.l es,.i j])
       |_=>some (.ept e 0,[.l es,.i j])
      |false=>none
     |some (.sref k)=>match lk σ.tr k with
      |some r=>match Nat.beq r.sz n with
       |true=>some (.rpt k j.toNat 0,[.l r.es,.i j])
       |false=>none
      |none=>none
     |_=>none
    |_=>none
   |_=>none
  |.el _ _ e _=>match l with
   |.ld _ p n ag=>match gt A σ p with
    |some (.rpt k j off)=>match lk σ.tr k with
     |some r=>match L0b e.cells off n ag with
      |some v=>some (v,[.l r.es,.n j])
      |none=>none
     |none=>none
    |_=>none
   |_=>none
  |.sx _ _ b _=>match l with
   |.ix _ x i=>match gt A σ x with
    |some (.str s)=>match gt A σ i with
     |some (.int _ j)=>some (.int .u8 b.toNat,[.s s,.i j])
     |_=>none
    |_=>none
   |_=>none
  |.sc _ _ _ es' _=>match l with
   |.sc _ x lo hi n=>match gto A σ lo with
    |some lo=>match gto A σ hi with
     |some hi=>match gt A σ x with
      |some (.sl t sz es)=>match Nat.beq sz n with
       |true=>match t with
        |.own _=>none
        |_=>some (.sl t sz es',[.l es,.o lo,.o hi])
       |false=>none
      |some .nl=>some (.nl,[.l [],.o lo,.o hi])
      |_=>none
     |none=>none
    |none=>none
   |_=>none
  |.ss _ _ _ y _=>match l with
   |.ss _ x lo hi=>match gto A σ lo with
    |some lo=>match gto A σ hi with
     |some hi=>match gt A σ x with
      |some (.str s)=>some (.str y,[.s s,.o lo,.o hi])
      |_=>none
     |none=>none
    |none=>none
   |_=>none
  |.sa _ _ z _=>match l with
   |.sa _ x y=>match gt A σ x with
    |some (.str a)=>match gt A σ y with
     |some (.str b)=>some (.str z,[.s a,.s b])
     |_=>none
    |_=>none
   |_=>none
  |.quo k _ _ z _=>match l with
   |.bi _ .quo x y=>match gt A σ x with
    |some (.int k1 a)=>match gt A σ y with
     |some (.int k2 b)=>match kdec k1 k&&kdec k2 k with
      |true=>some (.int k z,[.i a,.i b])
      |false=>none
     |_=>none
    |_=>none
   |_=>none
  |.rem _ _ z _=>match l with
   |.bi _ .rem x y=>match gt A σ x with
    |some (.int k1 a)=>match gt A σ y with
     |some (.int k2 b)=>match kdec k1 k2 with
      |true=>some (.int k1 z,[.i a,.i b])
      |false=>none
     |_=>none
    |_=>none
   |_=>none
  |.shr k _ _ z _=>match l with
   |.bi _ .shr x y=>match gt A σ x with
    |some (.int k1 a)=>match gt A σ y with
     |some (.int _ b)=>match kdec k1 k with
      |true=>some (.int k z,[.i a,.i b])
      |false=>none
     |_=>none
    |_=>none
   |_=>none
  |.b2s _ y _=>match l with
   |.b2s _ x=>match gt A σ x with
    |some v=>match σ.dc v with
     |some (.sl _ _ es)=>some (.str y,[.l es])
     |_=>none
    |none=>none
   |_=>none
  |.s2b _ es _ _=>match l with
   |.s2b _ x=>match gt A σ x with
    |some (.str s)=>some (.sl .nw 1 es,[.s s])
    |_=>none
   |_=>none
  |.call _ as _ res rows _ _=>match l with
   |.cq _ f' xs=>match gts A σ xs with
    |some vs=>match σ.dtL vs with
     |some ds=>some (res.nwd rows,[.n f',.l (mrgL ds as)])
     |none=>none
    |none=>none
   |_=>none
  |.clsr _ as _ res rows _ _ _=>match l with
   |.cc _ fx xs=>match gt A σ fx with
    |some fv=>match σ.dt fv with
     |some (.fn f' cap)=>match gts A σ xs with
      |some vs=>match σ.dtL vs with
       |some ds=>some (res.nwd rows,[.n f',.l (mrgL (ds++cap) as)])
       |none=>none
      |none=>none
     |_=>none
    |none=>none
   |_=>none
  |.ap _ _ _ es' _=>match l with
   |.ae _ x y sz by'=>match gt A σ x with
    |some .el=>match gt A σ y with
     |some (.sl _ sy news)=>match Nat.beq sy sz with
      |true=>some (.sl .nw sz es',[.l [],.l news,.n by'])
      |false=>none
     |_=>none
    |_=>none
   |_=>none
  |_=>none
section
variable{P:Program}{σ:LS}{s:St}{A:List (Nat×Bool)}
theorem Q10(H:σ.has s)(hA:sat s A){o:Option X}{q:Option Int}(h:gto A σ o=some q):(∀n,s.hi o n=bhi q n)/\∀n,s.lo o n=blo q n:=by
 cases o with
 |none=>cases h;exact⟨fun _=>rfl,fun _=>rfl⟩
 |some x =>
  simp only[gto]at h
  split at h
  .rename_i k i e
   cases h
   have:=V5 H hA e
   exact⟨fun n=>by simp only[St.hi,this,J1q,bhi],fun n=>by simp only[St.lo,this,J1q,blo]⟩
  .cases h
theorem M0Q{es:List AV}{k:IntKind}{j:Int}{e:AV}(h:idx es j=some e):Q0E (.int k j) es.length=some j.toNat/\es[j.toNat]?=some e:=by
 have h1:=Z1K h
 exact⟨by simp only[Q0E];rw[yd h1],Q7 h⟩
theorem X1r{l:List UInt8}{k:IntKind}{j:Int}{b:UInt8}(h:idx l j=some b):Q0E (.int k j) l.length=some j.toNat/\l[j.toNat]?=some b:=by
 have h1:=Z1K h
 exact⟨by simp only[Q0E];rw[yd h1],Q7 h⟩
theorem J0J{α:Type}{l m:List α}{lo hi:Option Int}(h:cutL l lo hi=some m):∃b a,bhi hi l.length=some b/\blo lo b=some a/\(l.take b).drop a=m:=by
 unfold cutL at h
 split at h
 .rename_i b e
  split at h
  .rename_i a e2;cases h;exact⟨b,a,e,e2,rfl⟩
  .cases h
 .cases h
theorem Z19{xs:List X}{vs ds:List AV}(H:σ.has s)(hA:sat s A)(h:gts A σ xs=some vs)(h2:σ.dtL vs=some ds):s.args xs=some (rdtL ds):=by
 unfold St.args
 rw[U0k H hA h,M1B H h2]
theorem V1b{q:Prop}(hq:q)(H:σ.has s)(hA:sat s A){l:LOp}{h:Option (Hint P q)}{v:AV}{as:List Act}(e:pvh A σ h l=some (v,as))(he:as=hexp h){K:St->Prop}(hK:K (s.set l.dst v)):wop P l K s:=by
 cases h with
 |none =>
  have gen:∀{l:LOp},(match pv A σ l with|some v=>some (v,[])|none=>none)=some (v,as)->K (s.set l.dst v)->wop P l K s:=by
   intro l e hK
   split at e
   .rename_i u e2;cases e;exact pv_ok H hA e2 hK
   .cases e
  cases l with
  |b2s d x =>
   simp only[pvh]at e
   split at e
   .rename_i e2;cases e;simp only[wop];rw[V5 H hA e2];exact hK
   .cases e
  |_=>exact gen e hK
 |some h =>
  cases h with
  |ln es n h =>
   have h:=h hq
   cases l with
   |ln d x =>
    simp only[pvh]at e
    split at e
    .rename_i t sz es' e2
     cases e
     simp only[hexp,Hint.exp,yW,Act.l.injEq,and_true]at he
     simp only[wop];rw[V5 H hA e2];subst he;subst h;exact fun _=>hK
    .rename_i k e2
     split at e
     .rename_i r er
      cases e
      simp only[hexp,Hint.exp,yW,Act.l.injEq,and_true]at he
      simp only[wop];rw[V5 H hA e2];simp only[(H.r _ _ er).1];subst he;subst h;exact fun _=>hK
     .cases e
    .cases e
   |_=>cases e
  |le es n h h2 =>
   have h:=h hq
   have h2:=h2 hq
   cases l with
   |lq d x =>
    simp only[pvh]at e
    split at e
    .rename_i t sz es' e2
     cases e
     simp only[hexp,Hint.exp,yW,Act.l.injEq,and_true]at he
     simp only[wop];rw[V5 H hA e2];subst he;subst h;exact⟨h2,hK⟩
    .rename_i k e2
     split at e
     .rename_i r er
      cases e
      simp only[hexp,Hint.exp,yW,Act.l.injEq,and_true]at he
      simp only[wop];rw[V5 H hA e2];simp only[(H.r _ _ er).1];subst he;subst h;exact⟨h2,hK⟩
     .cases e
    .cases e
   |_=>cases e
  |ix es i e0 h =>
   have h:=h hq
   cases l with
   |ia d x y n =>
    simp only[pvh]at e
    split at e
    .rename_i k j ey
     split at e
     .rename_i t sz es' ex
      split at e
      .rename_i hs
       have hs:=yR hs
       split at e
       .cases e
        simp only[hexp,Hint.exp,yW,Act.l.injEq,Act.i.injEq,and_true]at he
        obtain⟨rfl,rfl⟩:=he
        obtain⟨q1,q2⟩:=M0Q (k:=k) h
        simp only[wop];rw[V5 H hA ex,V5 H hA ey];simp only[q1,q2];exact⟨hs,hK⟩
       .rename_i hno
        cases e
        simp only[hexp,Hint.exp,yW,Act.l.injEq,Act.i.injEq,and_true]at he
        obtain⟨rfl,rfl⟩:=he
        obtain⟨q1,q2⟩:=M0Q (k:=k) h
        simp only[wop];rw[V5 H hA ex,V5 H hA ey];simp only[q1,q2]
        refine⟨hs,?_⟩
        rw[ye]
        .exact hK
        .cases t<;>simp[Tag.isOwn]at hno ⊢
      .cases e
     .rename_i k' ex
      split at e
      .rename_i r er
       split at e
       .rename_i hs
        have hs:=yR hs
        cases e
        simp only[hexp,Hint.exp,yW,Act.l.injEq,Act.i.injEq,and_true]at he
        obtain⟨rfl,rfl⟩:=he
        obtain⟨q1,q2⟩:=M0Q (k:=k) h
        simp only[wop];rw[V5 H hA ex,V5 H hA ey];simp only[(H.r _ _ er).1,q1];exact⟨hs,hK⟩
       .cases e
      .cases e
     .cases e
    .cases e
   |_=>cases e
  |el es j e0 h =>
   have h:=h hq
   cases l with
   |ld d p n ag =>
    simp only[pvh]at e
    split at e
    .rename_i k j' off ep
     split at e
     .rename_i r er
      split at e
      .rename_i u eu
       cases e
       simp only[hexp,Hint.exp,yW,Act.l.injEq,Act.n.injEq,and_true]at he
       obtain⟨rfl,rfl⟩:=he
       simp only[wop];rw[V5 H hA ep];simp only[St.ld,(H.r _ _ er).1,h,eu];exact hK
      .cases e
     .cases e
    .cases e
   |_=>cases e
  |sx l0 i b h =>
   have h:=h hq
   cases l with
   |ix d x y =>
    simp only[pvh]at e
    split at e
    .rename_i s0 ex
     split at e
     .rename_i k j ey
      cases e
      simp only[hexp,Hint.exp,yW,Act.s.injEq,Act.i.injEq,and_true]at he
      obtain⟨rfl,rfl⟩:=he
      obtain⟨q1,q2⟩:=X1r (k:=k) h
      simp only[wop];rw[V5 H hA ex,V5 H hA ey];simp only[q1,q2];exact hK
     .cases e
    .cases e
   |_=>cases e
  |sc es lo hi es' h =>
   have h:=h hq
   cases l with
   |sc d x xlo xhi n =>
    simp only[pvh]at e
    split at e
    .rename_i lo' elo
     split at e
     .rename_i hi' ehi
      have h1:=(Q10 H hA ehi).1
      have h2:=(Q10 H hA elo).2
      split at e
      .rename_i t sz es0 ex
       split at e
       .rename_i hs
        have hs:=yR hs
        split at e
        .cases e
        .rename_i hno
         cases e
         simp only[hexp,Hint.exp,yW,Act.l.injEq,Act.o.injEq,and_true]at he
         obtain⟨rfl,rfl,rfl⟩:=he
         obtain⟨b,a,q1,q2,q3⟩:=J0J h
         simp only[wop];rw[V5 H hA ex];simp only[h1,h2,q1,q2,q3]
         exact⟨hs,by cases t<;>simp[Tag.isOwn]at hno ⊢,hK⟩
       .cases e
      .rename_i ex
       cases e
       simp only[hexp,Hint.exp,yW,Act.l.injEq,Act.o.injEq,and_true]at he
       obtain⟨rfl,rfl,rfl⟩:=he
       obtain⟨b,a,q1,q2,q3⟩:=J0J h
       simp only[wop];rw[V5 H hA ex];simp only[h1,h2]
       rw[show bhi hi' 0=some b from q1];simp only[q2];exact hK
      .cases e
     .cases e
    .cases e
   |_=>cases e
  |ss l0 lo hi y h =>
   have h:=h hq
   cases l with
   |ss d x xlo xhi =>
    simp only[pvh]at e
    split at e
    .rename_i lo' elo
     split at e
     .rename_i hi' ehi
      have h1:=(Q10 H hA ehi).1
      have h2:=(Q10 H hA elo).2
      split at e
      .rename_i s0 ex
       cases e
       simp only[hexp,Hint.exp,yW,Act.s.injEq,Act.o.injEq,and_true]at he
       obtain⟨rfl,rfl,rfl⟩:=he
       obtain⟨b,a,q1,q2,q3⟩:=J0J h
       simp only[wop];rw[V5 H hA ex];simp only[h1,h2,q1,q2,q3];exact hK
      .cases e
     .cases e
    .cases e
   |_=>cases e
  |ap es0 news0 bs0 es' h =>
   have h:=h hq
   cases l with
   |ae d x y sz by' =>
    simp only[pvh]at e
    split at e
    .rename_i ex
     split at e
     .rename_i t sy news ey
      split at e
      .rename_i hc
       have c3:=yR hc
       cases e
       simp only[hexp,Hint.exp,yW,Act.l.injEq,Act.n.injEq,and_true]at he
       obtain⟨rfl,rfl,rfl⟩:=he
       unfold appL at h
       split at h
       .rename_i hle
        cases h
        simp only[wop];rw[V5 H hA ex];simp only;rw[V5 H hA ey]
        exact⟨.inr c3,by simpa using hle,by simpa using hK⟩
       .cases h
      .cases e
     .cases e
    .cases e
   |_=>cases e
  |sa x0 y0 z h =>
   have h:=h hq
   cases l with
   |sa d x y =>
    simp only[pvh]at e
    split at e
    .rename_i a ex
     split at e
     .rename_i b ey
      cases e
      simp only[hexp,Hint.exp,yW,Act.s.injEq,and_true]at he
      obtain⟨rfl,rfl⟩:=he
      unfold catS at h
      split at h
      .rename_i hle
       cases h
       simp only[wop];rw[V5 H hA ex,V5 H hA ey];exact⟨hle,hK⟩
      .cases h
     .cases e
    .cases e
   |_=>cases e
  |quo k x0 y0 z h =>
   have h:=h hq
   cases l with
   |bi d op x y =>
    cases op with
    |quo =>
     simp only[pvh]at e
     split at e
     .rename_i k1 a ex
      split at e
      .rename_i k2 b ey
       split at e
       .rename_i hk
        simp only[yD,kdec,yO]at hk
        obtain⟨rfl,rfl⟩:=hk
        cases e
        simp only[hexp,Hint.exp,yW,Act.i.injEq,and_true]at he
        obtain⟨rfl,rfl⟩:=he
        unfold quoI at h
        split at h
        .cases h
        .rename_i hb
         cases h
         simp only[wop];rw[V5 H hA ex,V5 H hA ey];simp only[evB];rw[yd ⟨trivial,hb⟩];exact hK
       .cases e
      .cases e
     .cases e
    |_=>cases e
   |_=>cases e
  |rem x0 y0 z h =>
   have h:=h hq
   cases l with
   |bi d op x y =>
    cases op with
    |rem =>
     simp only[pvh]at e
     split at e
     .rename_i k1 a ex
      split at e
      .rename_i k2 b ey
       split at e
       .rename_i hk
        simp only[kdec,yO]at hk
        subst hk
        cases e
        simp only[hexp,Hint.exp,yW,Act.i.injEq,and_true]at he
        obtain⟨rfl,rfl⟩:=he
        unfold remI at h
        split at h
        .cases h
        .rename_i hb
         cases h
         simp only[wop];rw[V5 H hA ex,V5 H hA ey];simp only[evB];rw[yd ⟨trivial,hb⟩];exact hK
       .cases e
      .cases e
     .cases e
    |_=>cases e
   |_=>cases e
  |shr k x0 y0 z h =>
   have h:=h hq
   cases l with
   |bi d op x y =>
    cases op with
    |shr =>
     simp only[pvh]at e
     split at e
     .rename_i k1 a ex
      split at e
      .rename_i k2 b ey
       split at e
       .rename_i hk
        simp only[kdec,yO]at hk
        subst hk
        cases e
        simp only[hexp,Hint.exp,yW,Act.i.injEq,and_true]at he
        obtain⟨rfl,rfl⟩:=he
        unfold shrI at h
        split at h
        .rename_i hb
         cases h
         simp only[wop];rw[V5 H hA ex,V5 H hA ey];simp only[evB];rw[yd hb];exact hK
        .cases h
       .cases e
      .cases e
     .cases e
    |_=>cases e
   |_=>cases e
  |b2s es y h =>
   have h:=h hq
   cases l with
   |b2s d x =>
    simp only[pvh]at e
    split at e
    .rename_i u ex
     split at e
     .rename_i t sz es0 ed
      cases e
      simp only[hexp,Hint.exp,yW,Act.l.injEq,and_true]at he
      simp only[wop];rw[V5 H hA ex,Q1H H ed];exact⟨y,by rw[he];exact h,hK⟩
     .cases e
    .cases e
   |_=>cases e
  |s2b l0 es h h2 =>
   have h:=h hq
   have h2:=h2 hq
   cases l with
   |s2b d x =>
    simp only[pvh]at e
    split at e
    .rename_i s0 ex
     cases e
     simp only[hexp,Hint.exp,yW,Act.s.injEq,and_true]at he
     subst he
     simp only[wop];rw[V5 H hA ex];simp only;rw[h2];exact⟨h,hK⟩
    .cases e
   |_=>cases e
  |call f as0 as' res rows hae h =>
   have h:=h hq
   cases l with
   |cq d f' xs =>
    simp only[pvh]at e
    split at e
    .rename_i vs ev
     split at e
     .rename_i ds ed
      cases e
      simp only[hexp,Hint.exp,yW,Act.n.injEq,Act.l.injEq,and_true]at he
      obtain⟨rfl,he⟩:=he
      exact⟨_,Z19 H hA ev ed,res,rows,h.aes hae he,hK⟩
     .cases e
    .cases e
   |_=>cases e
  |clsr f as0 as' res rows hae hf h =>
   have h:=h hq
   cases l with
   |cc d fx xs =>
    simp only[pvh]at e
    split at e
    .rename_i fv efx
     split at e
     .rename_i f' cap edf
      split at e
      .rename_i vs ev
       split at e
       .rename_i ds ed
        cases e
        simp only[hexp,Hint.exp,yW,Act.n.injEq,Act.l.injEq,and_true]at he
        obtain⟨rfl,he⟩:=he
        refine⟨rdtL (.fn f' cap::ds),?_,f',rdtL cap,rdtL ds,by simp[rdtL,AV.rdt],hf,res,rows,?_,hK⟩
        .unfold St.args
         rw[List.map_cons,V5 H hA efx,U0k H hA ev,St.dtL,Q21 H edf,M1B H ed]
        .have:=h.aes hae he
         rwa [X3,List.map_append,← X3,← X3]at this
       .cases e
      .cases e
     .cases e
    .cases e
   |_=>cases e
  |_=>cases l<;>cases e
end
end
section
def addRows(σ:LS)(k:Nat):List Row->LS
 |[]=>σ
 |r::rs=>addRows ((σ.kill k).row k r) (k+1) rs
mutual
def AV.odF:AV->Bool
 |.od _ _ _=>false
 |.op _ _ _=>false
 |.agg cs=>odFL cs
 |.tup cs=>odFL cs
 |.fn _ cs=>odFL cs
 |_=>true
def odFL:List AV->Bool
 |[]=>true
 |a::l=>match a.odF with|true=>odFL l|false=>false
end
mutual
theorem O1Q:∀{a:AV},a.odF=true->a.kod=a
 |.agg cs,h=>by rw[AV.kod,V03 (by simpa only[AV.odF]using h)]
 |.tup cs,h=>by rw[AV.kod,V03 (by simpa only[AV.odF]using h)]
 |.fn f cs,h=>by rw[AV.kod,V03 (by simpa only[AV.odF]using h)]
 |.od _ _ _,h | .op _ _ _,h=>by simp[AV.odF]at h
 |.bool _,_ | .int _ _,_ | .str _,_ | .nl,_ | .el,_ | .sl _ _ _,_ | .ept _ _,_ | .eot _ _,_ | .und,_ | .bad,_ | .sref _,_ | .ptr _ _,_ | .rpt _ _ _,_=>by simp[AV.kod]
theorem V03:∀{l:List AV},odFL l=true->kodL l=l
 |[],_=>rfl
 |a::l,h=>by
  simp only[odFL]at h
  split at h
  .rename_i e;rw[kodL,O1Q e,V03 h]
  .cases h
end
def gtsF(A:List (Nat×Bool))(σ:LS)(ys:List X):Option (List AV):=match gts A σ ys with
 |some vs=>match odFL vs with
  |true=>some vs
  |false=>none
 |none=>none
theorem U1i{A:List (Nat×Bool)}{σ:LS}{ys:List X}{vs:List AV}(h:gtsF A σ ys=some vs):gts A σ ys=some vs/\odFL vs=true:=by
 unfold gtsF at h
 split at h
 .rename_i e
  split at h
  .rename_i e2;cases h;exact⟨e,e2⟩
  .cases h
 .cases h
def LS.kill2(σ:LS):List Nat->LS
 |[]=>σ
 |k::ks=>LS.kill2 (σ.kill k) ks
def blk(bks:List Nat):List (Nat×List AV)->List (Nat×List AV)
  |[]=>[]
  | (k,cs)::l=>(k,match inL k bks with|true=>List.replicate cs.length .bad|false=>cs)::blk bks l
def upr(rks:List Nat)(upd:List (Option (List AV))):List (Nat×Row)->List (Nat×Row)
  |[]=>[]
  | (k,r)::l=>(k,match upf rks upd k with|some es=>⟨r.sz,es,r.sh⟩|none=>r)::upr rks upd l
def LS.setB(σ:LS):List Nat->List (List AV)->LS
 |k::ks,b::bs=>(LS.setB σ ks bs).box k b
 |_,_=>σ
def LS.afterM(σ:LS)(d:Nat)(bks rks:List Nat)(res:AV)(bout:List (List AV))(upd:List (Option (List AV)))(new:List Row):LS :=
 LS.set (LS.setB (addRows { σ.kill2 (drops rks upd)with tb:=blk bks (σ.kill2 (drops rks upd)).tb,tr:=upr rks upd (σ.kill2 (drops rks upd)).tr } (1000*d+1000) new) bks (bout.map (mpL (fbB bks) (frB rks upd (1000*d+1000) new.length)))) d
  (res.mp (fbB bks) (frB rks upd (1000*d+1000) new.length))
def gbx(σ:LS):List Nat->Option (List (List AV))
 |[]=>some []
 |k::ks=>match lk σ.tb k with
  |some cs=>match gbx σ ks with
   |some l=>some (cs::l)
   |none=>none
  |none=>none
def grw(σ:LS):List Nat->Option (List (Nat×List AV))
 |[]=>some []
 |k::ks=>match lk σ.tr k with
  |some r=>match r.sh with
   |false=>match grw σ ks with
    |some l=>some ((r.sz,r.es)::l)
    |none=>none
   |true=>none
  |none=>none
def ncl:List Nat->List (Option (List AV))->Nat->Nat->Bool
 |k::ks,some _::us,b,n=>(Nat.blt k b||Nat.ble (b+n) k)&&ncl ks us b n
 |_::ks,none::us,b,n=>ncl ks us b n
 |_,_,_,_=>true
def nclB(b n:Nat):List Nat->Bool
 |[]=>true
 |k::ks=>(Nat.blt k b||Nat.ble (b+n) k)&&nclB b n ks
def cwx(A:List (Nat×Bool))(σ:LS)(d f':Nat)(xs:List X)(bks rks:List Nat)(res:AV)(bout:List (List AV))(upd:List (Option (List AV)))(new:List (Nat×List AV)):Option (LS×Act) :=
 match UW (bks++rks)&&ncl rks upd (1000*d+1000) new.length&&nclB (1000*d+1000) new.length bks&&Nat.ble new.length 1000 with
 |true=>match gbx σ bks with
  |some bs=>match grw σ rks with
   |some rs=>match gtsF A σ xs with
    |some vs=>some (σ.afterM d bks rks res bout upd (ownR new),.w f' (mpL (ix bks) (ix rks) vs) (bs.map (mpL (ix bks) (ix rks))) rs)
    |none=>none
   |none=>none
  |none=>none
 |false=>none
section
variable{P:Program}{σ:LS}{s:St}{A:List (Nat×Bool)}
theorem LS.has.addRows:∀{rows:List Row} {σ:LS} {s:St} {k:Nat},σ.has s->(addRows σ k rows).has (s.addrows k rows)
 |[],_,_,_,H=>H
 |r::rs,σ,s,k,H=>LS.has.addRows (rows:=rs) ((H.kill k).row k r (by simp))
theorem LS.has.congr{s':St}(H:σ.has s)(h1:s'.e=s.e)(h2:s'.bx=s.bx)(h3:s'.rw=s.rw):σ.has s' :=
  ⟨fun t v h=>by rw[h1];exact H.e t v h,fun t g w v h=>by rw[h1];exact H.g t g w v h,fun k cs h=>by rw[h2];exact H.b k cs h,fun k r h=>by rw[h2,h3];exact H.r k r h,fun k h=>by rw[h2];exact H.n k h⟩
theorem LS.has.kill2:∀{ks:List Nat} {σ:LS} {s:St},σ.has s->(σ.kill2 ks).has (s.kill2 ks)
 |[],_,_,H=>H
 |k::ks,_,_,H=>LS.has.kill2 (ks:=ks) (H.kill k)
theorem Y1i{k:Nat}:∀{ks:List Nat},inL k ks=true↔k∈ks
 |[]=>by simp[inL]
 |j::ks=>by
  simp only[inL,List.mem_cons]
  split
  .rename_i e;simp[yR e]
  .rename_i e
   rw[Y1i (ks:=ks)]
   constructor
   .exact .inr
   .rintro(rfl|h)
    .simp at e
    .exact h
theorem X1L(bks:List Nat):∀{l:List (Nat×List AV)} {k:Nat} {cs:List AV},lk (blk bks l) k=some cs->∃c0,lk l k=some c0/\cs=if k∈bks then List.replicate c0.length .bad else c0
  |[],_,_,h=>by cases h
  | (j,c)::l,k,cs,h=>by
    simp only[blk,lk]at h ⊢
    split at h
    · rename_i e
      have e:=yR e
      subst e
      cases h
      refine⟨c,rfl,?_⟩
      cases hb:inL k bks with
      |true=>simp[Y1i.1 hb]
      |false=>rw[ye fun q=>by rw[Y1i.2 q]at hb;cases hb]
    · exact X1L bks h
theorem U1o(bks:List Nat):∀{l:List (Nat×List AV)} {k:Nat},lk (blk bks l) k=none->lk l k=none
  |[],_,_=>rfl
  | (j,c)::l,k,h=>by
    simp only[blk,lk]at h ⊢
    split at h
    · cases h
    · exact U1o bks h
theorem Y1I(rks:List Nat)(upd:List (Option (List AV))):∀{l:List (Nat×Row)} {k:Nat} {r:Row},lk (upr rks upd l) k=some r->∃r0,lk l k=some r0/\r=(match upf rks upd k with|some es=>{ r0 with es:=es }|none=>r0)
  |[],_,_,h=>by cases h
  | (j,c)::l,k,r,h=>by
    simp only[upr,lk]at h ⊢
    split at h
    · rename_i e
      have e:=yR e
      subst e
      cases h
      exact⟨c,rfl,rfl⟩
    · exact Y1I rks upd h
theorem LS.has.setRows(H:σ.has s)(bks rks:List Nat)(upd:List (Option (List AV))):({ σ with tb:=blk bks σ.tb,tr:=upr rks upd σ.tr }:LS).has
    { s with bx:=fun j=>if j∈bks then(s.bx j).map (fun cs=>List.replicate cs.length .bad)else s.bx j,rw:=fun j=>match upf rks upd j with|some es=>(s.rw j).map (fun r=>{ r with es:=es })|none=>s.rw j }:=by
  refine⟨H.e,H.g,fun k cs h=>?_,fun k r h=>?_,fun k h=>?_⟩
  · obtain⟨c0,h0,rfl⟩:=X1L bks h
    simp only[H.b k c0 h0,Option.map_some]
    split<;>rfl
  · obtain⟨r0,h0,rfl⟩:=Y1I rks upd h
    obtain⟨q1,q2⟩:=H.r k r0 h0
    simp only[q1,q2,Option.map_none,Option.map_some,ite_self,and_true]
    split<;>rfl
  · have:=H.n k (U1o bks h)
    simp[this]
theorem LS.has.setB:∀{ks:List Nat} {bs:List (List AV)} {σ:LS} {s:St},σ.has s->(σ.setB ks bs).has (Mb s ks bs)
 |[],bs,σ,s,H=>H.congr rfl (by funext j;simp[Mb,bxf]) rfl
 |k::ks,[],σ,s,H=>H.congr rfl (by funext j;simp[Mb,bxf]) rfl
 |k::ks,b::bs,σ,s,H=>by
  refine((LS.has.setB (ks:=ks) (bs:=bs) H).box k b).congr rfl ?_ rfl
  funext j
  simp only[Mb,bxf]
  by_cases e:j=k
  .simp[e]
  .simp[e]
theorem U10(H:σ.has s)(n1 d:Nat)(bks rks:List Nat)(res:AV)(bout:List (List AV))(upd:List (Option (List AV)))(new:List Row):(σ.afterM d bks rks res bout upd new).has (afterM s n1 d bks rks res bout upd new):=by
 unfold LS.afterM Eng.afterM
 refine LS.has.set (LS.has.setB (LS.has.addRows ?_)) d _
 exact((H.kill2 (ks:=drops rks upd)).setRows bks rks upd).congr rfl rfl rfl
theorem M1A(H:σ.has s)(fb fr:Nat->Option Nat):∀{ks:List Nat} {bs:List (List AV)},gbx σ ks=some bs->MI s fb fr ks (bs.map (mpL fb fr))
 |[],bs,h=>by cases h;trivial
 |k::ks,bs,h=>by
  simp only[gbx]at h
  split at h
  .rename_i cs e
   split at h
   .rename_i l e2
    cases h
    exact⟨⟨cs,H.b k cs e,rfl⟩,M1A H fb fr e2⟩
   .cases h
  .cases h
theorem O1A(H:σ.has s):∀{ks:List Nat} {rs:List (Nat×List AV)},grw σ ks=some rs->J0r s ks (ownR rs)
 |[],rs,h=>by cases h;trivial
 |k::ks,rs,h=>by
  simp only[grw]at h
  split at h
  .rename_i r e
   split at h
   .rename_i hsh
    split at h
    .rename_i l e2
     cases h
     refine⟨?_,rfl,O1A H e2⟩
     rw[(H.r k r e).1]
     simp only[← hsh]
    .cases h
   .cases h
  .cases h
theorem J1x:∀{ks:List Nat} {us:List (Option (List AV))} {b n:Nat},ncl ks us b n=true->QT ks us b n
 |[],_,_,_,_=>by simp[QT]
 |_::_,[],_,_,_=>by simp[QT]
 |k::ks,some _::us,b,n,h=>by
  simp only[ncl,yD,Bool.or_eq_true]at h
  refine⟨h.1.elim (fun q=>.inl ?_) fun q=>.inr (Nat.le_of_ble_eq_true q),J1x h.2⟩
  simpa[Nat.blt_eq]using q
 |_::ks,none::us,b,n,h=>J1x (ks:=ks) (us:=us) h
theorem Z1y{b n:Nat}:∀{ks:List Nat},nclB b n ks=true->X0q b n ks
 |[],_=>fun k hk=>by cases hk
 |k::ks,h=>by
  simp only[nclB,yD,Bool.or_eq_true]at h
  intro j hj
  rcases yX hj with rfl|hj
  .refine h.1.elim (fun q=>.inl ?_) fun q=>.inr (Nat.le_of_ble_eq_true q)
   simpa[Nat.blt_eq]using q
  .exact Z1y h.2 j hj
theorem Z0q(l:List (Nat×List AV)):(ownR l).length=l.length:=by simp[ownR]
theorem O21(H:σ.has s)(hA:sat s A){d f' f:Nat}{xs:List X}{bks rks:List Nat}{bin:List (List AV)}{rin:List (Nat×List AV)}{as0 as:List AV}{res:AV}{bout:List (List AV)}{upd:List (Option (List AV))}{new:List (Nat×List AV)}{σ1:LS}{a:Act}
  (e:cwx A σ d f' xs bks rks res bout upd new=some (σ1,a)) (he:a=.w f as0 bin rin) (hae:GEs as0 as) (hb:∀b∈bin,noOL b) (hr:∀r∈rin,noOL r.2) (ho:noOL as0) (h:ConD P f as bin rin res bout upd new)
  {K:St->Prop} (hK:∀s',σ1.has s'->K s'):wop P (.cm d f' xs) K s:=by
 unfold cwx at e
 split at e
 .rename_i hc
  simp only[yD]at hc
  obtain⟨⟨⟨c1,c2⟩,c3⟩,c4⟩:=hc
  split at e
  .rename_i bs eb
   split at e
   .rename_i rs er
    split at e
    .rename_i vs ev
     cases e
     simp only[Act.w.injEq]at he
     obtain⟨rfl,e1,rfl,rfl⟩:=he
     obtain⟨ev,hod⟩:=U1i ev
     have hg:=U0k H hA ev
     simp only[wop]
     refine⟨bks,rks,_,ownR rs,as,Uq c1,M1A H _ _ eb,O1A H er,⟨hb,fun r hr'=>?_,fun x hx=>?_⟩,?_,_,h s.nx,fun n1 res' bout' upd' new' _ _ _ hΦ=>?_⟩
     .obtain⟨p,hp,rfl⟩:=yY hr'
      exact hr p hp
     .rw[← e1]at ho
      have q:=X0c ho
      rw[V03 hod,← hg]at q
      exact O9.1 q _ (List.mem_map_of_mem hx)
     .rw[← e1,JC,← hg,List.map_map]at hae
      exact hae
     .obtain⟨rfl,rfl,rfl,rfl⟩:=hΦ
      rw[Z0q]
      exact⟨Nat.le_of_ble_eq_true c4,J1x c2,Z1y c3,hK _ (U10 H n1 d bks rks _ _ _ _)⟩
    .cases e
   .cases e
  .cases e
 .cases e
end
end
section
def W0i:List Nat->Prop
 |[]=>True
 |n::ns=>n<=9223372036854775807/\W0i ns
def hkey:LOp->Nat
 |.st _ _ _=>1000000
 |l=>l.dst
def LS.fzr(σ:LS)(k:Nat)(r:Row):LS:={ σ with tr:=(k,{ r with sh:=true })::er k σ.tr }
def Z22(σ:LS)(x:AV)(d sz:Nat)(es':List AV)(sy:Nat)(news:List AV)(bs:Nat):Option (LS×List Act×List Nat):=match x with
 |.sref k=>match lk σ.tr k with
  |some r=>match Nat.beq r.sz sz&&Nat.ble k 999999999&&Nat.beq sy sz with
   |true=>some (((σ.kill k).row k ⟨r.sz,es',r.sh⟩).set d (.sref k),[.l r.es,.l news,.n bs],[])
   |false=>none
  |none=>none
 |.nl=>match Nat.beq sy sz with
  |true=>some (((σ.kill d).row d ⟨sz,es',false⟩).set d (.sref d),[.l [],.l news,.n bs],[])
  |false=>none
 |_=>none
def Y22(σ:LS)(x:AV)(d sz:Nat):Option (LS×List Act×List Nat):=match x with
 |.sref k=>match lk σ.tr k with
  |some _=>some (σ.set d (.sref k),[],[])
  |none=>none
 |.nl=>some (((σ.kill d).row d ⟨sz,[],false⟩).set d (.sref d),[],[])
 |_=>none
def efx{P:Program}{q:Prop}(A:List (Nat×Bool))(σ:LS)(h:Option (Hint P q))(l:LOp):Option (LS×List Act×List Nat):=match l with
  |.ln d x=>match gt A σ x with
    |some (.sl _ _ es)=>match h with
      |some (.ln _ n _)=>some (σ.set d (.int .i64 n),[.l es],[n])
      |_=>none
    |some (.sref k)=>match lk σ.tr k with
      |some r=>match h with
        |some (.ln _ n _)=>some (σ.set d (.int .i64 n),[.l r.es],[n])
        |some (.le _ n _ _)=>some (σ.set d (.int .i64 n),[.l r.es],[])
        |_=>none
      |none=>none
    |some .nl=>match h with
      |none=>some (σ.set d (.int .i64 0),[],[])
      |_=>none
    |_=>none
  |.st p x n=>match gt A σ p with
    |some (.ptr k off)=>match lk σ.tb k with
      |some cs=>match gt A σ x with
        |some v=>match h with
          |none=>if v.cells.length=n/\off+n<=cs.length/\allOne v.cells=true then some (σ.box k (putC cs off v.cells),[],[])else none
          |_=>none
        |none=>none
      |none=>none
    |some (.rpt k i off)=>match lk σ.tr k with
      |some r=>match gt A σ x with
        |some v=>match h with
          |some (.sto _ _ e _ es' _ _)=>if r.sh=false/\v.cells.length=n/\off+n<=e.cells.length/\nosr v=true
            then some (σ.row k ⟨r.sz,es',r.sh⟩,[.l r.es,.n i,.a (if n=e.cells.length then v else .agg (putC e.cells off v.cells))],[])else none
          |_=>none
        |none=>none
      |none=>none
    |_=>none
  |.cn d f' xs=>match gts A σ xs with
    |some vs=>match vs.all nosr with
      |true=>match σ.dtL vs with
        |some ds=>match h with
          |some (.bn _ _ _ _ cs _ _ _)=>some (((σ.kill d).box d (Z5 d cs)).set d (.ptr d 0),[.n f',.l vs,.l ds],[])
          |_=>none
        |none=>none
      |false=>none
    |none=>none
  |.al d z=>match h with
    |none=>some (((σ.kill d).box d (Z5 d z)).set d (.ptr d 0),[],[])
    |_=>none
  |.bx d x=>match gt A σ x with
    |some v=>match h with
      |none=>match allOne v.cells with
        |true=>some (((σ.kill d).box d (Z5 d v.cells)).set d (.ptr d 0),[],[])
        |false=>none
      |_=>none
    |none=>none
  |.bs d sz ps own=>match gts A σ ps with
    |some es=>match h with
      |none=>if es.all nosr=true/\(es.all fun e=>Nat.beq e.cells.length sz)=true/\es.length*sz<=1000000/\es.length<=1000000
        then match own with
          |true=>some (((σ.kill d).row d ⟨sz,es,false⟩).set d (.sref d),[],[])
          |false=>some (σ.set d (.sl .nw sz es),[],[])
        else none
      |_=>none
    |none=>none
  |.ms d sz by' z l=>match gt A σ l with
    |some (.int _ n)=>match h with
      |some (.ms _ _ _ es _)=>some (((σ.kill d).row d ⟨sz,es,false⟩).set d (.sref d),[.n by',.i n,.a (if sz=1 then z.getD 0 .bad else .agg z)],[])
      |_=>none
    |_=>none
  |.ap d x y sz by'=>match gt A σ y with
    |some vy=>match gt A σ x with
      |some vx=>match h with
        |some (.ap _ _ _ es' _)=>match σ.dc vy with
          |some (.sl _ sy news)=>Z22 σ vx d sz es' sy news by'
          |_=>none
        |none=>match vy with
          |.nl=>Y22 σ vx d sz
          |_=>none
        |_=>none
      |none=>none
    |none=>none
  |.sc d x lo hi n=>match gt A σ x with
    |some (.sref k)=>match lk σ.tr k with
      |some r=>match gto A σ lo with
        |some lo=>match gto A σ hi with
          |some hi=>match h with
            |some (.sc _ _ _ es' _)=>match Nat.beq r.sz n with
              |true=>some ((σ.fzr k r).set d (.sl .nw r.sz es'),[.l r.es,.o lo,.o hi],[])
              |false=>none
            |_=>none
          |none=>none
        |none=>none
      |none=>none
    |_=>match pvh A σ h (.sc d x lo hi n)with
      |some (v,as)=>some (σ.set d v,as,[])
      |none=>none
  |.cl d f' xs=>match gts A σ xs with
    |some vs=>match σ.dtL vs with
      |some ds=>match h with
        |some (.call _ as _ res rows _ _)=>match Nat.ble rows.length 1000 with
          |true=>some ((addRows σ (1000*d+1000) rows).set d (res.ren (1000*d+1000) rows.length),[.n f',.l (mrgL ds as)],[])
          |false=>none
        |_=>none
      |none=>none
    |none=>none
  |.cm d f' xs=>match h with
   |some (.cw _ bks rks _ _ _ _ res bout upd new _ _ _ _ _)=>match cwx A σ d f' xs bks rks res bout upd new with
     |some (σ1,a)=>some (σ1,[a],[])
     |none=>none
   |_=>match xs with
    |x::ys=>match gt A σ x with
      |some (.sref k)=>match lk σ.tr k with
        |some r=>match r.sh with
          |false=>match gtsF A σ ys with
            |some vs=>match h with
              |some (.cr _ _ _ _ _ ret es' _ _ _ _)=>some ((match ret with
                  |true=>(((σ.kill k).kill (1000*d+1000)).row (1000*d+1000) ⟨r.sz,es',false⟩).set d (.sref (1000*d+1000))
                  |false=>(σ.row k ⟨r.sz,es',false⟩).set d (.tup [])),[.n f',.n r.sz,.l r.es,.l (mpL (ix []) (ix [k]) vs)],[])
              |_=>none
            |none=>none
          |true=>none
        |none=>none
      |_=>none
    |[]=>none
  |.fb t=>match rdv A σ t with
    |some (.ptr k 0)=>match lk σ.tb k with
      |some cs=>match h with
        |none=>match nosr (.agg cs)with
          |true=>some ((σ.kill k).set t (.ept (.agg cs) 0),[],[])
          |false=>none
        |_=>none
      |none=>none
    |some (.ept _ _)=>match h with
      |none=>some (σ,[],[])
      |_=>none
    |_=>none
  |.fz t=>match rdv A σ t with
    |some (.sref k)=>match lk σ.tr k with
      |some r=>match h with
        |none=>some ((σ.fzr k r).set t (.sl .nw r.sz r.es),[],[])
        |_=>none
      |none=>none
    |some (.sl _ _ _)=>match h with
      |none=>some (σ,[],[])
      |_=>none
    |_=>none
  |l=>match pvh A σ h l with
    |some (v,as)=>some (σ.set l.dst v,as,[])
    |none=>none
section
variable{P:Program}{σ:LS}{s:St}{A:List (Nat×Bool)}
theorem LS.has.fzr(H:σ.has s){k:Nat}{r:Row}(hr:lk σ.tr k=some r):(σ.fzr k r).has { s with rw:=fun j=>if j=k then some { r with sh:=true } else s.rw j }:=by
 refine⟨H.e,H.g,H.b,fun j r' h=>?_,H.n⟩
 rcases U0c h with⟨rfl,rfl⟩|h
 .exact⟨by simp,(H.r _ _ hr).2⟩
 .obtain⟨h1,h2⟩:=U0M h
  simp[h1,H.r j r' h2]
theorem LS.has.self(H:σ.has s){d:Nat}{v:AV}(h:s.e d=v):(σ.set d v).has s:=by
 have q:=H.set d v
 rwa [show s.set d v=s by rw[← h,Y1k]]at q
theorem X1s(n1 d k:Nat)(r:Row):(afterM s n1 d [] [k] (.sref 1) [] [none] [r]).e=(St.set { (s.kill k).kill (1000*d+1000)with rw:=fun j=>if j=1000*d+1000 then some r else((s.kill k).kill (1000*d+1000)).rw j } d (.sref (1000*d+1000))).e /\
  (afterM s n1 d [] [k] (.sref 1) [] [none] [r]).bx=((s.kill k).kill (1000*d+1000)).bx/\(afterM s n1 d [] [k] (.sref 1) [] [none] [r]).rw=(fun j=>if j=1000*d+1000 then some r else((s.kill k).kill (1000*d+1000)).rw j):=by
 refine⟨?_,?_,?_⟩
 .funext t;simp[St.set,upd,St.kill]
 .funext t;simp[St.set,St.kill]
 .funext t;simp[St.set,St.kill]
theorem W1K{q:Prop}(hq:q)(H:σ.has s)(hA:sat s A){l:LOp}{h:Option (Hint P q)}{σ1:LS}{as:List Act}{ns:List Nat}(e:efx A σ h l=some (σ1,as,ns))(he:as=hexp h){K:St->Prop}
  (hK:W0i ns->∀s',σ1.has s'->K s'):wop P l K s:=by
 have gen:∀{l:LOp},(match pvh A σ h l with|some (v,as)=>some (σ.set l.dst v,as,[])|none=>none)=some (σ1,as,ns)->wop P l K s:=by
  intro l e
  split at e
  .rename_i v as' e2
   cases e
   exact V1b hq H hA e2 he (hK trivial _ (H.set _ _))
  .cases e
 cases l with
 |ln d x =>
  simp only[efx]at e
  split at e
  .rename_i t sz es ex
   split at e
   .rename_i es0 n hn
    have hn:=hn hq
    cases e
    simp only[hexp,Hint.exp,yW,Act.l.injEq,and_true]at he
    subst he
    simp only[wop];rw[V5 H hA ex]
    exact fun q=>hK ⟨by omega,trivial⟩ _ (by rw[hn];exact H.set _ _)
   .cases e
  .rename_i k ex
   split at e
   .rename_i r er
    split at e
    .rename_i es0 n hn
     have hn:=hn hq
     cases e
     simp only[hexp,Hint.exp,yW,Act.l.injEq,and_true]at he
     subst he
     simp only[wop];rw[V5 H hA ex];simp only[(H.r _ _ er).1]
     exact fun q=>hK ⟨by omega,trivial⟩ _ (by rw[hn];exact H.set _ _)
    .rename_i es0 n hn hn2
     have hn:=hn hq
     cases e
     simp only[hexp,Hint.exp,yW,Act.l.injEq,and_true]at he
     subst he
     simp only[wop];rw[V5 H hA ex];simp only[(H.r _ _ er).1]
     exact fun q=>hK trivial _ (by rw[hn];exact H.set _ _)
    .cases e
   .cases e
  .rename_i ex
   split at e
   .cases e
    simp only[wop];rw[V5 H hA ex];exact hK trivial _ (H.set _ _)
   .cases e
  .cases e
 |st p x n =>
  simp only[efx]at e
  split at e
  .rename_i k off ep
   split at e
   .rename_i cs eb
    split at e
    .rename_i v ex
     split at e
     .split at e
      .rename_i hc
       cases e
       simp only[wop];rw[V5 H hA ep];simp only[H.b _ _ eb];rw[V5 H hA ex]
       exact⟨hc.1,hc.2.1,hc.2.2,hK trivial _ (H.box _ _)⟩
      .cases e
     .cases e
    .cases e
   .cases e
  .rename_i k i off ep
   split at e
   .rename_i r er
    split at e
    .rename_i v ex
     split at e
     .rename_i es0 j e0 ne es' h1 h2
      have h1:=h1 hq
      have h2:=h2 hq
      split at e
      .rename_i hc
       cases e
       simp only[hexp,Hint.exp,yW,Act.l.injEq,Act.n.injEq,Act.a.injEq,and_true]at he
       obtain⟨rfl,rfl,he⟩:=he
       simp only[wop];rw[V5 H hA ep];simp only[(H.r _ _ er).1];rw[V5 H hA ex,h1,W13 hc.2.2.2]
       refine⟨hc.1,hc.2.1,hc.2.2.1,hc.2.2.2,?_⟩
       rw[he,h2]
       exact hK trivial _ (H.row _ _ (H.r _ _ er).2)
      .cases e
     .cases e
    .cases e
   .cases e
  .cases e
 |cn d f' xs =>
  simp only[efx]at e
  split at e
  .rename_i vs ev
   split at e
   .rename_i hn
    split at e
    .rename_i ds ed
     split at e
     .rename_i f0 as0 as1 as' cs ho hr h0
      have ho:=ho hq
      have h0:=h0 hq
      have hr:=hr hq
      cases e
      simp only[hexp,Hint.exp,yW,Act.n.injEq,Act.l.injEq,and_true]at he
      obtain⟨rfl,rfl,rfl⟩:=he
      have hg:=U0k H hA ev
      refine⟨_,(Z19 H hA ev ed).trans (by rw[hr]),by rw[hg];exact hn,fun x hx=>O9.1 ho _ (by rw[← hg];exact List.mem_map_of_mem hx),_,h0,fun c ec=>?_⟩
      subst ec
      exact hK trivial _ (((H.kill d).box d _).set d _)
     .cases e
    .cases e
   .cases e
  .cases e
 |al d z =>
  simp only[efx]at e
  split at e
  .cases e
   exact hK trivial _ (((H.kill d).box d _).set d _)
  .cases e
 |bx d x =>
  simp only[efx]at e
  split at e
  .rename_i v ex
   split at e
   .split at e
    .rename_i hc
     cases e
     simp only[wop];rw[V5 H hA ex]
     exact⟨hc,hK trivial _ (((H.kill d).box d _).set d _)⟩
    .cases e
   .cases e
  .cases e
 |bs d sz ps own =>
  simp only[efx]at e
  split at e
  .rename_i es ex
   split at e
   .split at e
    .rename_i hc
     have q:=U0k H hA ex
     simp only[wop];rw[q,Q13 hc.1]
     refine⟨hc.1,fun e he=>yR (List.all_eq_true.1 hc.2.1 e he),hc.2.2.1,hc.2.2.2,?_⟩
     split at e
     .cases e
      rw[yd rfl]
      exact hK trivial _ (((H.kill d).row d _ (by simp)).set d _)
     .cases e
      rw[ye (by simp)]
      exact hK trivial _ (H.set d _)
    .cases e
   .cases e
  .cases e
 |ms d sz by' z x =>
  simp only[efx]at e
  split at e
  .rename_i k n ex
   split at e
   .rename_i b0 n0 z0 es h0
    have h0:=h0 hq
    cases e
    simp only[hexp,Hint.exp,yW,Act.n.injEq,Act.i.injEq,Act.a.injEq,and_true]at he
    obtain⟨rfl,rfl,he⟩:=he
    unfold mkL at h0
    split at h0
    .rename_i hc
     cases h0
     simp only[wop];rw[V5 H hA ex]
     refine⟨hc.1,hc.2.1,hc.2.2,?_⟩
     rw[he]
     exact hK trivial _ (((H.kill d).row d _ (by simp)).set d _)
    .cases h0
   .cases e
  .cases e
 |ap d x y sz by' =>
  simp only[efx]at e
  split at e
  .rename_i vy ey
   split at e
   .rename_i vx ex
    split at e
    .rename_i es0 news0 bs0 es' h0
     have h0:=h0 hq
     split at e
     .rename_i t sy news ed
      have hd:=Q1H H ed
      simp only[wop];rw[V5 H hA ey,hd];simp only
      rw[V5 H hA ex]
      unfold Z22 at e
      split at e
      .rename_i k
       split at e
       .rename_i r er
        split at e
        .rename_i hc
         simp only[yD]at hc
         obtain⟨⟨c1,c2⟩,c3⟩:=hc
         have c1:=yR c1
         have c2:=Nat.le_of_ble_eq_true c2
         have c3:=yR c3
         cases e
         simp only[hexp,Hint.exp,yW,Act.l.injEq,Act.n.injEq,and_true]at he
         obtain⟨rfl,rfl,rfl⟩:=he
         unfold appL at h0
         split at h0
         .rename_i hle
          cases h0
          simp only[(H.r _ _ er).1]
          exact⟨c1,by omega,.inr c3,hle,hK trivial _ (((H.kill k).row k _ (by simp)).set d _)⟩
         .cases h0
        .cases e
       .cases e
      .split at e
       .rename_i hc
        have c3:=yR hc
        cases e
        simp only[hexp,Hint.exp,yW,Act.l.injEq,Act.n.injEq,and_true]at he
        obtain⟨rfl,rfl,rfl⟩:=he
        unfold appL at h0
        split at h0
        .rename_i hle
         cases h0
         exact⟨.inr c3,by simpa using hle,hK trivial _ (((H.kill d).row d _ (by simp)).set d _)⟩
        .cases h0
       .cases e
      .cases e
     .cases e
    .split at e
     .simp only[wop];rw[V5 H hA ey];simp only[St.dt];rw[V5 H hA ex]
      unfold Y22 at e
      split at e
      .split at e
       .rename_i r er
        cases e
        simp only[(H.r _ _ er).1]
        exact hK trivial _ (H.set d _)
       .cases e
      .cases e
       exact hK trivial _ (((H.kill d).row d _ (by simp)).set d _)
      .cases e
     .cases e
    .cases e
   .cases e
  .cases e
 |sc d x lo hi n =>
  simp only[efx]at e
  split at e
  .rename_i k ex
   split at e
   .rename_i r er
    split at e
    .rename_i lo' elo
     split at e
     .rename_i hi' ehi
      split at e
      .rename_i es0 lo0 hi0 es' h0
       have h0:=h0 hq
       split at e
       .rename_i hs
        have hs:=yR hs
        cases e
        simp only[hexp,Hint.exp,yW,Act.l.injEq,Act.o.injEq,and_true]at he
        obtain⟨rfl,rfl,rfl⟩:=he
        obtain⟨b,a,q1,q2,q3⟩:=J0J h0
        simp only[wop];rw[V5 H hA ex];simp only[(H.r _ _ er).1,(Q10 H hA ehi).1,(Q10 H hA elo).2,q1,q2,q3]
        exact⟨hs,hK trivial _ ((H.fzr er).set d _)⟩
       .cases e
      .cases e
     .cases e
    .cases e
   .cases e
  .exact gen (l:=.sc d x lo hi n) (by simpa only[LOp.dst]using e)
 |cl d f' xs =>
  simp only[efx]at e
  split at e
  .rename_i vs ev
   split at e
   .rename_i ds ed
    split at e
    .rename_i f0 as0 as' res rows hae h0
     have h0:=h0 hq
     split at e
     .rename_i hr
      cases e
      simp only[hexp,Hint.exp,yW,Act.n.injEq,Act.l.injEq,and_true]at he
      obtain⟨rfl,he⟩:=he
      exact⟨_,Z19 H hA ev ed,res,rows,h0.aes hae he,Nat.le_of_ble_eq_true hr,hK trivial _ (H.addRows.set d _)⟩
     .cases e
    .cases e
   .cases e
  .cases e
 |cm d f' xs =>
  have alt:∀{bks rks:List Nat} {bin:List (List AV)} {rin:List (Nat×List AV)} {as0 as':List AV} {res:AV} {bout:List (List AV)} {upd:List (Option (List AV))} {new:List (Nat×List AV)} {f0:Nat} {hae:GEs as0 as'} {hb:∀b∈bin,noOL b} {hr:∀r∈rin,noOL r.2} {ho:noOL as0} {h0:q->ConD P f0 as' bin rin res bout upd new},
    h=some (.cw f0 bks rks bin rin as0 as' res bout upd new hae hb hr ho h0)->wop P (.cm d f' xs) K s:=by
   intro bks rks bin rin as0 as' res bout upd new f0 hae hb hr ho h0 eh
   subst eh
   simp only[efx]at e
   split at e
   .rename_i σ2 a ec
    cases e
    simp only[hexp,Hint.exp,yW,and_true]at he
    exact O21 H hA ec he hae hb hr ho (h0 hq) fun s' hs'=>hK trivial s' hs'
   .cases e
  cases xs with
  |nil =>
   simp only[efx]at e
   split at e
   .exact alt rfl
   .cases e
  |cons x ys =>
   simp only[efx]at e
   split at e
   .exact alt rfl
   split at e
   .rename_i k ex
    split at e
    .rename_i r er
     split at e
     .rename_i hsh
      split at e
      .rename_i vs ev
       split at e
       .rename_i f0 sz0 es0 vs0 as0 ret es' hn hv hr h0 _
        have hn:=hn hq
        have hv:=hv hq
        have hr:=hr hq
        have h0:=h0 hq
        cases e
        simp only[hexp,Hint.exp,yW,Act.n.injEq,Act.l.injEq,and_true]at he
        obtain⟨rfl,rfl,rfl,hvs⟩:=he
        obtain⟨ev,hod⟩:=U1i ev
        have hg:=U0k H hA ev
        have hx:=V5 H hA ex
        refine do_cm [] [k] h0 rfl trivial ⟨by rw[(H.r _ _ er).1];simp only[← hsh],rfl,trivial⟩ ?_ ?_ (by simp) ?_ ?_
        .have e1:(ys.map fun x=>((s.get x).mp (ix []) (ix [k])).rdt)=as0:=by
          rw[← hr,← hvs,X3,JC,← hg,List.map_map,List.map_map];rfl
         rw[List.map_cons,e1,hx]
         have e2:((AV.sref k).mp (ix []) (ix [k])).rdt=.sref 0:=by simp[AV.mp,ix,AV.rdt]
         rw[e2]
         exact⟨(O1j _).2 trivial,X0K (fun a=>(O1j a).2 trivial) _⟩
        .intro n1 res bout upd new hb hu hΦ
         obtain⟨rfl,hΦ⟩:=hΦ
         cases ret with
         |true =>
          obtain⟨rfl,rfl,rfl⟩:=hΦ
          refine⟨by simp,by simp,by simp,hK trivial _ ?_⟩
          obtain⟨a1,a2,a3⟩:=X1s (s:=s) n1 d k ⟨r.sz,es',false⟩
          exact((((H.kill k).kill (1000*d+1000)).row (1000*d+1000) ⟨r.sz,es',false⟩ (by simp)).set d _).congr a1 a2 a3
         |false =>
          obtain⟨rfl,rfl,rfl⟩:=hΦ
          refine⟨by simp,by simp;omega,by simp,hK trivial _ ?_⟩
          refine((H.row k ⟨r.sz,es',false⟩ (H.r _ _ er).2).set d (.tup [])).congr ?_ ?_ ?_
          .funext t;simp[St.set,upd]
          .funext t;simp[St.set]
          .funext t;simp only[afterM,setRows,Mb,St.addrows,drops,St.kill2,upf,St.set]
           by_cases ht:t=k
           .subst ht;simp[(H.r _ _ er).1,hsh]
           .simp[ht]
        .intro r' hr'
         rw[List.mem_singleton.1 hr'];exact hn
        .intro y hy
         rcases yX hy with rfl|hy
         .rw[hx];trivial
         .have:noOL (mpL (ix []) (ix [k]) vs):=by rw[hvs];exact hv
          rw[← hg]at this
          have q:=X0c this
          rw[hg,V03 hod,← hg]at q
          exact O9.1 q _ (List.mem_map_of_mem hy)
       .cases e
      .cases e
     .cases e
    .cases e
   .cases e
 |fb t =>
  simp only[efx]at e
  split at e
  .rename_i k ex
   split at e
   .rename_i cs eb
    split at e
    .split at e
     .rename_i hc
      cases e
      simp only[wop];rw[J0p H hA ex];simp only[H.b _ _ eb]
      exact⟨hc,hK trivial _ ((H.kill k).set t _)⟩
     .cases e
    .cases e
   .cases e
  .rename_i ex
   split at e
   .cases e
    simp only[wop];rw[J0p H hA ex]
    exact hK trivial _ H
   .cases e
  .cases e
 |fz t =>
  simp only[efx]at e
  split at e
  .rename_i k ex
   split at e
   .rename_i r er
    split at e
    .cases e
     simp only[wop];rw[J0p H hA ex];simp only[(H.r _ _ er).1]
     exact hK trivial _ ((H.fzr er).set t _)
    .cases e
   .cases e
  .rename_i ex
   split at e
   .cases e
    simp only[wop];rw[J0p H hA ex]
    exact hK trivial _ H
   .cases e
  .cases e
 |_=>exact gen e
end
def fin{P:Program}{q:Prop}(σ:LS)(l:LOp)(h:Option (Hint P q))(r:Option (Rw q)):Option (LS×List Act×List Act×List Nat):=match efx [] σ h l with
 |some (σ1,as,ns)=>match r with
  |none=>some (σ1,as,[],ns)
  |some q=>match lk σ1.te l.dst with
   |some v=>some (σ1.set l.dst q.b,as,[.a v],ns)
   |none=>none
 |none=>none
def gvs(A:List (Nat×Bool))(σ:LS):List (Nat×Bool)->Option (List (Bool×Bool))
  |[]=>some []
  | (t,w)::r=>match rdv A σ t with
    |some (.bool b)=>match gvs A σ r with
      |some l=>some ((b,w)::l)
      |none=>none
    |_=>none
def pvg{P:Program}{q:Prop}(t:Nat)(w:Bool)(A:List (Nat×Bool))(σ:LS)(l:LOp)(h:Option (Hint P q))(r:Option (Rw q)):Option (LS×List (Bool×Bool)×List Act×List Act×List Nat):=match Nat.beq t l.dst with
 |true=>none
 |false=>match gvs A σ A with
  |some gs=>match pvh A σ h l with
   |some (v,as)=>match r with
    |none=>some (σ.setc l.dst t w v,gs,as,[],[])
    |some q=>some (σ.setc l.dst t w q.b,gs,as,[.a v],[])
   |none=>none
  |none=>none
def one{P:Program}{q:Prop}(σ:LS)(l:LOp)(h:Option (Hint P q))(r:Option (Rw q)):Option (LS×List (Bool×Bool)×List Act×List Act×List Nat):=match l with
 |.g t w l'=>match rdv [] σ t with
  |some (.bool _)=>pvg t w (clo σ.tg 9 t w) σ l' h r
  |some _=>none
  |none=>match fndg t σ.tg with
   |some (_,_,.bool _)=>pvg t w (clo σ.tg 9 t w) σ l' h r
   |_=>none
 |l=>match fin σ l h r with
  |some (σ1,as,rs,ns)=>some (σ1,[],as,rs,ns)
  |none=>none
section
variable{P:Program}{σ:LS}{s:St}{A:List (Nat×Bool)}
theorem YT:sat s []:=fun p hp=>by cases hp
theorem X21{q:Prop}(hq:q)(H:σ.has s){l:LOp}{h:Option (Hint P q)}{r:Option (Rw q)}{σ1:LS}{as rs:List Act}{ns:List Nat}(e:fin σ l h r=some (σ1,as,rs,ns))(he:as=hexp h)(hr:rs=Rw.exp r)
  {K:St->Prop} (hK:W0i ns->∀s',σ1.has s'->K s'):wop P l K s:=by
 unfold fin at e
 split at e
 .rename_i σ2 as' ns' e2
  split at e
  .cases e
   exact W1K hq H YT e2 he hK
  .rename_i q
   split at e
   .rename_i v ev
    cases e
    simp only[Rw.exp,yW,Act.a.injEq,and_true]at hr
    refine W1K hq H YT e2 he fun q2 s' H'=>hK q2 s' (H'.self ?_)
    rw[H'.e _ _ ev,hr,q.h hq]
   .cases e
 .cases e
theorem O1n(H:σ.has s)(hA:sat s A):∀{B:List (Nat×Bool)} {gs:List (Bool×Bool)},sat s B->gvs A σ B=some gs->allG gs
  |[],gs,_,h=>by cases h;trivial
  | (t,w)::B,gs,hB,h=>by
    simp only[gvs]at h
    split at h
    · rename_i b e
      split at h
      · rename_i l e2
        cases h
        refine⟨?_,O1n H hA (fun p hp=>hB p (yH _ hp)) e2⟩
        have h1:=J0p H hA e
        rw[hB (t,w) (yJ ..)]at h1
        exact(AV.bool.inj h1).symm
      · cases h
    · cases h
theorem Y1J{q:Prop}{t:Nat}{w:Bool}{l:LOp}{gs:List (Bool×Bool)}(hq:allG gs->q){h:Option (Hint P q)}{r:Option (Rw q)}{σ1:LS}{as rs:List Act}{ns:List Nat}(H:σ.has s)(hb:(∃b,s.e t=.bool b)\/s.e t=.und)
  (e:pvg t w (clo σ.tg 9 t w) σ l h r=some (σ1,gs,as,rs,ns)) (he:as=hexp h) (hr:rs=Rw.exp r)
  {K:St->Prop} (hK:W0i ns->∀s',σ1.has s'->K s'):wop P (.g t w l) K s:=by
 unfold pvg at e
 split at e
 .cases e
 .rename_i hne
  have hne:t≠l.dst:=fun q=>by subst q;simp at hne
  split at e
  .rename_i gs' eg
   split at e
   .rename_i v as' e2
    have yes:s.e t=.bool w->gs'=gs->as'=hexp h->∀K:St->Prop,K (s.set l.dst v)->wop P l K s:=fun hb hgs ha K hk =>
     V1b (hq (hgs ▸ O1n H (Y0e H hb) (Y0e H hb) eg)) H (Y0e H hb) e2 ha hk
    have no:s.e t≠.bool w->(∀u,(σ.setc l.dst t w u).has (s.set l.dst .und)):=fun hb u=>H.setc _ _ _ _ _ hne (.inr ⟨hb,rfl⟩)
    split at e
    .cases e
     rcases hb with⟨b,hb⟩|hb
     .simp only[wop,hb]
      by_cases hw:b=w
      .subst hw
       rw[yd rfl]
       exact yes hb rfl he _ (hK trivial _ (H.setc _ _ _ _ _ hne (.inl ⟨hb,rfl⟩)))
      .rw[ye hw]
       exact hK trivial _ (no (by rw[hb];simpa using hw) _)
     .simp only[wop,hb]
      exact hK trivial _ (no (by rw[hb];simp) _)
    .rename_i q
     cases e
     simp only[Rw.exp,yW,Act.a.injEq,and_true]at hr
     rcases hb with⟨b,hb⟩|hb
     .simp only[wop,hb]
      by_cases hw:b=w
      .subst hw
       rw[yd rfl]
       refine yes hb rfl he _ (hK trivial _ (H.setc _ _ _ _ _ hne (.inl ⟨hb,?_⟩)))
       rw[hr];exact q.h (hq (O1n H (Y0e H hb) (Y0e H hb) eg))
      .rw[ye hw]
       exact hK trivial _ (no (by rw[hb];simpa using hw) _)
     .simp only[wop,hb]
      exact hK trivial _ (no (by rw[hb];simp) _)
   .cases e
  .cases e
theorem O0Z{q:Prop}{gs:List (Bool×Bool)}(hq:allG gs->q)(H:σ.has s){l:LOp}{h:Option (Hint P q)}{r:Option (Rw q)}{σ1:LS}{as rs:List Act}{ns:List Nat}(e:one σ l h r=some (σ1,gs,as,rs,ns))(he:as=hexp h)(hr:rs=Rw.exp r)
  {K:St->Prop} (hK:W0i ns->∀s',σ1.has s'->K s'):wop P l K s:=by
 have gen:∀{l:LOp},(match fin σ l h r with|some (σ1,as,rs,ns)=>some (σ1,([]:List (Bool×Bool)),as,rs,ns)|none=>none)=some (σ1,gs,as,rs,ns)->wop P l K s:=by
  intro l e
  split at e
  .rename_i σ2 as2 rs2 ns2 e2
   cases e
   exact X21 (hq trivial) H e2 he hr hK
  .cases e
 cases l with
 |g t w l' =>
  simp only[one]at e
  split at e
  .rename_i b eb
   exact Y1J hq H (.inl ⟨b,J0p H YT eb⟩) e he hr hK
  .cases e
  .split at e
   .rename_i g' w' b' ef
    refine Y1J hq H ?_ e he hr hK
    rcases H.g _ _ _ _ (W04 ef)with⟨_,h2⟩|⟨_,h2⟩
    .exact .inl ⟨b',h2⟩
    .exact .inr h2
   .cases e
 |_=>exact gen e
end
abbrev HA:=List (Bool×Bool)×List Act×List Act
def HE.exp{P:Program}(e:HE P):HA:=(e.gs,hexp e.h,Rw.exp e.r)
def HE.ns{P:Program}(e:HE P):List Nat:=match e.h with
 |some (.ln _ n _)=>match e.gs with
  |[]=>[n]
  |_=>[]
 |_=>[]
def run{P:Program}:List LOp->List (HE P)->LS->Option (LS×List (HE P)×List HA×List Nat)
 |[],hs,σ=>some (σ,hs,[],[])
 |l::ls,hs,σ =>
  let no:=fun(_:Unit)=>match one (P:=P) (q:=True) σ l none none with
   |some (σ1,_,[],[],[])=>run ls hs σ1
   |_=>none
  match hs with
  |[]=>no ()
  |e::r=>match Nat.beq e.k (hkey l)with
   |true=>match one σ l e.h e.r with
    |some (σ1,gs,as,rs,ns)=>match run ls r σ1 with
     |some (σ2,r',ass,ns2)=>some (σ2,r',(gs,as,rs)::ass,ns++ns2)
     |none=>none
    |none=>none
   |false=>no ()
theorem LJ:∀{a b:List Nat},W0i a->W0i b->W0i (a++b)
 |[],_,_,h=>h
 |_::_,_,h,h2=>⟨h.1,LJ h.2 h2⟩
theorem Z0Z{P:Program}:∀{ls:List LOp} {hs hs':List (HE P)} {σ σ1:LS} {as:List HA} {ns:List Nat} {s:St},σ.has s->run ls hs σ=some (σ1,hs',as,ns)->∀{as2:List HA},as++as2=hs.map HE.exp ->
  ∀{K:St->Prop},(as2=hs'.map HE.exp->W0i ns->∀s',σ1.has s'->K s')->wops P ls K s
 |[],hs,hs',σ,σ1,as,ns,s,H,e,as2,he,K,hK=>by
  simp only[run]at e
  cases e;exact hK he trivial s H
 |l::ls,hs,hs',σ,σ1,as,ns,s,H,e,as2,he,K,hK=>by
  have no:(match one (P:=P) (q:=True) σ l none none with|some (σ1,_,[],[],[])=>run ls hs σ1|_=>none)=some (σ1,hs',as,ns)->wops P (l::ls) K s:=by
   intro e
   split at e
   .rename_i σ2 gs e2
    exact O0Z (fun _=>trivial) H e2 rfl rfl fun _ s' H'=>Z0Z H' e he hK
   .cases e
  cases hs with
  |nil=>exact no e
  |cons q r =>
   simp only[run]at e
   split at e
   .split at e
    .rename_i σ2 os as2 rs ns2 e2
     split at e
     .rename_i σ3 r' ass ns3 e3
      cases e
      simp only[List.map_cons,List.cons_append,yW,HE.exp,Prod.mk.injEq]at he
      obtain⟨⟨h1,h2,h3⟩,h4⟩:=he
      exact O0Z (fun q=>h1 ▸ q) H e2 h2 h3 fun q2 s' H'=>Z0Z H' e3 h4 fun q4 q3=>hK q4 (LJ q2 q3)
     .cases e
    .cases e
   .exact no e
end
section
mutual
def O1x(k:Nat):AV->Bool
 |.sref j=>!Nat.beq j k
 |.ptr j _=>!Nat.beq j k
 |.rpt j _ _=>!Nat.beq j k
 |.agg cs=>J0Z k cs
 |.tup cs=>J0Z k cs
 |.fn _ cs=>J0Z k cs
 |_=>true
def J0Z(k:Nat):List AV->Bool
 |[]=>true
 |a::l=>O1x k a&&J0Z k l
end
mutual
theorem U1m{k:Nat}:∀{a:AV},O1x k a=true->a.dead k=a
 |.sref j,h | .ptr j _,h | .rpt j _ _,h=>by
  have:j≠k:=fun e=>by subst e;simp[O1x]at h
  simp[AV.dead,this]
 |.agg cs,h | .tup cs,h | .fn _ cs,h=>by rw[AV.dead,J1b (by simpa[O1x]using h)]
 |.bool _,_ | .int _ _,_ | .str _,_ | .nl,_ | .el,_ | .sl _ _ _,_ | .ept _ _,_ | .eot _ _,_ | .od _ _ _,_ | .op _ _ _,_ | .und,_ | .bad,_=>by simp[AV.dead]
theorem J1b{k:Nat}:∀{l:List AV},J0Z k l=true->Z5 k l=l
 |[],_=>rfl
 |a::l,h=>by
  simp only[J0Z,yD]at h
  rw[Z5,U1m h.1,J1b h.2]
end
def dxs(d:Nat):List AV->Bool
 |[]=>true
 |a::l=>O1x d a&&dxs d l
def nrw(σ:LS):X->Bool
 |.c a=>O1b a
 |.t i=>match lk σ.te i with
  |some v=>O1b v
  |none=>match fndg i σ.tg with
   |some (_,_,v)=>O1b v
   |none=>false
def scq(σ:LS):LOp->Bool
 |.sc _ x _ _ _=>nrw σ x
 |.g _ _ l=>match l with
  |.sc _ x _ _ _=>nrw σ x
  |_=>true
 |_=>true
def LS.kills(σ:LS):List Nat->LS
 |[]=>σ
 |k::ks=>(σ.kill k).kills ks
def pdv(σ:LS)(d:Nat):Option AV:=match lk σ.te d with
 |some v=>some v
 |none=>match fndg d σ.tg with
  |some (_,_,v)=>some v
  |none=>none
abbrev RR(P:Program):=Option (LS×List (HE P)×List HA×List Nat)
def qno{P:Program}(l:LOp)(hs:List (HE P))(acc:List AV)(σ:LS)(k:List (HE P)->List AV->LS->RR P):RR P:=match one (P:=P) (q:=True) σ l none none with
 |some (σ1,_,[],[],[])=>match pdv σ1 l.dst with
  |some v=>k hs (v::acc) σ1
  |none=>none
 |_=>none
def qyes{P:Program}(l:LOp)(e:HE P)(r:List (HE P))(acc:List AV)(σ:LS)(k:List (HE P)->List AV->LS->RR P):RR P:=match one σ l e.h e.r with
 |some (σ1,gs,as,rs,ns)=>match pdv σ1 l.dst with
  |some v=>match k r (v::acc) σ1 with
   |some (σ2,r',ass,ns2)=>some (σ2,r',(gs,as,rs)::ass,ns++ns2)
   |none=>none
  |none=>none
 |none=>none
def J1O{P:Program}(l:LOp)(hs:List (HE P))(acc:List AV)(σ:LS)(k:List (HE P)->List AV->LS->RR P):RR P:=match scq σ l with
 |false=>none
 |true=>match hs with
  |[]=>qno l [] acc σ k
  |e::r=>match Nat.beq e.k (hkey l)with
   |true=>qyes l e r acc σ k
   |false=>qno l (e::r) acc σ k
def runq{P:Program}:List LOp->List (HE P)->List AV->LS->RR P
 |[],hs,_,σ=>some (σ,hs,[],[])
 |l::ls,hs,acc,σ=>match l with
  |.al d z=>match dxs d acc with
   |true=>runq ls hs (.ptr d 0::Z5 d z++acc) ((σ.box d (Z5 d z)).set d (.ptr d 0))
   |false=>none
  |l=>J1O l hs acc σ (runq ls)
section
variable{P:Program}{R:Ex->St->Prop}{σ:LS}{s:St}
theorem L1l{x:X}(H:σ.has s)(h:nrw σ x=true):O1b (s.get x)=true:=by
 cases x with
 |c a=>exact h
 |t i =>
  simp only[nrw]at h
  split at h
  .rename_i v e;rw[M1G,H.e _ _ e];exact h
  .split at h
   .rename_i g w v e
    rcases H.g _ _ _ _ (W04 e)with⟨_,h2⟩|⟨_,h2⟩
    .rw[M1G,h2];exact h
    .rw[M1G,h2];rfl
   .cases h
theorem L1I{l:LOp}(H:σ.has s)(h:scq σ l=true):scOk s l:=by
 cases l with
 |sc d x lo hi n=>exact L1l H h
 |g t w l' =>
  cases l' with
  |sc d x lo hi n=>exact L1l H h
  |_=>trivial
 |_=>trivial
theorem LS.has.kills:∀{ks:List Nat} {σ:LS} {s:St},σ.has s->(σ.kills ks).has (s.kills ks)
 |[],_,_,H=>H
 |k::ks,_,_,H=>LS.has.kills (ks:=ks) (H.kill k)
def seen:List AV->List AV->Prop
 |[],[]=>True
 |a::l,b::m=>(a=b\/a=.und)/\seen l m
 |_,_=>False
theorem J1a:∀l,seen l l
 |[]=>trivial
 |_::l=>⟨.inl rfl,J1a l⟩
theorem X1k:∀{a b c d:List AV},seen a b->seen c d->seen (a++c) (b++d)
 |[],[],_,_,_,h=>h
 |_::_,_::_,_,_,h,h2=>⟨h.1,X1k h.2 h2⟩
 |[],_::_,_,_,h,_|_::_,[],_,_,h,_=>h.elim
theorem Z1b{d:Nat}:∀{l m:List AV},seen l m->dxs d m=true->∀v∈l,v.dead d=v
 |[],_,_,_,v,hv=>by cases hv
 |a::l,b::m,h,hd,v,hv=>by
  simp only[dxs,yD]at hd
  rcases yX hv with rfl|hv
  .rcases h.1 with rfl|e
   .exact U1m hd.1
   .rw[e];rfl
  .exact Z1b h.2 hd.2 v hv
 |_::_,[],h,_,_,_=>h.elim
theorem Q1w{d:Nat}{v:AV}(H:σ.has s)(h:pdv σ d=some v):s.e d=v\/s.e d=.und:=by
 unfold pdv at h
 split at h
 .rename_i u e;cases h;exact .inl (H.e _ _ e)
 .split at h
  .rename_i g w u e
   cases h
   rcases H.g _ _ _ _ (W04 e)with⟨_,h2⟩|⟨_,h2⟩
   .exact .inl h2
   .exact .inr h2
  .cases h
theorem W12:∀{ls:List LOp} {hs hs':List (HE P)} {acc pa:List AV} {σ σ1:LS} {as:List HA} {ns:List Nat} {s:St},σ.has s->seen acc pa->runq ls hs pa σ=some (σ1,hs',as,ns) ->
  ∀{as2:List HA},as++as2=hs.map HE.exp->∀{K:St->Prop},(as2=hs'.map HE.exp->W0i ns->∀s',σ1.has s'->K s')->X09 P ls acc K s
 |[],hs,hs',acc,pa,σ,σ1,as,ns,s,H,ha,e,as2,he,K,hK=>by
  simp only[runq]at e
  cases e;exact hK he trivial s H
 |l::ls,hs,hs',acc,pa,σ,σ1,as,ns,s,H,ha,e,as2,he,K,hK=>by
  have gen:isAl l=false->J1O l hs pa σ (runq ls)=some (σ1,hs',as,ns)->X09 P (l::ls) acc K s:=by
   intro hal e
   unfold J1O at e
   split at e
   .cases e
   .rename_i hsc
    rw[Y1q hal]
    refine⟨L1I H hsc,?_⟩
    have no:qno l hs pa σ (runq ls)=some (σ1,hs',as,ns)->wop P l (X1Y P l.dst ls acc K) s:=by
     intro e
     unfold qno at e
     split at e
     .rename_i σ2 gs e2
      split at e
      .rename_i v ev
       refine O0Z (fun _=>trivial) H e2 rfl rfl fun _ s' H'=>?_
       exact W12 H' (acc:=s'.e l.dst::acc) (pa:=v::pa) ⟨Q1w H' ev,ha⟩ e he hK
      .cases e
     .cases e
    cases hs with
    |nil=>exact no e
    |cons q r =>
     simp only at e
     split at e
     .unfold qyes at e
      split at e
      .rename_i σ2 gs as2 rs ns2 e2
       split at e
       .rename_i v ev
        split at e
        .rename_i σ3 r' ass ns3 e3
         cases e
         simp only[List.map_cons,List.cons_append,yW,HE.exp,Prod.mk.injEq]at he
         obtain⟨⟨h1,h2,h3⟩,h4⟩:=he
         refine O0Z (fun q=>h1 ▸ q) H e2 h2 h3 fun q2 s' H'=>?_
         exact W12 H' (acc:=s'.e l.dst::acc) (pa:=v::pa) ⟨Q1w H' ev,ha⟩ e3 h4 fun q4 q3=>hK q4 (LJ q2 q3)
        .cases e
       .cases e
      .cases e
     .exact no e
  cases l with
  |al d z =>
   simp only[runq]at e
   split at e
   .rename_i hd
    rw[X1F]
    exact⟨Z1b ha hd,W12 ((H.box d (Z5 d z)).set d (.ptr d 0)) (X1k (J1a (.ptr d 0::Z5 d z)) ha) e he hK⟩
   .cases e
  |_=>exact gen rfl e
end
def bL(σ:LS)(k:Nat):Bool:=match lk σ.tb k with
 |some _=>true
 |none=>false
def mskB(b:Nat->Bool):List (Nat×List AV)->List (Nat×List AV)
  |[]=>[]
  | (k,cs)::l=>(k,Q0i b cs)::mskB b l
def LS.strip(σ:LS):LS:={ te:=σ.te,tg:=σ.tg,tb:=mskB (bL σ) σ.tb,tr:=[] }
def mskT(σ:LS):List (Nat×List AV)->List (Nat×List AV)
  |[]=>[]
  | (k,cs)::l=>match(match lk σ.tb k with|some c0=>Nat.blt k 1000000000&&kfL (bL σ) c0|none=>false)with
    |true=>(k,cs)::mskT σ l
    |false=>mskT σ l
def rL(σ:LS)(k:Nat):Bool:=match lk σ.tr k with
 |some _=>true
 |none=>false
def rLk(ck:List Nat)(σ:LS)(k:Nat):Bool:=rL σ k&&!ck.contains k
def mskS(ck:List Nat)(σ:LS):List (Nat×List AV)->List (Nat×List AV)
  |[]=>[]
  | (k,cs)::l=>match(match lk σ.tb k with|some c0=>Nat.blt k 1000000000&&ksL (bL σ) (rLk ck σ) c0|none=>false)with
    |true=>(k,cs)::mskS ck σ l
    |false=>mskS ck σ l
def mskR(ck:List Nat):List (Nat×Row)->List (Nat×Row)
  |[]=>[]
  | (k,r)::l=>match ck.contains k with
    |true=>mskR ck l
    |false=>(k,r)::mskR ck l
def LS.stripc(σ:LS):Zc->LS
 |.t=>{ te:=σ.te,tg:=σ.tg,tb:=mskT σ σ.tb,tr:=[] }
 |.f=>σ.strip
 |.s ck=>{ te:=σ.te,tg:=σ.tg,tb:=mskS ck σ σ.tb,tr:=mskR ck σ.tr }
def hidB(ow:List Nat):List (Nat×List AV)->List (Nat×List AV)
  |[]=>[]
  | (k,cs)::l=>match ow.contains k with
    |true=>hidB ow l
    |false=>(k,cs)::hidB ow l
def LS.hide(σ:LS)(ow:List Nat):LS:=match ow with
 |[]=>σ
 |ow=>{ σ with tb:=hidB ow σ.tb }
def exB(ck:List Nat)(σ:LS):List (Nat×List AV)->Bool
  |[]=>true
  | (_,cs)::l=>(match ksL (bL σ) (fun k=>!ck.contains k) cs with|true=>ksL (bL σ) (rLk ck σ) cs|false=>true)&&exB ck σ l
def exS(c:Zc)(σ:LS):Bool:=match c with
 |.s ck=>exB ck σ σ.tb
 |_=>true
def kfV(c:Zc)(σ:LS)(v:AV):Bool:=match c with
 |.s ck=>v.ks (bL σ) (rLk ck σ)
 |_=>v.kf (bL σ)
def kfT(c:Zc)(σ:LS)(t:Nat):Bool:=match pdv σ t with
 |some v=>kfV c σ v
 |none=>false
def kfTs(c:Zc)(σ:LS):List Nat->Bool
 |[]=>true
 |t::ts=>kfT c σ t&&kfTs c σ ts
def pvz{P:Program}{q:Prop}(c:Zc)(ow:List Nat)(sr:Bool)(σ:LS)(l:LOp)(h:Option (Hint P q))(r:Option (Rw q)):Option (LS×List (Bool×Bool)×List Act×List Act):=match(kfTs c σ l.rds||sr)&&scq σ l&&exS c (σ.hide ow)with
 |false=>none
 |true=>match l with
  |.g t w l'=>match(match rdv [] σ t with|some (.bool _)=>true|some _=>false|none=>(match fndg t σ.tg with|some (_,_,.bool _)=>true|_=>false))with
   |false=>none
   |true=>match Nat.beq t l'.dst with
    |true=>none
    |false=>match gvs (clo σ.tg 9 t w) σ (clo σ.tg 9 t w)with
     |some gs=>match pvh (clo σ.tg 9 t w) ((σ.hide ow).stripc c) h l' with
      |some (v,as)=>match r with
       |none=>match kfV c (σ.hide ow) v with
        |true=>some (σ.setc l'.dst t w v,gs,as,[])
        |false=>none
       |some _=>none
      |none=>none
     |none=>none
  |l=>match pvh [] ((σ.hide ow).stripc c) h l with
   |some (v,as)=>match kfV c (σ.hide ow) v with
    |true=>match r with
     |none=>some (σ.set l.dst v,[],as,[])
     |some q=>some (σ.set l.dst q.b,[],as,[.a v])
    |false=>none
   |none=>none
def zok(σ:LS):LOp->Bool
 |.bs d _ _ _=>match lk σ.tb d with
  |none=>true
  |some _=>false
 |.ap d x _ _ _=>match gt [] σ x with
  |some (.sref k)=>match lk σ.tr k with
   |some _=>true
   |none=>false
  |some .nl=>match lk σ.tb d with
   |none=>true
   |some _=>false
  |_=>false
 |.mv _ _=>true
 |.ex _ _ _=>true
 |.bd _ _ _=>true
 |.ln _ _=>true
 |.sc _ _ _ _ _=>true
 |_=>false
def nfr1(σ:LS):AV->Bool
 |.sref k=>match lk σ.tr k with
  |some _=>true
  |none=>false
 |.rpt k _ _=>match lk σ.tr k with
  |some _=>true
  |none=>false
 |.ptr k _=>match lk σ.tb k with
  |some _=>true
  |none=>Nat.ble 1000000000 k
 |.agg _=>false
 |.tup _=>false
 |.fn _ _=>false
 |_=>true
def nfr(σ:LS):AV->Bool
 |.agg cs=>cs.all (nfr1 σ)
 |.tup cs=>cs.all (fun a=>match a with | .agg cs=>cs.all (nfr1 σ)|a=>nfr1 σ a)
 |a=>nfr1 σ a
def zcon{P:Program}(x:HA)(r:RR P):RR P:=match r with
 |some (σ2,r',ass,ns)=>some (σ2,r',x::ass,ns)
 |none=>none
def bigB:List Nat->Bool
 |[]=>true
 |k::ks=>Nat.ble 1000000000 k&&bigB ks
def zcm{P:Program}{q:Prop}(σ:LS)(d f':Nat)(xs:List X)(h:Option (Hint P q))(r:Option (Rw q)):Option (LS×List (Bool×Bool)×List Act×List Act×List Nat):=match h with
 |some (.cz _ bks _ _ _ res bout _ _ _ _)=>match r with
  |none=>match UW bks&&bigB bks with
   |true=>match gbx σ bks with
    |some bs=>match gtsF [] σ xs with
     |some vs=>some (σ.afterM d bks [] res bout [] [],[],[.w f' (mpL (ix bks) (ix []) vs) (bs.map (mpL (ix bks) (ix []))) []],[],[])
     |none=>none
    |none=>none
   |false=>none
  |some _=>none
 |_=>none
def V1M{P:Program}{q:Prop}(σ:LS)(l:LOp)(h:Option (Hint P q))(r:Option (Rw q)):Option (LS×List (Bool×Bool)×List Act×List Act×List Nat):=match zok σ l with
 |true=>one σ l h r
 |false=>match isQE l with
  |false=>none
  |true=>match one σ l h r with
   |some (σ1,gs,as,rs,ns)=>match lk σ1.te l.dst with
    |some v=>match nfr σ v with
     |true=>some (σ1,gs,as,rs,ns)
     |false=>none
    |none=>none
   |none=>none
def inRg(n:Nat×Nat)(k:Nat):Bool:=Nat.ble n.1 k&&Nat.blt k (n.1+n.2)
theorem V1n{n:Nat×Nat}{k j:Nat}(h:inRg n j=true)(hk:∀i,i<n.2->k≠n.1+i):j≠k:=fun e=>by
 simp only[inRg,yD]at h
 have h1:=Nat.le_of_ble_eq_true h.1
 have h2:j+1<=n.1+n.2:=Nat.le_of_ble_eq_true h.2
 exact hk (j-n.1) (by omega) (by omega)
def noBx(σ:LS)(b:Nat):Nat->Bool
 |0=>true
 |n+1=>(match lk σ.tb (b+n)with|none=>true|some _=>false)&&noBx σ b n
theorem W1x{σ:LS}{b:Nat}:∀{n:Nat},noBx σ b n=true->∀i,i<n->lk σ.tb (b+i)=none
 |0,_,i,h=>by omega
 |n+1,h,i,hi=>by
  simp only[noBx,yD]at h
  by_cases e:i=n
  .subst e
   have h1:=h.1
   split at h1
   .assumption
   .cases h1
  .exact W1x h.2 i (by omega)
mutual
def AV.onl(key:Nat×Nat):AV->Bool
 |.sref k=>inRg key k
 |.rpt k _ _=>inRg key k
 |.ptr _ _=>false
 |.agg cs=>onlL key cs
 |.tup cs=>onlL key cs
 |.fn _ cs=>onlL key cs
 |_=>true
def onlL(key:Nat×Nat):List AV->Bool
 |[]=>true
 |a::l=>AV.onl key a&&onlL key l
end
mutual
theorem Q1l{key:Nat×Nat}{k:Nat}(hk:∀i,i<key.2->k≠key.1+i):∀a:AV,a.onl key=true->a.dead k=a
 |.bool _,_ | .int _ _,_ | .str _,_ | .nl,_ | .el,_ | .sl _ _ _,_ | .ept _ _,_ | .eot _ _,_ | .od _ _ _,_ | .op _ _ _,_ | .und,_ | .bad,_=>by simp[AV.dead]
 |.sref j,h=>by rw[AV.dead,ye (V1n (by simpa[AV.onl]using h) hk)]
 |.rpt j _ _,h=>by rw[AV.dead,ye (V1n (by simpa[AV.onl]using h) hk)]
 |.ptr _ _,h=>by simp[AV.onl]at h
 |.agg cs,h=>by rw[AV.dead,Y0q hk cs (by simpa[AV.onl]using h)]
 |.tup cs,h=>by rw[AV.dead,Y0q hk cs (by simpa[AV.onl]using h)]
 |.fn f cs,h=>by rw[AV.dead,Y0q hk cs (by simpa[AV.onl]using h)]
theorem Y0q{key:Nat×Nat}{k:Nat}(hk:∀i,i<key.2->k≠key.1+i):∀l:List AV,onlL key l=true->Z5 k l=l
 |[],_=>by simp[Z5]
 |a::l,h=>by
  simp only[onlL,yD]at h
  rw[Z5,Q1l hk a h.1,Y0q hk l h.2]
end
def zcl{P:Program}{q:Prop}(σ:LS)(d f':Nat)(xs:List X)(h:Option (Hint P q))(r:Option (Rw q)):Option (LS×List (Bool×Bool)×List Act×List Act×List Nat):=match h with
 |some (.call _ as _ res rows _ _)=>match r with
  |none=>match Nat.ble rows.length 8&&noBx σ (1000*d+1000) rows.length with
   |true=>match Nat.ble (1000*d+1000+rows.length) 1000000000 with
    |true=>match gts [] σ xs with
     |some vs=>match σ.dtL vs with
      |some ds=>match(res.ren (1000*d+1000) rows.length).onl (1000*d+1000,rows.length)with
       |true=>some ((addRows σ (1000*d+1000) rows).set d (res.ren (1000*d+1000) rows.length),[],[.n f',.l (mrgL ds as)],[],[])
       |false=>none
      |none=>none
     |none=>none
    |false=>none
   |false=>none
  |some _=>none
 |_=>none
def zone{P:Program}{q:Prop}(σ:LS)(l:LOp)(h:Option (Hint P q))(r:Option (Rw q)):Option (LS×List (Bool×Bool)×List Act×List Act×List Nat):=match l with
 |.cm d f xs=>zcm σ d f xs h r
 |.cl d f xs=>zcl σ d f xs h r
 |l=>V1M σ l h r
def V1T{P:Program}(c:Zc)(ow:List Nat)(sr f:Bool)(l:LOp)(hs:List (HE P))(σ:LS)(k:List (HE P)->LS->RR P):RR P:=match f with
 |true=>match hs with
  |[]=>match zone (P:=P) (q:=True) σ l none none with
   |some (σ1,_,[],[],[])=>k [] σ1
   |_=>none
  |e::r=>match Nat.beq e.k (hkey l)with
   |true=>match zone σ l e.h e.r with
    |some (σ1,gs,as,rs,[])=>zcon (gs,as,rs) (k r σ1)
    |_=>none
   |false=>match zone (P:=P) (q:=True) σ l none none with
    |some (σ1,_,[],[],[])=>k (e::r) σ1
    |_=>none
 |false=>match hs with
  |[]=>match pvz (P:=P) (q:=True) c ow sr σ l none none with
   |some (σ1,_,[],[])=>k [] σ1
   |_=>none
  |e::r=>match Nat.beq e.k (hkey l)with
   |true=>match pvz c ow sr σ l e.h e.r with
    |some (σ1,gs,as,rs)=>zcon (gs,as,rs) (k r σ1)
    |none=>none
   |false=>match pvz (P:=P) (q:=True) c ow sr σ l none none with
    |some (σ1,_,[],[])=>k (e::r) σ1
    |_=>none
def runz{P:Program}(c:Zc)(ow:List Nat):List (Bool×LOp)->List (HE P)->LS->RR P
  |[],hs,σ=>some (σ,hs,[],[])
  | (f,l)::ls,hs,σ=>V1T c ow (U1a ls) f l hs σ (runz c ow ls)
def ptrs(σ:LS):List Nat->Bool
 |[]=>true
 |d::r=>(match lk σ.te d with
  |some (.ptr k 0)=>Nat.beq k d
  |_=>false)&&ptrs σ r
theorem J1v{σ:LS}{s:St}(H:σ.has s):∀{l:List Nat},ptrs σ l=true->∀d∈l,s.e d=.ptr d 0
 |[],_,d,hd=>by cases hd
 |d0::r,h,d,hd=>by
  simp only[ptrs,yD]at h
  rcases yX hd with rfl|hd
  .have h1:=h.1
   split at h1
   .rename_i k e
    rw[H.e _ _ e,yR h1]
   .cases h1
  .exact J1v H h.2 d hd
def LS.alZ(σ:LS):List ZA->LS
  |[]=>σ
  | (_,d,z)::r=>((σ.box d z).set d (.ptr d 0)).alZ r
section
variable{P:Program}{R:Ex->St->Prop}{σ:LS}{s:St}
theorem J1i(H:σ.has s):bO s=bL σ:=by
 funext k
 unfold bO bL
 split
 .rename_i cs e;rw[H.b _ _ e];rfl
 .rename_i e;rw[H.n _ e];rfl
theorem Z1c{b:Nat->Bool}:∀{l:List (Nat×List AV)} {k:Nat} {cs:List AV},lk (mskB b l) k=some cs->∃c0,lk l k=some c0/\cs=Q0i b c0
  |[],_,_,h=>by cases h
  | (j,c)::l,k,cs,h=>by
    simp only[mskB]at h
    rcases U0c h with⟨rfl,rfl⟩|h'
    · exact⟨c,by simp[lk],rfl⟩
    · simp only[lk]at h ⊢
      split at h
      · cases h;exact⟨c,rfl,rfl⟩
      · exact Z1c h
theorem Y1c{b:Nat->Bool}:∀{l:List (Nat×List AV)} {k:Nat},lk (mskB b l) k=none->lk l k=none
  |[],_,_=>rfl
  | (j,c)::l,k,h=>by
    simp only[mskB,lk]at h ⊢
    split at h
    · cases h
    · exact Y1c h
theorem LS.has.strip(H:σ.has s):σ.strip.has s.stripF:=by
 refine⟨H.e,H.g,fun k cs h=>?_,fun k r h=>by(cases h),fun k h=>?_⟩
 .obtain⟨c0,h2,rfl⟩:=Z1c h
  simp only[St.stripF,H.b _ _ h2,J1i H,Option.map_some]
 .simp only[St.stripF,H.n _ (Y1c h),Option.map_none]
theorem Y1y(σ:LS):∀{l:List (Nat×List AV)} {k:Nat},lk (mskT σ l) k=if(match lk σ.tb k with|some c0=>Nat.blt k 1000000000&&kfL (bL σ) c0|none=>false)=true then lk l k else none
  |[],k=>by simp[mskT,lk]
  | (j,c)::l,k=>by
    have ih:=Y1y σ (l:=l) (k:=k)
    by_cases e:j=k
    · subst e
      simp only[mskT]
      split
      · rename_i h;rw[yd h];simp[lk]
      · rename_i h;rw[ih,ye (by rw[h];simp),ye (by rw[h];simp)]
    · have e2:Nat.beq k j=false:=by
        cases h:Nat.beq k j with
        |false=>rfl
        |true=>exact absurd (yR h).symm e
      have e3:lk ((j,c)::l) k=lk l k:=by simp only[lk,e2]
      rw[e3,← ih]
      simp only[mskT]
      split
      · simp only[lk,e2]
      · rfl
theorem W1h(ck:List Nat)(σ:LS):∀{l:List (Nat×List AV)} {k:Nat},lk (mskS ck σ l) k=if(match lk σ.tb k with|some c0=>Nat.blt k 1000000000&&ksL (bL σ) (rLk ck σ) c0|none=>false)=true then lk l k else none
  |[],k=>by simp[mskS,lk]
  | (j,c)::l,k=>by
    have ih:=W1h ck σ (l:=l) (k:=k)
    by_cases e:j=k
    · subst e
      simp only[mskS]
      split
      · rename_i h;rw[yd h];simp[lk]
      · rename_i h;rw[ih,ye (by rw[h];simp),ye (by rw[h];simp)]
    · have e2:Nat.beq k j=false:=by
        cases h:Nat.beq k j with
        |false=>rfl
        |true=>exact absurd (yR h).symm e
      have e3:lk ((j,c)::l) k=lk l k:=by simp only[lk,e2]
      rw[e3,← ih]
      simp only[mskS]
      split
      · simp only[lk,e2]
      · rfl
theorem X1y{ck:List Nat}:∀{l:List (Nat×Row)} {k:Nat},lk (mskR ck l) k=match ck.contains k with|true=>none|false=>lk l k
  |[],k=>by cases h:ck.contains k<;>simp[mskR,lk]
  | (j,c)::l,k=>by
    have ih:=X1y (ck:=ck) (l:=l) (k:=k)
    by_cases e:j=k
    · subst e
      simp only[mskR]
      cases h:ck.contains j with
      |true=>simp only;rw[ih,h]
      |false=>simp[lk]
    · have e2:Nat.beq k j=false:=by
        cases h:Nat.beq k j with
        |false=>rfl
        |true=>exact absurd (yR h).symm e
      have e3:lk ((j,c)::l) k=lk l k:=by simp only[lk,e2]
      rw[e3,← ih]
      simp only[mskR]
      cases h:ck.contains j with
      |true=>rfl
      |false=>simp only[lk,e2]
theorem Q1K{ck:List Nat}{σ:LS}:∀{l:List (Nat×List AV)} {k:Nat} {cs:List AV},exB ck σ l=true->lk l k=some cs->ksL (bL σ) (fun k=>!ck.contains k) cs=true->ksL (bL σ) (rLk ck σ) cs=true
  |[],k,cs,_,h,_=>by simp[lk]at h
  | (j,c)::l,k,cs,hx,h,hk=>by
    simp only[exB,yD]at hx
    simp only[lk]at h
    split at h
    · cases h
      have:=hx.1
      rw[hk]at this;exact this
    · exact Q1K hx.2 h hk
theorem rL_ok(H:σ.has s):∀k,rL σ k=true->rO s k=true:=fun k h=>by
 unfold rL at h
 split at h
 .rename_i r e;unfold rO;rw[(H.r _ _ e).1];rfl
 .cases h
theorem Z1J(H:σ.has s)(ck:List Nat):∀k,rLk ck σ k=true->rS ck s k=true:=fun k h=>by
 unfold rLk at h;unfold rS
 simp only[yD]at h ⊢
 exact⟨rL_ok H k h.1,h.2⟩
theorem LS.has.stripc(H:σ.has s)(c:Zc)(hx:exS c σ=true):(σ.stripc c).has (s.stripc c):=by
 cases c with
 |f=>exact H.strip
 |s ck =>
  have hx:exB ck σ σ.tb=true:=hx
  refine⟨H.e,H.g,fun k cs h=>?_,fun k r h=>?_,fun k h=>?_⟩
  .rw[show(σ.stripc (.s ck)).tb=mskS ck σ σ.tb from rfl,W1h]at h
   cases hl:lk σ.tb k with
   |none=>rw[hl]at h;simp at h
   |some c0 =>
    rw[hl]at h
    by_cases hc:(Nat.blt k 1000000000&&ksL (bL σ) (rLk ck σ) c0)=true
    .simp only[hc,yb,yI]at h
     subst h
     simp only[yD]at hc
     simp only[St.stripc,St.stripS]
     rw[yd (by simpa[Nat.blt_eq]using hc.1),H.b _ _ hl]
     simp only
     rw[yd (WW (fun k hk=>by rw[J1i H];exact hk) (Z1J H ck) c0 hc.2)]
    .simp only[hc]at h;cases h
  .rw[show(σ.stripc (.s ck)).tr=mskR ck σ.tr from rfl,X1y]at h
   simp only[St.stripc,St.stripS]
   split at h
   .cases h
   .rename_i hc
    obtain⟨h1,h2⟩:=H.r k r h
    rw[hc]
    simp only[h1,h2,ite_self,and_self]
  .rw[show(σ.stripc (.s ck)).tb=mskS ck σ σ.tb from rfl,W1h]at h
   simp only[St.stripc,St.stripS]
   cases hl:lk σ.tb k with
   |none=>rw[H.n _ hl];simp
   |some c0 =>
    rw[hl]at h
    by_cases hk:k<1000000000
    .rw[yd hk,H.b _ _ hl]
     simp only
     rw[ye]
     intro q
     have q2:ksL (bL σ) (fun k=>!ck.contains k) c0=true:=WW (fun k hk=>by rw[← J1i H];exact hk) (fun k hk=>by unfold rS at hk;simp only[yD]at hk;exact hk.2) c0 q
     have q3:=Q1K hx hl q2
     rw[yd (by simp only[yD];exact⟨by simpa[Nat.blt_eq]using hk,q3⟩)]at h
     cases h
    .rw[ye hk]
 |t =>
  have e0:∀k,lk (σ.stripc .t).tb k=match lk σ.tb k with|some c0=>(if(Nat.blt k 1000000000&&kfL (bL σ) c0)=true then some c0 else none)|none=>none:=by
   intro k
   rw[show(σ.stripc .t).tb=mskT σ σ.tb from rfl,Y1y]
   cases hl:lk σ.tb k with
   |none=>simp
   |some c0=>rfl
  have e1:∀k,(s.stripc .t).bx k=if k<1000000000 then(match s.bx k with|some cs=>if kfL (bO s) cs=true then some cs else none|none=>none)else none:=fun k=>rfl
  refine⟨H.e,H.g,fun k cs h=>?_,fun k r h=>by(cases h),fun k h=>?_⟩
  .rw[e0]at h
   rw[e1]
   cases hl:lk σ.tb k with
   |none=>rw[hl]at h;cases h
   |some c0 =>
    rw[hl]at h
    by_cases hc:(Nat.blt k 1000000000&&kfL (bL σ) c0)=true
    .simp only[hc,yb,yI]at h
     subst h
     simp only[yD]at hc
     rw[yd (by simpa[Nat.blt_eq]using hc.1),H.b _ _ hl,J1i H]
     simp only[hc.2,yb]
    .simp only[hc]at h;cases h
  .rw[e0]at h
   rw[e1]
   cases hl:lk σ.tb k with
   |none=>rw[H.n _ hl];simp
   |some c0 =>
    rw[hl]at h
    by_cases hc:(Nat.blt k 1000000000&&kfL (bL σ) c0)=true
    .simp only[hc,yb]at h;cases h
    .by_cases hk:k<1000000000
     .rw[yd hk,H.b _ _ hl,J1i H]
      simp only
      rw[ye]
      intro q
      exact hc (by simp only[yD];exact⟨by simpa[Nat.blt_eq]using hk,q⟩)
     .rw[ye hk]
theorem V1i{ow:List Nat}:∀{l:List (Nat×List AV)} {k:Nat},lk (hidB ow l) k=match ow.contains k with|true=>none|false=>lk l k
  |[],k=>by cases h:ow.contains k<;>simp[hidB,lk]
  | (j,c)::l,k=>by
    have ih:=V1i (ow:=ow) (l:=l) (k:=k)
    by_cases e:j=k
    · subst e
      simp only[hidB]
      cases h:ow.contains j with
      |true=>simp only;rw[ih,h]
      |false=>simp[lk]
    · have e2:Nat.beq k j=false:=by
        cases h:Nat.beq k j with
        |false=>rfl
        |true=>exact absurd (yR h).symm e
      have e3:lk ((j,c)::l) k=lk l k:=by simp only[lk,e2]
      rw[e3,← ih]
      simp only[hidB]
      cases h:ow.contains j with
      |true=>rfl
      |false=>simp only[lk,e2]
theorem LS.has.hide(H:σ.has s)(ow:List Nat):(σ.hide ow).has (s.hide ow):=by
 cases ow with
 |nil=>exact H
 |cons o ow =>
  refine⟨H.e,H.g,fun k cs h=>?_,fun k r h=>⟨(H.r k r h).1,M1d (H.r k r h).2⟩,fun k h=>?_⟩
  .rw[show(σ.hide (o::ow)).tb=hidB (o::ow) σ.tb from rfl,V1i]at h
   simp only[St.hide]
   split at h
   .cases h
   .rename_i hc;rw[hc];exact H.b _ _ h
  .rw[show(σ.hide (o::ow)).tb=hidB (o::ow) σ.tb from rfl,V1i]at h
   simp only[St.hide]
   split at h
   .rename_i hc;rw[hc]
   .rename_i hc;rw[hc];exact H.n _ h
theorem J1p{c:Zc}{A:List (Nat×Bool)}(h:sat s A):sat (s.stripc c) A:=by cases c<;>exact h
@[simp] theorem J1n (c:Zc)(i:Nat):(s.stripc c).e i=s.e i:=by cases c<;>rfl
theorem U1z{c:Zc}(H:σ.has s){v:AV}(h:kfV c σ v=true):kfz c s v=true:=by
 cases c with
 |s ck=>exact L1h (fun k hk=>by rw[J1i H];exact hk) (Z1J H ck) v h
 |_=>unfold kfz;rw[J1i H];exact h
theorem U20{c:Zc}(H:σ.has s){t:Nat}(h:kfT c σ t=true):kfz c s (s.e t)=true:=by
 unfold kfT at h
 split at h
 .rename_i v e
  rcases Q1w H e with q|q
  .rw[q];exact U1z H h
  .rw[q];exact J1J rfl
 .cases h
theorem Q1z{c:Zc}(H:σ.has s):∀{ts:List Nat},kfTs c σ ts=true->∀t∈ts,kfz c s (s.e t)=true
 |[],_,t,ht=>by cases ht
 |t::ts,h,t',ht=>by
  simp only[kfTs,yD]at h
  rcases yX ht with rfl|ht
  .exact U20 H h.1
  .exact Q1z H h.2 t' ht
theorem W1u{l:LOp}{c:Zc}{ow:List Nat}(H:σ.has s)(h:scq σ l=true):scOk ((s.hide ow).stripc c) l:=by
 have:=L1I H h
 have e:((s.hide ow).stripc c).e=s.e:=by cases c<;>rfl
 cases l with
 |sc d x lo hi n=>cases x<;>simpa only[scOk,St.get,e]using this
 |g t w l' =>
  cases l' with
  |sc d x lo hi n=>cases x<;>simpa only[scOk,St.get,e]using this
  |_=>trivial
 |_=>trivial
theorem M1v{c:Zc}{ow:List Nat}{sr:Bool}{q:Prop}{gs:List (Bool×Bool)}(hq:allG gs->q)(H:σ.has s){l:LOp}{h:Option (Hint P q)}{r:Option (Rw q)}{σ1:LS}{as rs:List Act}(e:pvz c ow sr σ l h r=some (σ1,gs,as,rs))(he:as=hexp h)(hr:rs=Rw.exp r)
  {K:St->Prop} {ls:List (Bool×LOp)} (hsr:sr=true->U1a ls=true) (hK:∀s',σ1.has s'->Vz P c ow ls K s'):Vz P c ow ((false,l)::ls) K s:=by
 unfold pvz at e
 split at e
 .cases e
 .rename_i hc
  simp only[yD]at hc
  rw[Y1M]
  refine⟨(Bool.or_eq_true _ _ ▸ hc.1.1).imp (Q1z H) hsr,W1u H hc.1.2,?_⟩
  have Hs:=(H.hide ow).stripc c hc.2
  split at e
  .rename_i t w l'
   split at e
   .cases e
   .rename_i hb
    have hb:(∃b,s.e t=.bool b)\/s.e t=.und:=by
     split at hb
     .rename_i b eb;exact .inl ⟨b,J0p H YT eb⟩
     .cases hb
     .split at hb
      .rename_i g' w' b' ef
       rcases H.g _ _ _ _ (W04 ef)with⟨_,h2⟩|⟨_,h2⟩
       .exact .inl ⟨b',h2⟩
       .exact .inr h2
      .cases hb
    split at e
    .cases e
    .rename_i hne
     have hne:t≠l'.dst:=fun q=>by subst q;simp at hne
     split at e
     .rename_i gs' eg
      split at e
      .rename_i v as' ev
       split at e
       .split at e
        .rename_i hkf
         cases e
         have no:s.e t≠.bool w->(kfz c (s.hide ow) .und=true/\Vz P c ow ls K (s.set l'.dst .und)):=fun hb=>⟨J1J rfl,hK _ (H.setc _ _ _ _ _ hne (.inr ⟨hb,rfl⟩))⟩
         have key:∀u,(kfz c (s.hide ow) u=true/\Vz P c ow ls K (s.set l'.dst u))->J1D P c ow l'.dst ls K s (((s.hide ow).stripc c).set l'.dst u):=by
          intro u hu
          rw[V1j]
          simpa using hu
         rcases hb with⟨b,hb⟩|hb
         .simp only[wop,J1n,O1K,hb]
          by_cases hw:b=w
          .subst hw
           rw[yd rfl]
           exact V1b (hq (O1n H (Y0e H hb) (Y0e H hb) eg)) Hs (J1p (s:=s.hide ow) (Y0e H hb)) ev he (key v ⟨U1z (H.hide ow) hkf,hK _ (H.setc _ _ _ _ _ hne (.inl ⟨hb,rfl⟩))⟩)
          .rw[ye hw]
           exact key _ (no (by rw[hb];simpa using hw))
         .simp only[wop,J1n,O1K,hb]
          exact key _ (no (by rw[hb];simp))
        .cases e
       .cases e
      .cases e
     .cases e
  .split at e
   .rename_i v as' ev
    split at e
    .rename_i hkf
     have key:∀u,u=v->Vz P c ow ls K (s.set l.dst u)->J1D P c ow l.dst ls K s (((s.hide ow).stripc c).set l.dst v):=by
      intro u hu hz
      rw[V1j]
      subst hu
      simp only[e_set,yb]
      exact⟨U1z (H.hide ow) hkf,hz⟩
     split at e
     .cases e
      exact V1b (hq trivial) Hs YT ev he (key v rfl (hK _ (H.set _ _)))
     .rename_i q0
      cases e
      simp only[Rw.exp,yW,Act.a.injEq,and_true]at hr
      exact V1b (hq trivial) Hs YT ev he (key q0.b (by rw[hr,q0.h (hq trivial)]) (hK _ (H.set _ _)))
    .cases e
   .cases e
theorem U1T(H:σ.has s){l:LOp}(h:zok σ l=true){K:St->Prop}(hw:wop P l K s):zw P l K s:=by
 cases l with
 |bs d sz ps own =>
  simp only[zok]at h
  split at h
  .rename_i e;exact⟨H.n _ e,hw⟩
  .cases h
 |ap d x y sz b =>
  simp only[zok]at h
  refine⟨?_,hw⟩
  split at h
  .rename_i k e
   split at h
   .rename_i r er;rw[V5 H YT e];exact(H.r _ _ er).2
   .cases h
  .rename_i e
   split at h
   .rename_i eb;rw[V5 H YT e];exact H.n _ eb
   .cases h
  .cases h
 |mv d x=>exact hw
 |ex d x i=>exact hw
 |bd d z ps=>exact hw
 |ln d x=>exact hw
 |sc d x lo hi n=>exact hw
 |_=>simp[zok]at h
theorem L13(H:σ.has s){v:AV}(h:nfr1 σ v=true){k:Nat}(hk:k<1000000000)(F:Free k s):v.dead k=v:=by
 cases v with
 |sref j =>
  simp only[nfr1]at h
  split at h
  .rename_i r e
   rw[AV.dead,ye fun q=>by subst q;have:=(H.r _ _ e).1;rw[F.rw]at this;cases this]
  .cases h
 |rpt j i o =>
  simp only[nfr1]at h
  split at h
  .rename_i r e
   rw[AV.dead,ye fun q=>by subst q;have:=(H.r _ _ e).1;rw[F.rw]at this;cases this]
  .cases h
 |ptr j o =>
  simp only[nfr1]at h
  split at h
  .rename_i r e
   rw[AV.dead,ye fun q=>by subst q;have:=H.b _ _ e;rw[F.bx]at this;cases this]
  .have:=Nat.le_of_ble_eq_true h
   rw[AV.dead,ye fun q=>by omega]
 |agg _=>simp[nfr1]at h
 |tup _=>simp[nfr1]at h
 |fn _ _=>simp[nfr1]at h
 |_=>rfl
theorem Q0r{k:Nat}:∀{l:List AV},(∀a∈l,a.dead k=a)->Z5 k l=l
 |[],_=>rfl
 |a::l,h=>by rw[Z5,h a (yJ ..),Q0r fun b hb=>h b (yH _ hb)]
theorem W1Z(H:σ.has s){v:AV}(h:nfr σ v=true){k:Nat}(hk:k<1000000000)(F:Free k s):v.dead k=v:=by
 cases v with
 |agg cs =>
  simp only[nfr,List.all_eq_true]at h
  rw[AV.dead,Q0r fun a ha=>L13 H (h a ha) hk F]
 |tup cs =>
  simp only[nfr,List.all_eq_true]at h
  rw[AV.dead,Q0r fun a ha=>?_]
  have:=h a ha
  cases a with
  |agg cs =>
   simp only[List.all_eq_true]at this
   rw[AV.dead,Q0r fun b hb=>L13 H (this b hb) hk F]
  |_=>exact L13 H this hk F
 |_=>exact L13 H (by simpa only[nfr]using h) hk F
theorem L1D{q:Prop}{gs:List (Bool×Bool)}(hq:allG gs->q)(H:σ.has s){l:LOp}{h:Option (Hint P q)}{r:Option (Rw q)}{σ1:LS}{as rs:List Act}(e:V1M σ l h r=some (σ1,gs,as,rs,[]))(he:as=hexp h)(hr:rs=Rw.exp r)
  {K:St->Prop} (hK:∀s',σ1.has s'->K s'):zw P l K s:=by
 unfold V1M at e
 split at e
 .rename_i hz;exact U1T H hz (O0Z hq H e he hr fun _=>hK)
 .split at e
  .cases e
  .rename_i hl
   split at e
   .rename_i σ2 gs2 as2 rs2 ns2 e2
    split at e
    .rename_i v ev
     split at e
     .rename_i hn
      cases e
      have hw:=O0Z hq H e2 he hr (K:=fun s'=>(∀k,k<1000000000->Free k s->(s'.e l.dst).dead k=s'.e l.dst)/\K s') fun _ s' H'=>⟨fun k hk F=>by rw[H'.e _ _ ev];exact W1Z H hn hk F,hK s' H'⟩
      cases l<;>simp only[isQE,yG]at hl<;>first|exact hw | (simp[isQ1]at hl)
     .cases e
    .cases e
   .cases e
theorem Y1D:∀{ks:List Nat},bigB ks=true->∀k∈ks,1000000000<=k
 |[],_,k,h=>by cases h
 |j::ks,h,k,hk=>by
  simp only[bigB,yD]at h
  rcases yX hk with rfl|hk
  .exact Nat.le_of_ble_eq_true h.1
  .exact Y1D h.2 k hk
theorem Q1T{q:Prop}{gs:List (Bool×Bool)}(hq:allG gs->q)(H:σ.has s){d f':Nat}{xs:List X}{h:Option (Hint P q)}{r:Option (Rw q)}{σ1:LS}{as rs:List Act}(e:zcm σ d f' xs h r=some (σ1,gs,as,rs,[]))(he:as=hexp h)
  {K:St->Prop} (hK:∀s',σ1.has s'->K s'):zw P (.cm d f' xs) K s:=by
 unfold zcm at e
 split at e
 .rename_i f0 bks bin as0 as' res bout hb ho hr0 h0
  split at e
  .split at e
   .rename_i hc
    simp only[yD]at hc
    obtain⟨c1,c2⟩:=hc
    split at e
    .rename_i bs eb
     split at e
     .rename_i vs ev
      cases e
      simp only[hexp,Hint.exp,yW,Act.w.injEq,and_true]at he
      obtain⟨rfl,e1,e2⟩:=he
      have e3:=hr0 (hq trivial)
      rw[← e1]at e3
      obtain⟨ev,hod⟩:=U1i ev
      have hg:=U0k H YT ev
      have hC:=h0 (hq trivial) s.nx
      rw[← e3]at hC
      refine⟨bks,bin,Y1D c2,Uq c1,by rw[← e2];exact M1A H _ _ eb,⟨hb,fun x hx=>?_⟩,_,by
       have:(xs.map fun x=>((s.get x).mp (ix bks) (ix [])).rdt)=rdtL (mpL (ix bks) (ix []) vs):=by rw[X3,JC,← hg,List.map_map,List.map_map];rfl
       rw[this];exact hC,fun n1 res' bout' upd' new' _ _ hΦ=>?_⟩
      .rw[← e1]at ho
       have q:=X0c ho
       rw[V03 hod,← hg]at q
       exact O9.1 q _ (List.mem_map_of_mem hx)
      .obtain⟨rfl,rfl,rfl,rfl⟩:=hΦ
       exact⟨rfl,hK _ (U10 H n1 d bks [] _ _ _ _)⟩
     .cases e
    .cases e
   .cases e
  .cases e
 .cases e
theorem W1T{q:Prop}{gs:List (Bool×Bool)}(hq:allG gs->q)(H:σ.has s){d f':Nat}{xs:List X}{h:Option (Hint P q)}{r:Option (Rw q)}{σ1:LS}{as rs:List Act}(e:zcl σ d f' xs h r=some (σ1,gs,as,rs,[]))(he:as=hexp h)
  {K:St->Prop} (hK:∀s',σ1.has s'->K s'):zw P (.cl d f' xs) K s:=by
 unfold zcl at e
 split at e
 .rename_i f0 as0 as' res rows hae h0
  split at e
  .split at e
   .rename_i hb
    split at e
    .rename_i hlt
     split at e
     .rename_i vs ev
      split at e
      .rename_i ds ed
       split at e
       .rename_i ho
        cases e
        have h0:=h0 (hq trivial)
        simp only[hexp,Hint.exp,yW,Act.n.injEq,Act.l.injEq,and_true]at he
        obtain⟨rfl,he⟩:=he
        simp only[yD]at hb
        exact⟨_,Z19 H YT ev ed,res,rows,h0.aes hae he,Nat.le_of_ble_eq_true hb.1,fun k hk=>Q1l (key:=(1000*d+1000,rows.length)) hk _ ho,fun i hi=>H.n _ (W1x hb.2 i hi),Nat.le_of_ble_eq_true hlt,hK _ (H.addRows.set d _)⟩
       .cases e
      .cases e
     .cases e
    .cases e
   .cases e
  .cases e
 .cases e
theorem U1g{q:Prop}{gs:List (Bool×Bool)}(hq:allG gs->q)(H:σ.has s){l:LOp}{h:Option (Hint P q)}{r:Option (Rw q)}{σ1:LS}{as rs:List Act}(e:zone σ l h r=some (σ1,gs,as,rs,[]))(he:as=hexp h)(hr:rs=Rw.exp r)
  {K:St->Prop} (hK:∀s',σ1.has s'->K s'):zw P l K s:=by
 cases l with
 |cm d f xs=>exact Q1T hq H e he hK
 |cl d f xs =>
  simp only[zone]at e
  exact W1T hq H e he hK
 |_=>exact L1D hq H (by simpa only[zone]using e) he hr hK
theorem Q19{x:HA}{r:RR P}{σ2:LS}{r':List (HE P)}{as:List HA}{ns:List Nat}(h:zcon x r=some (σ2,r',as,ns)):∃ass,r=some (σ2,r',ass,ns)/\as=x::ass:=by
 unfold zcon at h
 split at h
 .cases h;exact⟨_,rfl,rfl⟩
 .cases h
theorem M0b{c:Zc}{ow:List Nat}:∀{ls:List (Bool×LOp)} {hs hs':List (HE P)} {σ σ1:LS} {as:List HA} {ns:List Nat} {s:St},σ.has s->runz c ow ls hs σ=some (σ1,hs',as,ns) ->
    ∀{as2:List HA},as++as2=hs.map HE.exp->∀{K:St->Prop},(as2=hs'.map HE.exp->W0i ns->∀s',σ1.has s'->K s')->Vz P c ow ls K s
  |[],hs,hs',σ,σ1,as,ns,s,H,e,as2,he,K,hK=>by
    simp only[runz]at e
    cases e;exact hK he trivial s H
  | (f,l)::ls,hs,hs',σ,σ1,as,ns,s,H,e,as2,he,K,hK=>by
    simp only[runz]at e
    unfold V1T at e
    cases f with
    |true =>
      simp only at e
      rw[X1M]
      split at e
      · split at e
        · rename_i σ2 gs e2
          exact U1g (fun _=>trivial) H e2 rfl rfl fun s' H'=>M0b H' e he hK
        · cases e
      · rename_i q r
        split at e
        · split at e
          · rename_i σ2 gs as2 rs e2
            obtain⟨ass,e3,rfl⟩:=Q19 e
            simp only[List.map_cons,List.cons_append,yW,HE.exp,Prod.mk.injEq]at he
            obtain⟨⟨h1,h2,h3⟩,h4⟩:=he
            exact U1g (fun q=>h1 ▸ q) H e2 h2 h3 fun s' H'=>M0b H' e3 h4 hK
          · cases e
        · split at e
          · rename_i σ2 gs e2
            exact U1g (fun _=>trivial) H e2 rfl rfl fun s' H'=>M0b H' e he hK
          · cases e
    |false =>
      simp only at e
      split at e
      · split at e
        · rename_i σ2 gs e2
          exact M1v (fun _=>trivial) H e2 rfl rfl (fun h=>h) fun s' H'=>M0b H' e he hK
        · cases e
      · rename_i q r
        split at e
        · split at e
          · rename_i σ2 gs as2 rs e2
            obtain⟨ass,e3,rfl⟩:=Q19 e
            simp only[List.map_cons,List.cons_append,yW,HE.exp,Prod.mk.injEq]at he
            obtain⟨⟨h1,h2,h3⟩,h4⟩:=he
            exact M1v (fun q=>h1 ▸ q) H e2 h2 h3 (fun h=>h) fun s' H'=>M0b H' e3 h4 hK
          · cases e
        · split at e
          · rename_i σ2 gs e2
            exact M1v (fun _=>trivial) H e2 rfl rfl (fun h=>h) fun s' H'=>M0b H' e he hK
          · cases e
theorem LS.has.alZ:∀{als:List ZA} {σ:LS} {s:St},σ.has s->(σ.alZ als).has (Eng.alZ s als)
  |[],_,_,H=>H
  | (i,d,z)::r,σ,s,H=>by
    rw[O1H]
    exact LS.has.alZ (als:=r) ((H.box d z).set d (.ptr d 0))
end
def xit(id:Nat):List It->Option (List It)
 |[]=>none
 |.mk id'::k=>match Nat.beq id' id with
  |true=>some k
  |false=>xit id k
 |.l _::k=>xit id k
 |.lp _ _::k=>xit id k
 |.jn _::k=>xit id k
def stp{P:Program}(k:List It)(σ:LS)(hs:List (HE P)):Option (List It×LS×List HA×List Nat):=match hs with
 |[]=>some (k,σ,[],[])
 |_::_=>none
def thn(as:List HA)(ns:List Nat)(r:Option (List It×LS×List HA×List Nat)):Option (List It×LS×List HA×List Nat):=match r with
 |some (k,σ,as2,ns2)=>some (k,σ,as++as2,ns++ns2)
 |none=>none
def go{P:Program}:Nat->List It->LS->List (HE P)->Option (List It×LS×List HA×List Nat)
 |0,k,σ,hs=>stp k σ hs
 |n+1,k,σ,hs=>match k with
  |.mk _::k=>go n k σ hs
  |.l c::k'=>match c with
   |.skip=>go n k' σ hs
   |.seq x y=>go n (.l x::.l y::k') σ hs
   |.blk id x=>go n (.l x::.mk id::k') σ hs
   |.scope x=>go n (.l x::k') σ hs
   |.exit id=>match xit id k' with
    |some k2=>go n k2 σ hs
    |none=>none
   |.reg ls=>match run ls hs σ with
    |some (σ1,r,as,ns)=>thn as ns (go n k' σ1 r)
    |none=>none
   |.rq m ls=>match runq (ls.take m) hs [] (σ.kills (alKeys (ls.take m)))with
    |some (σ0,r0,as0,ns0)=>match run (ls.drop m) r0 σ0 with
     |some (σ1,r,as,ns)=>thn as0 ns0 (thn as ns (go n k' σ1 r))
     |none=>none
    |none=>none
   |.ro ow als items tl=>match runz (zcOf (items.map Prod.snd)) ow (items.map Prod.snd) hs (σ.kills (als.map (·.2.1)))with
    |some (σ0,r0,as0,ns0)=>match ptrs σ0 ow with
     |true=>match run tl r0 (σ0.alZ als)with
      |some (σ1,r,as,ns)=>thn as0 ns0 (thn as ns (go n k' σ1 r))
      |none=>none
     |false=>none
    |none=>none
   |.rz als items tl=>match runz (zcOf (items.map Prod.snd)) [] (items.map Prod.snd) hs (σ.kills (als.map (·.2.1)))with
    |some (σ0,r0,as0,ns0)=>match run tl r0 (σ0.alZ als)with
     |some (σ1,r,as,ns)=>thn as0 ns0 (thn as ns (go n k' σ1 r))
     |none=>none
    |none=>none
   |_=>stp k σ hs
  |_=>stp k σ hs
def Vh(P:Program)(R:Ex->St->Prop)(k:List It)(σ:LS):Prop:=∀s,σ.has s->W P R k s
section
variable{P:Program}{R:Ex->St->Prop}{k:List It}{σ:LS}
theorem W19{id:Nat}{s:St}:∀{k k':List It},xit id k=some k'->W P R k' s->denK P R k (.ext id) s
 |[],_,h,_=>by cases h
 |.mk id'::k,k',h,hw=>by
  rw[O0R]
  simp only[xit]at h
  split at h
  .rename_i e
   cases h
   rw[yd (yR e).symm];exact hw
  .rename_i e
   rw[ye (fun q=>by subst q;simp at e)];exact W19 h hw
 |.l c::k,k',h,hw=>W19 (k:=k) h hw
 |.lp I m::k,k',h,hw=>W19 (k:=k) h hw
 |.jn J::k,k',h,hw=>W19 (k:=k) h hw
theorem Q02{as:List HA}{ns:List Nat}{r:Option (List It×LS×List HA×List Nat)}{k:List It}{σ:LS}{as2:List HA}{ns2:List Nat}(h:thn as ns r=some (k,σ,as2,ns2)) :
  ∃as' ns',r=some (k,σ,as',ns')/\as2=as++as'/\ns2=ns++ns':=by
 unfold thn at h
 split at h
 .cases h;exact⟨_,_,rfl,rfl,rfl⟩
 .cases h
theorem J1j{k:List It}{σ:LS}{hs:List (HE P)}{k':List It}{σ':LS}{as:List HA}{ns:List Nat}(h:stp k σ hs=some (k',σ',as,ns)):k=k'/\σ=σ':=by
 unfold stp at h
 split at h
 .cases h;exact⟨rfl,rfl⟩
 .cases h
theorem J0Q:∀{n:Nat} {k k':List It} {σ σ':LS} {hs:List (HE P)} {as:List HA} {ns:List Nat},go n k σ hs=some (k',σ',as,ns)->as=hs.map HE.exp->(W0i ns->Vh P R k' σ')->Vh P R k σ
 |0,k,k',σ,σ',hs,as,ns,e,he,h=>by
  have hns:ns=[]:=by
   simp only[go,stp]at e
   split at e<;>cases e<;>rfl
  obtain⟨rfl,rfl⟩:=J1j e
  exact h (by rw[hns];trivial)
 |n+1,k,k',σ,σ',hs,as,ns,e,he,h=>by
  have st:stp k σ hs=some (k',σ',as,ns)->Vh P R k σ:=by
   intro e
   have hns:ns=[]:=by
    simp only[stp]at e
    split at e<;>cases e<;>rfl
   obtain⟨rfl,rfl⟩:=J1j e
   exact h (by rw[hns];trivial)
  cases k with
  |nil=>exact st e
  |cons i k1 =>
   cases i with
   |lp I m=>exact st e
   |jn J=>exact st e
   |mk id=>exact fun s H=>J0Q (n:=n) (k:=k1) e he h s H
   |l c =>
    cases c with
    |skip=>exact fun s H=>J0Q (n:=n) (k:=k1) e he h s H
    |seq x y=>exact fun s H=>by rw[W_seq];exact J0Q (n:=n) e he h s H
    |blk id x=>exact fun s H=>by rw[W_blk];exact J0Q (n:=n) e he h s H
    |scope x=>exact fun s H=>by rw[J1S];exact J0Q (n:=n) e he h s H
    |exit id =>
     simp only[go]at e
     split at e
     .rename_i k2 e2
      exact fun s H=>by rw[L22];exact W19 e2 (J0Q (n:=n) e he h s H)
     .cases e
    |reg ls =>
     simp only[go]at e
     split at e
     .rename_i σ1 r as1 ns1 e1
      obtain⟨as',ns',q1,rfl,rfl⟩:=Q02 e
      intro s H
      rw[W_reg]
      exact Z0Z H e1 he fun q2 q3 s' H'=>J0Q q1 q2 (fun q4=>h (LJ q3 q4)) s' H'
     .cases e
    |rq m ls =>
     simp only[go]at e
     split at e
     .rename_i σ0 r0 as0 ns0 e0
      split at e
      .rename_i σ1 r as1 ns1 e1
       obtain⟨as',ns',q1,rfl,rfl⟩:=Q02 e
       obtain⟨as'',ns'',qq,rfl,rfl⟩:=Q02 q1
       intro s H
       rw[W_rq]
       exact W12 (acc:=[]) (pa:=[]) H.kills trivial e0 he fun q2 q3 s' H'=>Z0Z H' e1 q2 fun q5 q6 s'' H''=>J0Q qq q5 (fun q4=>h (LJ q3 (LJ q6 q4))) s'' H''
      .cases e
     .cases e
    |ro ow als items tl =>
     simp only[go]at e
     split at e
     .rename_i σ0 r0 as0 ns0 e0
      split at e
      .rename_i hp
       split at e
       .rename_i σ1 r as1 ns1 e1
        obtain⟨as',ns',q1,rfl,rfl⟩:=Q02 e
        obtain⟨as'',ns'',qq,rfl,rfl⟩:=Q02 q1
        intro s H
        rw[W_ro]
        exact M0b H.kills e0 he fun q2 q3 s' H'=>⟨J1v H' hp,Z0Z H'.alZ e1 q2 fun q5 q6 s'' H''=>J0Q qq q5 (fun q4=>h (LJ q3 (LJ q6 q4))) s'' H''⟩
       .cases e
      .cases e
     .cases e
    |rz als items tl =>
     simp only[go]at e
     split at e
     .rename_i σ0 r0 as0 ns0 e0
      split at e
      .rename_i σ1 r as1 ns1 e1
       obtain⟨as',ns',q1,rfl,rfl⟩:=Q02 e
       obtain⟨as'',ns'',qq,rfl,rfl⟩:=Q02 q1
       intro s H
       rw[W_rz]
       exact M0b H.kills e0 he fun q2 q3 s' H'=>Z0Z H'.alZ e1 q2 fun q5 q6 s'' H''=>J0Q qq q5 (fun q4=>h (LJ q3 (LJ q6 q4))) s'' H''
      .cases e
     .cases e
    |_=>exact st e
def goK(n:Nat)(k:List It)(σ:LS)(hs:List (HE P)):List It:=match go n k σ hs with
 |some (k',_,_,_)=>k'
 |none=>[]
def goS(n:Nat)(k:List It)(σ:LS)(hs:List (HE P)):LS:=match go n k σ hs with
 |some (_,σ',_,_)=>σ'
 |none=>σ
def goE(n:Nat)(k:List It)(σ:LS)(hs:List (HE P)):Option (List HA×List Nat):=match go n k σ hs with
 |some (_,_,as,ns)=>some (as,ns)
 |none=>none
theorem Vh_go(n:Nat)(hs:List (HE P))(e:goE n k σ hs=some (hs.map HE.exp,hs.flatMap HE.ns))(h:W0i (hs.flatMap HE.ns)->Vh P R (goK n k σ hs) (goS n k σ hs)):Vh P R k σ:=by
 unfold goE at e
 split at e
 .rename_i k' σ' as ns e2
  cases e
  refine J0Q e2 rfl fun q=>?_
  have:=h q
  simpa only[goK,goS,e2]using this
 .cases e
def cnB(k:List It)(σ:LS):Option Bool:=match k with
 |.l (.cond c _ _)::_=>match gt [] σ c with
  |some (.bool b)=>some b
  |_=>none
 |_=>none
def cnT:List It->List It
 |.l (.cond _ x _)::k=>.l x::k
 |_=>[]
def cnF:List It->List It
 |.l (.cond _ _ y)::k=>.l y::k
 |_=>[]
theorem Z1T{b:Bool}(e:cnB k σ=some b)(h1:b=true->Vh P R (cnT k) σ)(h2:b=false->Vh P R (cnF k) σ):Vh P R k σ:=by
 unfold cnB at e
 split at e
 .rename_i c x y k'
  split at e
  .rename_i b' e2
   cases e
   intro s H
   rw[Z23,V5 H YT e2]
   exact⟨fun q=>h1 q s H,fun q=>h2 q s H⟩
  .cases e
 .cases e
theorem U23{b:Bool}(hb:b=true)(e:cnB k σ=some b)(h1:Vh P R (cnT k) σ):Vh P R k σ:=Z1T e (fun _=>h1) (fun q=>by rw[hb]at q;cases q)
theorem Q23{b:Bool}(hb:b=false)(e:cnB k σ=some b)(h1:Vh P R (cnF k) σ):Vh P R k σ:=Z1T e (fun q=>by rw[hb]at q;cases q) (fun _=>h1)
def nrH:Hn->Bool
 |.r=>false
 |.l hs=>hs.all fun h=>match h with | .r=>false | .l _=>false|_=>true
 |_=>true
def gwT(fb fr:Nat->Option Nat)(zr:Nat->Bool)(rr:Nat->Option Row)(te:List (Nat×AV)):List (Nat×Hn)->Option (List (Nat×AV))
  |[]=>some []
  | (i,h)::l=>match lk te i with
    |some v=>match nrH h with
      |true=>match gwT fb fr zr rr te l with
        |some r=>some ((i,cvt2 fb fr zr rr h v)::r)
        |none=>none
      |false=>none
    |none=>none
def gwB(fb fr:Nat->Option Nat)(zr:Nat->Bool)(rr:Nat->Option Row)(tb:List (Nat×List AV)):List (Nat×List Hn)->Option (List (Nat×List AV))
  |[]=>some []
  | (i,hs)::l=>match lk tb i with
    |some v=>match nrH (.l hs)with
      |true=>match gwB fb fr zr rr tb l with
        |some r=>some ((i,cvt1L fb fr zr rr hs v)::r)
        |none=>none
      |false=>none
    |none=>none
def gwR(gb:List (Nat×List Hn))(tr:List (Nat×Row)):List (Nat×Option Nat×Nat)->Option (List (Nat×Row))
  |[]=>some []
  | (k,o,sz)::l=>match lk gb k with
    |some _=>none
    |none=>match gwR gb tr l with
      |some rs=>match o with
        |none=>some ((k,⟨sz,[],false⟩)::rs)
        |some k0=>match lk tr k0 with
          |some r=>some ((k,r)::rs)
          |none=>none
      |none=>none
def shsR(ks:List Nat):List (Nat×Row)->List (Nat×Row)
  |[]=>[]
  | (k,r)::l=>match inL k ks with
    |true=>(k,⟨r.sz,r.es,true⟩)::shsR ks l
    |false=>(k,r)::shsR ks l
def LS.shs(σ:LS)(ks:List Nat):LS:={ σ with tr:=shsR ks σ.tr }
def LS.rr(σ:LS)(ks:List Nat)(k:Nat):Option Row:=match inL k ks with
 |true=>lk (shsR ks σ.tr) k
 |false=>none
theorem Y1h{ks:List Nat}:∀{l:List (Nat×Row)} {k:Nat} {r:Row},lk (shsR ks l) k=some r->∃r0,lk l k=some r0/\r=(match inL k ks with|true=>{ r0 with sh:=true }|false=>r0)
  |[],_,_,h=>by cases h
  | (j,q)::l,k,r,h=>by
    simp only[shsR]at h
    split at h
    · rename_i e
      simp only[lk]at h ⊢
      split at h
      · rename_i e2
        have:=yR e2;subst this
        cases h
        exact⟨q,by simp,by rw[e]⟩
      · exact Y1h h
    · rename_i e
      simp only[lk]at h ⊢
      split at h
      · rename_i e2
        have:=yR e2;subst this
        cases h
        exact⟨q,by simp,by rw[e]⟩
      · exact Y1h h
theorem LS.has.shs{s:St}(H:σ.has s)(ks:List Nat):(σ.shs ks).has (s.shs ks):=by
 refine⟨H.e,H.g,H.b,fun k r h=>?_,H.n⟩
 obtain⟨r0,h0,rfl⟩:=Y1h h
 refine⟨?_,(H.r k r0 h0).2⟩
 simp only[St.shs,(H.r k r0 h0).1]
 split<;>rename_i e<;>simp[e]
def fzOk(σ:LS):List Nat->Bool
 |[]=>true
 |k::ks=>match lk σ.tr k with
  |some _=>fzOk σ ks
  |none=>false
theorem L1A:∀{ks:List Nat},fzOk σ ks=true->∀{k:Nat},inL k ks=true->∃r,lk σ.tr k=some r
 |[],_,k,h=>by cases h
 |j::ks,h,k,hk=>by
  simp only[fzOk]at h
  split at h
  .rename_i r e
   simp only[inL]at hk
   split at hk
   .rename_i e2;rw[yR e2];exact⟨r,e⟩
   .exact L1A h hk
  .cases h
theorem O1a{ks:List Nat}:∀{l:List (Nat×Row)} {k:Nat} {r:Row},lk l k=some r->∃r',lk (shsR ks l) k=some r'
  |[],_,_,h=>by cases h
  | (j,q)::l,k,r,h=>by
    simp only[lk]at h
    simp only[shsR]
    split at h
    · rename_i e2
      split<;>exact⟨_,by simp[lk,e2];rfl⟩
    · rename_i e2
      obtain⟨r',h'⟩:=O1a (ks:=ks) h
      split<;>exact⟨r',by simp[lk,e2,h']⟩
theorem rr_eq{s:St}(H:σ.has s){ks:List Nat}(hf:fzOk σ ks=true):σ.rr ks=(s.shs ks).rr ks:=by
 funext k
 unfold LS.rr St.rr
 split
 .rename_i hk
  obtain⟨r,hr⟩:=L1A hf hk
  obtain⟨r',hr'⟩:=O1a (ks:=ks) hr
  simp only[hk,hr',((H.shs ks).r k r' hr').1]
 .rename_i hk;simp only[hk]
def LS.gw(σ:LS)(G:GW):Option LS:=match G.ok&&fzOk σ G.fz with
 |true=>match gwT G.fb G.fr G.zr (σ.rr G.fz) σ.te G.te with
  |some te=>match gwB G.fb G.fr G.zr (σ.rr G.fz) σ.tb G.tb with
   |some tb=>match gwR G.tb (σ.shs G.fz).tr G.tr with
    |some tr=>some ⟨te,[],tb,tr⟩
    |none=>none
   |none=>none
  |none=>none
 |false=>none
def gwTo(s:St)(σ:LS):Prop:=∃G:GW,G.ok=true/\nooT s G.te/\nooB s G.tb/\σ.has (s.gw G)
theorem X1x{hs:List Hn}(h:(hs.all fun h=>match h with | .r=>false | .l _=>false|_=>true)=true):∀l,nooL hs l:=by
 induction hs with
 |nil=>intro l;cases l<;>trivial
 |cons x hs ih =>
  intro l
  simp only[List.all_cons,yD]at h
  cases l with
  |nil=>cases x<;>trivial
  |cons a l=>cases x<;>first|exact ih h.2 l | (simp at h)
theorem X1Z{h:Hn}(hh:nrH h=true)(a:AV):noo h a:=by
 cases h with
 |r=>cases hh
 |l hs=>cases a<;>first|trivial|exact X1x hh _
 |_=>cases a<;>trivial
theorem U1A{fb fr:Nat->Option Nat}{zr:Nat->Bool}{rr:Nat->Option Row}{te:List (Nat×AV)}{s:St}(hs:∀t v,lk te t=some v->s.e t=v):∀{l:List (Nat×Hn)} {r:List (Nat×AV)},gwT fb fr zr rr te l=some r ->
    nooT s l/\∀i v,lk r i=some v->∃h,lk l i=some h/\v=cvt2 fb fr zr rr h (s.e i)
  |[],r,e=>by cases e;exact⟨trivial,by intro i v h;cases h⟩
  | (j,h)::l,r,e=>by
    simp only[gwT]at e
    split at e
    · rename_i u eu
      split at e
      · rename_i hn
        split at e
        · rename_i r' er
          cases e
          obtain⟨q1,q2⟩:=U1A hs er
          refine⟨⟨X1Z hn _,q1⟩,fun i v hi=>?_⟩
          simp only[lk]at hi ⊢
          split at hi
          · rename_i e3
            have:=yR e3
            subst this
            cases hi
            exact⟨h,by simp,by rw[hs _ _ eu]⟩
          · exact q2 i v hi
        · cases e
      · cases e
    · cases e
theorem Q1A{fb fr:Nat->Option Nat}{zr:Nat->Bool}{rr:Nat->Option Row}{tb:List (Nat×List AV)}{s:St}(hs:∀k cs,lk tb k=some cs->s.bx k=some cs):∀{l:List (Nat×List Hn)} {r:List (Nat×List AV)},gwB fb fr zr rr tb l=some r ->
    nooB s l/\∀i v,lk r i=some v->∃h,lk l i=some h/\(s.bx i).map (cvt1L fb fr zr rr h)=some v
  |[],r,e=>by cases e;exact⟨trivial,by intro i v h;cases h⟩
  | (j,h)::l,r,e=>by
    simp only[gwB]at e
    split at e
    · rename_i u eu
      split at e
      · rename_i hn
        split at e
        · rename_i r' er
          cases e
          obtain⟨q1,q2⟩:=Q1A hs er
          refine⟨⟨by rw[hs _ _ eu];exact X1x hn _,q1⟩,fun i v hi=>?_⟩
          simp only[lk]at hi ⊢
          split at hi
          · rename_i e3
            have:=yR e3
            subst this
            cases hi
            exact⟨h,by simp,by rw[hs _ _ eu];rfl⟩
          · exact q2 i v hi
        · cases e
      · cases e
    · cases e
theorem W1n{fb fr:Nat->Option Nat}{zr:Nat->Bool}{rr:Nat->Option Row}{tb:List (Nat×List AV)}:∀{l:List (Nat×List Hn)} {r:List (Nat×List AV)},gwB fb fr zr rr tb l=some r->∀{i:Nat} {h:List Hn},lk l i=some h->lk r i≠none
  |[],_,_,_,_,h=>by cases h
  | (j,hs)::l,r,e,i,h,hl=>by
    simp only[gwB]at e
    split at e
    · split at e
      · split at e
        · rename_i r' er
          cases e
          simp only[lk]at hl ⊢
          split at hl
          · simp
          · exact W1n er hl
        · cases e
      · cases e
    · cases e
theorem V1K{gb:List (Nat×List Hn)}{tr:List (Nat×Row)}{s:St}(hs:∀k r,lk tr k=some r->s.rw k=some r/\s.bx k=none):∀{l:List (Nat×Option Nat×Nat)} {r:List (Nat×Row)},gwR gb tr l=some r ->
    ∀i v,lk r i=some v->lk gb i=none/\∃o sz,lk l i=some (o,sz)/\(match o with|some k0=>s.rw k0=some v|none=>v=⟨sz,[],false⟩)
  |[],r,e=>by cases e;intro i v h;cases h
  | (j,o,sz)::l,r,e=>by
    simp only[gwR]at e
    split at e
    · cases e
    · rename_i hb
      split at e
      · rename_i rs er
        have q:=V1K hs er
        intro i v hi
        split at e
        · cases e
          simp only[lk]at hi ⊢
          split at hi
          · rename_i e3
            have:=yR e3
            subst this
            cases hi
            exact⟨hb,none,sz,by simp,rfl⟩
          · exact q i v hi
        · rename_i k0
          split at e
          · rename_i r0 e0
            cases e
            simp only[lk]at hi ⊢
            split at hi
            · rename_i e3
              have:=yR e3
              subst this
              cases hi
              exact⟨hb,some k0,sz,by simp,(hs _ _ e0).1⟩
            · exact q i v hi
          · cases e
      · cases e
theorem Q1r{σ':LS}{G:GW}{s:St}(H:σ.has s)(h:σ.gw G=some σ'):gwTo s σ':=by
 unfold LS.gw at h
 split at h
 .rename_i hk
  simp only[yD]at hk
  rw[rr_eq H hk.2]at h
  split at h
  .rename_i te e1
   split at h
   .rename_i tb e2
    split at h
    .rename_i tr e3
     cases h
     have H':=H.shs G.fz
     obtain⟨a1,a2⟩:=U1A H'.e e1
     obtain⟨b1,b2⟩:=Q1A H'.b e2
     have c:=V1K H'.r e3
     refine⟨G,hk.1,(U1A (te:=σ.te) (s:=s) H.e e1).1,(Q1A (tb:=σ.tb) (s:=s) H.b e2).1,fun t v hv=>?_,fun t g w v hv=>by(cases hv),fun k cs hc=>?_,fun k r hr=>?_,fun k hk=>?_⟩
     .obtain⟨h,q1,q2⟩:=a2 t v hv
      simp only[St.gw,St.gw0,q1,q2]
     .obtain⟨h,q1,q2⟩:=b2 k cs hc
      simp only[St.gw,St.gw0,q1,q2]
     .obtain⟨q0,o,sz,q1,q2⟩:=c k r hr
      simp only[St.gw,St.gw0,q0,q1]
      cases o with
      |none=>simp only at q2;simp[q2]
      |some k0=>simp only at q2;simp[q2]
     .simp only[St.gw,St.gw0]
      split
      .rename_i hs e
       exact absurd hk (W1n e2 e)
      .rfl
    .cases h
   .cases h
  .cases h
 .cases h
def Vg(P:Program)(R:Ex->St->Prop)(k:List It)(σ:LS):Prop:=∀s,gwTo s σ->W P R k s
theorem Vh_nx{k':List It}{σ':LS}(h:Vg P R k' σ')(G:GW)(ek:k=k')(e:σ.gw G=some σ'):Vh P R k σ:=fun s H=>ek ▸ h s (Q1r H e)
def isG:List It->Bool
 |.l (.gw _)::_=>true
 |_=>false
def gwX:List It->List It
 |.l (.gw x)::k=>.l x::k
 |_=>[]
theorem Vg_of{σ':LS}(e:isG k=true)(h:Vh P R (gwX k) σ'):Vg P R k σ':=by
 unfold isG at e
 split at e
 .rename_i x k'
  rintro s ⟨G,h1,h2,h3,h4⟩
  exact W_gw G h1 h2 h3 (h _ h4)
 .cases e
def sfx:Nat->List It->List It
 |_,[]=>[]
 |n,.l (.gw x)::k=>match n with
  |0=>.l (.gw x)::k
  |n+1=>sfx n k
 |n,_::k=>sfx n k
def rgl{α β γ:Type}(bd:α->Nat->β->(β->Option γ)->Option γ)(kk:β->Option γ):List α->Nat->β->Option γ
 |[],_,b=>kk b
 |x::xs,i,b=>bd x i b (rgl bd kk xs (i+1))
def whl{β γ:Type}(bd:β->(β->Option γ)->Option γ):Nat->β->Option γ
 |0,_=>none
 |n+1,b=>bd b (whl bd n)
def isLp:List It->Bool
 |.l (.loop (.gw _))::_=>true
 |_=>false
def lpX:List It->L
 |.l (.loop (.gw x))::_=>x
 |_=>.skip
def lpK:List It->List It
 |_::k=>k
 |[]=>[]
theorem J1E{α β γ:Type}{bd:α->Nat->β->(β->Option γ)->Option γ}{kk:β->Option γ}{l:List α}{i:Nat}{b:β}{x:α}(h:l[i]?=some x):rgl bd kk (l.drop i) i b=bd x i b (rgl bd kk (l.drop (i+1)) (i+1)):=by
 obtain⟨hi,rfl⟩:=yB h
 rw[List.drop_eq_getElem_cons hi,rgl]
theorem X23{α β γ:Type}{bd:α->Nat->β->(β->Option γ)->Option γ}{kk:β->Option γ}{l:List α}{b0:β}{r:γ}(σh:Nat->β->LS)(G:GW)(hl:isLp k=true)(h0:σ.gw G=some (σh 0 b0))(H:rgl bd kk l 0 b0=some r)
  (hs:∀i x b I m,l[i]?=some x->i<l.length->bd x i b (rgl bd kk (l.drop (i+1)) (i+1))=some r ->
   (∀b',rgl bd kk (l.drop (i+1)) (i+1) b'=some r->Vg P R (.lp I m::lpK k) (σh (i+1) b'))->Vh P R (.l (lpX k)::.lp I m::lpK k) (σh i b))
  (hd:∀b I m,kk b=some r->Vh P R (.l (lpX k)::.lp I m::lpK k) (σh l.length b)):Vh P R k σ:=by
 unfold isLp at hl
 split at hl
 .rename_i x k'
  intro s Hs
  refine Q1D (fun m s=>∃i b,m=l.length-i/\i<=l.length/\rgl bd kk (l.drop i) i b=some r/\gwTo s (σh i b)) l.length ⟨0,b0,by simp,by simp,by simpa using H,Q1r Hs h0⟩ ?_
  rintro m s' ⟨i,b,rfl,hi,hr,G',q1,q2,q3,q4⟩
  refine W_gw G' q1 q2 q3 ?_
  by_cases hlt:i<l.length
  .have hx:l[i]?=some l[i]:=yA hlt
   refine hs i _ b _ _ hx hlt ((J1E hx).symm.trans hr) (fun b' hr' s2 hg=>?_) _ q4
   exact⟨l.length-(i+1),by omega,i+1,b',rfl,hlt,hr',hg⟩
  .have:i=l.length:=by omega
   subst this
   rw[List.drop_length,rgl]at hr
   exact hd b _ _ hr _ q4
 .cases hl
theorem Y23{β γ:Type}{bd:β->(β->Option γ)->Option γ}{b0:β}{n:Nat}{r:γ}(σh:β->LS)(G:GW)(hl:isLp k=true)(h0:σ.gw G=some (σh b0))(H:whl bd n b0=some r)
  (hs:∀n b I m,bd b (whl bd n)=some r->(∀b',whl bd n b'=some r->Vg P R (.lp I m::lpK k) (σh b'))->Vh P R (.l (lpX k)::.lp I m::lpK k) (σh b)):Vh P R k σ:=by
 unfold isLp at hl
 split at hl
 .rename_i x k'
  intro s Hs
  refine Q1D (fun m s=>∃b,whl bd m b=some r/\gwTo s (σh b)) n ⟨b0,H,Q1r Hs h0⟩ ?_
  rintro m s' ⟨b,hr,G',q1,q2,q3,q4⟩
  refine W_gw G' q1 q2 q3 ?_
  cases m with
  |zero=>simp[whl]at hr
  |succ m=>exact hs m b _ _ hr (fun b' hr' s2 hg=>⟨m,by omega,b',hr',hg⟩) _ q4
 .cases hl
def rvL(σ:LS):List Rv->Option (List AV)
 |[]=>some []
 |r::rs=>match(match r with | .t i=>lk σ.te i | .c i n ag=>match lk σ.te i with|some p=>ldv σ p n ag|none=>none)with
  |some v=>match rvL σ rs with
   |some l=>some (v::l)
   |none=>none
  |none=>none
def nth{α:Type}:List α->Nat->Option α
 |[],_=>none
 |a::l,n=>match n with
  |0=>some a
  |n+1=>nth l n
def mr1(ks:List (Option Nat)):AV->AV->AV
 |.nl,.sref i=>match nth ks i with
  |some none=>.sref i
  |_=>.nl
 |.nl,.sl t sz es=>match es with
  |[]=>match t.isOwn with
   |true=>.nl
   |false=>.sl t sz []
  |_=>.nl
 |a,_=>a
def mr1L(ks:List (Option Nat)):List AV->List AV->List AV
 |a::l,b::m=>mr1 ks a b::mr1L ks l m
 |l,_=>l
def mrA(ks:List (Option Nat)):AV->AV->AV
 |.agg cs,.agg ds=>.agg (mr1L ks cs ds)
 |a,b=>mr1 ks a b
def mrAL(ks:List (Option Nat)):List AV->List AV->List AV
 |a::l,b::m=>mrA ks a b::mrAL ks l m
 |l,_=>l
def mrW(ks:List (Option Nat)):AV->AV->AV
 |.tup cs,.tup ds=>.tup (mrAL ks cs ds)
 |a,b=>mrA ks a b
structure NW where
 es:List AV
 h:NwL es
mutual
def nwC:AV->Option (List (List AV))
 |.sl t _ es=>match t with
  |.nw=>some [es]
  |.rd=>match es with
   |[]=>some []
   |_=>none
  |.own _=>none
 |.agg cs=>nwCL cs
 |.tup cs=>nwCL cs
 |.fn _ cs=>nwCL cs
 |.od _ _ _=>none
 |.op _ _ _=>none
 |.ept _ _=>none
 |.eot _ _=>none
 |_=>some []
def nwCL:List AV->Option (List (List AV))
 |[]=>some []
 |a::l=>match nwC a with
  |some x=>match nwCL l with
   |some y=>some (x++y)
   |none=>none
  |none=>none
end
def rwC(σ:LS):List (Option Nat)->List Row->Option (List Row×List (List AV))
 |[],[]=>some ([],[])
 |some k::ks,_::rs=>match lk σ.tr k with
  |some r=>match r.sh with
   |false=>match rwC σ ks rs with
    |some (a,b)=>some (⟨r.sz,r.es,false⟩::a,r.es::b)
    |none=>none
   |true=>none
  |none=>none
 |none::ks,r::rs=>match rwC σ ks rs with
  |some (a,b)=>some (⟨r.sz,[],r.sh⟩::a,b)
  |none=>none
 |_,_=>none
def retE(rs:List Rv)(ks:List (Option Nat))(σ:LS)(res:AV)(rows:List Row):Option (AV×List Row×List (List AV)):=match rvL σ rs with
 |some l=>match nwC (W0L l)with
  |some x=>match rwC σ ks rows with
   |some (a,b)=>match UW (L0v ks)with
    |true=>some (mrW ks ((W0L l).out ks) res,a,x++b)
    |false=>none
   |none=>none
  |none=>none
 |none=>none
theorem L1u{s:St}(H:σ.has s):∀{rs:List Rv} {l:List AV},rvL σ rs=some l->s.rvs rs=some l
 |[],l,h=>by cases h;rfl
 |r::rs,l,h=>by
  simp only[rvL]at h
  split at h
  .rename_i v e
   split at h
   .rename_i l' e2
    cases h
    have:s.rv1 r=some v:=by
     cases r with
     |t i=>simp only at e;simp only[St.rv1,H.e _ _ e]
     |c i n ag =>
      simp only at e
      split at e
      .rename_i p ep
       simp only[St.rv1,H.e _ _ ep]
       unfold ldv at e
       split at e
       .exact e
       .exact e
       .split at e
        .rename_i cs e2;simp only[St.ld,H.b _ _ e2];exact e
        .cases e
       .cases e
      .cases e
    simp only[St.rvs,this,L1u H e2]
   .cases h
  .cases h
theorem U1J{α:Type}:∀{l:List α} {i:Nat} {x:α},nth l i=some x->l[i]?=some x
 |[],_,_,h=>by cases h
 |a::l,0,x,h=>by simpa[nth]using h
 |a::l,i+1,x,h=>by simpa using U1J (l:=l) (i:=i) h
theorem M1J{ks:List (Option Nat)}{a b:AV}(h:mr1 ks a b=b):AV.wk1 (fun i=>ks[i]?=some none) a b:=by
 unfold mr1 at h
 split at h
 .split at h
  .rename_i e;exact U1J e
  .cases h
 .split at h
  .split at h
   .cases h
   .rename_i ht;exact⟨ht,rfl⟩
  .cases h
 .subst h;simp
theorem U1y{ks:List (Option Nat)}:∀{l m:List AV},mr1L ks l m=m->wkLs (AV.wk1 fun i=>ks[i]?=some none) l m
 |[],m,h=>by simp only[mr1L]at h;subst h;trivial
 |a::l,[],h=>by simp[mr1L]at h
 |a::l,b::m,h=>by
  simp only[mr1L,yW]at h
  exact⟨M1J h.1,U1y h.2⟩
theorem O1J{ks:List (Option Nat)}{a b:AV}(h:mrA ks a b=b):AV.wkA (fun i=>ks[i]?=some none) a b:=by
 unfold mrA at h
 split at h
 .simp only[AV.agg.injEq]at h;exact U1y h
 .rename_i hne
  have:=M1J h
  cases a<;>cases b<;>first|exact this|exact(hne _ _ rfl rfl).elim
theorem V1y{ks:List (Option Nat)}:∀{l m:List AV},mrAL ks l m=m->wkLs (AV.wkA fun i=>ks[i]?=some none) l m
 |[],m,h=>by simp only[mrAL]at h;subst h;trivial
 |a::l,[],h=>by simp[mrAL]at h
 |a::l,b::m,h=>by
  simp only[mrAL,yW]at h
  exact⟨O1J h.1,V1y h.2⟩
theorem M1Z{ks:List (Option Nat)}{a b:AV}(h:mrW ks a b=b):AV.wk (fun i=>ks[i]?=some none) a b:=by
 unfold mrW at h
 split at h
 .simp only[AV.tup.injEq]at h;exact V1y h
 .rename_i hne
  have:=O1J h
  cases a<;>cases b<;>first|exact this|exact(hne _ _ rfl rfl).elim
mutual
theorem V1J:∀{a:AV} {x:List (List AV)},nwC a=some x->(∀es∈x,NwL es)->Nw a
 |.sl t sz es,x,h,hx=>by
  simp only[nwC]at h
  split at h
  .cases h;exact .inr ⟨rfl,hx _ (yJ ..)⟩
  .split at h
   .exact .inl ⟨rfl,rfl⟩
   .cases h
  .cases h
 |.agg cs,x,h,hx | .tup cs,x,h,hx | .fn _ cs,x,h,hx=>by rw[Nw];exact L1w (by simpa only[nwC]using h) hx
 |.ept _ _,x,h,_ | .eot _ _,x,h,_ | .od _ _ _,x,h,_ | .op _ _ _,x,h,_=>by simp[nwC]at h
 |.bool _,_,_,_ | .int _ _,_,_,_ | .str _,_,_,_ | .nl,_,_,_ | .el,_,_,_ | .sref _,_,_,_ | .ptr _ _,_,_,_ | .rpt _ _ _,_,_,_ | .und,_,_,_ | .bad,_,_,_=>by simp[Nw]
theorem L1w:∀{l:List AV} {x:List (List AV)},nwCL l=some x->(∀es∈x,NwL es)->NwL l
 |[],_,_,_=>trivial
 |a::l,x,h,hx=>by
  simp only[nwCL]at h
  split at h
  .rename_i y e
   split at h
   .rename_i z e2
    cases h
    exact⟨V1J e fun es he=>hx es (List.mem_append.2 (.inl he)),L1w e2 fun es he=>hx es (List.mem_append.2 (.inr he))⟩
   .cases h
  .cases h
end
theorem M1u{s:St}(H:σ.has s):∀{ks:List (Option Nat)} {rows:List Row} {b:List (List AV)},rwC σ ks rows=some (rows,b)->(∀es∈b,NwL es)->M0j s ks rows
 |[],[],_,_,_=>trivial
 |some k::ks,r::rs,b,h,hb=>by
  simp only[rwC]at h
  split at h
  .rename_i r0 e
   split at h
   .rename_i hsh
    split at h
    .rename_i a b' e2
     simp only[yI,Prod.mk.injEq,yW]at h
     obtain⟨⟨h1,rfl⟩,rfl⟩:=h
     have hr:r0=r:=by rw[← h1];cases r0;simp only at hsh;subst hsh;rfl
     subst hr
     exact⟨(H.r _ _ e).1,hsh,hb _ (yJ ..),M1u H e2 fun es he=>hb es (yH _ he)⟩
    .cases h
   .cases h
  .cases h
 |none::ks,r::rs,b,h,hb=>by
  simp only[rwC]at h
  split at h
  .rename_i a b' e2
   simp only[yI,Prod.mk.injEq,yW]at h
   obtain⟨⟨h1,rfl⟩,rfl⟩:=h
   exact⟨by rw[← h1],M1u H e2 hb⟩
  .cases h
 |[],_::_,_,h,_=>by simp[rwC]at h
 |some _::_,[],_,h,_=>by simp[rwC]at h
 |none::_,[],_,h,_=>by simp[rwC]at h
def O20:List It->Option Ex
 |[]=>some .nrm
 |.l .ret::_=>some .ret
 |_=>none
theorem X0i{s:St}:∀{k:List It},denK P R k .ret s=R .ret s
 |[]=>rfl
 |.l _::k=>X0i (k:=k)
 |.mk _::k=>X0i (k:=k)
 |.lp _ _::k=>X0i (k:=k)
 |.jn _::k=>X0i (k:=k)
theorem V23{rs:List Rv}{res:AV}{rows:List Row}(ks:List (Option Nat))(nws:List NW)(he:(O20 k).isSome=true)(e:retE rs ks σ res rows=some (res,rows,nws.map NW.es)):Vh P (post rs res rows) k σ:=by
 intro s H
 have main:∃l,s.rvs rs=some l/\AV.wk (fun i=>ks[i]?=some none) ((W0L l).out ks) res/\Nw (W0L l)/\(L0v ks).Nodup/\M0j s ks rows:=by
  unfold retE at e
  split at e
  .rename_i l el
   split at e
   .rename_i x ex
    split at e
    .rename_i a b eb
     split at e
     .rename_i hn
      simp only[yI,Prod.mk.injEq]at e
      obtain⟨e1,rfl,e3⟩:=e
      have hall:∀es∈x++b,NwL es:=by
       rw[e3];intro es hes
       obtain⟨q,_,rfl⟩:=yY hes
       exact q.h
      exact⟨l,L1u H el,M1Z e1,V1J ex (fun es he=>hall es (List.mem_append.2 (.inl he))),Uq hn,M1u H eb fun es he=>hall es (List.mem_append.2 (.inr he))⟩
     .cases e
    .cases e
   .cases e
  .cases e
 obtain⟨l,h1,h2,h3,h4,h5⟩:=main
 unfold O20 at he
 split at he
 .exact⟨trivial,l,ks,h1,h2,h3,h4,h5⟩
 .rw[M22,X0i]
  exact⟨trivial,l,ks,h1,h2,h3,h4,h5⟩
 .cases he
def num0:Nat->List AV->List (Nat×AV)
 |_,[]=>[]
 |i,a::l=>(i,a)::num0 (i+1) l
theorem Q1h:∀{l:List AV} {i t:Nat} {v:AV},lk (num0 i l) t=some v->i<=t/\l[t-i]?=some v
 |[],_,_,_,h=>by cases h
 |a::l,i,t,v,h=>by
  simp only[num0]at h
  rcases U0c h with⟨rfl,rfl⟩|h
  .simp
  .obtain⟨h1,h2⟩:=Q1h h
   refine⟨by omega,?_⟩
   rw[show t-i=(t-(i+1))+1 by omega,List.getElem?_cons_succ];exact h2
def LS.arg(args:List AV):LS:=⟨num0 0 args,[],[],[]⟩
theorem LS.has_arg(args:List AV):(LS.arg args).has (st0 args):=by
 refine⟨fun t v h=>?_,fun _ _ _ _ h=>by(cases h),fun _ _ h=>by(cases h),fun _ _ h=>by(cases h),fun _ _=>rfl⟩
 obtain⟨_,h2⟩:=Q1h h
 simp only[Nat.sub_zero]at h2
 simp[st0,List.getD_eq_getElem?_getD,h2]
theorem snd_v{f:FuncId}{l:L}{rs:List Rv}{args:List AV}{res:AV}{rows:List Row}{n:Nat}(hc:YF P f n l rs=true)(hn:args.length=n)(hrd:rdtL args=args)
  (h:Vh P (post rs res rows) [.l l] (LS.arg args)):Snd P f args res rows:=M1X hc hn hrd (J1R (h _ (LS.has_arg args)))
theorem bT{α:Type}{c:Bool}{a b r:α}(h:c=true)(H:(bif c then a else b)=r):a=r:=by subst h;exact H
theorem bF{α:Type}{c:Bool}{a b r:α}(h:c=false)(H:(bif c then a else b)=r):b=r:=by subst h;exact H
theorem bB{α β:Type}{o:Option α}{f:α->Option β}{r:β}(H:o.bind f=some r):∃y,o=some y/\f y=some r:=Option.bind_eq_some_iff.1 H
end
end
section
section
variable{P:Program}{R:Ex->St->Prop}{k:List It}{σ:LS}
def HE.u(k:Nat)(h:Hint P (allG [])):HE P:=⟨k,[],some h,none⟩
def HE.c{f:Nat}{as:List AV}{res:AV}{rows:List Row}(k:Nat)(h:Snd P f as res rows):HE P:=.u k (.call f as as res rows (AEs.refl as) fun _=>h)
def HE.g(k:Nat)(gs:List (Bool×Bool))(h:Hint P (allG gs)):HE P:=⟨k,gs,some h,none⟩
def HE.w(k:Nat){a b:AV}(h:a=b):HE P:=⟨k,[],none,some ⟨a,b,fun _=>h⟩⟩
def ovH:List (Nat×Hn)->Nat->Hn
 |l,t=>match lk l t with
  |some h=>h
  |none=>.d
def ovB:List (Nat×List Hn)->Nat->List Hn
 |l,t=>match lk l t with
  |some h=>h
  |none=>[]
def ovR:List (Nat×Option Nat×Nat)->Nat->Option Nat×Nat
 |l,t=>match lk l t with
  |some h=>h
  |none=>(some t,0)
def gD(σ':LS)(te:List (Nat×Hn))(tb:List (Nat×List Hn))(tr:List (Nat×Option Nat×Nat))(fz:List Nat):GW where
 te:=σ'.te.map fun p=>(p.1,ovH te p.1)
 tb:=σ'.tb.map fun p=>(p.1,ovB tb p.1)
 tr:=σ'.tr.map fun p=>(p.1,ovR tr p.1)
 fz:=fz
structure Wh(P:Program)(R:Ex->St->Prop)(k:List It)(σ:LS):Prop where
 h:Vh P R k σ
structure Wg(P:Program)(R:Ex->St->Prop)(k:List It)(σ:LS):Prop where
 h:Vg P R k σ
theorem M1H(n:Nat)(hs:List (HE P))(e:goE n k σ hs=some (hs.map HE.exp,hs.flatMap HE.ns))(h:W0i (hs.flatMap HE.ns)->Wh P R (goK n k σ hs) (goS n k σ hs)):Wh P R k σ:=⟨Vh_go n hs e fun q=>(h q).h⟩
theorem U22{b:Bool}(hb:b=true)(e:cnB k σ=some b)(h1:Wh P R (cnT k) σ):Wh P R k σ:=⟨U23 hb e h1.h⟩
theorem W22{b:Bool}(hb:b=false)(e:cnB k σ=some b)(h1:Wh P R (cnF k) σ):Wh P R k σ:=⟨Q23 hb e h1.h⟩
theorem U0o{k':List It}{σ':LS}(h:Wg P R k' σ')(te:List (Nat×Hn))(tb:List (Nat×List Hn))(tr:List (Nat×Option Nat×Nat))(fz:List Nat)(ek:k=k')(e:σ.gw (gD σ' te tb tr fz)=some σ'):Wh P R k σ:=⟨Vh_nx h.h _ ek e⟩
theorem Q22{γ:Type}{b:Bool}{x y:Option γ}{r:γ}(H:(bif b then x else y)=some r)(e:cnB k σ=some b)(h1:x=some r->Wh P R (cnT k) σ)(h2:y=some r->Wh P R (cnF k) σ):Wh P R k σ :=
  ⟨Z1T e (fun q=>(h1 (bT q H)).h) fun q=>(h2 (bF q H)).h⟩
theorem O0{γ:Type}{b:Bool}{x y:Option γ}{r:γ}(H:(bif b then x else y)=some r)(h1:x=some r->Wh P R (cnT k) σ)(h2:y=some r->Wh P R (cnF k) σ)(e:cnB k σ=some b:=by kernel_rfl):Wh P R k σ:=Q22 H e h1 h2
theorem Wh_o(h:W0i []->Wh P R (goK 99 k σ ([]:List (HE P))) (goS 99 k σ ([]:List (HE P))))(e:goE 99 k σ ([]:List (HE P))=some ([],[]):=by kernel_rfl):Wh P R k σ:=M1H 99 [] e h
theorem Q6{ι γ:Type}{r:γ}(F:ι->Option γ)(n:Nat)(σJ:ι->LS)(h1:isG (sfx n k)=true)(h2:∀v,F v=some r->Wh P R (gwX (sfx n k)) (σJ v))(h:(∀v,F v=some r->Wg P R (sfx n k) (σJ v))->Wh P R k σ):Wh P R k σ :=
 h fun v H=>⟨Vg_of h1 (h2 v H).h⟩
theorem X08{α β γ:Type}{bd:α->Nat->β->(β->Option γ)->Option γ}{kk:β->Option γ}{l:List α}{b0:β}{r:γ}(σh:Nat->β->LS)(te:List (Nat×Hn))(tb:List (Nat×List Hn))(tr:List (Nat×Option Nat×Nat))(fz:List Nat)
    (hl:isLp k=true) (h0:σ.gw (gD (σh 0 b0) te tb tr fz)=some (σh 0 b0)) (H:rgl bd kk l 0 b0=some r)
    (hs:∀i x b I m (nx:β->Option γ),l[i]?=some x->i<l.length->bd x i b nx=some r ->
      (∀b',nx b'=some r->Wg P R (.lp I m::lpK k) (σh (i+1) b'))->Wh P R (.l (lpX k)::.lp I m::lpK k) (σh i b))
    (hd:∀b I m,kk b=some r->Wh P R (.l (lpX k)::.lp I m::lpK k) (σh l.length b)):Wh P R k σ :=
  ⟨X23 σh _ hl h0 H (fun i x b I m q1 q2 q3 q4=>(hs i x b I m _ q1 q2 q3 fun b' q=>⟨q4 b' q⟩).h) fun b I m q=>(hd b I m q).h⟩
theorem O1o{β γ:Type}{bd:β->(β->Option γ)->Option γ}{b0:β}{n:Nat}{r:γ}(σh:β->LS)(te:List (Nat×Hn))(tb:List (Nat×List Hn))(tr:List (Nat×Option Nat×Nat))(fz:List Nat)
    (hl:isLp k=true) (h0:σ.gw (gD (σh b0) te tb tr fz)=some (σh b0)) (H:whl bd n b0=some r)
    (hs:∀b I m (nx:β->Option γ),bd b nx=some r->(∀b',nx b'=some r->Wg P R (.lp I m::lpK k) (σh b'))->Wh P R (.l (lpX k)::.lp I m::lpK k) (σh b)):Wh P R k σ :=
  ⟨Y23 σh _ hl h0 H fun _ b I m q1 q2=>(hs b I m _ q1 fun b' q=>⟨q2 b' q⟩).h⟩
theorem X1K{k':List It}{σ':LS}{s:St}(h:gwTo s σ')(hw:Vh P R (.l .ret::k') σ'):W P R (.l (.gw .ret)::k') s:=by
 obtain⟨G,h1,h2,h3,h4⟩:=h
 exact W_gw G h1 h2 h3 (hw _ h4)
def fzS(σ:LS)(te:List (Nat×Hn))(tb:List (Nat×List Hn))(fz:List Nat):LS:=match σ.gw (gD σ te tb [] fz)with
 |some σ'=>σ'
 |none=>σ
def fzE(k:List It)(σ:LS)(te:List (Nat×Hn))(tb:List (Nat×List Hn))(fz:List Nat):Bool:=match k with
 |.l (.gw _)::_=>match σ.gw (gD σ te tb [] fz)with
  |some _=>true
  |none=>false
 |_=>false
theorem Wh_fz(te:List (Nat×Hn))(tb:List (Nat×List Hn))(fz:List Nat)(e:fzE k σ te tb fz=true)(h:Wh P R (gwX k) (fzS σ te tb fz)):Wh P R k σ:=by
 unfold fzE at e
 split at e
 .rename_i x k'
  split at e
  .rename_i σ' e2
   refine⟨fun s H=>?_⟩
   obtain⟨G,h1,h2,h3,h4⟩:=Q1r H e2
   simp only[fzS,e2]at h
   exact W_gw G h1 h2 h3 (h.h _ h4)
  .cases e
 .cases e
def retG(k:List It)(rs:List Rv)(ks:List (Option Nat))(σ:LS)(G:GW)(res:AV)(rows:List Row):Option (AV×List Row×List (List AV)):=match k with
 |.l (.gw .ret)::_=>match σ.gw G with
  |some σ'=>retE rs ks σ' res rows
  |none=>none
 |_=>none
theorem Z1M{rs:List Rv}{res:AV}{rows:List Row}(te:List (Nat×Hn))(tb:List (Nat×List Hn))(tr:List (Nat×Option Nat×Nat))(fz:List Nat)(ks:List (Option Nat))(nws:List NW)
  (e:retG k rs ks σ ⟨te,tb,tr,fz⟩ res rows=some (res,rows,nws.map NW.es)):Wh P (post rs res rows) k σ:=by
 unfold retG at e
 split at e
 .rename_i k'
  split at e
  .rename_i σ' eg
   exact⟨fun s H=>X1K (Q1r H eg) (V23 (k:=.l .ret::k') ks nws rfl e)⟩
  .cases e
 .cases e
theorem snd_g{f:FuncId}{l:L}{rs:List Rv}{args:List AV}{res:AV}{rows:List Row}{n:Nat}(hc:YF P f n l rs=true)(hn:args.length=n)(hrd:rdtL args=args)
  (h:Wh P (post rs res rows) [.l l] (LS.arg args)):Snd P f args res rows:=snd_v hc hn hrd h.h
theorem lm{α:Type}(xs:List α)(e:α->AV):(xs.map e).length=xs.length:=List.length_map ..
theorem gm{α:Type}(e:α->AV){xs:List α}{j:Nat}{x:α}(h:xs[j]?=some x):(xs.map e)[j]?=some (e x):=by rw[yF,h];rfl
theorem ltT{i n:Nat}(h:i<n):decide ((i:Int)<(n:Int))=true:=by simpa using h
theorem ltF(n:Nat):decide ((n:Int)<(n:Int))=false:=by simp
theorem wi{i n:Nat}(k:IntKind)(hk:k=.i64)(h:i<n)(hn:n<=9223372036854775807):AV.int k (k.wrap ((i:Int)+1))=AV.int k ((i+1:Nat):Int):=by
 subst hk;rw[O19 h hn]
def lenQ{α:Type}(xs:List α):Option Unit:=if xs.length<=9223372036854775807 then some ()else none
theorem OT{α:Type}{xs:List α}{u:Unit}(h:lenQ xs=some u):xs.length<=9223372036854775807:=by
 unfold lenQ at h
 split at h
 .assumption
 .cases h
def b2sQ(xs:List Int):Option (List UInt8):=if xs.all (fun n=>decide (0<=n)&&decide (n<256))=true then some (xs.map fun n=>UInt8.ofNat n.toNat)else none
theorem Q1o{e:Int->AV}{xs:List Int}{l:List UInt8}(h:b2sQ xs=some l)(he:∀n,e n=.int .u8 n:=by intros;rfl):xs.map e=l.map fun b=>AV.int .u8 b.toNat:=by
 unfold b2sQ at h
 split at h
 .rename_i hx
  cases h
  rw[List.map_map]
  refine List.map_congr_left fun n hn=>?_
  have:=List.all_eq_true.1 hx n hn
  simp only[yD,yO]at this
  rw[he]
  simp only[Function.comp]
  congr 1
  rw[UInt8.toNat_ofNat']
  omega
 .cases h
theorem O8{α:Type}{c:Bool}{a b:α}:(bif c then some a else some b)=some (bif c then a else b):=by cases c<;>rfl
theorem AEs.of{xs as':List AV}(h:rdtL xs=rdtL as'):AEs xs as':=by
 have hl:xs.length=as'.length:=by
  have:=congrArg List.length h
  simpa[X3]using this
 refine⟨hl,fun w S i a a' v h1 h2 hr=>?_⟩
 have e:a.rdt=a'.rdt:=by
  have:=congrArg (fun l:List AV=>l[i]?) h
  simpa[X3,yF,h1,h2]using this
 have:=hr.rdt (N':=TT) (fun _ _=>trivial)
 rw[e]at this
 exact Rd.unrdt _ this
end
theorem sI{α:Type}{a b:α}(h:some a=some b):a=b:=Option.some.inj h
theorem wE{P:Program}{k:List It}{σ:LS}{rs:List Rv}{res:AV}{rows:List Row}(te:List (Nat×Hn))(e:retG k rs [] σ ⟨te,[],[],[]⟩ res rows=some (res,rows,([]:List NW).map NW.es):=by kernel_rfl):Wh P (post rs res rows) k σ:=Z1M te [] [] [] [] [] e
theorem wN{P:Program}{k:List It}{σ:LS}{rs:List Rv}{res:AV}{rows:List Row}(te:List (Nat×Hn))(tb:List (Nat×List Hn))(tr:List (Nat×Option Nat×Nat))(fz:List Nat)(ks:List (Option Nat))(nws:List NW)(e:retG k rs ks σ ⟨te,tb,tr,fz⟩ res rows=some (res,rows,nws.map NW.es):=by kernel_rfl):Wh P (post rs res rows) k σ:=Z1M te tb tr fz ks nws e
theorem wR{P:Program}{R:Ex → St → Prop}{k:List It}{σ:LS}{α β γ:Type}{bd:α → Nat → β → (β → Option γ) → Option γ}{kk:β → Option γ}{l:List α}{b0:β}{r:γ}(σh:Nat → β → LS)(H:rgl bd kk l 0 b0=some r)
 (hs:∀i x b I m (nx:β → Option γ),l[i]?=some x → i<l.length → bd x i b nx=some r → (∀b',nx b'=some r → Wg P R (.lp I m::lpK k) (σh (i+1) b')) → Wh P R (.l (lpX k)::.lp I m::lpK k) (σh i b))
 (hd:∀b I m,kk b=some r → Wh P R (.l (lpX k)::.lp I m::lpK k) (σh l.length b)) (hl:isLp k=true:=by kernel_rfl) (h0:σ.gw (gD (σh 0 b0) [] [] [] [])=some (σh 0 b0):=by kernel_rfl):Wh P R k σ:=X08 σh [] [] [] [] hl h0 H hs hd
theorem wW{P:Program}{R:Ex → St → Prop}{k:List It}{σ:LS}{β γ:Type}{bd:β → (β → Option γ) → Option γ}{b0:β}{n:Nat}{r:γ}(σh:β → LS)(H:whl bd n b0=some r)
 (hs:∀b I m (nx:β → Option γ),bd b nx=some r → (∀b',nx b'=some r → Wg P R (.lp I m::lpK k) (σh b')) → Wh P R (.l (lpX k)::.lp I m::lpK k) (σh b)) (hl:isLp k=true:=by kernel_rfl) (h0:σ.gw (gD (σh b0) [] [] [] [])=some (σh b0):=by kernel_rfl):Wh P R k σ:=O1o σh [] [] [] [] hl h0 H hs
theorem wT{P:Program}{R:Ex → St → Prop}{k:List It}{σ:LS}{k':List It}{σ':LS}(h:Wg P R k' σ')(ek:k=k':=by kernel_rfl)(e:σ.gw (gD σ' [] [] [] [])=some σ':=by kernel_rfl):Wh P R k σ:=U0o h [] [] [] [] ek e
theorem wU{P:Program}{R:Ex → St → Prop}{k:List It}{σ:LS}{k':List It}{σ':LS}(h:Wg P R k' σ')(te:List (Nat×Hn))(tb:List (Nat×List Hn))(tr:List (Nat×Option Nat×Nat))(fz:List Nat)(ek:k=k':=by kernel_rfl)(e:σ.gw (gD σ' te tb tr fz)=some σ':=by kernel_rfl):Wh P R k σ:=U0o h te tb tr fz ek e
theorem wG{P:Program}{R:Ex → St → Prop}{k:List It}{σ:LS}(hs:List (HE P))(h:W0i (hs.flatMap HE.ns) → Wh P R (goK 99 k σ hs) (goS 99 k σ hs))(e:goE 99 k σ hs=some (hs.map HE.exp,hs.flatMap HE.ns):=by kernel_rfl):Wh P R k σ:=M1H 99 hs e h
theorem wH{P:Program}{R:Ex → St → Prop}{k:List It}{σ:LS}(hs:List (HE P))(h:Wh P R (goK 99 k σ hs) (goS 99 k σ hs))(e:goE 99 k σ hs=some (hs.map HE.exp,hs.flatMap HE.ns):=by kernel_rfl):Wh P R k σ:=M1H 99 hs e fun _=>h
theorem wP{P:Program}{R:Ex → St → Prop}{k:List It}{σ:LS}(h:Wh P R (goK 99 k σ ([]:List (HE P))) (goS 99 k σ ([]:List (HE P))))(e:goE 99 k σ ([]:List (HE P))=some ([],[]):=by kernel_rfl):Wh P R k σ:=M1H 99 [] e fun _=>h
theorem wt{P:Program}{R:Ex → St → Prop}{k:List It}{σ:LS}{b:Bool}(hb:b=true)(h1:Wh P R (cnT k) σ)(e:cnB k σ=some b:=by kernel_rfl):Wh P R k σ:=U22 hb e h1
theorem wf{P:Program}{R:Ex → St → Prop}{k:List It}{σ:LS}{b:Bool}(hb:b=false)(h1:Wh P R (cnF k) σ)(e:cnB k σ=some b:=by kernel_rfl):Wh P R k σ:=W22 hb e h1
theorem wS{P:Program}{f:FuncId}{args:List AV}{res:AV}{rows:List Row}(l:L)(rs:List Rv)(h:Wh P (post rs res rows) [.l l] (LS.arg args))(hc:YF P f args.length l rs=true:=by kernel_rfl)(hrd:rdtL args=args:=by simp):Snd P f args res rows:=snd_g hc rfl hrd h
def sR(l:List LOp)(x:L):L:=.seq (.reg l) x
def gR:L:=.gw .ret
def mV(d x:Nat):LOp:=.mv d (.t x)
def lD(d x n:Nat)(b:Bool):LOp:=.ld d (.t x) n b
def lF(d x n:Nat):LOp:=.ld d (.t x) n false
def lT(d x n:Nat):LOp:=.ld d (.t x) n true
def gF(d:Nat)(o:LOp):LOp:=.g d false o
def gT(d:Nat)(o:LOp):LOp:=.g d true o
instance(n:Nat):OfNat X n:=⟨.t n⟩
abbrev iV(n:Int):AV:=.int .i64 n
abbrev rV(n:Nat)(l:List AV):AV:=.sl .rd n l
abbrev nV(n:Nat)(l:List AV):AV:=.sl .nw n l
def fA(d x n:Nat):LOp:=.fa d (.t x) n
def iA(d x y n:Nat):LOp:=.ia d (.t x) (.t y) n
def bI(d:Nat)(o:BinOp)(x y:Nat):LOp:=.bi d o (.t x) (.t y)
def kI(n:Int):X:=.c (.int .i64 n)
def tL(l:List Nat):List X:=l.map .t
def cQ(d f:Nat)(l:List Nat):LOp:=.cq d f (tL l)
def rE(d:Nat)(x:X):L:=.reg [.mv d x]
def eX(d x i:Nat):LOp:=.ex d (.t x) i
def cB(n:Bool):X:=.c (.bool n)
end
section
def updE(σ:LS):Nat->List (Nat×List AV)->List Bool->Option (List (Option (List AV)))
 |_,[],[]=>some []
 |i,(sz,_)::l,u::us=>match u with
  |false=>match updE σ (i+1) l us with
   |some r=>some (none::r)
   |none=>none
  |true=>match lk σ.tr (1000000000+i)with
   |some r=>match r.sh with
    |false=>match Nat.beq r.sz sz with
     |true=>match updE σ (i+1) l us with
      |some q=>some (some r.es::q)
      |none=>none
     |false=>none
    |true=>none
   |none=>none
 |_,_,_=>none
def boxE(σ:LS)(fb fr:Nat->Option Nat):Nat->List (List AV)->Option (List (List AV))
 |_,[]=>some []
 |k,b::bs=>match lk σ.tb k with
  |some cs=>match Nat.beq cs.length b.length with
   |true=>match boxE σ fb fr (k+1) bs with
    |some l=>some (mpL fb fr cs::l)
    |none=>none
   |false=>none
  |none=>none
def Z1k:List Nat->Bool
 |[]=>true
 |k::ks=>Nat.blt k 1000000000&&Z1k ks
def retC(rs:List Rv)(bin:List (List AV))(rin:List (Nat×List AV))(ud:List Bool)(ks:List Nat)(σ:LS):Option (AV×List (List AV)×List (Option (List AV))×List (Nat×List AV)):=match rvL σ rs with
 |some l=>match updE σ 0 rin ud with
  |some upd=>match boxE σ (cob bin.length) (cor upd ks rin.length) 2000000000 bin with
   |some bout=>match grw σ ks with
    |some new=>match UW ks&&Z1k ks with
     |true=>some ((W0L l).mp (cob bin.length) (cor upd ks rin.length),bout,upd,new)
     |false=>none
    |none=>none
   |none=>none
  |none=>none
 |none=>none
def L1X(k:List It)(rs:List Rv)(bin:List (List AV))(rin:List (Nat×List AV))(ud:List Bool)(ks:List Nat)(σ:LS)(G:GW):Option (AV×List (List AV)×List (Option (List AV))×List (Nat×List AV)):=match k with
 |.l (.gw .ret)::_=>match σ.gw G with
  |some σ'=>retC rs bin rin ud ks σ'
  |none=>none
 |_=>none
section
variable{P:Program}{R:Ex->St->Prop}{k:List It}{σ:LS}{s:St}
theorem W1g(H:σ.has s){fx:List Bool}:∀{rin:List (Nat×List AV)} {us:List Bool} {i:Nat} {upd:List (Option (List AV))},(∀j,us.getD j true=fx.getD (i+j) true)->updE σ i rin us=some upd->updC s fx i (ownR rin) upd
  |[],[],i,upd,_,h=>by cases h;trivial
  | (sz,es)::l,u::us,i,upd,hf,h=>by
    have hf':∀j,us.getD j true=fx.getD (i+1+j) true:=fun j=>by
      have:=hf (j+1)
      rw[show i+(j+1)=i+1+j by omega]at this
      simpa using this
    simp only[updE]at h
    split at h
    · split at h
      · rename_i r e
        cases h
        show updC s fx (i+1) (ownR l) r
        exact W1g H hf' e
      · cases h
    · split at h
      · rename_i r er
        split at h
        · rename_i hsh
          split at h
          · rename_i hz
            split at h
            · rename_i q e
              cases h
              have h0:=hf 0
              simp only[List.getD_cons_zero,Nat.add_zero]at h0
              replace h0:=h0.symm
              have hz:=yR hz
              subst hz
              refine⟨⟨h0,?_,rfl⟩,W1g H hf' e⟩
              rw[(H.r _ _ er).1,← hsh]
            · cases h
          · cases h
        · cases h
      · cases h
  |[],_::_,_,_,_,h=>by simp[updE]at h
  |_::_,[],_,_,_,h=>by simp[updE]at h
theorem J1C(H:σ.has s){fb fr:Nat->Option Nat}:∀{bin:List (List AV)} {k:Nat} {bout:List (List AV)},boxE σ fb fr k bin=some bout->L1f s fb fr k bout/\bout.map List.length=bin.map List.length
 |[],k,bout,h=>by cases h;exact⟨trivial,rfl⟩
 |b::bs,k,bout,h=>by
  simp only[boxE]at h
  split at h
  .rename_i cs e
   split at h
   .rename_i hl
    have hl:=yR hl
    split at h
    .rename_i l e2
     cases h
     obtain⟨h1,h2⟩:=J1C H e2
     exact⟨⟨⟨cs,H.b k cs e,rfl⟩,h1⟩,by simp[h2,JC,hl]⟩
    .cases h
   .cases h
  .cases h
theorem Q1a:∀{ks:List Nat},Z1k ks=true->O0b ks
 |[],_=>trivial
 |k::ks,h=>by
  simp only[Z1k,yD]at h
  exact⟨by simpa[Nat.blt_eq]using h.1,Q1a h.2⟩
theorem Y1O{rs:List Rv}{bin:List (List AV)}{rin:List (Nat×List AV)}{ud:List Bool}{ks:List Nat}{res:AV}{bout:List (List AV)}{upd:List (Option (List AV))}{new:List (Nat×List AV)}{e:Ex}(hx:match e with | .ext _=>False|_=>True)
  (H:σ.has s) (h:retC rs bin rin ud ks σ=some (res,bout,upd,new)):X1w rs bin (ownR rin) ud (fun _ r b u n=>r=res/\b=bout/\u=upd/\n=ownR new) e s:=by
 unfold retC at h
 split at h
 .rename_i l el
  split at h
  .rename_i upd' eu
   split at h
   .rename_i bout' eb
    split at h
    .rename_i new' en
     split at h
     .rename_i hk
      simp only[yD]at hk
      simp only[yI,Prod.mk.injEq]at h
      obtain⟨rfl,rfl,rfl,rfl⟩:=h
      obtain⟨b1,b2⟩:=J1C H eb
      refine⟨hx,l,bout',upd',ks,ownR new',L1u H el,?_,W1g H (fun j=>by simp) eu,Uq hk.1,Q1a hk.2,O1A H en,b2,?_,rfl,rfl,rfl⟩
      .rw[Z0q];exact b1
      .rw[Z0q]
     .cases h
    .cases h
   .cases h
  .cases h
 .cases h
theorem V4{rs:List Rv}{bin:List (List AV)}{rin:List (Nat×List AV)}{ud:List Bool}{res:AV}{bout:List (List AV)}{upd:List (Option (List AV))}{new:List (Nat×List AV)}(te:List (Nat×Hn))(tb:List (Nat×List Hn))(tr:List (Nat×Option Nat×Nat))(fz ks:List Nat)
  (e:L1X k rs bin rin ud ks σ ⟨te,tb,tr,fz⟩=some (res,bout,upd,new)):Wh P (X1w rs bin (ownR rin) ud (fun _ r b u n=>r=res/\b=bout/\u=upd/\n=ownR new)) k σ:=by
 unfold L1X at e
 split at e
 .rename_i k'
  split at e
  .rename_i σ' eg
   refine⟨fun s H=>X1K (Q1r H eg) fun s' H'=>?_⟩
   rw[M22,X0i]
   exact Y1O trivial H' e
  .cases e
 .cases e
def numR(u:List Bool):Nat->List (Nat×List AV)->List (Nat×Row)
 |_,[]=>[]
 |i,(sz,es)::l=>(rkey u i,⟨sz,es,false⟩)::numR u (i+1) l
theorem J1w{u:List Bool}:∀{l:List (Nat×List AV)} {i k:Nat} {r:Row},lk (numR u i l) k=some r->∃j,i<=j/\k=rkey u j/\(ownR l)[j-i]?=some r
  |[],_,_,_,h=>by cases h
  | (sz,es)::l,i,k,r,h=>by
    simp only[numR]at h
    rcases U0c h with⟨rfl,rfl⟩|h
    · exact⟨i,yV _,rfl,by simp[ownR]⟩
    · obtain⟨j,h1,h2,h3⟩:=J1w h
      refine⟨j,by omega,h2,?_⟩
      rw[show j-i=(j-(i+1))+1 by omega]
      simpa[ownR]using h3
def LS.argC(args:List AV)(bin:List (List AV))(rin:List (Nat×List AV))(ud:List Bool):LS :=
  ⟨num0 0 (mpL (cfb bin.length) (cfr ud rin.length) args),[],numB 2000000000 (bin.map (mpL (cfb bin.length) (cfr ud rin.length))),numR ud 0 rin⟩
where numB:Nat->List (List AV)->List (Nat×List AV)
  |_,[]=>[]
  |i,a::l=>(i,a)::numB (i+1) l
theorem Z1x:∀{l:List (List AV)} {i k:Nat} {v:List AV},lk (LS.argC.numB i l) k=some v->i<=k/\l[k-i]?=some v
 |[],_,_,_,h=>by cases h
 |a::l,i,t,v,h=>by
  simp only[LS.argC.numB]at h
  rcases U0c h with⟨rfl,rfl⟩|h
  .simp
  .obtain⟨h1,h2⟩:=Z1x h
   refine⟨by omega,?_⟩
   rw[show t-i=(t-(i+1))+1 by omega,List.getElem?_cons_succ];exact h2
theorem W1b:∀{l:List (List AV)} {i k:Nat},lk (LS.argC.numB i l) k=none->i<=k->l[k-i]?=none
 |[],_,_,_,_=>by simp
 |a::l,i,t,h,hi=>by
  simp only[LS.argC.numB]at h
  obtain⟨h1,h2⟩:=O1m h
  rw[show t-i=(t-(i+1))+1 by omega,List.getElem?_cons_succ]
  exact W1b h2 (by omega)
theorem LS.has_argC(n0:Nat)(args:List AV)(bin:List (List AV))(rin:List (Nat×List AV))(ud:List Bool)(hrl:rin.length<=1000):(LS.argC args bin rin ud).has (stC n0 args bin (ownR rin) ud):=by
 have hl:(ownR rin).length=rin.length:=Z0q rin
 refine⟨fun t v h=>?_,fun _ _ _ _ h=>by(cases h),fun k cs h=>?_,fun k r h=>?_,fun k h=>?_⟩
 .obtain⟨_,h2⟩:=Q1h h
  rw[Nat.sub_zero,JC,yF]at h2
  obtain⟨a,ha,rfl⟩:=yC h2
  simp only[stC,hl,List.getD_eq_getElem?_getD,ha,Option.getD_some]
 .obtain⟨h1,h2⟩:=Z1x h
  rw[yF]at h2
  simp only[stC,hl,yd h1]
  exact h2
 .obtain⟨j,_,rfl,h3⟩:=J1w h
  rw[Nat.sub_zero]at h3
  have hj:j<1000:=by have:=(yB h3).1;omega
  cases hu:ud.getD j true with
  |true =>
   have hk:rkey ud j=1000000000+j:=by unfold rkey;rw[yd hu]
   rw[hk]
   simp only[stC]
   rw[yd (by omega),show 1000000000+j-1000000000=j by omega,yd hu,ye (by omega)]
   exact⟨h3,rfl⟩
  |false =>
   have hk:rkey ud j=500000000+j:=by unfold rkey;rw[ye (by rw[hu];simp)]
   rw[hk]
   simp only[stC]
   rw[ye (by omega),yd (by omega),show 500000000+j-500000000=j by omega,ye (by rw[hu];simp),ye (by omega)]
   exact⟨h3,rfl⟩
 .simp only[stC]
  split
  .rename_i hk
   have:=W1b h hk
   rw[yF]at this
   simpa[hl]using this
  .rfl
theorem Z0e{f:FuncId}{l:L}{rs:List Rv}{args:List AV}{bin:List (List AV)}{rin:List (Nat×List AV)}{res:AV}{bout:List (List AV)}{upd:List (Option (List AV))}{new:List (Nat×List AV)}{n:Nat}(ud:List Bool)
  (hc:YF P f n l rs=true) (hn:args.length=n) (hrl:Nat.ble rin.length 1000=true)
  (h:Wh P (X1w rs bin (ownR rin) ud (fun _ r b u n=>r=res/\b=bout/\u=upd/\n=ownR new)) [.l l] (LS.argC args bin rin ud)):ConD P f args bin rin res bout upd new :=
 L21 ud hc hn (by rw[Z0q];exact Nat.le_of_ble_eq_true hrl) fun n0 _=>J1R (h.h _ (LS.has_argC n0 args bin rin ud (Nat.le_of_ble_eq_true hrl)))
theorem MJ{α:Type}(e:α->AV)(h:∀x,(e x).noO)(l:List α):noOL (l.map e):=O9.2 fun a ha=>by
 obtain⟨x,_,rfl⟩:=yY ha
 exact h x
@[simp] def selR:List Bool->List AV->List AV
 |b::bs,a::l=>(match b with|true=>a|false=>a.rdt)::selR bs l
 |_,l=>l
theorem GEs.of{xs as:List AV}(bs:List Bool)(h:selR bs xs=as):GEs xs as:=by
 subst h
 induction xs generalizing bs with
 |nil=>cases bs<;>exact GEs.refl _
 |cons x xs ih =>
  cases bs with
  |nil=>exact GEs.refl _
  |cons b bs =>
   obtain⟨h1,h2⟩:=ih bs
   refine⟨by simp[selR,h1],fun i a c ha hc=>?_⟩
   cases i with
   |zero =>
    simp only[selR,List.getElem?_cons_zero,yI]at ha hc
    subst ha;subst hc
    cases b
    .exact .rdt _
    .exact .refl _
   |succ i=>exact h2 i a c (by simpa using ha) (by simpa[selR]using hc)
end
end
structure LA where
 own:List Nat
 kd:List (Nat×Nat)
 mz:List (Nat×Nat)
 ln:List Nat
 rq:List (Nat×Nat)
 rz:List (Nat×List Nat×List Nat×List Nat×Nat)
 js:List Nat
def avS:Value->AV
 |.bool b=>.bool b
 |.int k n=>.int k n
 |.string s=>.str s.data.toList
 |.slice none 0 0=>.nl
 |_=>.bad
def avV:Value->AV
 |.agg vs=>.agg (vs.toList.map avS)
 |v=>avS v
def toX:Operand->X
 |.tmp i=>.t i
 |.const v=>.c (avV v)
 |.func f=>.c (.fn f [])
 |_=>.c .bad
def toO:Option Operand->Option X
 |none=>none
 |some p=>some (toX p)
def zcs(P:Program)(t:TypeId):List AV:=match(P.info? t).bind (·.zero)with
 |some v=>v.cells.toList.map avS
 |none=>[]
def isPt(P:Program)(t:TypeId):Bool:=match P.underlying t with
 |some (.pointer _)=>true
 |_=>false
def V22(P:Program):List TypeId->Bool
 |[]=>false
 |t::l=>isPt P t||V22 P l
def szE(P:Program)(t:TypeId):Nat:=match LO P t with
 |some e=>(tsz P e).getD 0
 |none=>0
def byE(P:Program)(t:TypeId):Nat:=match LO P t with
 |some e=>(tby P e).getD 0
 |none=>0
def lopB(P:Program)(A:LA)(dr:Bool)(d:Nat)(b:Builtin)(ps:List Operand)(ts:List TypeId):LOp:=match b with
 |.len=>match ZZ P (ts.getD 0 0)with
  |true=>.ls d (toX (ps.getD 0 (.tmp 0)))
  |false=>match dr&&!inL d A.ln with
   |true=>.lq d (toX (ps.getD 0 (.tmp 0)))
   |false=>.ln d (toX (ps.getD 0 (.tmp 0)))
 |.append=>match lk A.kd d with
  |some _=>.ae d (toX (ps.getD 0 (.tmp 0))) (toX (ps.getD 1 (.tmp 0))) (szE P (ts.getD 0 0)) (byE P (ts.getD 0 0))
  |none=>.ap d (toX (ps.getD 0 (.tmp 0))) (toX (ps.getD 1 (.tmp 0))) (szE P (ts.getD 0 0)) (byE P (ts.getD 0 0))
 |.max=>.mm d true (toX (ps.getD 0 (.tmp 0))) (toX (ps.getD 1 (.tmp 0)))
 |.min=>.mm d false (toX (ps.getD 0 (.tmp 0))) (toX (ps.getD 1 (.tmp 0)))
 |_=>.be d
def lopV(P:Program)(A:LA)(d:Nat)(fx:Operand)(ps:List Operand)(ts:List TypeId):LOp:=match fx with
 |.func f=>match lk A.kd d with
  |some 0=>.cq d f (ps.map toX)
  |some 1=>.cl d f (ps.map toX)
  |some 2=>.cm d f (ps.map toX)
  |some _=>.cn d f (ps.map toX)
  |none=>match V22 P ts with
   |true=>.cm d f (ps.map toX)
   |false=>.cq d f (ps.map toX)
 |x=>.cc d (toX x) (ps.map toX)
def lopO(P:Program)(A:LA)(dr:Bool)(d:Nat)(o:Op):LOp:=match o with
 |.move p=>match lk A.mz d with
  |some n=>.sc d (toX p) none none n
  |none=>.mv d (toX p)
 |.assign p=>.mv d (toX p)
 |.pick p q r=>.pk d (toX p) (toX q) (toX r)
 |.alloc t=>.al d (zcs P t)
 |.box _ p=>.bx d (toX p)
 |.build t qs=>.bd d (zcs P t) (qs.toList.map fun q=>match Y0o P t q.1 with
  |some fd=>(fd.offset,(tsz P fd.type).getD 0,toX q.2)
  |none=>(0,0,toX q.2))
 |.buildSlice t _ qs=>match lk A.kd d with
  |some _=>.be d
  |none=>.bs d (szE P t) (qs.toList.map fun q=>toX q.2) (inL d A.own)
 |.makeSlice t p _=>.ms d (szE P t) (byE P t) (match LO P t with
  |some e=>zcs P e
  |none=>[]) (toX p)
 |.load t p=>.ld d (toX p) ((tsz P t).getD 0) ((tag? P t).getD false)
 |.store t p q=>.st (toX p) (toX q) ((tsz P t).getD 0)
 |.nilCheck p=>.nc d (toX p)
 |.binOp b t p q _=>match P.underlying t with
  |some .bool=>.eb d (match b with | .neq=>true|_=>false) (toX p) (toX q)
  |some (.struct _)=>.es d (match b with | .neq=>true|_=>false) ((eqK P 20 t).getD []) (toX p) (toX q)
  |some .string=>match b with
   |.add=>.sa d (toX p) (toX q)
   |b=>.bi d b (toX p) (toX q)
  |_=>.bi d b (toX p) (toX q)
 |.unOp _ _ p=>.un d (toX p)
 |.convert _ u p=>match Z1r P u with
  |some k=>.cv d k (toX p)
  |none=>match ZZ P u with
   |true=>.b2s d (toX p)
   |false=>.s2b d (toX p)
 |.fieldAddr t p f=>.fa d (toX p) (match Y0o P t f with
  |some fd=>fd.offset
  |none=>0)
 |.field t p f=>match Y0o P t f with
  |some fd=>.fd d (toX p) fd.offset ((tsz P fd.type).getD 0) ((tag? P fd.type).getD false)
  |none=>.be d
 |.indexAddr t p q=>.ia d (toX p) (toX q) (szE P t)
 |.index _ p q=>.ix d (toX p) (toX q)
 |.slice t p pl ph _=>match ZZ P t with
  |true=>.ss d (toX p) (toO pl) (toO ph)
  |false=>.sc d (toX p) (toO pl) (toO ph) (szE P t)
 |.extract p j=>.ex d (toX p) j
 |.makeFunc (.func f) _ ps=>.mf d f (ps.toList.map toX)
 |o=>match asB o with
  |some (b,ps,ts)=>lopB P A dr d b ps ts
  |none=>match asV o with
   |some (fx,ps,ts)=>lopV P A d fx ps ts
   |none=>.be d
def lop(P:Program)(A:LA)(dr:Bool)(ops:Array Oper)(o:Oper):LOp:=match X0y ops o with
 |some (t,w)=>.g t w (lopO P A dr (o.dst.getD 0) o.op)
 |none=>lopO P A dr (o.dst.getD 0) o.op
def capO:List Operand->List Nat->List Nat
 |[],l=>l
 |.tmp t::r,l=>match inL t l with
  |true=>capO r l
  |false=>capO r (l++[t])
 |_::r,l=>capO r l
def caps:List Oper->List Nat->List Nat
 |[],l=>l
 |o::r,l=>match o.op with
  |.makeFunc _ _ ps=>caps r (capO ps.toList l)
  |_=>caps r l
def lreg(P:Program)(A:LA)(id:Nat)(ops:Array Oper)(dr:Bool):L:=match dr with
 |false=>.reg ((caps ops.toList []).map LOp.fb++ops.toList.map (lop P A false ops))
 |true=>match lk A.rq id with
  |some m=>.rq m (ops.toList.map (lop P A true ops))
  |none=>match lk A.rz id with
   |some (ow,als,od,m) =>
    let ls:=ops.toList.map (lop P A true ops)
    let za:=als.map fun i=>match ls.getD i (.be 0)with
     |.al d z=>(i,d,z)
     |_=>(i,0,[])
    let zi:=od.map fun n=>(n / 2,Nat.beq (n % 2) 1,ls.getD (n / 2) (.be 0))
    match ow with
    |[]=>.rz za zi (ls.drop m)
    |ow=>.ro ow za zi (ls.drop m)
   |none=>.skip
def gwI(A:LA)(p:Nat)(x:L):L:=match inL p A.js with
 |true=>.gw x
 |false=>x
def lft(P:Program)(A:LA):Code->Nat->L
 |.skip,p=>gwI A p .skip
 |.region id ops dr,p=>gwI A p (lreg P A id ops dr)
 |.seq a b,p=>gwI A p (.seq (lft P A a (2*p)) (lft P A b (2*p+1)))
 |.cond c a b,p=>gwI A p (.cond (toX c) (lft P A a (2*p)) (lft P A b (2*p+1)))
 |.block id a,p=>gwI A p (.blk id (lft P A a (2*p)))
 |.loop a,p=>gwI A p (.loop (.gw (lft P A a (2*p))))
 |.scope a,p=>gwI A p (.scope (lft P A a (2*p)))
 |.exit id,p=>gwI A p (.exit id)
 |.ret,_=>.gw .ret
 |_,_=>.skip
def lf(P:Program)(f:FuncId)(own:List Nat)(kd mz:List (Nat×Nat))(ln:List Nat)(rq:List (Nat×Nat))(rz:List (Nat×List Nat×List Nat×List Nat×Nat))(js:List Nat):L:=match P.funcs[f]? with
 |some fn=>match fn.body with
  |some c=>lft P ⟨own,kd,mz,ln,rq,rz,js⟩ c 1
  |none=>.skip
 |none=>.skip
end Go.Proofs.YtpgaganbacipnaaGreat.Eng
