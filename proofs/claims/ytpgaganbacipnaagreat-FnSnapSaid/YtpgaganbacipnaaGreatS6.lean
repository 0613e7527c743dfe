/-
  Lemmas, part 6.
-/
import Derived.Test.YtpgaganbacipnaaGreatS5
import Derived.Scope
namespace Go.Proofs.YtpgaganbacipnaaGreat.Eng
open Go Go.RowKit
section
inductive L
 |skip
 |reg (ls:List LOp)
 |rq (m:Nat) (ls:List LOp)
 |rz (als:List ZA) (items:List ZI) (tl:List LOp)
 |ro (ow:List Nat) (als:List ZA) (items:List ZI) (tl:List LOp)
 |seq (x y:L)
 |cond (c:X) (x y:L)
 |blk (id:Nat) (x:L)
 |loop (x:L)
 |exit (id:Nat)
 |ret
 |scope (x:L)
 |gw (x:L)
inductive Ex|nrm|ext(id:Nat)|ret
def Ex.to:Ex->Exit
 |.nrm=>.normal
 |.ext id=>.exit id
 |.ret=>.ret
def den(P:Program):L->(Ex->St->Prop)->St->Prop
 |.skip,K,s=>K .nrm s
 |.reg ls,K,s=>wops P ls (K .nrm) s
 |.rq m ls,K,s=>X09 P (ls.take m) [] (fun s'=>wops P (ls.drop m) (K .nrm) s') (s.kills (alKeys (ls.take m)))
 |.ro ow als items tl,K,s=>Vz P (zcOf (items.map Prod.snd)) ow (items.map Prod.snd) (fun s'=>(∀d∈ow,s'.e d=.ptr d 0)/\wops P tl (K .nrm) (alZ s' als)) (s.kills (als.map (·.2.1)))
 |.rz als items tl,K,s=>Vz P (zcOf (items.map Prod.snd)) [] (items.map Prod.snd) (fun s'=>wops P tl (K .nrm) (alZ s' als)) (s.kills (als.map (·.2.1)))
 |.seq x y,K,s=>den P x (fun e s'=>match e with | .nrm=>den P y K s'|e=>K e s') s
 |.cond c x y,K,s=>match s.get c with
  |.bool t=>(t=true->den P x K s)/\(t=false->den P y K s)
  |_=>False
 |.blk id x,K,s=>den P x (fun e s'=>match e with | .ext id'=>if id'=id then K .nrm s' else K (.ext id') s'|e=>K e s') s
 |.loop x,K,s=>∃(I:Nat->St->Prop) (n:Nat),I n s/\∀m s',I m s'->den P x (fun e s''=>match e with | .nrm=>∃m',m'<m/\I m' s''|e=>K e s'') s'
 |.exit id,K,s=>K (.ext id) s
 |.ret,K,s=>K .ret s
 |.scope x,K,s=>den P x K s
 |.gw x,K,s=>∃G:GW,G.ok=true/\nooT s G.te/\nooB s G.tb/\den P x K (s.gw G)
def chkC(P:Program)(nt:Nat):L->Code->Bool
 |.gw x,c=>chkC P nt x c
 |.skip,.skip=>true
 |.reg ls,.region _ ops false=>chkL P nt ops ls ops.toList
 |.rq m ls,.region _ ops true=>P.follows .mixedOrders&&chkQ P nt ops ls m
 |.rz als items tl,.region _ ops true=>P.follows .mixedOrders&&chkZ P nt ops [] als items tl
 |.ro ow als items tl,.region _ ops true=>P.follows .mixedOrders&&chkZ P nt ops ow als items tl
 |.seq x y,.seq a b=>chkC P nt x a&&chkC P nt y b
 |.cond c x y,.cond p a b=>chkX c p&&chkC P nt x a&&chkC P nt y b
 |.blk id x,.block id' a=>id==id'&&chkC P nt x a
 |.loop x,.loop a=>chkC P nt x a
 |.exit id,.exit id'=>id==id'
 |.ret,.ret=>true
 |.scope x,.scope a=>chkC P nt x a
 |_,_=>false
section
variable{P:Program}{c:Cx}
theorem least{p:Nat->Prop}:∀n,p n->∃m,p m/\∀k,p k->m<=k:=by
 intro n
 induction n using Nat.strongRecOn with
 |_ n ih =>
  intro hn
  by_cases h:∃k,k<n/\p k
  .obtain⟨k,hk,hp⟩:=h;exact ih k hk hp
  .exact⟨n,hn,fun k hk=>Classical.byContradiction fun hlt=>h ⟨k,by omega,hk⟩⟩
theorem J1o{code:Code}{Q:Exit->Act->World->Prop}(J:Nat->Act->World->Prop)
  (round:∀m a w,J m a w->code.wp P (Exit.then (fun a' w'=>∃m',m'<m/\J m' a' w') Q) a w) {n:Nat} {a:Act} {w:World} (h:J n a w):(Code.loop code).wp P Q a w:=by
 classical
 have hl:∀a w,(∃m,J m a w)->∃m,J m a w/\∀k,J k a w->m<=k:=fun a w ⟨m,hm⟩=>least m hm
 let μ:Act->World->Nat:=fun a w=>if h:∃m,J m a w then(hl a w h).choose else 0
 have hμ:∀a w (h:∃m,J m a w),J (μ a w) a w/\∀k,J k a w->μ a w<=k:=fun a w h=>by
  have:=(hl a w h).choose_spec
  simp only[μ,dif_pos h];exact this
 refine wp_loop (fun a w=>∃m,J m a w) μ ⟨n,h⟩ fun a w hI=>?_
 refine Code.wp_mono (fun e a' w' q=>?_) (round (μ a w) a w (hμ a w hI).1)
 cases e with
 |normal =>
  obtain⟨m',hlt,hJ⟩:=q
  exact⟨⟨m',hJ⟩,Nat.lt_of_le_of_lt ((hμ a' w' ⟨m',hJ⟩).2 m' hJ) hlt⟩
 |_=>exact q
theorem W0y:∀{l:L} {code:Code} {K:Ex->St->Prop} {Q':Exit->Act->World->Prop} {g:Gh} {s:St} {a:Act} {w:World},chkC P c.nt l code=true ->
  (∀e g' s' a' w',Inv c g' s' a' w'->K e s'->Q' e.to a' w')->Inv c g s a w->den P l K s->code.wp P Q' a w:=by
 intro l
 induction l with
 |skip =>
  intro code K Q' g s a w hc hK I h
  cases code<;>simp[chkC]at hc
  exact wp_skip (hK .nrm _ _ _ _ I h)
 |reg ls =>
  intro code K Q' g s a w hc hK I h
  cases code<;>try (simp[chkC]at hc;done)
  rename_i id ops dr
  cases dr<;>simp only[chkC,yG]at hc
  exact wp_region_list (V1q (K:=K .nrm) (fun g' s' a' w' I' h'=>hK .nrm _ _ _ _ I' h') ls ops.toList g s a w hc I h)
 |rq m ls =>
  intro code K Q' g s a w hc hK I h
  cases code<;>try (simp[chkC]at hc;done)
  rename_i id ops dr
  cases dr<;>simp only[chkC,yG,yD]at hc
  exact V1h (K:=K .nrm) hc.1 hc.2 (fun g' s' a' w' I' h'=>hK .nrm _ _ _ _ I' h') I h
 |rz als items tl =>
  intro code K Q' g s a w hc hK I h
  cases code<;>try (simp[chkC]at hc;done)
  rename_i id ops dr
  cases dr<;>simp only[chkC,yG,yD]at hc
  exact M1k (K:=K .nrm) hc.1 hc.2 (fun s' q=>⟨fun d hd=>(by cases hd),q⟩) (fun g' s' a' w' I' h'=>hK .nrm _ _ _ _ I' h') I h
 |ro ow als items tl =>
  intro code K Q' g s a w hc hK I h
  cases code<;>try (simp[chkC]at hc;done)
  rename_i id ops dr
  cases dr<;>simp only[chkC,yG,yD]at hc
  exact M1k (K:=K .nrm) hc.1 hc.2 (fun s' q=>q) (fun g' s' a' w' I' h'=>hK .nrm _ _ _ _ I' h') I h
 |seq x y ihx ihy =>
  intro code K Q' g s a w hc hK I h
  cases code<;>simp only[chkC,yG,yD]at hc
  refine wp_seq (ihx hc.1 (fun e g' s' a' w' I' h'=>?_) I h)
  cases e with
  |nrm=>exact ihy hc.2 hK I' h'
  |ext id=>exact hK (.ext id) _ _ _ _ I' h'
  |ret=>exact hK .ret _ _ _ _ I' h'
 |cond cx x y ihx ihy =>
  intro code K Q' g s a w hc hK I h
  cases code<;>simp only[chkC,yG,yD]at hc
  have hv:=I.get hc.1.1
  simp only[den]at h
  split at h
  .rename_i t ht
   rw[ht]at hv
   exact wp_cond_split hv.bool_inv (fun e=>ihx hc.1.2 hK I (h.1 e)) (fun e=>ihy hc.2 hK I (h.2 e))
  .cases h
 |blk id x ih =>
  intro code K Q' g s a w hc hK I h
  cases code<;>simp only[chkC,yG,yD,beq_iff_eq]at hc
  obtain⟨rfl,hc⟩:=hc
  refine wp_block (ih hc (fun e g' s' a' w' I' h'=>?_) I h)
  cases e with
  |nrm=>exact hK .nrm _ _ _ _ I' h'
  |ext id' =>
   simp only[Ex.to,Exit.inBlock]
   simp only at h'
   split
   .rename_i e;rw[yd e]at h';exact hK .nrm _ _ _ _ I' h'
   .rename_i e;rw[ye e]at h';exact hK (.ext id') _ _ _ _ I' h'
  |ret=>exact hK .ret _ _ _ _ I' h'
 |loop x ih =>
  intro code K Q' g s a w hc hK I h
  cases code<;>simp only[chkC,yG]at hc
  simp only[den]at h
  obtain⟨J,n,h0,hr⟩:=h
  refine J1o (fun m a w=>∃g s,Inv c g s a w/\J m s) (fun m a w ⟨g,s,I,hJ⟩=>?_) (n:=n) ⟨g,s,I,h0⟩
  refine ih hc (fun e g' s' a' w' I' h'=>?_) I (hr m s hJ)
  cases e with
  |nrm=>obtain⟨m',q1,q2⟩:=h';exact⟨m',q1,g',s',I',q2⟩
  |ext id=>exact hK (.ext id) _ _ _ _ I' h'
  |ret=>exact hK .ret _ _ _ _ I' h'
 |exit id =>
  intro code K Q' g s a w hc hK I h
  cases code<;>simp only[chkC,yG,beq_iff_eq]at hc
  subst hc
  exact wp_exit (hK (.ext id) _ _ _ _ I h)
 |ret =>
  intro code K Q' g s a w hc hK I h
  cases code<;>simp[chkC]at hc
  exact wp_ret (hK .ret _ _ _ _ I h)
 |scope x ih =>
  intro code K Q' g s a w hc hK I h
  cases code<;>simp only[chkC,yG]at hc
  refine wp_scope_straight (ih hc (fun e g' s' a' w' I' h'=>?_) I h)
  cases e with
  |nrm=>exact hK .nrm _ _ _ _ I' h'
  |ext id=>exact hK (.ext id) _ _ _ _ I' h'
  |ret=>exact hK .ret _ _ _ _ I' h'
 |gw x ih =>
  intro code K Q' g s a w hc hK I h
  obtain⟨G,h1,h2,h3,h4⟩:=h
  obtain⟨g2,I2⟩:=I.gw G h1 h2 h3
  exact ih (by unfold chkC at hc;exact hc) hK I2 h4
end
end
section
inductive Rv|t(i:Nat)|c(i n:Nat)(ag:Bool)
def chkR(P:Program):Rv->ResultVar->Bool
 |.t i,.tmp j=>i==j
 |.c i n ag,.cell a t=>i==a&&tsz P t==some n&&tag? P t==some ag&&(ag||n==1)
 |_,_=>false
def X0j(P:Program):List Rv->List ResultVar->Bool
 |[],[]=>true
 |r::rs,v::vs=>chkR P r v&&X0j P rs vs
 |_,_=>false
def St.rv1(s:St):Rv->Option AV
 |.t i=>some (s.e i)
 |.c i n ag=>s.ld (s.e i) n ag
def St.rvs(s:St):List Rv->Option (List AV)
 |[]=>some []
 |r::rs=>match s.rv1 r,s.rvs rs with
  |some x,some l=>some (x::l)
  |_,_=>none
def W0L:List AV->AV
 |[a]=>a
 |l=>.tup l
def ixO:List (Option Nat)->Nat->Option Nat
 |[],_=>none
 |some k::ks,j=>if k=j then some 0 else(ixO ks j).map (·+1)
 |none::ks,j=>(ixO ks j).map (·+1)
theorem J1z:∀{ks:List (Option Nat)} {k i:Nat},ixO ks k=some i->ks[i]?=some (some k)
 |[],_,_,h=>by simp[ixO]at h
 |some x::ks,k,i,h=>by
  simp only[ixO]at h
  split at h
  .rename_i e;cases h;simp[e]
  .obtain⟨j,hj,rfl⟩:=yC h
   simpa using J1z hj
 |none::ks,k,i,h=>by
  simp only[ixO]at h
  obtain⟨j,hj,rfl⟩:=yC h
  simpa using J1z hj
mutual
def AV.out(ks:List (Option Nat)):AV->AV
 |.sref k=>match ixO ks k with|some i=>.sref i|none=>.bad
 |.agg cs=>.agg (outL ks cs)
 |.tup cs=>.tup (outL ks cs)
 |.fn f cs=>.fn f (outL ks cs)
 |.ptr _ _=>.bad
 |.rpt _ _ _=>.bad
 |.od _ _ _=>.bad
 |.op _ _ _=>.bad
 |a=>a
def outL(ks:List (Option Nat)):List AV->List AV
 |[]=>[]
 |a::l=>AV.out ks a::outL ks l
end
theorem Q0h(ks:List (Option Nat)):∀l,outL ks l=l.map (AV.out ks)
 |[]=>rfl
 |a::l=>by rw[outL,Q0h ks l];rfl
def AV.wk1(p:Nat->Prop):AV->AV->Prop
 |.nl,.sl t _ es=>t.isOwn=false/\es=[]
 |.nl,.sref i=>p i
 |a,b=>a=b
def wkLs(R:AV->AV->Prop):List AV->List AV->Prop
 |[],[]=>True
 |a::l,b::m=>R a b/\wkLs R l m
 |_,_=>False
def AV.wkA(p:Nat->Prop):AV->AV->Prop
 |.agg cs,.agg ds=>wkLs (AV.wk1 p) cs ds
 |a,b=>AV.wk1 p a b
def AV.wk(p:Nat->Prop):AV->AV->Prop
 |.tup cs,.tup ds=>wkLs (AV.wkA p) cs ds
 |a,b=>AV.wkA p a b
theorem Y0u{R:AV->AV->Prop}:∀{cs ds:List AV},wkLs R cs ds->cs.length=ds.length/\∀(i:Nat) (c d:AV),cs[i]?=some c->ds[i]?=some d->R c d
 |[],[],_=>⟨rfl,by intro i c d h;simp at h⟩
 |a::l,b::m,h=>by
  obtain⟨h1,h2⟩:=Y0u h.2
  refine⟨by simp[h1],fun i c d hc hd=>?_⟩
  cases i with
  |zero=>simp at hc hd;subst hc;subst hd;exact h.1
  |succ i=>exact h2 i c d (by simpa using hc) (by simpa using hd)
 |[],_::_,h=>h.elim
 |_::_,[],h=>h.elim
mutual
def Nw:AV->Prop
 |.sl t _ es=>(es=[]/\t.isOwn=false)\/(t=.nw/\NwL es)
 |.agg cs=>NwL cs
 |.tup cs=>NwL cs
 |.fn _ cs=>NwL cs
 |.od _ _ _=>False
 |.op _ _ _=>False
 |.ept _ _=>False
 |.eot _ _=>False
 |_=>True
def NwL:List AV->Prop
 |[]=>True
 |a::l=>Nw a/\NwL l
end
theorem Z05:∀{l:List AV},NwL l↔∀a∈l,Nw a
 |[]=>by simp[NwL]
 |a::l=>by simp[NwL,Z05 (l:=l)]
def M0j(s:St):List (Option Nat)->List Row->Prop
 |[],[]=>True
 |some k::ks,r::rs=>s.rw k=some r/\r.sh=false/\NwL r.es/\M0j s ks rs
 |none::ks,r::rs=>r.es=[]/\M0j s ks rs
 |_,_=>False
theorem W0p{s:St}:∀{ks:List (Option Nat)} {rows:List Row},M0j s ks rows->ks.length=rows.length /\
  (∀(i k:Nat) (r:Row),ks[i]?=some (some k)->rows[i]?=some r->s.rw k=some r/\r.sh=false/\NwL r.es)/\∀(i:Nat) (r:Row),ks[i]?=some none->rows[i]?=some r->r.es=[]
 |[],[],_=>⟨rfl,by intro i k r h;simp at h,by intro i r h;simp at h⟩
 |some k::ks,r::rs,h=>by
  simp only[M0j]at h
  obtain⟨h1,h2,h3,h4⟩:=h
  obtain⟨q1,q2,q3⟩:=W0p h4
  refine⟨by simp[q1],fun i k' r' hk hr=>?_,fun i r' hk hr=>?_⟩
  .cases i with
   |zero=>simp at hk hr;subst hk;subst hr;exact⟨h1,h2,h3⟩
   |succ i=>exact q2 i k' r' (by simpa using hk) (by simpa using hr)
  .cases i with
   |zero=>simp at hk
   |succ i=>exact q3 i r' (by simpa using hk) (by simpa using hr)
 |none::ks,r::rs,h=>by
  simp only[M0j]at h
  obtain⟨h1,h4⟩:=h
  obtain⟨q1,q2,q3⟩:=W0p h4
  refine⟨by simp[q1],fun i k' r' hk hr=>?_,fun i r' hk hr=>?_⟩
  .cases i with
   |zero=>simp at hk
   |succ i=>exact q2 i k' r' (by simpa using hk) (by simpa using hr)
  .cases i with
   |zero=>simp at hr;subst hr;exact h1
   |succ i=>exact q3 i r' (by simpa using hk) (by simpa using hr)
 |[],_::_,h=>h.elim
 |some _::_,[],h=>h.elim
 |none::_,[],h=>h.elim
def L0v:List (Option Nat)->List Nat
 |[]=>[]
 |some k::ks=>k::L0v ks
 |none::ks=>L0v ks
theorem L0M:∀{ks:List (Option Nat)} {i j k:Nat},(L0v ks).Nodup->ks[i]?=some (some k)->ks[j]?=some (some k)->i=j
 |[],i,j,k,_,h,_=>by simp at h
 |o::ks,0,0,k,_,_,_=>rfl
 |some x::ks,0,j+1,k,hn,h1,h2=>by
  simp at h1 h2;subst h1
  have:x∈L0v ks:=mem_keysO h2
  exact absurd this (List.nodup_cons.1 hn).1
 |some x::ks,i+1,0,k,hn,h1,h2=>by
  simp at h1 h2;subst h2
  have:x∈L0v ks:=mem_keysO h1
  exact absurd this (List.nodup_cons.1 hn).1
 |none::ks,0,j+1,k,_,h1,_=>by simp at h1
 |none::ks,i+1,0,k,_,_,h2=>by simp at h2
 |some x::ks,i+1,j+1,k,hn,h1,h2=>congrArg (·+1) (L0M (ks:=ks) (i:=i) (j:=j) (k:=k) (List.nodup_cons.1 hn).2 (by simpa using h1) (by simpa using h2))
 |none::ks,i+1,j+1,k,hn,h1,h2=>congrArg (·+1) (L0M (ks:=ks) (i:=i) (j:=j) (k:=k) hn (by simpa using h1) (by simpa using h2))
where
 mem_keysO:∀{ks:List (Option Nat)} {j x:Nat},ks[j]?=some (some x)->x∈L0v ks
  |[],j,x,h=>by simp at h
  |some y::ks,0,x,h=>by simp at h;simp[L0v,h]
  |none::ks,0,x,h=>by simp at h
  |some y::ks,j+1,x,h=>by simp only[L0v,List.mem_cons];exact .inr (mem_keysO (by simpa using h))
  |none::ks,j+1,x,h=>by simp only[L0v];exact mem_keysO (by simpa using h)
def post(rs:List Rv)(res:AV)(rows:List Row)(e:Ex)(s:St):Prop :=
 (match e with | .ext _=>False|_=>True)/\∃(l:List AV) (ks:List (Option Nat)),s.rvs rs=some l/\AV.wk (fun i=>ks[i]?=some none) ((W0L l).out ks) res/\Nw (W0L l)/\(L0v ks).Nodup/\M0j s ks rows
section
variable{P:Program}{c:Cx}{g:Gh}{s:St}{a:Act}{w:World}
theorem V1B{es:List AV}(h:NwL es):∀a∈flat es,Nw a:=by
 intro a ha
 obtain⟨e,he,hx⟩:=List.mem_flatMap.1 ha
 have:=Z05.1 h e he
 cases e with
 |agg cs =>
  have h2:NwL cs:=by simpa[Nw]using this
  exact Z05.1 h2 a hx
 |_=>simp[AV.cells]at hx;subst hx;exact this
theorem Rd.fresh{S:Nat->Nat->Prop}{N N':Tag->Nat->Value->Prop}{B:Nat}(hB:∀z b o n c,N .nw z (.slice (some ⟨b,o,none⟩) n c)->B<=b)(hN:∀z v,N .nw z v->N' .nw z v){x:AV}{v:Value}(h:Rd w S N x v)(hn:Nw x):Rd w (fun b o=>S b o/\B<=b) N' x v:=by
 induction h with
 |bool b=>exact .bool b
 |int k n=>exact .int k n
 |str l=>exact .str l
 |nl=>exact .nl
 |sl0 t sz p q ho =>
  refine .sl0 _ _ _ _ fun i e=>?_
  subst e
  rcases(by simpa[Nw]using hn:(Tag.own i).isOwn=false\/False)with q|q
  .cases q
  .exact q.elim
 |agg cs vs hl h1 h ih=>exact .agg cs vs hl h1 fun i y u hy hu=>ih i y u hy hu (Z05.1 (by simpa[Nw]using hn) y (yE hy))
 |fn f cs vs hl h ih=>exact .fn f cs vs hl fun i y u hy hu=>ih i y u hy hu (Z05.1 (by simpa[Nw]using hn) y (yE hy))
 |ept e off b o cv hw h _=>exact(show False by simp[Nw]at hn).elim
 |sl t sz es b o cc cv hc hm hs hw hnn h ih =>
  have hall:∀a∈flat es,Nw a:=by
   rcases(by simpa[Nw]using hn:(es=[]/\t.isOwn=false)\/(t=.nw/\NwL es))with⟨rfl,_⟩|⟨_,h2⟩
   .intro a ha;simp[flat]at ha
   .exact V1B h2
  refine .sl t sz es b o cc cv hc hm hs (fun j y hj=>⟨(hw j y hj).1,⟨(hw j y hj).2.1,?_⟩,(hw j y hj).2.2.1,?_⟩) (fun i e=>?_) (fun j y hj=>ih j y hj (hall y (yE hj)))
  .rcases(by simpa[Nw]using hn:(es=[]/\t.isOwn=false)\/(t=.nw/\NwL es))with⟨rfl,_⟩|⟨rfl,_⟩
   .simp[flat]at hj
   .exact hB _ _ _ _ _ (hw j y hj).2.2.2
  .rcases(by simpa[Nw]using hn:(es=[]/\t.isOwn=false)\/(t=.nw/\NwL es))with⟨rfl,_⟩|⟨rfl,_⟩
   .simp[flat]at hj
   .exact hN _ _ (hw j y hj).2.2.2
  .subst e
   rcases(by simpa[Nw]using hn:(es=[]/\(Tag.own i).isOwn=false)\/False)with⟨_,q⟩|q
   .cases q
   .exact q.elim
theorem Q1P(ks:List (Option Nat)){x:AV}(h:x.one=true\/x=.bad):(x.out ks).one=true\/x.out ks=.bad:=by
 rcases h with h|rfl
 .cases x with
  |sref j=>rw[AV.out];split<;>simp[AV.one]
  |ptr j o=>right;rfl
  |rpt j i o=>right;rfl
  |ept e o=>left;rfl
  |eot e o=>left;rfl
  |_=>simp[AV.out,AV.one]at h ⊢
 .right;rfl
theorem Rd.out{S:Nat->Nat->Prop}{N:Tag->Nat->Value->Prop}(ks:List (Option Nat)){x:AV}{v:Value}(h:Rd w S N x v):Rd w S N (x.out ks) v:=by
 induction h with
 |bool b=>exact .bool b
 |int k n=>exact .int k n
 |str l=>exact .str l
 |nl=>exact .nl
 |sl0 t sz p q ho=>exact .sl0 _ _ _ _ ho
 |sl t sz es b o cc cv hc hm hs hw hn h _=>exact .sl t sz es b o cc cv hc hm hs hw hn h
 |ept e off b o cv hw h _=>exact .ept e off b o cv hw h
 |agg cs vs hl h1 h ih =>
  rw[AV.out,Q0h]
  refine .agg _ vs (by simpa using hl) (fun y hy=>?_) (fun i y v hy hv=>?_)
  .obtain⟨y0,h0,rfl⟩:=yY hy
   obtain⟨i,hi,rfl⟩:=List.getElem_of_mem h0
   have hlt:i<vs.length:=by omega
   have hr:=h i _ _ (yA hi) (yA hlt)
   have h1':=h1 _ h0
   generalize cs[i]=z at *
   generalize vs[i]=u at *
   cases hr<;>simp_all [AV.out,AV.one]
  .rw[yF]at hy
   obtain⟨y0,h0,rfl⟩:=yC hy
   exact ih i y0 v h0 hv
 |fn f cs vs hl h ih =>
  rw[AV.out,Q0h]
  refine .fn f _ vs (by simpa using hl) (fun i y v hy hv=>?_)
  rw[yF]at hy
  obtain⟨y0,h0,rfl⟩:=yC hy
  exact ih i y0 v h0 hv
def rvO(g:Gh)(ks:List (Option Nat))(i:Nat):Value:=match ks[i]? with|some (some k)=>g.rv k|_=>.slice none 0 0
section wk
variable{p:Nat->Prop}
theorem Gv.wk1(hp:∀i,p i->∀r,s.rw i=some r->g.rv i=.slice none 0 0){a b:AV}{v:Value}(h:Gv w g s a v)(hk:a.wk1 p b):Gv w g s b v:=by
 unfold AV.wk1 at hk
 split at hk
 .obtain⟨q,rfl⟩:=hk;rw[h.nl_inv];exact .data _ _ (.sl0 _ _ _ _ fun i e=>by subst e;cases q)
 .rw[h.nl_inv];exact .sref _ _ rfl fun r hr=>(hp _ hk r hr).symm
 .subst hk;exact h
theorem V1P{a b:AV}(hk:a.wk1 p b)(h:a.one=true\/a=.bad):b.one=true\/b=.bad:=by
 unfold AV.wk1 at hk
 split at hk
 .exact .inl rfl
 .exact .inl rfl
 .subst hk;exact h
theorem Gv.wkA(hp:∀i,p i->∀r,s.rw i=some r->g.rv i=.slice none 0 0){a b:AV}{v:Value}(h:Gv w g s a v)(hk:a.wkA p b):Gv w g s b v:=by
 unfold AV.wkA at hk
 split at hk
 .rename_i cs ds
  obtain⟨vs,rfl,hl,h1,h2⟩:=h.agg_inv
  obtain⟨e1,e2⟩:=Y0u hk
  refine .agg ds vs (by omega) (fun d hd=>?_) (fun i d u hd hu=>?_)
  .obtain⟨i,hi,rfl⟩:=List.getElem_of_mem hd
   have hi':i<cs.length:=by omega
   exact V1P (e2 i _ _ (yA hi') (yA hi)) (h1 _ (List.getElem_mem hi'))
  .have hi:i<cs.length:=by have:=(yB hd).1;omega
   exact(h2 i _ u (yA hi) hu).wk1 hp (e2 i _ d (yA hi) hd)
 .exact h.wk1 hp hk
theorem Gv.wk(hp:∀i,p i->∀r,s.rw i=some r->g.rv i=.slice none 0 0){a b:AV}{v:Value}(h:Gv w g s a v)(hk:a.wk p b):Gv w g s b v:=by
 unfold AV.wk at hk
 split at hk
 .rename_i cs ds
  obtain⟨vs,rfl,hl,h2⟩:=h.tup_inv
  obtain⟨e1,e2⟩:=Y0u hk
  refine .tup ds vs (by omega) (fun i d u hd hu=>?_)
  have hi:i<cs.length:=by have:=(yB hd).1;omega
  exact(h2 i _ u (yA hi) hu).wkA hp (e2 i _ d (yA hi) hd)
 .exact h.wkA hp hk
theorem Rd.wk1{S:Nat->Nat->Prop}{N:Tag->Nat->Value->Prop}{a b:AV}{v:Value}(h:Rd w S N a v)(hk:a.wk1 (fun _=>False) b):Rd w S N b v:=by
 unfold AV.wk1 at hk
 split at hk
 .obtain⟨q,rfl⟩:=hk;cases h;exact .sl0 _ _ _ _ fun i e=>by subst e;cases q
 .exact hk.elim
 .subst hk;exact h
theorem Rd.one1{S:Nat->Nat->Prop}{N:Tag->Nat->Value->Prop}{a b:AV}{v:Value}(h:Rd w S N a v)(hk:a.wk1 (fun _=>False) b)(h1:a.one=true):b.one=true:=by
 unfold AV.wk1 at hk
 split at hk
 .rfl
 .exact hk.elim
 .subst hk;exact h1
theorem Rd.wkA{S:Nat->Nat->Prop}{N:Tag->Nat->Value->Prop}{a b:AV}{v:Value}(h:Rd w S N a v)(hk:a.wkA (fun _=>False) b):Rd w S N b v:=by
 unfold AV.wkA at hk
 split at hk
 .rename_i cs ds
  cases h with
  |agg _ vs hl h1 h2 =>
   obtain⟨e1,e2⟩:=Y0u hk
   refine .agg ds vs (by omega) (fun d hd=>?_) (fun i d u hd hu=>?_)
   .obtain⟨i,hi,rfl⟩:=List.getElem_of_mem hd
    have hi':i<cs.length:=by omega
    have hiv:i<vs.length:=by omega
    exact(h2 i _ _ (yA hi') (yA hiv)).one1 (e2 i _ _ (yA hi') (yA hi)) (h1 _ (List.getElem_mem hi'))
   .have hi:i<cs.length:=by have:=(yB hd).1;omega
    exact(h2 i _ u (yA hi) hu).wk1 (e2 i _ d (yA hi) hd)
 .exact h.wk1 hk
end wk
theorem Snd.wk{f:FuncId}{as as':List AV}{res:AV}{rows:List Row}(h:Snd P f as' res rows)(hk:wkLs (AV.wkA fun _=>False) as as'):Snd P f as res rows:=by
 intro w S N vs hS hl hr
 obtain⟨e1,e2⟩:=Y0u hk
 refine h w S N vs hS (by omega) fun i b v hb hv=>?_
 have hi:i<as.length:=by have:=(yB hb).1;omega
 exact(hr i _ v (yA hi) hv).wkA (e2 i _ b (yA hi) hb)
theorem Gv.out{B:Nat}(hN:∀b,g.N b->B<=b){ks:List (Option Nat)}{rows:List Row}(hks:M0j s ks rows){x:AV}{v:Value}(h:Gv w g s x v)(hn:Nw x) :
  Gv w { S:=fun b o=>g.S b o/\B<=b,N:=g.N,bb:=g.bb,rv:=fun i=>rvO g ks i } (Z0U rows) (x.out ks) v:=by
 have mp:∀(cs:List AV) (vs:List Value) (g':Gh) (s':St),(∀(i:Nat) (x:AV) (v:Value),cs[i]?=some x->vs[i]?=some v->Gv w g' s' (x.out ks) v) ->
   ∀(i:Nat) (x:AV) (v:Value),(cs.map (AV.out ks))[i]?=some x->vs[i]?=some v->Gv w g' s' x v:=by
  intro cs vs g' s' ih i x v hx hv
  rw[yF]at hx
  obtain⟨x0,h0,rfl⟩:=yC hx
  exact ih i x0 v h0 hv
 induction h with
 |data x v h=>exact .data _ v ((h.fresh (fun _ _ _ _ _ q=>hN _ (q _ rfl).1) (fun _ _ q b hb=>⟨(q b hb).1,fun r=>by obtain⟨_,_,e,_⟩:=r;cases e⟩) hn).out ks)
 |bad v=>exact .bad v
 |und=>exact .und
 |sref k v h1 h =>
  rw[AV.out];split
  .rename_i i hi
   have hk:=J1z hi
   refine .sref _ v h1 fun r' hr'=>?_
   have hr'':rows[i]?=some r':=by simpa[Z0U]using hr'
   have:=((W0p hks).2.1 i k r' hk hr'').1
   simp only[rvO,hk]
   exact h r' this
  .exact .bad v
 |ptr j off v h1 h=>exact .bad v
 |rpt j i off v h1 h=>exact .bad v
 |el ad=>exact .el ad
 |od=>exact .bad _
 |op=>exact .bad _
 |eot e off b o cv hw h=>exact(show False by simp[Nw]at hn).elim
 |agg cs vs hl h1 _ ih =>
  rw[AV.out,Q0h]
  refine .agg _ vs (by simpa using hl) (fun y hy=>?_) (mp cs vs _ _ fun i y u hy hu=>ih i y u hy hu (Z05.1 (by simpa[Nw]using hn) y (yE hy)))
  obtain⟨y0,h0,rfl⟩:=yY hy
  exact Q1P ks (h1 _ h0)
 |tup cs vs hl _ ih =>
  rw[AV.out,Q0h]
  exact .tup _ vs (by simpa using hl) (mp cs vs _ _ fun i y u hy hu=>ih i y u hy hu (Z05.1 (by simpa[Nw]using hn) y (yE hy)))
 |fn f cs vs hl _ ih =>
  rw[AV.out,Q0h]
  exact .fn f _ vs (by simpa using hl) (mp cs vs _ _ fun i y u hy hu=>ih i y u hy hu (Z05.1 (by simpa[Nw]using hn) y (yE hy)))
theorem J1Z{p x:AV}{n:Nat}{ag:Bool}{v:Value}(h:s.ld p n ag=some x)(hv:Gv w g s p v):∃ad,v=.pointer (some ad):=by
 unfold St.ld at h
 split at h
 .obtain⟨b,o,cv,rfl,_⟩:=hv.ept_inv;exact⟨_,rfl⟩
 .obtain⟨b,o,cv,rfl,_⟩:=hv.eot_inv;exact⟨_,rfl⟩
 .split at h
  .rename_i cs hk;exact⟨_,hv.ptr_inv hk⟩
  .cases h
 .split at h
  .rename_i r hk;obtain⟨b,_,rfl⟩:=hv.rpt_inv hk;exact⟨_,rfl⟩
  .cases h
 .cases h
def W1N(tmps:Array Value):ResultVar->Sem Value
 |.tmp t=>pure (tmps.getD t undef)
 |.cell a t=>do loadVar t (← asAddr (tmps.getD a undef))
theorem O0j(I:Inv c g s a w){r:Rv}{R:ResultVar}(hc:chkR P r R=true){x:AV}(h:s.rv1 r=some x):∃u,(W1N a.tmps R).run P w=.ok u w/\Gv w g s x u:=by
 cases r with
 |t i =>
  cases R<;>simp[chkR]at hc
  subst hc
  simp[St.rv1]at h;subst h
  exact⟨_,rfl,I.tm i⟩
 |c i n ag =>
  cases R<;>simp only[chkR,yG,yD,beq_iff_eq,Bool.or_eq_true]at hc
  obtain⟨⟨⟨rfl,h1⟩,h2⟩,h3⟩:=hc
  simp only[St.rv1]at h
  have hv:=I.tm i
  obtain⟨u,hu,hg⟩:=Z20 (P:=P) I hv h1 h2 (fun hag=>by rcases h3 with h|h;rw[hag]at h;cases h;exact h) h
  obtain⟨ad,had⟩:=J1Z h hv
  refine⟨u,?_,hg⟩
  rw[had]at hu
  simp only[W1N,had]
  simpa[Instr.loadAt,Instr.sureAddr,asAddr]using hu
theorem Z0n{fn:Func}(I:Inv c g s a w){rs:List Rv}(hlen:rs.length<=4)(hc:X0j P rs fn.results.toList=true){l:List AV}(h:s.rvs rs=some l) :
  ∃u,(results fn a.tmps).run P w=.ok u w/\Gv w g s (W0L l) u:=by
 have e0:∀L:List ResultVar,fn.results.toList=L->fn.results=L.toArray:=fun L h=>by rw[← h]
 have hres:∀L:List ResultVar,fn.results.toList=L->results fn a.tmps=(do let vs ← L.toArray.mapM (W1N a.tmps);pure (if h:vs.size=1 then vs[0]else .tuple vs)):=fun L hL=>by
  unfold results
  rw[e0 L hL]
  rfl
 generalize hL:fn.results.toList=L at hc
 rw[hres L hL]
 match rs,L,hlen,hc,h with
 |[],[],_,_,h =>
  simp[St.rvs]at h;subst h
  exact⟨.tuple #[],by simp,.tup [] [] rfl (by intro i a v h;simp at h)⟩
 |[r1],[R1],_,hc,h =>
  simp only[X0j,yD]at hc
  simp only[St.rvs]at h
  cases h1:s.rv1 r1 with
  |none=>simp[h1]at h
  |some x1 =>
   simp[h1]at h;subst h
   obtain⟨u1,q1,g1⟩:=O0j (P:=P) I hc.1 h1
   exact⟨u1,by simp[q1],g1⟩
 |[r1,r2],[R1,R2],_,hc,h =>
  simp only[X0j,yD]at hc
  simp only[St.rvs]at h
  cases h1:s.rv1 r1 with
  |none=>simp[h1]at h
  |some x1 =>
  cases h2:s.rv1 r2 with
  |none=>simp[h2]at h
  |some x2 =>
   simp[h1,h2]at h;subst h
   obtain⟨u1,q1,g1⟩:=O0j (P:=P) I hc.1 h1
   obtain⟨u2,q2,g2⟩:=O0j (P:=P) I hc.2.1 h2
   refine⟨.tuple #[u1,u2],by simp[q1,q2],.tup [x1,x2] [u1,u2] rfl fun i y v hy hv=>?_⟩
   match i with
   |0=>simp at hy hv;subst hy;subst hv;exact g1
   |1=>simp at hy hv;subst hy;subst hv;exact g2
   |i+2=>simp at hy
 |[r1,r2,r3],[R1,R2,R3],_,hc,h =>
  simp only[X0j,yD]at hc
  simp only[St.rvs]at h
  cases h1:s.rv1 r1 with
  |none=>simp[h1]at h
  |some x1 =>
  cases h2:s.rv1 r2 with
  |none=>simp[h2]at h
  |some x2 =>
  cases h3:s.rv1 r3 with
  |none=>simp[h3]at h
  |some x3 =>
   simp[h1,h2,h3]at h;subst h
   obtain⟨u1,q1,g1⟩:=O0j (P:=P) I hc.1 h1
   obtain⟨u2,q2,g2⟩:=O0j (P:=P) I hc.2.1 h2
   obtain⟨u3,q3,g3⟩:=O0j (P:=P) I hc.2.2.1 h3
   refine⟨.tuple #[u1,u2,u3],by simp[q1,q2,q3],.tup [x1,x2,x3] [u1,u2,u3] rfl fun i y v hy hv=>?_⟩
   match i with
   |0=>simp at hy hv;subst hy;subst hv;exact g1
   |1=>simp at hy hv;subst hy;subst hv;exact g2
   |2=>simp at hy hv;subst hy;subst hv;exact g3
   |i+3=>simp at hy
 |[r1,r2,r3,r4],[R1,R2,R3,R4],_,hc,h =>
  simp only[X0j,yD]at hc
  simp only[St.rvs]at h
  cases h1:s.rv1 r1 with
  |none=>simp[h1]at h
  |some x1 =>
  cases h2:s.rv1 r2 with
  |none=>simp[h2]at h
  |some x2 =>
  cases h3:s.rv1 r3 with
  |none=>simp[h3]at h
  |some x3 =>
  cases h4:s.rv1 r4 with
  |none=>simp[h4]at h
  |some x4 =>
   simp[h1,h2,h3,h4]at h;subst h
   obtain⟨u1,q1,g1⟩:=O0j (P:=P) I hc.1 h1
   obtain⟨u2,q2,g2⟩:=O0j (P:=P) I hc.2.1 h2
   obtain⟨u3,q3,g3⟩:=O0j (P:=P) I hc.2.2.1 h3
   obtain⟨u4,q4,g4⟩:=O0j (P:=P) I hc.2.2.2.1 h4
   refine⟨.tuple #[u1,u2,u3,u4],by simp[q1,q2,q3,q4],.tup [x1,x2,x3,x4] [u1,u2,u3,u4] rfl fun i y v hy hv=>?_⟩
   match i with
   |0=>simp at hy hv;subst hy;subst hv;exact g1
   |1=>simp at hy hv;subst hy;subst hv;exact g2
   |2=>simp at hy hv;subst hy;subst hv;exact g3
   |3=>simp at hy hv;subst hy;subst hv;exact g4
   |i+4=>simp at hy
 |[],_::_,_,hc,_=>simp[X0j]at hc
 |_::_,[],_,hc,_=>simp[X0j]at hc
 |[_],_::_::_,_,hc,_=>simp[X0j]at hc
 |_::_::_,[_],_,hc,_=>simp[X0j]at hc
 |[_,_],_::_::_::_,_,hc,_=>simp[X0j]at hc
 |_::_::_::_,[_,_],_,hc,_=>simp[X0j]at hc
 |[_,_,_],_::_::_::_::_,_,hc,_=>simp[X0j]at hc
 |_::_::_::_::_,[_,_,_],_,hc,_=>simp[X0j]at hc
 |[_,_,_,_],_::_::_::_::_::_,_,hc,_=>simp[X0j]at hc
 |_::_::_::_::_::_,_::_::_::_::_,hl,_,_=>simp at hl
def st0(args:List AV):St:={ e:=fun i=>args.getD i .und,bx:=fun _=>none,rw:=fun _=>none,nx:=0,my:=fun _=>True }
def chkF(P:Program)(n:Nat)(l:L)(rs:List Rv)(fn:Func):Bool :=
 (match fn.body with|some code=>chkC P fn.ntmps l code|none=>false)&&X0j P rs fn.results.toList&&decide (rs.length<=4)&&decide (n<=fn.ntmps)&&decide (fn.ntmps<=900000)
theorem O1X{f:FuncId}{fn:Func}{l:L}{rs:List Rv}{args:List AV}{res:AV}{rows:List Row}(hf:P.funcs[f]?=some fn)(hc:chkF P args.length l rs fn=true)
  (hrd:rdtL args=args) (h:den P l (post rs res rows) (st0 args)):Snd P f args res rows:=by
 simp only[chkF,yD,yO]at hc
 obtain⟨⟨⟨⟨hc,hr⟩,hr4⟩,hn⟩,hnb⟩:=hc
 cases hb:fn.body with
 |none=>rw[hb]at hc;cases hc
 |some code =>
  rw[hb]at hc
  simp only at hc
  intro w S N vs hS hvl hvs
  let c:Cx:={ nt:=fn.ntmps,X:=fun _=>False,Y:=fun _=>False,S0:=S,w0:=w,rv0:=fun _=>undef,bb0:=fun _=>0,ntb:=hnb,s0:=hS,sx:=fun _ _ _ h=>h }
  let g:Gh:={ S:=S,N:=fun b=>w.heap.size<=b,bb:=fun _=>0,rv:=fun _=>undef }
  have I:Inv c g (st0 args) { tmps:=vs.toArray++Array.replicate (fn.ntmps-vs.toArray.size) undef,defers:=[] } w:=by
   refine⟨rfl,by simp only[Array.size_append,List.size_toArray,Array.size_replicate,c];omega,⟨rfl,rfl,rfl,yV _,fun _ _ _=>rfl⟩,fun i=>?_,fun k cs h=>(by cases h),fun k cs h=>(by cases h),fun k r h=>(by cases h),fun k r h=>(by cases h),fun k k' cs cs' h=>(by cases h),fun k k' cs r h=>(by cases h),fun k k' r r' h=>(by cases h),fun b o h=>hS b o h,fun b h=>h,fun b h1 h2=>absurd h2 (Nat.not_lt.2 h1),fun _ _=>⟨rfl,rfl⟩,fun _ _ h=>h,fun _ _ h=>.inl h,⟨OwnH.none fun _=>rfl,fun i D h=>(by cases h),rfl,yV _,fun _ _=>rfl,fun _ h=>(show False from h).elim,fun _ h=>(show False from h).elim,fun _ _ _ h=>(show False from h).elim⟩,fun b o h q=>q.elim (fun q=>absurd (hS b o h) (Nat.not_lt.2 q)) fun q=>(show False from q).elim,fun _ _ _ h=>h⟩
   .simp only[st0]
    rcases Nat.lt_or_ge i args.length with hi|hi
    .have hiv:i<vs.length:=by omega
     have e1:args.getD i .und=args[i]:=by simp[List.getD_eq_getElem?_getD,hi]
     have e2:(vs.toArray++Array.replicate (fn.ntmps-vs.toArray.size) undef).getD i undef=vs[i]:=by
      simp[Array.getD_eq_getD_getElem?,Array.getElem?_append_left,hiv]
     rw[e1,e2]
     have:=(hvs i args[i] vs[i] (yA hi) (yA hiv)).rdt (N':=g.T) (Gh.T_rd fun _=>rfl)
     have e3:args[i].rdt=args[i]:=by
      have:=congrArg (fun l:List AV=>l[i]?) hrd
      simp only[X3,yF,yA hi,Option.map_some,yI]at this
      exact this
     rw[e3]at this
     exact .data _ _ this
    .have e1:args.getD i .und=.und:=by simp[List.getD_eq_getElem?_getD,List.getElem?_eq_none hi]
     have e2:(vs.toArray++Array.replicate (fn.ntmps-vs.toArray.size) undef).getD i undef=undef:=by
      rw[Array.getD_eq_getD_getElem?,Array.getElem?_append_right (by simp;omega),Array.getElem?_replicate]
      split<;>rfl
     rw[e1,e2]
     exact .und
  refine calls_of_wp hf hb ?_
  refine W0y (c:=c) hc (fun e g' s' a' w' I' hp=>?_) I h
  have fin:(∃v,(results fn a'.tmps).run P w'=.ok v w'/\∃v',Ending.returned v=.returned v'/\Below w.heap.size w w'/\Ret w.heap.size w' res rows v'):=by
   obtain⟨_,l',ks,h1,h2,h3,h4,h5⟩:=hp
   obtain⟨u,q1,q2⟩:=Z0n (P:=P) I' hr4 hr h1
   have hB:∀b,g'.N b->w.heap.size<=b:=fun b hb=>Classical.byContradiction fun hlt=>I'.nx b hb (show b<w.heap.size by omega)
   refine⟨u,q1,u,rfl,⟨I'.fr.os,I'.fr.tape,I'.fr.output,I'.fr.size,fun k hk=>I'.fr.block k hk (fun h=>h)⟩,?_⟩
   obtain⟨r1,r2,r3⟩:=W0p h5
   have kof:∀(i:Nat) (r:Row),rows[i]?=some r->(∃k,ks[i]?=some (some k)/\s'.rw k=some r/\r.sh=false/\NwL r.es/\rvO g' ks i=g'.rv k)\/(ks[i]?=some none/\r.es=[]/\rvO g' ks i=.slice none 0 0):=fun i r hi=>by
    have hlt:i<ks.length:=by rw[r1];exact(yB hi).1
    cases hk:ks[i]with
    |none=>exact .inr ⟨by rw[yA hlt,hk],r3 i r (by rw[yA hlt,hk]) hi,by simp only[rvO,yA hlt,hk]⟩
    |some k =>
     obtain⟨z1,z2,z3⟩:=r2 i k r (by rw[yA hlt,hk]) hi
     exact .inl ⟨k,by rw[yA hlt,hk],z1,z2,z3,by simp only[rvO,yA hlt,hk]⟩
   refine⟨{ S:=fun b o=>g'.S b o/\w.heap.size<=b,N:=g'.N,bb:=g'.bb,rv:=fun i=>rvO g' ks i },fun b o ho=>⟨ho.2,I'.sw b o ho.1⟩,hB,fun _=>rfl,(q2.out hB h5 h3).wk (fun i hi r _=>by simp only[rvO,hi]) h2,fun i r hi=>?_,fun i j r r' hi hj hne b hb=>?_,fun b o ho=>I'.uf b o ho.1 (.inl ho.2)⟩
   .rcases kof i r hi with⟨k,hk,hkr,hsh,hnw,ek⟩|⟨hk,he,ek⟩
    .simp only[ek]
     obtain⟨xs,ty,p1,p2,p3⟩:=I'.rws k r hkr
     refine⟨⟨xs,ty,p1,p2,fun j y v hy hv=>⟨(p3 j y v hy hv).1,(p3 j y v hy hv).2.1,((p3 j y v hy hv).2.2).fresh (fun _ _ _ _ _ h=>hB _ (h _ rfl).1) (fun _ _ h b hb=>⟨(h b hb).1,fun q=>by obtain⟨_,_,e,_⟩:=q;cases e⟩) (V1B hnw y (yE hy))⟩⟩,fun b hb=>⟨hB b (I'.rwn k r hkr b hb).1.1,fun o ho=>?_⟩⟩
     have:=((I'.rwn k r hkr b hb).2 o ho.1).1
     rw[hsh]at this;cases this
    .simp only[ek]
     refine⟨⟨[],0,by rw[he];exact World.ownsRow_nil w' 0 0 r.sz,by rw[he];simp,by rw[he];intro j a u h;simp[flat]at h⟩,fun b hb=>by simp[Value.ownBlock]at hb⟩
   .rcases kof i r hi with⟨k,hk,hkr,_,_,ek⟩|⟨hk,he,ek⟩
    .rcases kof j r' hj with⟨k',hk',hkr',_,_,ek'⟩|⟨hk',he',ek'⟩
     .simp only[ek,ek']at hb ⊢
      exact I'.drr k k' r r' hkr hkr' (fun e=>hne (by subst e;exact L0M h4 hk hk')) b hb
     .simp only[ek'];simp[Value.ownBlock]
    .simp only[ek]at hb;simp[Value.ownBlock]at hb
  cases e with
  |nrm=>exact⟨I'.defers,fin⟩
  |ret=>exact⟨I'.defers,fin⟩
  |ext id=>exact hp.1.elim
theorem U1N{f:FuncId}{fn:Func}{l:L}{t:Nat}{args:List AV}{Ψ:List AV->Prop}(hf:P.funcs[f]?=some fn)(hc:chkF P args.length l [.t t] fn=true)
  (hrd:rdtL args=args) (h:den P l (fun e s=>(match e with | .ext _=>False|_=>True)/\∃(k:Nat) (cs:List AV),s.e t=.ptr k 0/\s.bx k=some cs/\cs.all plain=true/\rdtL cs=cs/\Ψ cs) (st0 args)):SndB P f args Ψ:=by
 simp only[chkF,yD,yO]at hc
 obtain⟨⟨⟨⟨hc,hr⟩,hr4⟩,hn⟩,hnb⟩:=hc
 cases hb:fn.body with
 |none=>rw[hb]at hc;cases hc
 |some code =>
  rw[hb]at hc
  simp only at hc
  intro w S N vs hS hvl hvs
  let c:Cx:={ nt:=fn.ntmps,X:=fun _=>False,Y:=fun _=>False,S0:=S,w0:=w,rv0:=fun _=>undef,bb0:=fun _=>0,ntb:=hnb,s0:=hS,sx:=fun _ _ _ h=>h }
  let g:Gh:={ S:=S,N:=fun b=>w.heap.size<=b,bb:=fun _=>0,rv:=fun _=>undef }
  have I:Inv c g (st0 args) { tmps:=vs.toArray++Array.replicate (fn.ntmps-vs.toArray.size) undef,defers:=[] } w:=by
   refine⟨rfl,by simp only[Array.size_append,List.size_toArray,Array.size_replicate,c];omega,⟨rfl,rfl,rfl,yV _,fun _ _ _=>rfl⟩,fun i=>?_,fun k cs h=>(by cases h),fun k cs h=>(by cases h),fun k r h=>(by cases h),fun k r h=>(by cases h),fun k k' cs cs' h=>(by cases h),fun k k' cs r h=>(by cases h),fun k k' r r' h=>(by cases h),fun b o h=>hS b o h,fun b h=>h,fun b h1 h2=>absurd h2 (Nat.not_lt.2 h1),fun _ _=>⟨rfl,rfl⟩,fun _ _ h=>h,fun _ _ h=>.inl h,⟨OwnH.none fun _=>rfl,fun i D h=>(by cases h),rfl,yV _,fun _ _=>rfl,fun _ h=>(show False from h).elim,fun _ h=>(show False from h).elim,fun _ _ _ h=>(show False from h).elim⟩,fun b o h q=>q.elim (fun q=>absurd (hS b o h) (Nat.not_lt.2 q)) fun q=>(show False from q).elim,fun _ _ _ h=>h⟩
   .simp only[st0]
    rcases Nat.lt_or_ge i args.length with hi|hi
    .have hiv:i<vs.length:=by omega
     have e1:args.getD i .und=args[i]:=by simp[List.getD_eq_getElem?_getD,hi]
     have e2:(vs.toArray++Array.replicate (fn.ntmps-vs.toArray.size) undef).getD i undef=vs[i]:=by
      simp[Array.getD_eq_getD_getElem?,Array.getElem?_append_left,hiv]
     rw[e1,e2]
     have:=(hvs i args[i] vs[i] (yA hi) (yA hiv)).rdt (N':=g.T) (Gh.T_rd fun _=>rfl)
     have e3:args[i].rdt=args[i]:=by
      have:=congrArg (fun l:List AV=>l[i]?) hrd
      simp only[X3,yF,yA hi,Option.map_some,yI]at this
      exact this
     rw[e3]at this
     exact .data _ _ this
    .have e1:args.getD i .und=.und:=by simp[List.getD_eq_getElem?_getD,List.getElem?_eq_none hi]
     have e2:(vs.toArray++Array.replicate (fn.ntmps-vs.toArray.size) undef).getD i undef=undef:=by
      rw[Array.getD_eq_getD_getElem?,Array.getElem?_append_right (by simp;omega),Array.getElem?_replicate]
      split<;>rfl
     rw[e1,e2]
     exact .und
  refine calls_of_wp hf hb ?_
  refine W0y (c:=c) hc (fun e g' s' a' w' I' hp=>?_) I h
  have fin:(∃v,(results fn a'.tmps).run P w'=.ok v w'/\∃b,Ending.returned v=.returned (.pointer (some ⟨b,0,none⟩))/\Below w.heap.size w w'/\w.heap.size<=b/\∃cs,Ψ cs/\∃(S2:Nat->Nat->Prop) (us:List Value) (ty:TypeId),
   (∀b o,S2 b o->S b o\/(w.heap.size<=b/\b<w'.heap.size/\UnfB w' b))/\(∀o,¬ S2 b o)/\w'.heap[b]?=some (.cells us.toArray ty (0,0))/\us.length=cs.length /\
   ∀(i:Nat) (a:AV) (u:Value),cs[i]?=some a->us[i]?=some u->a.one=true/\u.oneCell'=true/\Rd w' S2 rdT a u):=by
   obtain⟨_,k,cs,h1,h2,h3,h4,h5⟩:=hp
   obtain⟨u,q1,q2⟩:=Z0n (P:=P) I' hr4 hr (l:=[.ptr k 0]) (by simp[St.rvs,St.rv1,h1])
   have hu:u=.pointer (some ⟨g'.bb k,0,none⟩):=(show Gv w' g' s' (.ptr k 0) u from q2).ptr_inv h2
   have hB:∀b,g'.N b->w.heap.size<=b:=fun b hb=>Classical.byContradiction fun hlt=>I'.nx b hb (show b<w.heap.size by omega)
   obtain⟨us,ty,z1,z2,z3⟩:=I'.bxs k cs h2
   refine⟨u,q1,g'.bb k,by rw[hu],⟨I'.fr.os,I'.fr.tape,I'.fr.output,I'.fr.size,fun k hk=>I'.fr.block k hk (fun h=>h)⟩,hB _ (I'.bxn k cs h2).1.1,cs,h5,g'.S,us,ty,fun b o ho=>?_,(I'.bxn k cs h2).2,z1,z2,fun i x v hx hv=>?_⟩
   .rcases I'.sb b o ho with h|h|h
    .exact .inl h
    .exact .inr ⟨h,I'.sw b o ho,I'.uf b o ho (.inl h)⟩
    .cases h
   .obtain⟨p1,p2,p3⟩:=z3 i x v hx hv
    have hpl:plain x=true:=List.all_eq_true.1 h3 x (yE hx)
    have e3:x.rdt=x:=by
     have:=congrArg (fun l:List AV=>l[i]?) h4
     simp only[X3,yF,hx,Option.map_some,yI]at this
     exact this
    have:=(I'.plain (x:=x) (y:=x) (by cases x<;>simp[plain]at hpl<;>simp[nosr,plain]) (Y0J hpl) p3).rdt (N':=rdT) fun _ _=>rfl
    rw[e3]at this
    exact⟨by cases x<;>simp[plain]at hpl<;>rfl,p2,this⟩
  cases e with
  |nrm=>exact⟨I'.defers,fin⟩
  |ret=>exact⟨I'.defers,fin⟩
  |ext id=>exact hp.1.elim
def YF(P:Program)(f:FuncId)(n:Nat)(l:L)(rs:List Rv):Bool:=match P.funcs[f]? with
 |some fn=>chkF P n l rs fn
 |none=>false
theorem Q1N{f:FuncId}{l:L}{t:Nat}{args:List AV}{Ψ:List AV->Prop}{n:Nat}(hc:YF P f n l [.t t]=true)(hn:args.length=n)
  (hrd:rdtL args=args) (h:den P l (fun e s=>(match e with | .ext _=>False|_=>True)/\∃(k:Nat) (cs:List AV),s.e t=.ptr k 0/\s.bx k=some cs/\cs.all plain=true/\rdtL cs=cs/\Ψ cs) (st0 args)):SndB P f args Ψ:=by
 unfold YF at hc
 split at hc
 .rename_i fn hf
  exact U1N hf (by rw[hn];exact hc) hrd h
 .cases hc
theorem M1X{f:FuncId}{l:L}{rs:List Rv}{args:List AV}{res:AV}{rows:List Row}{n:Nat}(hc:YF P f n l rs=true)(hn:args.length=n)
  (hrd:rdtL args=args) (h:den P l (post rs res rows) (st0 args)):Snd P f args res rows:=by
 unfold YF at hc
 split at hc
 .rename_i fn hf
  subst hn
  exact O1X hf hc hrd h
 .cases hc
end
end
section
inductive It
 |l (c:L)
 |mk (id:Nat)
 |lp (I:Nat->St->Prop) (m:Nat)
 |jn (J:St->Prop)
def denK(P:Program)(R:Ex->St->Prop):List It->Ex->St->Prop
 |[],e,s=>R e s
 |.l c::k,e,s=>match e with
  |.nrm=>den P c (denK P R k) s
  |e=>denK P R k e s
 |.mk id::k,e,s=>match e with
  |.ext id'=>if id'=id then denK P R k .nrm s else denK P R k (.ext id') s
  |e=>denK P R k e s
 |.lp I m::k,e,s=>match e with
  |.nrm=>∃m',m'<m/\I m' s
  |e=>denK P R k e s
 |.jn J::k,e,s=>match e with
  |.nrm=>J s
  |e=>denK P R k e s
def W(P:Program)(R:Ex->St->Prop)(k:List It)(s:St):Prop:=denK P R k .nrm s
section
variable{P:Program}{R:Ex->St->Prop}{k:List It}{s:St}
theorem J18{K K':Ex->St->Prop}(h:∀e s,K e s->K' e s):∀{l:L} {s:St},den P l K s->den P l K' s:=by
  have wop_mono:∀(o:LOp) (K K':St->Prop) (s:St),(∀s,K s->K' s)->wop P o K s->wop P o K' s:=by
    intro o
    induction o with
    |g t want o ih =>
      intro K K' s h hw
      simp only[wop]at hw ⊢
      split at hw
      · split at hw
        · rename_i e;rw[yd e];exact ih K K' s h hw
        · rename_i e;rw[ye e];exact h _ hw
      · exact h _ hw
      · exact hw
    |pk d x y z =>
      intro K K' s h hw
      simp only[wop]at hw ⊢
      cases hx:s.get x<;>rw[hx]at hw<;>first|exact hw|exact h _ hw
    |eb d ne x y =>
      intro K K' s h hw
      simp only[wop]at hw ⊢
      cases hx:s.get x<;>rw[hx]at hw<;>cases hy:s.get y<;>rw[hy]at hw<;>first|exact hw|exact h _ hw
    |es d ne ks x y =>
      intro K K' s h hw
      simp only[wop]at hw ⊢
      cases hx:s.get x<;>rw[hx]at hw<;>cases hy:s.get y<;>rw[hy]at hw<;>first
        |exact hw
        | (rename_i a b;cases hz:eqCells ks a b<;>simp only[hz]at hw ⊢<;>first|exact hw|exact h _ hw)
    |st p x n =>
      intro K K' s h hw
      simp only[wop]at hw ⊢
      cases hp:s.get p<;>rw[hp]at hw<;>first
        |exact hw
        | (rename_i k off;cases hk:s.bx k<;>simp only[hk]at hw ⊢<;>first|exact hw|exact⟨hw.1,hw.2.1,hw.2.2.1,h _ hw.2.2.2⟩)
        | (rename_i k i off
           cases hk:s.rw k<;>simp only[hk]at hw ⊢<;>first
             |exact hw
             | (rename_i r
                cases he:r.es[i]?<;>cases hd:s.dt (s.get x)<;>simp only[he,hd]at hw ⊢<;>first|exact hw|exact⟨hw.1,hw.2.1,hw.2.2.1,hw.2.2.2.1,h _ hw.2.2.2.2⟩))
    |ms d sz by' z x =>
      intro K K' s h hw
      simp only[wop]at hw ⊢
      cases hx:s.get x<;>rw[hx]at hw<;>first|exact hw|exact⟨hw.1,hw.2.1,hw.2.2.1,h _ hw.2.2.2⟩
    |mm d mx x y =>
      intro K K' s h hw
      simp only[wop]at hw ⊢
      cases hx:s.get x<;>rw[hx]at hw<;>cases hy:s.get y<;>rw[hy]at hw<;>first|exact hw|exact⟨hw.1,h _ hw.2⟩
    |ln d x =>
      intro K K' s h hw
      simp only[wop]at hw ⊢
      split at hw
      · exact fun q=>h _ (hw q)
      · split at hw
        · exact fun q=>h _ (hw q)
        · exact hw
      · exact h _ hw
      · exact hw
    |cl d f xs =>
      intro K K' s h hw
      simp only[wop]at hw ⊢
      obtain⟨as,h1,res,rows,h2,hr,h3⟩:=hw
      exact⟨as,h1,res,rows,h2,hr,h _ h3⟩
    |cq d f xs =>
      intro K K' s h hw
      simp only[wop]at hw ⊢
      obtain⟨as,h1,res,rows,h2,h3⟩:=hw
      exact⟨as,h1,res,rows,h2,h _ h3⟩
    |cc d f xs =>
      intro K K' s h hw
      simp only[wop]at hw ⊢
      obtain⟨as,h1,f,cap,as',e,hf,res,rows,h2,h3⟩:=hw
      exact⟨as,h1,f,cap,as',e,hf,res,rows,h2,h _ h3⟩
    |cm d f xs =>
      intro K K' s h hw
      simp only[wop]at hw ⊢
      obtain⟨bks,rks,bin,rin,as,h1,h2,h3,hn,hg,Φ,h4,h5⟩:=hw
      exact⟨bks,rks,bin,rin,as,h1,h2,h3,hn,hg,Φ,h4,fun n1 res bout upd new q0 q1 q2 q3=>⟨(h5 n1 res bout upd new q0 q1 q2 q3).1,(h5 n1 res bout upd new q0 q1 q2 q3).2.1,(h5 n1 res bout upd new q0 q1 q2 q3).2.2.1,h _ (h5 n1 res bout upd new q0 q1 q2 q3).2.2.2⟩⟩
    |lq d x =>
      intro K K' s h hw
      simp only[wop]at hw ⊢
      split at hw
      · rename_i e;exact⟨hw.1,h _ hw.2⟩
      · split at hw
        · exact⟨hw.1,h _ hw.2⟩
        · exact hw
      · exact h _ hw
      · exact hw
    |cn d f xs =>
      intro K K' s h hw
      simp only[wop]at hw ⊢
      obtain⟨as,h1,h2,hn,Ψ,h3,h4⟩:=hw
      exact⟨as,h1,h2,hn,Ψ,h3,fun cs q=>h _ (h4 cs q)⟩
    |ia d x i n =>
      intro K K' s h hw
      simp only[wop]at hw ⊢
      split at hw
      · split at hw
        · split at hw
          · exact⟨hw.1,h _ hw.2⟩
          · exact hw
        · exact hw
      · split at hw
        · split at hw
          · exact⟨hw.1,h _ hw.2⟩
          · exact hw
        · exact hw
      · exact hw
    |old d x =>
      intro K K' s h hw
      simp only[wop]at hw ⊢
      split at hw
      · split at hw
        · exact fun n q=>h _ (hw n q)
        · exact hw
      · exact hw
    |co d f xs =>
      intro K K' s h hw
      simp only[wop]at hw ⊢
      obtain⟨as,h1,res,rows,h2,h3,h4⟩:=hw
      exact⟨as,h1,res,rows,h2,h3,h _ h4⟩
    |cf d f m xs =>
      intro K K' s h hw
      simp only[wop]at hw ⊢
      obtain⟨hm,as,Φ,rks,h1,h2,h3,h4⟩:=hw
      exact⟨hm,as,Φ,rks,h1,h2,h3,fun k q=>h _ (h4 k q)⟩
    |b2s d x =>
      intro K K' s h hw
      simp only[wop]at hw ⊢
      split at hw
      · obtain⟨l,h1,h2⟩:=hw;exact⟨l,h1,h _ h2⟩
      · exact h _ hw
      · exact hw
    |cs t =>
      intro K K' s h hw
      simp only[wop]at hw ⊢
      split at hw
      · exact⟨fun q=>h _ (hw.1 q),fun q=>h _ (hw.2 q)⟩
      · exact hw
    |bs d sz ps own =>
      intro K K' s h hw
      simp only[wop]at hw ⊢
      split at hw
      · obtain⟨h1,h2,h3,h4,h5⟩:=hw
        refine⟨h1,h2,h3,h4,?_⟩
        split at h5
        · rename_i e;rw[yd e];exact h _ h5
        · rename_i e;rw[ye e];exact h _ h5
      · exact hw
    |_ =>
      intro K K' s h hw
      simp only[wop]at hw ⊢
      repeat' split at hw
      all_goals first
        |exact hw
        |exact h _ hw
        |exact⟨hw.1,h _ hw.2⟩
        |exact⟨hw.1,hw.2.1,h _ hw.2.2⟩
        |exact⟨hw.1,hw.2.1,hw.2.2.1,h _ hw.2.2.2⟩
        |exact⟨hw.1,hw.2.1,hw.2.2.1,hw.2.2.2.1,h _ hw.2.2.2.2⟩
  have wops_mono:∀(ls:List LOp) (K K':St->Prop) (s:St),(∀s,K s->K' s)->wops P ls K s->wops P ls K' s:=by
    intro ls
    induction ls with
    |nil=>exact fun K K' s h hw=>h _ hw
    |cons l ls ih=>exact fun K K' s h hw=>wop_mono l _ _ s (fun s' q=>ih K K' s' h q) hw
  have qwops_mono:∀(ls:List LOp) (acc:List AV) (K K':St->Prop) (s:St),(∀s,K s->K' s)->X09 P ls acc K s->X09 P ls acc K' s:=by
    intro ls
    induction ls with
    |nil=>exact fun acc K K' s h hw=>h _ hw
    |cons l ls ih =>
      intro acc K K' s h hw
      cases l with
      |al d z=>simp only[X09]at hw ⊢;exact⟨hw.1,ih _ K K' _ h hw.2⟩
      |_=>simp only[X09]at hw ⊢;exact⟨hw.1,wop_mono _ _ _ s (fun s' q=>ih _ K K' s' h q) hw.2⟩
  have zw_mono:∀(l:LOp) (K K':St->Prop) (s:St),(∀s,K s->K' s)->zw P l K s->zw P l K' s:=by
    intro l K K' s h hw
    cases l with
    |cm d f xs =>
      obtain⟨bks,bin,h1,h2,h3,hn,Φ,hC,hk⟩:=hw
      exact⟨bks,bin,h1,h2,h3,hn,Φ,hC,fun n1 res bout us new q0 q1 q2=>⟨(hk n1 res bout us new q0 q1 q2).1,h _ (hk n1 res bout us new q0 q1 q2).2⟩⟩
    |cl d f xs =>
      obtain⟨as,h1,res,row,h2,h8,hd,h3,h4,h5⟩:=hw
      exact⟨as,h1,res,row,h2,h8,hd,h3,h4,h _ h5⟩
    |bs d sz ps own=>exact⟨hw.1,wop_mono _ _ _ s h hw.2⟩
    |ap d x y sz b=>exact⟨hw.1,wop_mono _ _ _ s h hw.2⟩
    |_=>first
      | (simp only[zw]at hw ⊢;exact wop_mono _ _ _ s (fun s' q=>⟨q.1,h s' q.2⟩) hw)
      |exact wop_mono _ _ _ s h hw
  have zwops_mono:∀(c:Zc) (ow:List Nat) (ls:List (Bool×LOp)) (K K':St->Prop) (s:St),(∀s,K s->K' s)->Vz P c ow ls K s->Vz P c ow ls K' s:=by
    intro c ow ls
    induction ls with
    |nil=>exact fun K K' s h hw=>h _ hw
    |cons it ls ih =>
      intro K K' s h hw
      obtain⟨f,l⟩:=it
      cases f with
      |true=>exact zw_mono l _ _ s (fun s' q=>ih K K' s' h q) hw
      |false=>exact⟨hw.1,hw.2.1,wop_mono l _ _ _ (fun s' q=>⟨q.1,ih K K' _ h q.2⟩) hw.2.2⟩
  intro l
  induction l generalizing K K' with
  |skip=>exact fun hw=>h _ _ hw
  |ro ow als items tl=>exact fun hw=>zwops_mono _ _ _ _ _ _ (fun s' q=>⟨q.1,wops_mono _ _ _ _ (fun s' q=>h _ _ q) q.2⟩) hw
  |rz als items tl=>exact fun hw=>zwops_mono _ _ _ _ _ _ (fun s' q=>wops_mono _ _ _ _ (fun s' q=>h _ _ q) q) hw
  |reg ls=>exact fun hw=>wops_mono ls _ _ _ (fun s' q=>h _ _ q) hw
  |rq m ls=>exact fun hw=>qwops_mono _ _ _ _ _ (fun s' q=>wops_mono _ _ _ _ (fun s' q=>h _ _ q) q) hw
  |seq x y ihx ihy =>
    intro s hw
    simp only[den]at hw ⊢
    refine ihx (fun e s' q=>?_) hw
    cases e with
    |nrm=>exact ihy h q
    |_=>exact h _ _ q
  |cond c x y ihx ihy =>
    intro s hw
    simp only[den]at hw ⊢
    split at hw
    · exact⟨fun q=>ihx h (hw.1 q),fun q=>ihy h (hw.2 q)⟩
    · exact hw
  |blk id x ih =>
    intro s hw
    simp only[den]at hw ⊢
    refine ih (fun e s' q=>?_) hw
    cases e with
    |ext id'=>simp only at q ⊢;split<;>rename_i e<;>simp only[e,yb,yc]at q<;>exact h _ _ q
    |_=>exact h _ _ q
  |loop x ih =>
    intro s hw
    simp only[den]at hw ⊢
    obtain⟨I,n,h0,hr⟩:=hw
    refine⟨I,n,h0,fun m s' hI=>ih (fun e s'' q=>?_) (hr m s' hI)⟩
    cases e with
    |nrm=>exact q
    |_=>exact h _ _ q
  |exit id=>exact fun hw=>h _ _ hw
  |ret=>exact fun hw=>h _ _ hw
  |scope x ih=>exact fun hw=>ih h hw
  |gw x ih=>exact fun⟨G,h1,h2,h3,h4⟩=>⟨G,h1,h2,h3,ih h h4⟩
@[simp] theorem W_skip:W P R (.l .skip::k) s=W P R k s:=_root_.id rfl
@[simp] theorem W_reg {ls:List LOp}:W P R (.l (.reg ls)::k) s=wops P ls (W P R k) s:=_root_.id rfl
@[simp] theorem W_rq {m:Nat}{ls:List LOp}:W P R (.l (.rq m ls)::k) s=X09 P (ls.take m) [] (wops P (ls.drop m) (W P R k)) (s.kills (alKeys (ls.take m))):=_root_.id rfl
@[simp] theorem W_rz {als:List ZA}{items:List ZI}{tl:List LOp}:W P R (.l (.rz als items tl)::k) s=Vz P (zcOf (items.map Prod.snd)) [] (items.map Prod.snd) (fun s'=>wops P tl (W P R k) (alZ s' als)) (s.kills (als.map (·.2.1))):=_root_.id rfl
@[simp] theorem W_ro {ow:List Nat}{als:List ZA}{items:List ZI}{tl:List LOp}:W P R (.l (.ro ow als items tl)::k) s=Vz P (zcOf (items.map Prod.snd)) ow (items.map Prod.snd) (fun s'=>(∀d∈ow,s'.e d=.ptr d 0)/\wops P tl (W P R k) (alZ s' als)) (s.kills (als.map (·.2.1))):=_root_.id rfl
@[simp] theorem O1H {i d:Nat}{z:List AV}{r:List ZA}:alZ s ((i,d,z)::r)=alZ { s with e:=upd s.e d (.ptr d 0),bx:=fun k=>if k=d then some z else s.bx k } r:=_root_.id rfl
@[simp] theorem W_seq {x y:L}:W P R (.l (.seq x y)::k) s=W P R (.l x::.l y::k) s:=by
 show den P x _ s=den P x _ s
 congr 1
@[simp] theorem Z23 {c:X}{x y:L}:W P R (.l (.cond c x y)::k) s=match s.get c with
  |.bool t=>(t=true->W P R (.l x::k) s)/\(t=false->W P R (.l y::k) s)
  |_=>False:=_root_.id rfl
@[simp] theorem W_blk {id:Nat}{x:L}:W P R (.l (.blk id x)::k) s=W P R (.l x::.mk id::k) s:=by
 show den P x _ s=den P x _ s
 congr 1
@[simp] theorem J1S {x:L}:W P R (.l (.scope x)::k) s=W P R (.l x::k) s:=_root_.id rfl
theorem W_gw{x:L}(G:GW)(h1:G.ok=true)(h2:nooT s G.te)(h3:nooB s G.tb)(h:W P R (.l x::k) (s.gw G)):W P R (.l (.gw x)::k) s:=⟨G,h1,h2,h3,h⟩
@[simp] theorem L22 {id:Nat}:W P R (.l (.exit id)::k) s=denK P R k (.ext id) s:=_root_.id rfl
@[simp] theorem M22:W P R (.l .ret::k) s=denK P R k .ret s:=_root_.id rfl
@[simp] theorem W_mk {id:Nat}:W P R (.mk id::k) s=W P R k s:=_root_.id rfl
@[simp] theorem W_lp {I:Nat->St->Prop}{m:Nat}:W P R (.lp I m::k) s = ∃m',m'<m/\I m' s:=_root_.id rfl
@[simp] theorem W_jn {J:St->Prop}:W P R (.jn J::k) s=J s:=_root_.id rfl
@[simp] theorem V24 {e:Ex}:denK P R [] e s=R e s:=_root_.id rfl
@[simp] theorem X1T {c:L}{id:Nat}:denK P R (.l c::k) (.ext id) s=denK P R k (.ext id) s:=_root_.id rfl
@[simp] theorem O0R {id id':Nat}:denK P R (.mk id::k) (.ext id') s=if id'=id then W P R k s else denK P R k (.ext id') s:=_root_.id rfl
@[simp] theorem Z1S {I:Nat->St->Prop}{m id:Nat}:denK P R (.lp I m::k) (.ext id) s=denK P R k (.ext id) s:=_root_.id rfl
theorem Q1D{x:L}(I:Nat->St->Prop)(n:Nat)(h0:I n s)(h:∀m s',I m s'->W P R (.l x::.lp I m::k) s'):W P R (.l (.loop x)::k) s:=by
 refine⟨I,n,h0,fun m s' hI=>?_⟩
 refine J18 (fun e s'' q=>?_) (h m s' hI)
 cases e<;>exact q
theorem J1R{l:L}(h:W P R [.l l] s):den P l R s:=by
 refine J18 (fun e s'' q=>?_) h
 cases e<;>exact q
@[simp] theorem W23 {K:St->Prop}:wops P [] K s=K s:=_root_.id rfl
@[simp] theorem L1T {K:St->Prop}{l:LOp}{ls:List LOp}:wops P (l::ls) K s=wop P l (wops P ls K) s:=_root_.id rfl
@[simp] theorem J1T {t:Nat}{want:Bool}{o:LOp}{K:St->Prop}(h:s.e t=.bool want):wop P (.g t want o) K s=wop P o K s:=by simp[wop,h]
@[simp] theorem wop_g_t {t:Nat}{o:LOp}{K:St->Prop}(h:s.e t=.bool false):wop P (.g t true o) K s=K (s.set o.dst .und):=by simp[wop,h]
def X1Y(P:Program)(d:Nat)(ls:List LOp)(acc:List AV)(K:St->Prop)(s':St):Prop:=X09 P ls (s'.e d::acc) K s'
@[simp] theorem X1F {d:Nat}{z:List AV}{ls:List LOp}{acc:List AV}{K:St->Prop}:X09 P (.al d z::ls) acc K s=((∀v∈acc,v.dead d=v)/\X09 P ls (.ptr d 0::Z5 d z++acc) K (alSt s d z)):=_root_.id rfl
@[simp] theorem Y1q {l:LOp}{ls:List LOp}{acc:List AV}{K:St->Prop}(h:isAl l=false):X09 P (l::ls) acc K s=(scOk s l/\wop P l (X1Y P l.dst ls acc K) s):=by
 cases l<;>first|rfl|simp[isAl]at h
def J1D(P:Program)(c:Zc)(ow:List Nat)(d:Nat)(r:List (Bool×LOp))(K:St->Prop)(s s':St):Prop:=kfz c (s.hide ow) (s'.e d)=true/\Vz P c ow r K (s.set d (s'.e d))
@[simp] theorem V1j {c:Zc}{ow:List Nat}{d:Nat}{r:List (Bool×LOp)}{K:St->Prop}{s':St}:J1D P c ow d r K s s'=(kfz c (s.hide ow) (s'.e d)=true/\Vz P c ow r K (s.set d (s'.e d))):=_root_.id rfl
@[simp] theorem Y1M {c:Zc}{ow:List Nat}{l:LOp}{r:List (Bool×LOp)}{K:St->Prop}:Vz P c ow ((false,l)::r) K s=(((∀t∈l.rds,kfz c s (s.e t)=true)\/U1a r=true)/\scOk ((s.hide ow).stripc c) l/\wop P l (J1D P c ow l.dst r K s) ((s.hide ow).stripc c)):=_root_.id rfl
@[simp] theorem O1K {ow:List Nat}(i:Nat):(s.hide ow).e i=s.e i:=_root_.id rfl
attribute [simp] U1a L0j
@[simp] theorem X1M {c:Zc}{ow:List Nat}{l:LOp}{r:List (Bool×LOp)}{K:St->Prop}:Vz P c ow ((true,l)::r) K s=zw P l (Vz P c ow r K) s:=_root_.id rfl
attribute [simp] zcOf Z1a U0n AV.ks ksL rO rS clK clKs
attribute [simp] isCm Q0i
@[simp] theorem M1G (i:Nat):s.get (.t i)=s.e i:=rfl
@[simp] theorem get_c (a:AV):s.get (.c a)=a:=rfl
@[simp] theorem e_set (d i:Nat)(v:AV):(s.set d v).e i=if i=d then v else s.e i:=rfl
@[simp] theorem bx_set (d:Nat)(v:AV):(s.set d v).bx=s.bx:=rfl
@[simp] theorem rw_set (d:Nat)(v:AV):(s.set d v).rw=s.rw:=rfl
@[simp] theorem e_kill (d i:Nat):(s.kill d).e i=(s.e i).dead d:=rfl
@[simp] theorem bx_kill (d i:Nat):(s.kill d).bx i=if i=d then none else(s.bx i).map (Z5 d):=rfl
@[simp] theorem rw_kill (d i:Nat):(s.kill d).rw i=if i=d then none else s.rw i:=rfl
@[simp] theorem e_st0 (l:List AV)(i:Nat):(st0 l).e i=l.getD i .und:=rfl
@[simp] theorem bx_st0 (l:List AV)(i:Nat):(st0 l).bx i=none:=rfl
@[simp] theorem rw_st0 (l:List AV)(i:Nat):(st0 l).rw i=none:=rfl
section wks
variable{p:Nat->Prop}
@[simp] theorem M1j (a:AV):AV.wk1 p a a↔True:=by cases a<;>simp[AV.wk1]
@[simp] theorem Z1U (t:Tag)(sz:Nat)(es:List AV):AV.wk1 p .nl (.sl t sz es)↔t.isOwn=false/\es=[]:=Iff.rfl
@[simp] theorem Q1M (i:Nat):AV.wk1 p .nl (.sref i)↔p i:=Iff.rfl
theorem X0K{R:AV->AV->Prop}(h:∀a,R a a):∀l,wkLs R l l
 |[]=>trivial
 |a::l=>⟨h a,X0K h l⟩
@[simp] theorem O1j (a:AV):AV.wkA p a a↔True:=by
 cases a<;>simp only[AV.wkA,M1j]
 rename_i cs;simpa using X0K (fun a=>(M1j (p:=p) a).2 trivial) cs
@[simp] theorem wkA_agg (cs ds:List AV):AV.wkA p (.agg cs) (.agg ds)↔wkLs (AV.wk1 p) cs ds:=Iff.rfl
@[simp] theorem wkA_nl (x:AV):AV.wkA p .nl x↔AV.wk1 p .nl x:=by cases x<;>rfl
@[simp] theorem wk_tup (cs ds:List AV):AV.wk p (.tup cs) (.tup ds)↔wkLs (AV.wkA p) cs ds:=Iff.rfl
attribute [simp] wkLs
end wks
def argsW(s:St)(xs:List X)(as:List AV):Prop:=match s.args xs with|some l=>wkLs (AV.wkA fun _=>False) l as|none=>False
attribute [simp] argsW
section ev
variable(a b:Int)(x y:List UInt8)(k:IntKind)
@[simp] theorem ev_add:evB .add (.int k a) (.int k b)=some (.int k (k.wrap (a+b))):=by simp[evB]
@[simp] theorem ev_mul:evB .mul (.int k a) (.int k b)=some (.int k (k.wrap (a*b))):=by simp[evB]
@[simp] theorem ev_and:evB .and (.int k a) (.int k b)=some (.int k (bAnd k a b)):=by simp[evB]
@[simp] theorem ev_lss:evB .lss (.int k a) (.int k b)=some (.bool (decide (a<b))):=by simp[evB]
end ev
@[simp] theorem W20 (k:IntKind)(i n:Nat):Q0E (.int k (i:Int)) n=if i<n then some i else none:=by
 simp only[Q0E]
 by_cases h:i<n
 .rw[yd ⟨by omega,by omega⟩,yd h];simp
 .rw[ye (by omega),ye h]
theorem Z11{n:Int}(h0:-9223372036854775808<=n)(h1:n<=9223372036854775807):IntKind.i64.wrap n=n:=by
 unfold IntKind.wrap
 simp[IntKind.bits,IntKind.signed]
 omega
@[simp] theorem O19 {i n:Nat}(h:i<n)(hn:n<=9223372036854775807):IntKind.i64.wrap ((i:Int)+1)=((i+1:Nat):Int):=by
 rw[Z11 (by omega) (by omega)];simp
end
attribute [simp] wop.eq_1 wop.eq_2 wop.eq_3 wop.eq_4 wop.eq_5 wop.eq_6 wop.eq_7 wop.eq_8 wop.eq_9 wop.eq_10 wop.eq_11 wop.eq_12 wop.eq_13 wop.eq_14 wop.eq_15 wop.eq_16 wop.eq_17 wop.eq_18 wop.eq_19 wop.eq_20 wop.eq_21 wop.eq_22 wop.eq_23 wop.eq_24 wop.eq_25 wop.eq_26 wop.eq_27 wop.eq_28 wop.eq_29 wop.eq_30 wop.eq_36 wop.eq_37
attribute [simp] LOp.dst scOk O1b alSt LOp.rds X.rd rdO AV.kf kfL bO
attribute [simp] AV.nwd nwdL AV.ren renL St.addrows W0L ix UW
attribute [simp] ixO L0v
attribute [simp] Tag.isOwn AV.noO noOL
mutual
theorem V1Z:∀a:AV,Nw a->a.noO
 |.bool _,_ | .int _ _,_ | .str _,_ | .nl,_ | .el,_ | .sref _,_ | .ptr _ _,_ | .rpt _ _ _,_ | .und,_ | .bad,_=>by simp[AV.noO]
 |.ept _ _,h | .eot _ _,h=>by simp[Nw]at h
 |.sl t sz es,h=>by
  simp only[Nw]at h
  rcases h with⟨rfl,h⟩|⟨rfl,h⟩
  .exact⟨h,trivial⟩
  .exact⟨rfl,U0J es h⟩
 |.agg cs,h | .tup cs,h | .fn _ cs,h=>by simp only[AV.noO];simp only[Nw]at h;exact U0J cs h
theorem U0J:∀l:List AV,NwL l->noOL l
 |[],_=>trivial
 |a::l,h=>⟨V1Z a h.1,U0J l h.2⟩
end
theorem Z1Q{l:List AV}(h:NwL l):noOL l=True:=eq_true (U0J l h)
attribute [simp low] Z1Q
attribute [simp] St.rvs St.rv1 W0L AV.out outL Nw NwL M0j St.ld L0b allOne AV.one AV.cells Z5 AV.dead AV.rdt rdtL St.dt St.dtL Y08 putC nosr plain St.kills alKeys
end
end Go.Proofs.YtpgaganbacipnaaGreat.Eng
