/-
  Lemmas, part 10.
-/
import Derived.Test.YtehomnafaoplgaaGreatZ9
namespace Go.Proofs.YtehomnafaoplgaaGreat
open Go Go.RowKit Eng
structure ProfP(p:tP):Prop where
 pos:0<p.length
 le:p.length<=200
 zero:∀x,p[0]?=some x->x.t=0
 ok:∀x∈p,time x.t=true/\U0 x.free=true
 asc:∀(i:Nat) (x y:Pt),p[i]?=some x->p[i+1]?=some y->x.t<y.t/\x.free≠y.free
theorem Z0e(p:tP):JH p=Xg p:=by
 have e:(!Z0 (p.length:Int) 1 200)=(decide ((p.length:Int)<1)||decide (200<(p.length:Int))):=by
  unfold Z0
  rw[Bool.eq_iff_iff];simp
 unfold JH Xg
 rw[e]
 rfl
theorem L25(a b:Vec):(a.a==b.a&&(a.b==b.b&&(a.c==b.c&&true)))=decide (a=b):=by
 cases a;cases b
 simp only[Vec.mk.injEq,Bool.and_true]
 rw[Bool.eq_iff_iff]
 simp
theorem V0t(p:tP):∃b,Xg p=some b/\(b=true↔ProfP p):=by
 unfold Xg
 by_cases h1:p.length<1
 .exact⟨false,by simp[show((p.length:Int)<1) by omega],Wq λh=>by have:=h.pos;omega⟩
 by_cases h2:200<p.length
 .exact⟨false,by simp[show((200:Int)<p.length) by omega],Wq λh=>by have:=h.le;omega⟩
 obtain⟨p0,hp0⟩:∃p0,p[0]?=some p0:=⟨_,yA (by omega)⟩
 have e1:decide ((p.length:Int)<1)=false:=by simp;omega
 have e2:decide ((200:Int)<(p.length:Int))=false:=by simp;omega
 rw[e1,e2]
 simp only[Bool.or_self,yM,Bool.false_or,show idx p 0=some p0 from by rw[← hp0];exact X3 (i:=0),bS]
 by_cases h4:p0.t=0
 rotate_left
 .refine⟨false,by rw[show(p0.t != 0)=true by simpa using h4];rfl,Wq λh=>h4 (h.zero _ hp0)⟩
 rw[h4]
 simp only[bne_self_eq_false,yM]
 refine Lh (λi (_:Unit)=>(∀j x,j<i->p[j]?=some x->time x.t=true/\U0 x.free=true)/\∀j x y,j+1<i->p[j]?=some x->p[j+1]?=some y->x.t<y.t/\x.free≠y.free)
  (λr=>∃b,r=some b/\(b=true↔ProfP p)) ?_ ?_ ⟨λj x h=>by omega,λj x y h=>by omega⟩
 .intro i x _ k hi hI hk
  have hil:=(yB hi).1
  unfold L05
  rw[Mb]
  cases ht:time x.t with
  |false=>exact⟨false,rfl,Wq λh=>by have:=(h.ok x (yE hi)).1;rw[ht]at this;cases this⟩
  |true =>
  cases hv:U0 x.free with
  |false=>exact⟨false,rfl,Wq λh=>by have:=(h.ok x (yE hi)).2;rw[hv]at this;cases this⟩
  |true =>
  simp only[yL,Bool.or_self,yM,Bool.false_or,L25]
  have new1:∀j y,j<i+1->p[j]?=some y->time y.t=true/\U0 y.free=true:=by
   intro j y hj hy
   by_cases e:j=i
   .subst e;rw[hi]at hy;cases hy;exact⟨ht,hv⟩
   .exact hI.1 j y (by omega) hy
  by_cases h0:i=0
  .subst h0
   simp only[Int.natCast_zero,Int.lt_irrefl,decide_false,yM,Bool.false_and]
   exact hk () ⟨new1,λj x y h=>by omega⟩
  .have hgt:decide ((0:Int)<(i:Int))=true:=by simp;omega
   obtain⟨q,hq⟩:∃q,p[i-1]?=some q:=⟨_,yA (by omega)⟩
   rw[hgt,X19 (by omega) (by omega)]
   simp only[yN,Bool.true_and,X3,hq,bS]
   by_cases h5:x.t<=q.t
   .simp only[h5,decide_true,yN,Bool.true_or]
    refine⟨false,rfl,Wq λh=>?_⟩
    have:=(h.asc (i-1) q x hq (by rw[show i-1+1=i by omega];exact hi)).1
    omega
   .simp only[h5,decide_false,yM,Bool.false_or,bS]
    by_cases h6:q.free=x.free
    .simp only[h6,decide_true,yN]
     refine⟨false,rfl,Wq λh=>?_⟩
     exact(h.asc (i-1) q x hq (by rw[show i-1+1=i by omega];exact hi)).2 h6
    .simp only[h6,decide_false,yM]
     refine hk () ⟨new1,λj a b hj ha hb=>?_⟩
     by_cases e:j+1=i
     .have:j=i-1:=by omega
      subst this
      rw[hq]at ha;cases ha
      rw[show i-1+1=i by omega,hi]at hb;cases hb
      exact⟨by omega,h6⟩
     .exact hI.2 j a b (by omega) ha hb
 .intro _ hI
  refine⟨true,rfl,λ_=>⟨by omega,by omega,λx hx=>by rw[hp0]at hx;cases hx;exact h4,λx hx=>?_,λi x y hx hy=>?_⟩,λ_=>rfl⟩
  .obtain⟨j,hj⟩:=List.getElem?_of_mem hx
   exact hI.1 j x (yB hj).1 hj
  .exact hI.2 i x y (yB hy).1 hx hy
noncomputable def profOk(p:tP):Bool:=(Xg p).getD false
theorem Mi(p:tP):Xg p=some (profOk p):=by
 obtain⟨b,h3,_⟩:=V0t p
 rw[profOk,h3];rfl
theorem X04{p:tP}:profOk p=true↔ProfP p:=by
 obtain⟨b,h3,h4⟩:=V0t p
 rw[profOk,h3];exact h4
theorem ProfP.lt{p:tP}(h:ProfP p):∀(j i:Nat) (x y:Pt),i<j->p[i]?=some x->p[j]?=some y->x.t<y.t:=by
 intro j
 induction j with
 |zero=>intro i x y hij;omega
 |succ j ih =>
  intro i x y hij hx hy
  obtain⟨z,hz⟩:∃z,p[j]?=some z:=⟨_,yA (by have:=(yB hy).1;omega)⟩
  have h1:=(h.asc j z y hz hy).1
  by_cases e:i=j
  .subst e;rw[hz]at hx;cases hx;exact h1
  .have:=ih i x z (by omega) hx hz
   omega
theorem ProfP.asc_times{p:tP}(h:ProfP p):(p.map Pt.t).Pairwise (· < ·):=by
 rw[List.pairwise_iff_getElem]
 intro i j hi hj hij
 simp only[List.length_map]at hi hj
 simp only[List.getElem_map]
 exact h.lt j i _ _ hij (yA hi) (yA hj)
def atV(p:tP)(t:Int):Vec:=p.foldl (λv x=>bif decide (x.t<=t)then x.free else v) ⟨0,0,0⟩
theorem M0h(p:tP)(t:Int):J03 p t=some (atV p t):=by
 unfold J03
 rw[JM (f:=λv (x:Pt)=>bif decide (x.t<=t)then x.free else v) (λx _ i b k=>by unfold V0c;cases decide (x.t<=t)<;>rfl)]
 rfl
theorem Z11(p:tP)(t:Int):OE p t=some (atV p t):=M0h p t
theorem M2u{p:tP}(t:Int)(h:∀x∈p,U0 x.free=true):∀v,U0 v=true->U0 (p.foldl (λv x=>bif decide (x.t<=t)then x.free else v) v)=true:=by
 induction p with
 |nil=>intro v hv;exact hv
 |cons x l ih =>
  intro v hv
  rw[List.foldl_cons]
  refine ih (λy hy=>h y (yH _ hy)) _ ?_
  cases decide (x.t<=t)with
  |true=>exact h x (yJ ..)
  |false=>exact hv
theorem V11{p:tP}(h:ProfP p)(t:Int):U0 (atV p t)=true:=M2u t (λx hx=>(h.ok x hx).2) _ (by decide)
theorem O2E{p:tP}(h:(p.map Pt.t).Pairwise (· < ·)){x:Pt}(hx:x∈p):atV p x.t=x.free:=by
 have key:∀(l:tP) (v:Vec),(l.map Pt.t).Pairwise (· < ·)->x∈l->l.foldl (λv y=>bif decide (y.t<=x.t)then y.free else v) v=x.free:=by
  intro l
  induction l with
  |nil=>intro v _ h;cases h
  |cons y l ih =>
   intro v hp hm
   rw[List.foldl_cons]
   rw[List.map_cons,List.pairwise_cons]at hp
   rcases yX hm with rfl|hm
   .rw[show decide (x.t<=x.t)=true by simp,yN]
    have:∀(m:tP) (v:Vec),(∀y∈m,x.t<y.t)->m.foldl (λv y=>bif decide (y.t<=x.t)then y.free else v) v=v:=by
     intro m
     induction m with
     |nil=>intro v _;rfl
     |cons z m ih =>
      intro v hm
      have:=hm z (yJ ..)
      rw[List.foldl_cons,show decide (z.t<=x.t)=false by simp;omega,yM]
      exact ih v λy hy=>hm y (yH _ hy)
    exact this l _ λy hy=>hp.1 _ (List.mem_map_of_mem hy)
   .exact ih _ hp.2 hm
 exact key p _ h hx
theorem V2i{p:tP}{from_ to_:Int}{f0:Vec}(hp:∀x∈p,x.t=from_->x.free=f0)(hok:∀x∈p,U0 x.free=true)(h0:U0 f0=true):∀(v:Vec),U0 v=true->L3 v f0=v ->
  p.foldl (λv x=>bif decide (from_<=x.t)&&decide (x.t<to_)then L3 v x.free else v) v=p.foldl (λv x=>bif decide (from_<x.t)&&decide (x.t<to_)then L3 v x.free else v) v:=by
 induction p with
 |nil=>intro v _ _;rfl
 |cons x l ih =>
  intro v hv hm
  rw[List.foldl_cons,List.foldl_cons]
  have ih:=ih (λy hy=>hp y (yH _ hy)) (λy hy=>hok y (yH _ hy))
  by_cases e:x.t=from_
  .rw[show decide (from_<x.t)=false by simp;omega]
   simp only[Bool.false_and,yM]
   have:(bif decide (from_<=x.t)&&decide (x.t<to_)then L3 v x.free else v)=v:=by
    rw[hp x (yJ ..) e,hm]
    cases(decide (from_<=x.t)&&decide (x.t<to_))<;>rfl
   rw[this]
   exact ih v hv hm
  .have e2:decide (from_<=x.t)=decide (from_<x.t):=by rw[Bool.eq_iff_iff];simp;omega
   rw[e2]
   cases(decide (from_<x.t)&&decide (x.t<to_))with
   |false=>exact ih v hv hm
   |true =>
    simp only[yN]
    have hx:=hok x (yJ ..)
    refine ih _ (U0f hv hx) ?_
    have e:∀x y:Int,M6 x y=min x y:=λx y=>by unfold M6;by_cases h:x<y<;>simp[h]<;>omega
    have q:=U0f hv hx
    have a1:L3 v x.free=⟨min v.a x.free.a,min v.b x.free.b,min v.c x.free.c⟩:=by unfold L3;simp[hv,hx,e]
    have a2:L3 v f0=⟨min v.a f0.a,min v.b f0.b,min v.c f0.c⟩:=by unfold L3;simp[hv,h0,e]
    have a3:L3 (L3 v x.free) f0=⟨min (L3 v x.free).a f0.a,min (L3 v x.free).b f0.b,min (L3 v x.free).c f0.c⟩:=by rw[L3];simp[q,h0,e]
    rw[a3,a1]
    rw[a2]at hm
    have b1:=congrArg Vec.a hm;have b2:=congrArg Vec.b hm;have b3:=congrArg Vec.c hm
    simp only at b1 b2 b3
    simp only[Vec.mk.injEq];omega
def minV(p:tP)(from_ to_:Int):Vec:=p.foldl (λv x=>bif decide (from_<=x.t)&&decide (x.t<to_)then L3 v x.free else v) (atV p from_)
theorem QM(p:tP)(from_ to_:Int):Xx p from_ to_=some (if profOk p=true/\time from_=true/\time to_=true/\from_<to_ then(minV p from_ to_,true)else(⟨0,0,0⟩,false)):=by
 unfold Xx
 rw[Mi,bS]
 simp only[Mb]
 cases profOk p<;>cases time from_<;>cases time to_<;>try simp
 by_cases h:to_<=from_
 .simp[h,show ¬ from_<to_ by omega]
 .simp only[h,decide_false,yM,show from_<to_ by omega,yb,M0h,bS]
  rw[JM (f:=λv (x:Pt)=>bif decide (from_<=x.t)&&decide (x.t<to_)then L3 v x.free else v) (λx _ i b k=>by unfold VZ;cases(decide (from_<=x.t)&&decide (x.t<to_))<;>rfl)]
  rfl
theorem M0O{p:tP}(h:ProfP p)(from_ to_:Int):Yq p from_ to_=some (minV p from_ to_):=by
 unfold Yq minV
 rw[Z11,bS]
 rw[JM (f:=λv (x:Pt)=>bif decide (from_<x.t)&&decide (x.t<to_)then L3 v x.free else v) (λx _ i b k=>by unfold LH;rw[U1u];cases(decide (from_<x.t)&&decide (x.t<to_))<;>rfl)]
 rw[V2i (p:=p) (f0:=atV p from_) (λx hx e=>by rw[← e,O2E h.asc_times hx]) (λx hx=>(h.ok x hx).2) (V11 h _) _ (V11 h _) (Y14 (V11 h _))]
 rfl
theorem Q0V:∀{l m:tI},l.Pairwise (· < ·)->m.Pairwise (· < ·)->(∀x,x∈l↔x∈m)->l=m
 |[],[],_,_,_=>rfl
 |[],b::m,_,_,h=>by have:=(h b).2 (yJ ..);cases this
 |a::l,[],_,_,h=>by have:=(h a).1 (yJ ..);cases this
 |a::l,b::m,h1,h2,h=>by
  rw[List.pairwise_cons]at h1 h2
  have e:a=b:=by
   rcases yX ((h a).1 (yJ ..))with q|q
   .exact q
   .rcases yX ((h b).2 (yJ ..))with q2|q2
    .exact q2.symm
    .have:=h1.1 b q2;have:=h2.1 a q;omega
  subst e
  congr 1
  refine Q0V h1.2 h2.2 λx=>⟨λhx=>?_,λhx=>?_⟩
  .rcases yX ((h x).1 (yH _ hx))with q|q
   .have:=h1.1 x hx;omega
   .exact q
  .rcases yX ((h x).2 (yH _ hx))with q|q
   .have:=h2.1 x hx;omega
   .exact q
def insT(t:Int)(l:tI):tI:=(l.filter λx=>decide (x<t))++t::l.filter λx=>decide (t<x)
theorem Z1a{t x:Int}{l:tI}:x∈insT t l↔x=t\/x∈l:=by
 simp only[insT,List.mem_append,List.mem_filter,List.mem_cons,yO]
 constructor
 .rintro(⟨h,_⟩|h|⟨h,_⟩)
  .exact .inr h
  .exact .inl h
  .exact .inr h
 .rintro(h|h)
  .exact .inr (.inl h)
  .by_cases h1:x<t
   .exact .inl ⟨h,h1⟩
   .by_cases h2:t<x
    .exact .inr (.inr ⟨h,h2⟩)
    .exact .inr (.inl (by omega))
theorem Y07{t:Int}{l:tI}(h:l.Pairwise (· < ·)):(insT t l).Pairwise (· < ·):=by
 unfold insT
 rw[List.pairwise_append,List.pairwise_cons]
 refine⟨h.filter _,⟨λx hx=>by simpa using(List.mem_filter.1 hx).2,h.filter _⟩,λx hx y hy=>?_⟩
 have hx':x<t:=by simpa using(List.mem_filter.1 hx).2
 rcases yX hy with rfl|hy
 .exact hx'
 .have:t<y:=by simpa using(List.mem_filter.1 hy).2
  omega
theorem L1G(t:Int)(l:tI):(insT t l).length<=l.length+1:=by
 have:∀m:tI,(m.filter λx=>decide (x<t)).length+(m.filter λx=>decide (t<x)).length<=m.length:=by
  intro m
  induction m with
  |nil=>simp
  |cons a m ih =>
   simp only[List.filter_cons,yT]
   by_cases h1:a<t
   .simp only[h1,decide_true,yb,show ¬ t<a by omega,decide_false,yG,yc,yT];omega
   .by_cases h2:t<a
    .simp only[h1,h2,decide_true,yb,decide_false,yG,yc,yT];omega
    .simp only[h1,h2,decide_false,yG,yc];omega
 have:=this l
 simp only[insT,yU,yT];omega
theorem Q1Z{γ:Type}(t:Int)(k:tI->Option γ)(bd:Int->Nat->Bool×tI->((Bool×tI)->Option γ)->Option γ)(kk:Bool×tI->Option γ)
  (hb:∀x i d acc kc,acc.length<=1000->bd x i (d,acc) kc=bif (!d)&&decide (t<=x)then(bif x != t then kc (true,acc++[t]++[x])else kc (true,acc++[t]))else(bif x != t then kc (d,acc++[x])else kc (d,acc)))
  (hk:∀d acc,acc.length<=1000->kk (d,acc)=bif !d then k (acc++[t])else k acc):∀(l:tI) (i:Nat),l.Pairwise (· < ·)->l.length<=500 ->
  (∀acc:tI,acc.length<=500-l.length->rgl bd kk l i (false,acc)=k (acc++insT t l))/\∀acc:tI,acc.length<=501-l.length->(∀x∈l,t<x)->rgl bd kk l i (true,acc)=k (acc++l)
 |[],i,_,_=>⟨λacc h=>by rw[rgl,hk _ _ (by omega)];simp[insT],λacc h _=>by rw[rgl,hk _ _ (by omega)];simp⟩
 |x::l,i,hp,hl=>by
  rw[List.pairwise_cons]at hp
  simp only[yT]at hl
  obtain⟨q1,q2⟩:=Q1Z t k bd kk hb hk l (i+1) hp.2 (by omega)
  refine⟨λacc ha=>?_,λacc ha hx=>?_⟩
  .simp only[yT]at ha
   rw[rgl,hb _ _ _ _ _ (by omega)]
   by_cases h1:t<=x
   .have hall:∀y∈l,t<y:=λy hy=>by have:=hp.1 y hy;omega
    have f1:(l.filter λy=>decide (y<t))=[]:=List.filter_eq_nil_iff.2 λy hy=>by have:=hall y hy;simp;omega
    have f2:(l.filter λy=>decide (t<y))=l:=List.filter_eq_self.2 λy hy=>by simpa using hall y hy
    simp only[Bool.not_false,Bool.true_and,h1,decide_true,yN]
    by_cases h2:x=t
    .subst h2
     simp only[bne_self_eq_false,yM]
     rw[q2 _ (by simp;omega) hall]
     simp[insT,f1,f2]
    .rw[show(x != t)=true by simpa using h2,yN,q2 _ (by simp;omega) hall]
     simp[insT,f1,f2,show ¬ x<t by omega,show t<x by omega]
   .simp only[Bool.not_false,Bool.true_and,h1,decide_false,yM]
    rw[show(x != t)=true by simp;omega,yN,q1 _ (by simp;omega)]
    simp[insT,show x<t by omega,show ¬ t<x by omega]
  .simp only[yT]at ha
   have hx1:=hx x (yJ ..)
   rw[rgl,hb _ _ _ _ _ (by omega)]
   simp only[yL,Bool.false_and,yM]
   rw[show(x != t)=true by simp;omega,yN,q2 _ (by simp;omega) λy hy=>hx y (yH _ hy)]
   simp
def Zr(p:tP)(from_ to_:Int):tI:=insT to_ (insT from_ (p.map Pt.t))
theorem O13{p:tP}(h:ProfP p)(from_ to_:Int):XL p from_ to_=some (Zr p from_ to_):=by
 have hle:=h.le
 unfold XL
 rw[Q7 (bd:=XR) (bs:=8) (p:=λ_=>true) (f:=Pt.t) (λx _ i b k=>rfl) (by simp;omega)]
 have one:∀(t:Int) (i:Nat) (v:tI) (k:tI->Option tI),v.Pairwise (· < ·)->v.length<=300->YA t i v k=k (insT t v):=by
  intro t i v k hv hl
  unfold YA
  have:=(Q1Z t k (XA t) (Jz t k) (λx i d acc kc ha=>by
   unfold XA Oo
   cases((!d)&&decide (t<=x))with
   |true =>
    simp only[yN]
    rw[Q0 (by simp;omega),bS]
    cases(x != t)with
    |true=>simp only[yN];rw[Q0 (by simp;omega),bS]
    |false=>rfl
   |false =>
    simp only[yM]
    cases(x != t)with
    |true=>simp only[yN];rw[Q0 (by simp;omega),bS]
    |false=>rfl) (λd acc ha=>by
   unfold Jz
   cases d with
   |true=>rfl
   |false=>simp only[Bool.not_false,yN];rw[Q0 (by simp;omega),bS]) v 0 hv (by omega)).1 [] (by simp)
  simpa using this
 have hp:=h.asc_times
 have hl1:=L1G from_ (p.map Pt.t)
 simp only[List.length_map]at hl1
 unfold YR
 simp only[List.nil_append,show(p.filter λ_=>true)=p from List.filter_eq_self.2 λ_ _=>rfl]
 rw[rgl,one _ _ _ _ hp (by simp;omega),rgl,one _ _ _ _ (Y07 hp) (by omega)]
 rfl
theorem X11{l:tI}(h:l.Pairwise (·<=·)):(Qa l).Pairwise (· < ·)/\∀x,x∈Qa l↔x∈l:=by
 have hsz:l.toArray.size=l.length:=by simp
 have get:∀j,j<l.length->l.toArray[j]! = l[j]!:=by intro j hj;simp
 have mono:∀i j,i<=j->j<l.length->l.toArray[i]!<=l.toArray[j]!:=by
  intro i j hij hj
  by_cases e:i=j
  .subst e;exact Int.le_refl _
  .have:=List.pairwise_iff_getElem.1 h i j (by omega) hj (by omega)
   simpa[show i<l.length by omega,hj]using this
 unfold Qa Lib.compact Lib.compactUpTo
 constructor
 .rw[List.pairwise_map]
  have hr:((List.range l.length).filter (Lib.keeps l.toArray)).Pairwise (· < ·):=List.Pairwise.filter _ List.pairwise_lt_range
  refine List.Pairwise.imp_of_mem (fun{a b} ha hb hab=>?_) hr
  have hb1:=List.mem_filter.1 hb
  have hbl:b<l.length:=List.mem_range.1 hb1.1
  have hk:b=0\/l.toArray[b]!≠l.toArray[b-1]!:=by simpa[Lib.keeps]using hb1.2
  rcases hk with rfl|hk
  .omega
  .have:=mono a (b-1) (by omega) (by omega)
   have:=mono (b-1) b (by omega) hbl
   omega
 .intro x
  simp only[List.mem_map,List.mem_filter,List.mem_range]
  constructor
  .rintro⟨j,⟨hj,_⟩,rfl⟩
   rw[get j hj]
   simp[hj]
  .intro hx
   have:∀n,(∃j,j<n/\j<l.length/\l.toArray[j]! = x)->∃j,(j<l.length/\Lib.keeps l.toArray j=true)/\l.toArray[j]! = x:=by
    intro n
    induction n with
    |zero=>rintro⟨j,hj,_⟩;omega
    |succ n ih =>
     rintro⟨j,hj,hjl,he⟩
     cases hk:Lib.keeps l.toArray j with
     |true=>exact⟨j,⟨hjl,hk⟩,he⟩
     |false =>
      have hk':¬ (j=0\/l.toArray[j]!≠l.toArray[j-1]!):=by simpa[Lib.keeps]using hk
      have h0:j≠0:=λe=>hk' (.inl e)
      have h1:l.toArray[j]! = l.toArray[j-1]!:=Classical.byContradiction λq=>hk' (.inr q)
      exact ih ⟨j-1,by omega,by omega,by rw[← h1];exact he⟩
   obtain⟨j,hj⟩:=List.getElem?_of_mem hx
   obtain⟨hjl,hje⟩:=yB hj
   exact this l.length ⟨j,hjl,hjl,by rw[get j hjl];simp[hjl,hje]⟩
theorem Q1w(l:tI):(U0V l).Pairwise (·<=·)/\∀x,x∈U0V l↔x∈l:=by
 refine⟨?_,λx=>(List.mergeSort_perm l _).mem_iff⟩
 have:=List.pairwise_mergeSort (le:=λ(x y:Int)=>decide (x<=y)) (λa b c h1 h2=>by simp at *;omega) (λa b=>by simp;omega) l
 exact this.imp λh=>by simpa using h
theorem U1Q{p:tP}(h:ProfP p)(from_ to_:Int):Qa (U0V ([from_,to_]++p.map Pt.t))=Zr p from_ to_:=by
 obtain⟨s1,s2⟩:=Q1w ([from_,to_]++p.map Pt.t)
 obtain⟨c1,c2⟩:=X11 s1
 refine Q0V c1 (Y07 (Y07 h.asc_times)) λx=>?_
 rw[c2,s2,Zr,Z1a,Z1a]
 simp only[List.cons_append,List.nil_append,List.mem_cons]
 constructor
 .rintro(h|h|h)
  .exact .inr (.inl h)
  .exact .inl h
  .exact .inr (.inr h)
 .rintro(h|h|h)
  .exact .inr (.inl h)
  .exact .inl h
  .exact .inr (.inr h)
def Z22(out:tP)(t:Int)(w:Vec):tP:=match out.getLast? with
 |some e=>if e.free=w then out else out++[⟨t,w⟩]
 |none=>[⟨t,w⟩]
theorem U1Z{out:tP}(h:out.length<=1000)(x:Int)(w:Vec)(k:tP->Option (tP×Bool)):Yf out x k w=k (Z22 out x w):=by
 unfold Yf Z22
 cases hl:out with
 |nil =>
  simp only[List.length_nil,List.getLast?_nil]
  rw[show(((0:Nat):Int)==0)=true from rfl,yN,bS,Bool.true_or,yN,Q0 (by simp),bS];rfl
 |cons a l =>
  have hne:((out.length:Int)==0)=false:=by rw[hl];simp;omega
  obtain⟨e,he⟩:∃e,out[out.length-1]?=some e:=⟨_,yA (by rw[hl];simp)⟩
  have hlast:out.getLast?=some e:=by rw[List.getLast?_eq_getElem?];exact he
  rw[← hl,hne,hlast,X19 (by rw[hl];simp) (by omega),X3,he]
  simp only[yM,bS,Bool.false_or,L25]
  by_cases hw:e.free=w
  .simp[hw]
  .simp only[hw,decide_false,Bool.not_false,yN,yc]
   rw[Q0 (by simp;omega),bS]
structure Made(T:tI)(i:Nat)(out:tP):Prop where
 len:out.length<=i
 mem:∀x∈out,∃j,j<i/\T[j]?=some x.t
 ok:∀x∈out,U0 x.free=true
 asc:∀(j:Nat) (x y:Pt),out[j]?=some x->out[j+1]?=some y->x.t<y.t/\x.free≠y.free
 fst:0<i->∃x,out[0]?=some x/\T[0]?=some x.t
theorem Made.nil(T:tI):Made T 0 [] where
 len:=yV _
 mem:=λx hx=>by cases hx
 ok:=λx hx=>by cases hx
 asc:=λj x y hx=>by simp at hx
 fst:=λh=>by omega
theorem Made.push{T:tI}(hT:T.Pairwise (· < ·)){i:Nat}{out:tP}(M:Made T i out){t:Int}(ht:T[i]?=some t){w:Vec}(hw:U0 w=true):Made T (i+1) (Z22 out t w):=by
 have lt:∀x∈out,x.t<t:=by
  intro x hx
  obtain⟨j,hj,he⟩:=M.mem x hx
  obtain⟨h1,e1⟩:=yB he
  obtain⟨h2,e2⟩:=yB ht
  rw[← e1,← e2]
  exact List.pairwise_iff_getElem.1 hT j i h1 h2 hj
 unfold Z22
 cases hl:out.getLast? with
 |none =>
  have:out=[]:=List.getLast?_eq_none_iff.1 hl
  subst this
  have hi:i=0:=by
   cases i with
   |zero=>rfl
   |succ i=>obtain⟨x,hx,_⟩:=M.fst (by omega);simp at hx
  subst hi
  exact⟨by simp,λx hx=>by simp at hx;subst hx;exact⟨0,by omega,ht⟩,λx hx=>by simp at hx;subst hx;exact hw,λj x y hx hy=>by simp at hy,λ_=>⟨_,rfl,ht⟩⟩
 |some e =>
  simp only
  by_cases he:e.free=w
  .rw[yd he]
   exact⟨by have:=M.len;omega,λx hx=>by obtain⟨j,hj,h⟩:=M.mem x hx;exact⟨j,by omega,h⟩,M.ok,M.asc,λ_=>by
    cases i with
    |zero=>have:=M.len;have:out=[]:=List.eq_nil_of_length_eq_zero (by omega);subst this;simp at hl
    |succ i=>exact M.fst (by omega)⟩
  .rw[ye he]
   refine⟨by have:=M.len;simp;omega,λx hx=>?_,λx hx=>?_,λj x y hx hy=>?_,λ_=>?_⟩
   .rcases List.mem_append.1 hx with hx|hx
    .obtain⟨j,hj,h⟩:=M.mem x hx;exact⟨j,by omega,h⟩
    .simp at hx;subst hx;exact⟨i,by omega,ht⟩
   .rcases List.mem_append.1 hx with hx|hx
    .exact M.ok x hx
    .simp at hx;subst hx;exact hw
   .by_cases hj:j+1<out.length
    .rw[yK (by omega)]at hx
     rw[yK hj]at hy
     exact M.asc j x y hx hy
    .have hlt:=(yB hy).1
     simp only[yU,yT,List.length_nil]at hlt
     have hje:j=out.length-1:=by omega
     rw[yK (by omega)]at hx
     rw[yS (by omega),show j+1-out.length=0 by omega]at hy
     simp at hy
     subst hy
     rw[List.getLast?_eq_getElem?,← hje,hx]at hl
     have hl:=Option.some.inj hl
     subst hl
     exact⟨lt _ (yE hx),he⟩
   .have hne:out≠[]:=λe=>by rw[e]at hl;simp at hl
    cases i with
    |zero=>have:=M.len;exact absurd (List.eq_nil_of_length_eq_zero (by omega)) hne
    |succ i =>
     obtain⟨x,hx,h⟩:=M.fst (by omega)
     exact⟨x,by rw[yK (by have:=(yB hx).1;omega)];exact hx,h⟩
theorem U26{p:tP}(h:ProfP p){from_ to_:Int}(h1:time from_=true)(h2:time to_=true) :
  (Zr p from_ to_).Pairwise (· < ·)/\(Zr p from_ to_).length<=202/\(∀t∈Zr p from_ to_,time t=true)/\(Zr p from_ to_)[0]?=some 0/\from_∈Zr p from_ to_:=by
 have hp:=Y07 (t:=to_) (Y07 (t:=from_) h.asc_times)
 have hm:∀t,t∈Zr p from_ to_↔t=to_\/t=from_\/t∈p.map Pt.t:=λt=>by rw[Zr,Z1a,Z1a]
 have hok:∀t∈Zr p from_ to_,time t=true:=by
  intro t ht
  rcases(hm t).1 ht with rfl|rfl|ht
  .exact h2
  .exact h1
  .obtain⟨x,hx,rfl⟩:=yY ht
   exact(h.ok x hx).1
 have h0:(0:Int)∈Zr p from_ to_:=by
  obtain⟨x,hx⟩:∃x,p[0]?=some x:=⟨_,yA h.pos⟩
  exact(hm 0).2 (.inr (.inr (List.mem_map.2 ⟨x,yE hx,h.zero x hx⟩)))
 have hl1:=L1G from_ (p.map Pt.t)
 have hl2:=L1G to_ (insT from_ (p.map Pt.t))
 simp only[List.length_map]at hl1
 have:=h.le
 refine⟨hp,by unfold Zr;omega,hok,?_,(hm from_).2 (.inr (.inl rfl))⟩
 obtain⟨j,hj⟩:=List.getElem?_of_mem h0
 obtain⟨hjl,hje⟩:=yB hj
 by_cases e:j=0
 .subst e;exact hj
 .have:=List.pairwise_iff_getElem.1 hp 0 j (by unfold Zr at hjl;omega) (by unfold Zr at hjl;exact hjl) (by omega)
  have h00:=hok (Zr p from_ to_)[0] (List.getElem_mem (by omega))
  have:=(Ob.1 h00).1
  unfold Zr at hje this
  omega
def X1n(p:tP)(from_ to_:Int)(v:Vec)(x:Int)(out:tP)(k:tP->Option (tP×Bool)):Option (tP×Bool) :=
 bif decide (from_<=x)&&decide (x<to_)then(bif (L6 (atV p x) v).2 then k (Z22 out x (L6 (atV p x) v).1)else some ([],false))else k (Z22 out x (atV p x))
theorem W21{p:tP}{from_ to_:Int}{v:Vec}{x:Int}{i:Nat}{out:tP}(h:out.length<=1000)(k:tP->Option (tP×Bool)):Xv p from_ to_ v false x i out k=X1n p from_ to_ v x out k:=by
 unfold Xv X1n
 rw[M0h,bS]
 cases(decide (from_<=x)&&decide (x<to_))with
 |false=>simp only[yM];rw[U1Z h]
 |true =>
  simp only[yN,yM,Jl]
  cases(L6 (atV p x) v).2 with
  |false=>rfl
  |true=>simp only[yL,yM,yN];rw[U1Z h]
theorem X23{p:tP}(hp:ProfP p){from_ to_:Int}{v:Vec}{x:Int}{i:Nat}{out:tP}(h:out.length<=1000)(k:tP->Option (tP×Bool)):O6 p from_ to_ v x i out k=X1n p from_ to_ v x out k:=by
 unfold O6 X1n Uk
 rw[Z11,bS,X1u (V11 hp x)]
 cases(decide (from_<=x)&&decide (x<to_))with
 |false=>simp only[yM];exact U1Z h x _ k
 |true =>
  simp only[yN]
  cases(L6 (atV p x) v).2 with
  |false=>rfl
  |true=>simp only[yL,yM,yN];exact U1Z h x _ k
theorem O1m{a b:Vec}(h:(L6 a b).2=true):U0 (L6 a b).1=true:=by
 unfold L6 at h ⊢
 cases hf:X5 b a with
 |false=>rw[hf]at h;simp at h
 |true =>
  simp only[yL,yM]
  unfold X5 at hf
  simp only[yD,yO]at hf
  obtain⟨⟨⟨⟨h1,h2⟩,h3⟩,h4⟩,h5⟩:=hf
  have h1:=Vo.1 h1
  have h2:=Vo.1 h2
  rw[Vo,Y5 (by omega),Y5 (by omega),Y5 (by omega)]
  simp only;omega
theorem Z0L(p:tP)(from_ to_:Int)(v:Vec):XC p from_ to_ v=Mh p from_ to_ v/\∃r,Mh p from_ to_ v=some r/\(r.2=true->ProfP r.1):=by
 unfold XC Mh
 rw[Z0e,Mi,QM,bS,bS]
 cases hpo:profOk p with
 |false=>simp
 |true =>
 have hp:=X04.1 hpo
 unfold US
 simp only[On]
 by_cases hs:time from_=true/\time to_=true/\from_<to_
 rotate_left
 .have e:((time from_&&time to_)&&decide (from_<to_))=false:=by
   rw[Bool.eq_false_iff];intro q;simp only[yD,yO]at q;exact hs ⟨q.1.1,q.1.2,q.2⟩
  rw[e,ye (λq=>hs q.2)]
  simp
 obtain⟨h1,h2,h3⟩:=hs
 rw[yd ⟨trivial,h1,h2,h3⟩]
 obtain⟨t1,t2,t3,t4,t5⟩:=U26 hp h1 h2
 have T:=O13 hp from_ to_
 have L1z:VD p from_ to_ v false=rgl (λx _=>X1n p from_ to_ v x) Zf (Zr p from_ to_) 0 []:=by
  unfold VD
  rw[T,bS]
  refine O1B (λi b c=>b=c/\Made (Zr p from_ to_) i b) rfl (λi x y b c k k2 hx hy hr hk=>?_) (λb c hr=>by rw[hr.1]) ⟨rfl,Made.nil _⟩
  obtain⟨rfl,M⟩:=hr
  rw[hx]at hy;cases hy
  have hil:=(yB hx).1
  rw[W21 (by have:=M.len;omega)]
  unfold X1n
  cases(decide (from_<=x)&&decide (x<to_))with
  |false=>exact hk _ _ ⟨rfl,M.push t1 hx (V11 hp x)⟩
  |true =>
   simp only[yN]
   cases hv:(L6 (atV p x) v).2 with
   |false=>rfl
   |true=>exact hk _ _ ⟨rfl,M.push t1 hx (O1m hv)⟩
 have ends:∀b,Made (Zr p from_ to_) (Zr p from_ to_).length b->(profOk b=true↔b.length<=200):=by
  intro b M
  rw[X04]
  refine⟨λh=>h.le,λhl=>?_⟩
  obtain⟨x,hx,h0⟩:=M.fst (by have:=List.length_pos_of_mem t5;omega)
  rw[t4]at h0
  exact⟨(yB hx).1,hl,λy hy=>by rw[hx]at hy;cases hy;exact(Option.some.inj h0).symm,λy hy=>⟨by
   obtain⟨j,_,hj⟩:=M.mem y hy
   exact t3 _ (yE hj),M.ok y hy⟩,M.asc⟩
 have total:∃r:tP×Bool,rgl (λx _=>X1n p from_ to_ v x) Zf (Zr p from_ to_) 0 []=some r/\(r.2=true->ProfP r.1):=by
  refine Lh (λi b=>Made (Zr p from_ to_) i b) (λo=>∃r:tP×Bool,o=some r/\(r.2=true->ProfP r.1)) (λi x b k hx M hk=>?_) (λb M=>?_) (Made.nil _)
  .unfold X1n
   cases(decide (from_<=x)&&decide (x<to_))with
   |false=>exact hk _ (M.push t1 hx (V11 hp x))
   |true =>
    simp only[yN]
    cases hv:(L6 (atV p x) v).2 with
    |false=>exact⟨_,rfl,λh=>by cases h⟩
    |true=>exact hk _ (M.push t1 hx (O1m hv))
  .unfold Zf
   rw[Mi,bS]
   cases hb:profOk b with
   |false=>exact⟨_,rfl,λh=>by cases h⟩
   |true=>exact⟨_,rfl,λ_=>X04.1 hb⟩
 have bind_id:∀o:Option (tP×Bool),(o.bind λy6=>some (y6.1,y6.2))=o:=by intro o;cases o<;>rfl
 simp only[yL,Bool.false_or,h1,h2,h3,Bool.and_self,decide_true,yM,bind_id,Uc]
 rw[L1z]
 refine⟨?_,total⟩
 cases hv:U0 v with
 |false =>
  simp only[Bool.not_false,yN]
  symm
  refine Lh (λi b=>Made (Zr p from_ to_) i b/\∀j,j<i->(Zr p from_ to_)[j]?≠some from_) (λo=>o=some ([],false)) (λi x b k hx hI hk=>?_) (λb hI=>?_) ⟨Made.nil _,λj h=>by omega⟩
  .obtain⟨M,hI⟩:=hI
   have sub:∀x,L6 (atV p x) v=(⟨0,0,0⟩,false):=λx=>by unfold L6 X5;rw[hv];rfl
   unfold X1n
   rw[sub]
   by_cases hf:from_<=x/\x<to_
   .simp[hf.1,hf.2]
   .have e:(decide (from_<=x)&&decide (x<to_))=false:=by simpa using λq=>by omega
    rw[e]
    refine hk _ ⟨M.push t1 hx (V11 hp x),λj hj e=>?_⟩
    by_cases hji:j=i
    .subst hji;rw[hx]at e;cases e;omega
    .exact hI j (by omega) e
  .obtain⟨j,hj⟩:=List.getElem?_of_mem t5
   exact absurd hj (hI.2 j (yB hj).1)
 |true =>
  simp only[yL,yM]
  unfold O8
  rw[Q7 (bd:=J9) (bs:=8) (p:=λ_=>true) (f:=Pt.t) (λx _ i b k=>rfl) (by have:=hp.le;simp;omega)]
  unfold L9
  rw[show(p.filter λ_=>true)=p from List.filter_eq_self.2 λ_ _=>rfl]
  have hs:J1A ([from_,to_]++p.map Pt.t)=some (U0V ([from_,to_]++p.map Pt.t)):=by
   unfold J1A
   rw[yd (by have:=hp.le;simp;omega)]
  rw[hs,bS,U1Q hp]
  refine O1B (λi b c=>b=c/\Made (Zr p from_ to_) i b) rfl (λi x y b c k k2 hx hy hr hk=>?_) (λb c hr=>?_) ⟨rfl,Made.nil _⟩
  .obtain⟨rfl,M⟩:=hr
   rw[hx]at hy;cases hy
   have hil:=(yB hx).1
   rw[X23 hp (by have:=M.len;omega)]
   unfold X1n
   cases(decide (from_<=x)&&decide (x<to_))with
   |false=>exact hk _ _ ⟨rfl,M.push t1 hx (V11 hp x)⟩
   |true =>
    simp only[yN]
    cases hv:(L6 (atV p x) v).2 with
    |false=>rfl
    |true=>exact hk _ _ ⟨rfl,M.push t1 hx (O1m hv)⟩
  .obtain⟨rfl,M⟩:=hr
   unfold M9 Zf
   rw[Mi,bS]
   by_cases hl:b.length<=200
   .rw[(ends b M).2 hl]
    simp[show ¬ (200:Int)<b.length by omega]
   .rw[show profOk b=false from Bool.eq_false_iff.2 λq=>hl ((ends b M).1 q)]
    simp[show(200:Int)<b.length by omega]
end Go.Proofs.YtehomnafaoplgaaGreat
namespace Go.Proofs.YtehomnafaoplgaaGreat.Eng
open Go Go.RowKit
def Y2l(P:Program)(f:FuncId)(xa:List AV)(zs zs':tI)(ret:Bool):Prop :=
 ∀(w:World) (g:Gh) (n0:Nat) (us:List Value),Heap w g (hSt n0 [] [some ⟨1,i64s zs,false⟩])->us.length=xa.length ->
  (∀(i:Nat) (a:AV) (v:Value),xa[i]?=some a->us[i]?=some v->Gv w g (hSt n0 [] [some ⟨1,i64s zs,false⟩]) a v) ->
 (Calls P f (.slice none 0 0::us).toArray w λe w'=>e=.returned (if ret then .slice none 0 0 else .tuple #[])/\w'=w) /\
 ∀(b cap:Nat) (cur:Array Value) (ty:TypeId),w.heap[b]?=some (.cells cur ty (0,0))->zs.length<=cap->cap<=maxLen->cur.size=cap->cur.toList.take zs.length=i64v zs->(∀o,¬ g.S b o) ->
  Calls P f (.slice (some ⟨b,0,none⟩) zs.length cap::us).toArray w λe w'=>e=.returned (if ret then .slice (some ⟨b,0,none⟩) zs'.length cap else .tuple #[]) /\
   ∃cur':Array Value,w'.heap[b]?=some (.cells cur' ty (0,0))/\cur'.size=cap/\cur'.toList.take zs'.length=i64v zs'/\zs'.length<=cap /\
    w'.os=w.os/\w'.tape=w.tape/\w'.output=w.output/\w.heap.size<=w'.heap.size/\∀k,k<w.heap.size->k≠b->w'.heap[k]?=w.heap[k]?
theorem Q1L{P:Program}{f:FuncId}{zs zs':tI}{ret:Bool}{xa:List AV}(h0:zs=[]->zs'=[])(hr:ret=false->zs'.length=zs.length)(h:Y2l P f xa zs zs' ret):M0Q P f 1 (i64s zs) xa ret (i64s zs'):=by
 refine W19 Y2c h0 hr λw g n0 us H hl hus=>?_
 obtain⟨a,b⟩:=h w g n0 us H hl hus
 refine⟨λ_=>a,λblk cap cur ty h1 h2 h3 h4 h5 h6=>?_⟩
 have:=b blk cap cur ty h1 h2 h3 (by omega) (by rw[← O0P,← h5,Nat.mul_one]) h6
 simpa only[O0P,Nat.mul_one]using this
theorem Rd.cap1_inv{w:World}{S:Nat->Nat->Prop}{T:Tag->Nat->Value->Prop}{g:Nat}{xs:tI}{v:Value}(h:Rd w S T (.fn g [.ept (.agg [.sl .rd 1 (i64s xs)]) 0]) v)(hn:0<xs.length) :
  ∃b ob r o cap,v=.func (.func g) #[] #[.pointer (some ⟨b,ob,none⟩)]/\w.cell? ⟨b,ob,none⟩=some (.slice (some ⟨r,o,none⟩) xs.length cap)/\S b ob/\∀(j:Nat) (x:Int),xs[j]?=some x->w.cell? ⟨r,o+j,none⟩=some (.int .i64 x)/\S r (o+j):=by
 cases h with
 |fn _ _ vs hl hv =>
  match vs,hl with
  |[p],_ =>
  have hp:=hv 0 _ p rfl rfl
  cases hp with
  |ept _ _ b o cv hw hr =>
   have h0:=hw 0 (.sl .rd 1 (i64s xs)) rfl
   have h1:=hr 0 (.sl .rd 1 (i64s xs)) rfl
   obtain⟨q1,q2,_,_⟩:=h0
   generalize he:i64s xs=es at h1
   generalize cv 0=u at h1 q1
   cases h1 with
   |sl0 _ _ a c ho =>
    have:xs.length=0:=by
     have q:=congrArg List.length he
     unfold i64s at q
     rwa [List.length_map]at q
    omega
   |sl _ _ _ b2 o2 c cv2 hc hm hs hw2 ho hh =>
    subst he
    refine⟨b,o,b2,o2,c,rfl,?_,q2,λj x hx=>?_⟩
    .simpa[i64s]using q1
    .have hj:(flat (i64s xs))[j]?=some (.int .i64 x):=by rw[U2c];simp[i64s,hx]
     obtain⟨c1,c2,_,_⟩:=hw2 j _ hj
     have c3:=hh j _ hj
     generalize cv2 j=z at c1 c3
     cases c3 with
     |int _ _=>exact⟨c1,c2⟩
end Go.Proofs.YtehomnafaoplgaaGreat.Eng
namespace Go.Proofs.YtehomnafaoplgaaGreat
open Go Go.RowKit Go.Sort Go.Lib
def U0i(cnt:tI)(x y:Fin cnt.length):Int:=if cnt[x]≠cnt[y]then IntKind.i64.wrap (cnt[y]-cnt[x])else IntKind.i64.wrap ((x.val:Int)-(y.val:Int))
theorem Z0g{cnt:tI}(hl:cnt.length<=24)(hc:∀c∈cnt,0<=c/\c<=1000000)(x y:Fin cnt.length):ltOf (U0i cnt) x y=decide (cnt[y]<cnt[x]\/(cnt[x]=cnt[y]/\x.val<y.val)):=by
 have hx:=hc cnt[x] (List.getElem_mem x.isLt)
 have hy:=hc cnt[y] (List.getElem_mem y.isLt)
 have bx:=x.isLt
 have bY:=y.isLt
 unfold ltOf U0i
 rw[decide_eq_decide]
 by_cases h:cnt[x]=cnt[y]
 .rw[ye (by simpa using h)]
  have e:IntKind.i64.wrap ((x.val:Int)-(y.val:Int))=(x.val:Int)-(y.val:Int):=by rw[IntKind.wrap_i64];omega
  rw[e]
  omega
 .rw[yd h]
  have e:IntKind.i64.wrap (cnt[y]-cnt[x])=cnt[y]-cnt[x]:=by rw[IntKind.wrap_i64];omega
  rw[e]
  omega
theorem V1T{cnt:tI}(hl:cnt.length<=24)(hc:∀c∈cnt,0<=c/\c<=1000000):SWO (ltOf (U0i cnt)) where
 irrefl x:=by rw[Z0g hl hc];simp
 trans x y z h1 h2:=by
  rw[Z0g hl hc]at *
  simp only[yO]at *
  omega
 ntrans x y z h1 h2:=by
  rw[Z0g hl hc]at *
  simp only[decide_eq_false_iff_not]at *
  omega
theorem Q1D{cnt:tI}(hl:cnt.length<=24)(hc:∀c∈cnt,0<=c/\c<=1000000)(x y:Fin cnt.length)(h1:ltOf (U0i cnt) x y=false)(h2:ltOf (U0i cnt) y x=false):x=y:=by
 rw[Z0g hl hc]at h1 h2
 simp only[decide_eq_false_iff_not]at h1 h2
 apply Fin.ext
 omega
end Go.Proofs.YtehomnafaoplgaaGreat
