/-
  Lemmas, part 10.
-/
import Derived.Test.YtodafdoninblmaaGreatV9
namespace Go.Proofs.YtodafdoninblmaaGreat
open Go Go.RowKit Eng
theorem V0n:∀{l m:List Int},l.Pairwise (· < ·)->m.Pairwise (· < ·)->(∀x,x∈l↔x∈m)->l=m
 |[],[],_,_,_=>rfl
 |[],b::m,_,_,h=>by have:=(h b).2 (yJ ..);cases this
 |a::l,[],_,_,h=>by have:=(h a).1 (yJ ..);cases this
 |a::l,b::m,h1,h2,h=>by
  rw[List.pairwise_cons]at h1 h2
  have e:a=b:=by
   rcases yX ((h a).1 (yJ ..))with q|q
   .exact q
   .rcases yX ((h b).2 (yJ ..))with q2|q2
    .exact q2.symm
    .have:=h1.1 b q2;have:=h2.1 a q;omega
  subst e
  congr 1
  refine V0n h1.2 h2.2 fun x=>⟨fun hx=>?_,fun hx=>?_⟩
  .rcases yX ((h x).1 (yH _ hx))with q|q
   .have:=h1.1 x hx;omega
   .exact q
  .rcases yX ((h x).2 (yH _ hx))with q|q
   .have:=h2.1 x hx;omega
   .exact q
def insT(t:Int)(l:List Int):List Int:=(l.filter fun x=>decide (x<t))++t::l.filter fun x=>decide (t<x)
theorem X0z{t x:Int}{l:List Int}:x∈insT t l↔x=t\/x∈l:=by
 simp only[insT,List.mem_append,List.mem_filter,List.mem_cons,yO]
 constructor
 .rintro(⟨h,_⟩|h|⟨h,_⟩)
  .exact .inr h
  .exact .inl h
  .exact .inr h
 .rintro(h|h)
  .exact .inr (.inl h)
  .by_cases h1:x<t
   .exact .inl ⟨h,h1⟩
   .by_cases h2:t<x
    .exact .inr (.inr ⟨h,h2⟩)
    .exact .inr (.inl (by omega))
theorem UL{t:Int}{l:List Int}(h:l.Pairwise (· < ·)):(insT t l).Pairwise (· < ·):=by
 unfold insT
 rw[List.pairwise_append,List.pairwise_cons]
 refine⟨h.filter _,⟨fun x hx=>by simpa using(List.mem_filter.1 hx).2,h.filter _⟩,fun x hx y hy=>?_⟩
 have hx':x<t:=by simpa using(List.mem_filter.1 hx).2
 rcases yX hy with rfl|hy
 .exact hx'
 .have:t<y:=by simpa using(List.mem_filter.1 hy).2
  omega
theorem L13(t:Int)(l:List Int):(insT t l).length<=l.length+1:=by
 have:∀m:List Int,(m.filter fun x=>decide (x<t)).length+(m.filter fun x=>decide (t<x)).length<=m.length:=by
  intro m
  induction m with
  |nil=>simp
  |cons a m ih =>
   simp only[List.filter_cons,yT]
   by_cases h1:a<t
   .simp only[h1,decide_true,yb,show ¬ t<a by omega,decide_false,yG,yc,yT];omega
   .by_cases h2:t<a
    .simp only[h1,h2,decide_true,yb,decide_false,yG,yc,yT];omega
    .simp only[h1,h2,decide_false,yG,yc];omega
 have:=this l
 simp only[insT,yU,yT];omega
theorem Q1j{γ:Type}(t:Int)(k:List Int->Option γ)(bd:Int->Nat->Bool×List Int->((Bool×List Int)->Option γ)->Option γ)(kk:Bool×List Int->Option γ)
  (hb:∀x i d acc kc,acc.length<=1000->bd x i (d,acc) kc=bif (!d)&&decide (t<=x)then(bif x != t then kc (true,acc++[t]++[x])else kc (true,acc++[t]))else(bif x != t then kc (d,acc++[x])else kc (d,acc)))
  (hk:∀d acc,acc.length<=1000->kk (d,acc)=bif !d then k (acc++[t])else k acc):∀(l:List Int) (i:Nat),l.Pairwise (· < ·)->l.length<=500 ->
  (∀acc:List Int,acc.length<=500-l.length->rgl bd kk l i (false,acc)=k (acc++insT t l))/\∀acc:List Int,acc.length<=501-l.length->(∀x∈l,t<x)->rgl bd kk l i (true,acc)=k (acc++l)
 |[],i,_,_=>⟨fun acc h=>by rw[rgl,hk _ _ (by omega)];simp[insT],fun acc h _=>by rw[rgl,hk _ _ (by omega)];simp⟩
 |x::l,i,hp,hl=>by
  rw[List.pairwise_cons]at hp
  simp only[yT]at hl
  obtain⟨q1,q2⟩:=Q1j t k bd kk hb hk l (i+1) hp.2 (by omega)
  refine⟨fun acc ha=>?_,fun acc ha hx=>?_⟩
  .simp only[yT]at ha
   rw[rgl,hb _ _ _ _ _ (by omega)]
   by_cases h1:t<=x
   .have hall:∀y∈l,t<y:=fun y hy=>by have:=hp.1 y hy;omega
    have f1:(l.filter fun y=>decide (y<t))=[]:=List.filter_eq_nil_iff.2 fun y hy=>by have:=hall y hy;simp;omega
    have f2:(l.filter fun y=>decide (t<y))=l:=List.filter_eq_self.2 fun y hy=>by simpa using hall y hy
    simp only[Bool.not_false,Bool.true_and,h1,decide_true,yN]
    by_cases h2:x=t
    .subst h2
     simp only[bne_self_eq_false,yM]
     rw[q2 _ (by simp;omega) hall]
     simp[insT,f1,f2]
    .rw[show(x != t)=true by simpa using h2,yN,q2 _ (by simp;omega) hall]
     simp[insT,f1,f2,show ¬ x<t by omega,show t<x by omega]
   .simp only[Bool.not_false,Bool.true_and,h1,decide_false,yM]
    rw[show(x != t)=true by simp;omega,yN,q1 _ (by simp;omega)]
    simp[insT,show x<t by omega,show ¬ t<x by omega]
  .simp only[yT]at ha
   have hx1:=hx x (yJ ..)
   rw[rgl,hb _ _ _ _ _ (by omega)]
   simp only[yL,Bool.false_and,yM]
   rw[show(x != t)=true by simp;omega,yN,q2 _ (by simp;omega) fun y hy=>hx y (yH _ hy)]
   simp
def Xe(p:List Pt)(from_ to_:Int):List Int:=insT to_ (insT from_ (p.map Pt.t))
theorem L0t{p:List Pt}(h:ProfP p)(from_ to_:Int):Uq p from_ to_=some (Xe p from_ to_):=by
 have hle:=h.le
 unfold Uq
 rw[Z7 (bd:=Xv) (bs:=8) (p:=fun _=>true) (f:=Pt.t) (fun x _ i b k=>rfl) (by simp;omega)]
 have one:∀(t:Int) (i:Nat) (v:List Int) (k:List Int->Option (List Int)),v.Pairwise (· < ·)->v.length<=300->Ji t i v k=k (insT t v):=by
  intro t i v k hv hl
  unfold Ji
  have:=(Q1j t k (Zj t) (Li t k) (fun x i d acc kc ha=>by
   unfold Zj Mc
   cases((!d)&&decide (t<=x))with
   |true =>
    simp only[yN]
    rw[U0 (by simp;omega),bS]
    cases(x != t)with
    |true=>simp only[yN];rw[U0 (by simp;omega),bS]
    |false=>rfl
   |false =>
    simp only[yM]
    cases(x != t)with
    |true=>simp only[yN];rw[U0 (by simp;omega),bS]
    |false=>rfl) (fun d acc ha=>by
   unfold Li
   cases d with
   |true=>rfl
   |false=>simp only[Bool.not_false,yN];rw[U0 (by simp;omega),bS]) v 0 hv (by omega)).1 [] (by simp)
  simpa using this
 have hp:=h.asc_times
 have hl1:=L13 from_ (p.map Pt.t)
 simp only[List.length_map]at hl1
 unfold Yv
 simp only[List.nil_append,show(p.filter fun _=>true)=p from List.filter_eq_self.2 fun _ _=>rfl]
 rw[rgl,one _ _ _ _ hp (by simp;omega),rgl,one _ _ _ _ (UL hp) (by omega)]
 rfl
theorem W0s{l:List Int}(h:l.Pairwise (·<=·)):(L5 l).Pairwise (· < ·)/\∀x,x∈L5 l↔x∈l:=by
 have hsz:l.toArray.size=l.length:=by simp
 have get:∀j,j<l.length->l.toArray[j]! = l[j]!:=by intro j hj;simp
 have mono:∀i j,i<=j->j<l.length->l.toArray[i]!<=l.toArray[j]!:=by
  intro i j hij hj
  by_cases e:i=j
  .subst e;exact Int.le_refl _
  .have:=List.pairwise_iff_getElem.1 h i j (by omega) hj (by omega)
   simpa[show i<l.length by omega,hj]using this
 unfold L5 Lib.compact Lib.compactUpTo
 constructor
 .rw[List.pairwise_map]
  have hr:((List.range l.length).filter (Lib.keeps l.toArray)).Pairwise (· < ·):=List.Pairwise.filter _ List.pairwise_lt_range
  refine List.Pairwise.imp_of_mem (fun{a b} ha hb hab=>?_) hr
  have hb1:=List.mem_filter.1 hb
  have hbl:b<l.length:=List.mem_range.1 hb1.1
  have hk:b=0\/l.toArray[b]!≠l.toArray[b-1]!:=by simpa[Lib.keeps]using hb1.2
  rcases hk with rfl|hk
  .omega
  .have:=mono a (b-1) (by omega) (by omega)
   have:=mono (b-1) b (by omega) hbl
   omega
 .intro x
  simp only[List.mem_map,List.mem_filter,List.mem_range]
  constructor
  .rintro⟨j,⟨hj,_⟩,rfl⟩
   rw[get j hj]
   simp[hj]
  .intro hx
   have:∀n,(∃j,j<n/\j<l.length/\l.toArray[j]! = x)->∃j,(j<l.length/\Lib.keeps l.toArray j=true)/\l.toArray[j]! = x:=by
    intro n
    induction n with
    |zero=>rintro⟨j,hj,_⟩;omega
    |succ n ih =>
     rintro⟨j,hj,hjl,he⟩
     cases hk:Lib.keeps l.toArray j with
     |true=>exact⟨j,⟨hjl,hk⟩,he⟩
     |false =>
      have hk':¬ (j=0\/l.toArray[j]!≠l.toArray[j-1]!):=by simpa[Lib.keeps]using hk
      have h0:j≠0:=fun e=>hk' (.inl e)
      have h1:l.toArray[j]! = l.toArray[j-1]!:=Classical.byContradiction fun q=>hk' (.inr q)
      exact ih ⟨j-1,by omega,by omega,by rw[← h1];exact he⟩
   obtain⟨j,hj⟩:=List.getElem?_of_mem hx
   obtain⟨hjl,hje⟩:=yB hj
   exact this l.length ⟨j,hjl,hjl,by rw[get j hjl];simp[hjl,hje]⟩
theorem Q0T(l:List Int):(X0n l).Pairwise (·<=·)/\∀x,x∈X0n l↔x∈l:=by
 refine⟨?_,fun x=>(List.mergeSort_perm l _).mem_iff⟩
 have:=List.pairwise_mergeSort (le:=fun(x y:Int)=>decide (x<=y)) (fun a b c h1 h2=>by simp at *;omega) (fun a b=>by simp;omega) l
 exact this.imp fun h=>by simpa using h
theorem Y1c{p:List Pt}(h:ProfP p)(from_ to_:Int):L5 (X0n ([from_,to_]++p.map Pt.t))=Xe p from_ to_:=by
 obtain⟨s1,s2⟩:=Q0T ([from_,to_]++p.map Pt.t)
 obtain⟨c1,c2⟩:=W0s s1
 refine V0n c1 (UL (UL h.asc_times)) fun x=>?_
 rw[c2,s2,Xe,X0z,X0z]
 simp only[List.cons_append,List.nil_append,List.mem_cons]
 constructor
 .rintro(h|h|h)
  .exact .inr (.inl h)
  .exact .inl h
  .exact .inr (.inr h)
 .rintro(h|h|h)
  .exact .inr (.inl h)
  .exact .inl h
  .exact .inr (.inr h)
def O1m(out:List Pt)(t:Int)(w:Vec):List Pt:=match out.getLast? with
 |some e=>if e.free=w then out else out++[⟨t,w⟩]
 |none=>[⟨t,w⟩]
theorem U1j{out:List Pt}(h:out.length<=1000)(x:Int)(w:Vec)(k:List Pt->Option (List Pt×Bool)):Y8 out x k w=k (O1m out x w):=by
 unfold Y8 O1m
 cases hl:out with
 |nil =>
  simp only[List.length_nil,List.getLast?_nil]
  rw[show(((0:Nat):Int)==0)=true from rfl,yN,bS,Bool.true_or,yN,U0 (by simp),bS];rfl
 |cons a l =>
  have hne:((out.length:Int)==0)=false:=by rw[hl];simp;omega
  obtain⟨e,he⟩:∃e,out[out.length-1]?=some e:=⟨_,yA (by rw[hl];simp)⟩
  have hlast:out.getLast?=some e:=by rw[List.getLast?_eq_getElem?];exact he
  rw[← hl,hne,hlast,O0y (by rw[hl];simp) (by omega),U2,he]
  simp only[yM,bS,Bool.false_or,U1p]
  by_cases hw:e.free=w
  .simp[hw]
  .simp only[hw,decide_false,Bool.not_false,yN,yc]
   rw[U0 (by simp;omega),bS]
structure Made(T:List Int)(i:Nat)(out:List Pt):Prop where
 len:out.length<=i
 mem:∀x∈out,∃j,j<i/\T[j]?=some x.t
 ok:∀x∈out,X0 x.free=true
 asc:∀(j:Nat) (x y:Pt),out[j]?=some x->out[j+1]?=some y->x.t<y.t/\x.free≠y.free
 fst:0<i->∃x,out[0]?=some x/\T[0]?=some x.t
theorem Made.nil(T:List Int):Made T 0 [] where
 len:=yV _
 mem:=fun x hx=>by cases hx
 ok:=fun x hx=>by cases hx
 asc:=fun j x y hx=>by simp at hx
 fst:=fun h=>by omega
theorem Made.push{T:List Int}(hT:T.Pairwise (· < ·)){i:Nat}{out:List Pt}(M:Made T i out){t:Int}(ht:T[i]?=some t){w:Vec}(hw:X0 w=true):Made T (i+1) (O1m out t w):=by
 have lt:∀x∈out,x.t<t:=by
  intro x hx
  obtain⟨j,hj,he⟩:=M.mem x hx
  obtain⟨h1,e1⟩:=yB he
  obtain⟨h2,e2⟩:=yB ht
  rw[← e1,← e2]
  exact List.pairwise_iff_getElem.1 hT j i h1 h2 hj
 unfold O1m
 cases hl:out.getLast? with
 |none =>
  have:out=[]:=List.getLast?_eq_none_iff.1 hl
  subst this
  have hi:i=0:=by
   cases i with
   |zero=>rfl
   |succ i=>obtain⟨x,hx,_⟩:=M.fst (by omega);simp at hx
  subst hi
  exact⟨by simp,fun x hx=>by simp at hx;subst hx;exact⟨0,by omega,ht⟩,fun x hx=>by simp at hx;subst hx;exact hw,fun j x y hx hy=>by simp at hy,fun _=>⟨_,rfl,ht⟩⟩
 |some e =>
  simp only
  by_cases he:e.free=w
  .rw[yd he]
   exact⟨by have:=M.len;omega,fun x hx=>by obtain⟨j,hj,h⟩:=M.mem x hx;exact⟨j,by omega,h⟩,M.ok,M.asc,fun _=>by
    cases i with
    |zero=>have:=M.len;have:out=[]:=List.eq_nil_of_length_eq_zero (by omega);subst this;simp at hl
    |succ i=>exact M.fst (by omega)⟩
  .rw[ye he]
   refine⟨by have:=M.len;simp;omega,fun x hx=>?_,fun x hx=>?_,fun j x y hx hy=>?_,fun _=>?_⟩
   .rcases List.mem_append.1 hx with hx|hx
    .obtain⟨j,hj,h⟩:=M.mem x hx;exact⟨j,by omega,h⟩
    .simp at hx;subst hx;exact⟨i,by omega,ht⟩
   .rcases List.mem_append.1 hx with hx|hx
    .exact M.ok x hx
    .simp at hx;subst hx;exact hw
   .by_cases hj:j+1<out.length
    .rw[yK (by omega)]at hx
     rw[yK hj]at hy
     exact M.asc j x y hx hy
    .have hlt:=(yB hy).1
     simp only[yU,yT,List.length_nil]at hlt
     have hje:j=out.length-1:=by omega
     rw[yK (by omega)]at hx
     rw[yS (by omega),show j+1-out.length=0 by omega]at hy
     simp at hy
     subst hy
     rw[List.getLast?_eq_getElem?,← hje,hx]at hl
     have hl:=Option.some.inj hl
     subst hl
     exact⟨lt _ (yE hx),he⟩
   .have hne:out≠[]:=fun e=>by rw[e]at hl;simp at hl
    cases i with
    |zero=>have:=M.len;exact absurd (List.eq_nil_of_length_eq_zero (by omega)) hne
    |succ i =>
     obtain⟨x,hx,h⟩:=M.fst (by omega)
     exact⟨x,by rw[yK (by have:=(yB hx).1;omega)];exact hx,h⟩
theorem Z1q{p:List Pt}(h:ProfP p){from_ to_:Int}(h1:time from_=true)(h2:time to_=true) :
  (Xe p from_ to_).Pairwise (· < ·)/\(Xe p from_ to_).length<=202/\(∀t∈Xe p from_ to_,time t=true)/\(Xe p from_ to_)[0]?=some 0/\from_∈Xe p from_ to_:=by
 have hp:=UL (t:=to_) (UL (t:=from_) h.asc_times)
 have hm:∀t,t∈Xe p from_ to_↔t=to_\/t=from_\/t∈p.map Pt.t:=fun t=>by rw[Xe,X0z,X0z]
 have hok:∀t∈Xe p from_ to_,time t=true:=by
  intro t ht
  rcases(hm t).1 ht with rfl|rfl|ht
  .exact h2
  .exact h1
  .obtain⟨x,hx,rfl⟩:=yY ht
   exact(h.ok x hx).1
 have h0:(0:Int)∈Xe p from_ to_:=by
  obtain⟨x,hx⟩:∃x,p[0]?=some x:=⟨_,yA h.pos⟩
  exact(hm 0).2 (.inr (.inr (List.mem_map.2 ⟨x,yE hx,h.zero x hx⟩)))
 have hl1:=L13 from_ (p.map Pt.t)
 have hl2:=L13 to_ (insT from_ (p.map Pt.t))
 simp only[List.length_map]at hl1
 have:=h.le
 refine⟨hp,by unfold Xe;omega,hok,?_,(hm from_).2 (.inr (.inl rfl))⟩
 obtain⟨j,hj⟩:=List.getElem?_of_mem h0
 obtain⟨hjl,hje⟩:=yB hj
 by_cases e:j=0
 .subst e;exact hj
 .have:=List.pairwise_iff_getElem.1 hp 0 j (by unfold Xe at hjl;omega) (by unfold Xe at hjl;exact hjl) (by omega)
  have h00:=hok (Xe p from_ to_)[0] (List.getElem_mem (by omega))
  have:=(Yy.1 h00).1
  unfold Xe at hje this
  omega
def U0K(p:List Pt)(from_ to_:Int)(v:Vec)(x:Int)(out:List Pt)(k:List Pt->Option (List Pt×Bool)):Option (List Pt×Bool) :=
 bif decide (from_<=x)&&decide (x<to_)then(bif (Q3 (atV p x) v).2 then k (O1m out x (Q3 (atV p x) v).1)else some ([],false))else k (O1m out x (atV p x))
theorem M1l{p:List Pt}{from_ to_:Int}{v:Vec}{x:Int}{i:Nat}{out:List Pt}(h:out.length<=1000)(k:List Pt->Option (List Pt×Bool)):Ug p from_ to_ v false x i out k=U0K p from_ to_ v x out k:=by
 unfold Ug U0K
 rw[MX,bS]
 cases(decide (from_<=x)&&decide (x<to_))with
 |false=>simp only[yM];rw[U1j h]
 |true =>
  simp only[yN,yM,Ub]
  cases(Q3 (atV p x) v).2 with
  |false=>rfl
  |true=>simp only[yL,yM,yN];rw[U1j h]
theorem U1n{p:List Pt}(hp:ProfP p){from_ to_:Int}{v:Vec}{x:Int}{i:Nat}{out:List Pt}(h:out.length<=1000)(k:List Pt->Option (List Pt×Bool)):V3 p from_ to_ v x i out k=U0K p from_ to_ v x out k:=by
 unfold V3 U0K J9
 rw[X0s,bS,W0S (M0s hp x)]
 cases(decide (from_<=x)&&decide (x<to_))with
 |false=>simp only[yM];exact U1j h x _ k
 |true =>
  simp only[yN]
  cases(Q3 (atV p x) v).2 with
  |false=>rfl
  |true=>simp only[yL,yM,yN];exact U1j h x _ k
theorem V0K{a b:Vec}(h:(Q3 a b).2=true):X0 (Q3 a b).1=true:=by
 unfold Q3 at h ⊢
 cases hf:V2 b a with
 |false=>rw[hf]at h;simp at h
 |true =>
  simp only[yL,yM]
  unfold V2 at hf
  simp only[yD,yO]at hf
  obtain⟨⟨⟨⟨h1,h2⟩,h3⟩,h4⟩,h5⟩:=hf
  have h1:=Oc.1 h1
  have h2:=Oc.1 h2
  rw[Oc,Wc (by omega),Wc (by omega),Wc (by omega)]
  simp only;omega
theorem J0f(p:List Pt)(from_ to_:Int)(v:Vec):Jj p from_ to_ v=L8 p from_ to_ v/\∃r,L8 p from_ to_ v=some r/\(r.2=true->ProfP r.1):=by
 unfold Jj L8
 rw[JS,V9,Mq,bS,bS]
 cases hpo:profOk p with
 |false=>simp
 |true =>
 have hp:=XI.1 hpo
 unfold Qw
 simp only[XS]
 by_cases hs:time from_=true/\time to_=true/\from_<to_
 rotate_left
 .have e:((time from_&&time to_)&&decide (from_<to_))=false:=by
   rw[Bool.eq_false_iff];intro q;simp only[yD,yO]at q;exact hs ⟨q.1.1,q.1.2,q.2⟩
  rw[e,ye (fun q=>hs q.2)]
  simp
 obtain⟨h1,h2,h3⟩:=hs
 rw[yd ⟨trivial,h1,h2,h3⟩]
 obtain⟨t1,t2,t3,t4,t5⟩:=Z1q hp h1 h2
 have T:=L0t hp from_ to_
 have O0W:Jk p from_ to_ v false=rgl (fun x _=>U0K p from_ to_ v x) Z8 (Xe p from_ to_) 0 []:=by
  unfold Jk
  rw[T,bS]
  refine W0Y (fun i b c=>b=c/\Made (Xe p from_ to_) i b) rfl (fun i x y b c k k2 hx hy hr hk=>?_) (fun b c hr=>by rw[hr.1]) ⟨rfl,Made.nil _⟩
  obtain⟨rfl,M⟩:=hr
  rw[hx]at hy;cases hy
  have hil:=(yB hx).1
  rw[M1l (by have:=M.len;omega)]
  unfold U0K
  cases(decide (from_<=x)&&decide (x<to_))with
  |false=>exact hk _ _ ⟨rfl,M.push t1 hx (M0s hp x)⟩
  |true =>
   simp only[yN]
   cases hv:(Q3 (atV p x) v).2 with
   |false=>rfl
   |true=>exact hk _ _ ⟨rfl,M.push t1 hx (V0K hv)⟩
 have ends:∀b,Made (Xe p from_ to_) (Xe p from_ to_).length b->(profOk b=true↔b.length<=200):=by
  intro b M
  rw[XI]
  refine⟨fun h=>h.le,fun hl=>?_⟩
  obtain⟨x,hx,h0⟩:=M.fst (by have:=List.length_pos_of_mem t5;omega)
  rw[t4]at h0
  exact⟨(yB hx).1,hl,fun y hy=>by rw[hx]at hy;cases hy;exact(Option.some.inj h0).symm,fun y hy=>⟨by
   obtain⟨j,_,hj⟩:=M.mem y hy
   exact t3 _ (yE hj),M.ok y hy⟩,M.asc⟩
 have total:∃r:List Pt×Bool,rgl (fun x _=>U0K p from_ to_ v x) Z8 (Xe p from_ to_) 0 []=some r/\(r.2=true->ProfP r.1):=by
  refine Ud (fun i b=>Made (Xe p from_ to_) i b) (fun o=>∃r:List Pt×Bool,o=some r/\(r.2=true->ProfP r.1)) (fun i x b k hx M hk=>?_) (fun b M=>?_) (Made.nil _)
  .unfold U0K
   cases(decide (from_<=x)&&decide (x<to_))with
   |false=>exact hk _ (M.push t1 hx (M0s hp x))
   |true =>
    simp only[yN]
    cases hv:(Q3 (atV p x) v).2 with
    |false=>exact⟨_,rfl,fun h=>by cases h⟩
    |true=>exact hk _ (M.push t1 hx (V0K hv))
  .unfold Z8
   rw[V9,bS]
   cases hb:profOk b with
   |false=>exact⟨_,rfl,fun h=>by cases h⟩
   |true=>exact⟨_,rfl,fun _=>XI.1 hb⟩
 have bind_id:∀o:Option (List Pt×Bool),(o.bind fun y6=>some (y6.1,y6.2))=o:=by intro o;cases o<;>rfl
 simp only[yL,Bool.false_or,h1,h2,h3,Bool.and_self,decide_true,yM,bind_id,Mj]
 rw[O0W]
 refine⟨?_,total⟩
 cases hv:X0 v with
 |false =>
  simp only[Bool.not_false,yN]
  symm
  refine Ud (fun i b=>Made (Xe p from_ to_) i b/\∀j,j<i->(Xe p from_ to_)[j]?≠some from_) (fun o=>o=some ([],false)) (fun i x b k hx hI hk=>?_) (fun b hI=>?_) ⟨Made.nil _,fun j h=>by omega⟩
  .obtain⟨M,hI⟩:=hI
   have sub:∀x,Q3 (atV p x) v=(⟨0,0,0⟩,false):=fun x=>by unfold Q3 V2;rw[hv];rfl
   unfold U0K
   rw[sub]
   by_cases hf:from_<=x/\x<to_
   .simp[hf.1,hf.2]
   .have e:(decide (from_<=x)&&decide (x<to_))=false:=by simpa using fun q=>by omega
    rw[e]
    refine hk _ ⟨M.push t1 hx (M0s hp x),fun j hj e=>?_⟩
    by_cases hji:j=i
    .subst hji;rw[hx]at e;cases e;omega
    .exact hI j (by omega) e
  .obtain⟨j,hj⟩:=List.getElem?_of_mem t5
   exact absurd hj (hI.2 j (yB hj).1)
 |true =>
  simp only[yL,yM]
  unfold Y4
  rw[Z7 (bd:=V5) (bs:=8) (p:=fun _=>true) (f:=Pt.t) (fun x _ i b k=>rfl) (by have:=hp.le;simp;omega)]
  unfold X5
  rw[show(p.filter fun _=>true)=p from List.filter_eq_self.2 fun _ _=>rfl]
  have hs:W0X ([from_,to_]++p.map Pt.t)=some (X0n ([from_,to_]++p.map Pt.t)):=by
   unfold W0X
   rw[yd (by have:=hp.le;simp;omega)]
  rw[hs,bS,Y1c hp]
  refine W0Y (fun i b c=>b=c/\Made (Xe p from_ to_) i b) rfl (fun i x y b c k k2 hx hy hr hk=>?_) (fun b c hr=>?_) ⟨rfl,Made.nil _⟩
  .obtain⟨rfl,M⟩:=hr
   rw[hx]at hy;cases hy
   have hil:=(yB hx).1
   rw[U1n hp (by have:=M.len;omega)]
   unfold U0K
   cases(decide (from_<=x)&&decide (x<to_))with
   |false=>exact hk _ _ ⟨rfl,M.push t1 hx (M0s hp x)⟩
   |true =>
    simp only[yN]
    cases hv:(Q3 (atV p x) v).2 with
    |false=>rfl
    |true=>exact hk _ _ ⟨rfl,M.push t1 hx (V0K hv)⟩
  .obtain⟨rfl,M⟩:=hr
   unfold Y5 Z8
   rw[V9,bS]
   by_cases hl:b.length<=200
   .rw[(ends b M).2 hl]
    simp[show ¬ (200:Int)<b.length by omega]
   .rw[show profOk b=false from Bool.eq_false_iff.2 fun q=>hl ((ends b M).1 q)]
    simp[show(200:Int)<b.length by omega]
end Go.Proofs.YtodafdoninblmaaGreat
namespace Go.Proofs.YtodafdoninblmaaGreat.Eng
open Go Go.RowKit
def X1D(P:Program)(f:FuncId)(xa:List AV)(zs zs':List Int)(ret:Bool):Prop :=
 ∀(w:World) (g:Gh) (n0:Nat) (us:List Value),Heap w g (hSt n0 [] [some ⟨1,i64s zs,false⟩])->us.length=xa.length ->
  (∀(i:Nat) (a:AV) (v:Value),xa[i]?=some a->us[i]?=some v->Gv w g (hSt n0 [] [some ⟨1,i64s zs,false⟩]) a v) ->
 (Calls P f (.slice none 0 0::us).toArray w fun e w'=>e=.returned (if ret then .slice none 0 0 else .tuple #[])/\w'=w) /\
 ∀(b cap:Nat) (cur:Array Value) (ty:TypeId),w.heap[b]?=some (.cells cur ty (0,0))->zs.length<=cap->cap<=maxLen->cur.size=cap->cur.toList.take zs.length=i64v zs->(∀o,¬ g.S b o) ->
  Calls P f (.slice (some ⟨b,0,none⟩) zs.length cap::us).toArray w fun e w'=>e=.returned (if ret then .slice (some ⟨b,0,none⟩) zs'.length cap else .tuple #[]) /\
   ∃cur':Array Value,w'.heap[b]?=some (.cells cur' ty (0,0))/\cur'.size=cap/\cur'.toList.take zs'.length=i64v zs'/\zs'.length<=cap /\
    w'.os=w.os/\w'.tape=w.tape/\w'.output=w.output/\w.heap.size<=w'.heap.size/\∀k,k<w.heap.size->k≠b->w'.heap[k]?=w.heap[k]?
theorem Z18{P:Program}{f:FuncId}{zs zs':List Int}{ret:Bool}{xa:List AV}(h0:zs=[]->zs'=[])(hr:ret=false->zs'.length=zs.length)(h:X1D P f xa zs zs' ret):L0c P f 1 (i64s zs) xa ret (i64s zs'):=by
 refine Y1h Y1v h0 hr fun w g n0 us H hl hus=>?_
 obtain⟨a,b⟩:=h w g n0 us H hl hus
 refine⟨fun _=>a,fun blk cap cur ty h1 h2 h3 h4 h5 h6=>?_⟩
 have:=b blk cap cur ty h1 h2 h3 (by omega) (by rw[← O0j,← h5,Nat.mul_one]) h6
 simpa only[O0j,Nat.mul_one]using this
theorem Rd.cap1_inv{w:World}{S:Nat->Nat->Prop}{T:Tag->Nat->Value->Prop}{g:Nat}{xs:List Int}{v:Value}(h:Rd w S T (.fn g [.ept (.agg [.sl .rd 1 (i64s xs)]) 0]) v)(hn:0<xs.length) :
  ∃b ob r o cap,v=.func (.func g) #[] #[.pointer (some ⟨b,ob,none⟩)]/\w.cell? ⟨b,ob,none⟩=some (.slice (some ⟨r,o,none⟩) xs.length cap)/\S b ob/\∀(j:Nat) (x:Int),xs[j]?=some x->w.cell? ⟨r,o+j,none⟩=some (.int .i64 x)/\S r (o+j):=by
 cases h with
 |fn _ _ vs hl hv =>
  match vs,hl with
  |[p],_ =>
  have hp:=hv 0 _ p rfl rfl
  cases hp with
  |ept _ _ b o cv hw hr =>
   have h0:=hw 0 (.sl .rd 1 (i64s xs)) rfl
   have h1:=hr 0 (.sl .rd 1 (i64s xs)) rfl
   obtain⟨q1,q2,_,_⟩:=h0
   generalize he:i64s xs=es at h1
   generalize cv 0=u at h1 q1
   cases h1 with
   |sl0 _ _ a c ho =>
    have:xs.length=0:=by
     have q:=congrArg List.length he
     unfold i64s at q
     rwa [List.length_map]at q
    omega
   |sl _ _ _ b2 o2 c cv2 hc hm hs hw2 ho hh =>
    subst he
    refine⟨b,o,b2,o2,c,rfl,?_,q2,fun j x hx=>?_⟩
    .simpa[i64s]using q1
    .have hj:(flat (i64s xs))[j]?=some (.int .i64 x):=by rw[O1v];simp[i64s,hx]
     obtain⟨c1,c2,_,_⟩:=hw2 j _ hj
     have c3:=hh j _ hj
     generalize cv2 j=z at c1 c3
     cases c3 with
     |int _ _=>exact⟨c1,c2⟩
end Go.Proofs.YtodafdoninblmaaGreat.Eng
namespace Go.Proofs.YtodafdoninblmaaGreat
open Go Go.RowKit Go.Sort Go.Lib
def XY(cnt:List Int)(x y:Fin cnt.length):Int:=if cnt[x]≠cnt[y]then IntKind.i64.wrap (cnt[y]-cnt[x])else IntKind.i64.wrap ((x.val:Int)-(y.val:Int))
theorem WV{cnt:List Int}(hl:cnt.length<=24)(hc:∀c∈cnt,0<=c/\c<=1000000)(x y:Fin cnt.length):ltOf (XY cnt) x y=decide (cnt[y]<cnt[x]\/(cnt[x]=cnt[y]/\x.val<y.val)):=by
 have hx:=hc cnt[x] (List.getElem_mem x.isLt)
 have hy:=hc cnt[y] (List.getElem_mem y.isLt)
 have bx:=x.isLt
 have bY:=y.isLt
 unfold ltOf XY
 rw[decide_eq_decide]
 by_cases h:cnt[x]=cnt[y]
 .rw[ye (by simpa using h)]
  have e:IntKind.i64.wrap ((x.val:Int)-(y.val:Int))=(x.val:Int)-(y.val:Int):=by rw[IntKind.wrap_i64];omega
  rw[e]
  omega
 .rw[yd h]
  have e:IntKind.i64.wrap (cnt[y]-cnt[x])=cnt[y]-cnt[x]:=by rw[IntKind.wrap_i64];omega
  rw[e]
  omega
theorem O1e{cnt:List Int}(hl:cnt.length<=24)(hc:∀c∈cnt,0<=c/\c<=1000000):SWO (ltOf (XY cnt)) where
 irrefl x:=by rw[WV hl hc];simp
 trans x y z h1 h2:=by
  rw[WV hl hc]at *
  simp only[yO]at *
  omega
 ntrans x y z h1 h2:=by
  rw[WV hl hc]at *
  simp only[decide_eq_false_iff_not]at *
  omega
theorem V10{cnt:List Int}(hl:cnt.length<=24)(hc:∀c∈cnt,0<=c/\c<=1000000)(x y:Fin cnt.length)(h1:ltOf (XY cnt) x y=false)(h2:ltOf (XY cnt) y x=false):x=y:=by
 rw[WV hl hc]at h1 h2
 simp only[decide_eq_false_iff_not]at h1 h2
 apply Fin.ext
 omega
end Go.Proofs.YtodafdoninblmaaGreat
