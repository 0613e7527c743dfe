/-
  Lemmas, part 9: the engine that steps through the code, the walks of functions, and the laws of what they compute.
-/
import Derived.Test.YtpljbgcghpamjaaGreatKA8
namespace Go.Proofs.YtpljbgcghpamjaaGreat
open Go Go.RowKit Eng
def pushP (out:List Pt) (t:Int) (w:Vec):List Pt:=match out.getLast? with
 | some e=>if e.free = w then out else out ++ [⟨t,w⟩]
 | none=>[⟨t,w⟩]
theorem Zbm {out:List Pt} (h:out.length <= 1000) (x:Int) (w:Vec) (k:List Pt -> Option (List Pt × Bool)):ZV out x k w = k (pushP out x w):=by
 unfold ZV pushP
 cases hl:out with
 | nil =>
  simp only [List.length_nil,List.getLast?_nil]
  rw [show (((0:Nat):Int) == 0) = true from rfl,cond_true,bS,Bool.true_or,cond_true,Zt (by simp),bS]; rfl
 | cons a l =>
  have hne:((out.length:Int) == 0) = false:=by rw [hl]; simp; omega
  obtain ⟨e,he⟩:∃ e,out[out.length - 1]? = some e:=⟨_,yA (by rw [hl]; simp)⟩
  have hlast:out.getLast? = some e:=by rw [List.getLast?_eq_getElem?]; exact he
  rw [← hl,hne,hlast,ZRd (by rw [hl]; simp) (by omega),Za,he]
  simp only [cond_false,bS,Bool.false_or,ZWm]
  by_cases hw:e.free = w
  .simp [hw]
  .simp only [hw,decide_false,Bool.not_false,cond_true,if_false]
   rw [Zt (by simp; omega),bS]
structure Made (T:List Int) (i:Nat) (out:List Pt):Prop where
 len:out.length <= i
 mem:∀ x ∈ out,∃ j,j < i /\ T[j]? = some x.t
 ok:∀ x ∈ out,spec_VecOk x.free = true
 asc:∀ (j:Nat) (x y:Pt),out[j]? = some x -> out[j + 1]? = some y -> x.t < y.t /\ x.free ≠ y.free
 fst:0 < i -> ∃ x,out[0]? = some x /\ T[0]? = some x.t
theorem Made.nil (T:List Int):Made T 0 [] where
 len:=Nat.le_refl _
 mem:=fun x hx=>by cases hx
 ok:=fun x hx=>by cases hx
 asc:=fun j x y hx=>by simp at hx
 fst:=fun h=>by omega
theorem Made.push {T:List Int} (hT:T.Pairwise (· < ·)) {i:Nat} {out:List Pt} (M:Made T i out) {t:Int} (ht:T[i]? = some t) {w:Vec} (hw:spec_VecOk w = true):Made T (i + 1) (pushP out t w):=by
 have lt:∀ x ∈ out,x.t < t:=by
  intro x hx
  obtain ⟨j,hj,he⟩:=M.mem x hx
  obtain ⟨h1,e1⟩:=yB he
  obtain ⟨h2,e2⟩:=yB ht
  rw [← e1,← e2]
  exact List.pairwise_iff_getElem.1 hT j i h1 h2 hj
 unfold pushP
 cases hl:out.getLast? with
 | none =>
  have:out = []:=List.getLast?_eq_none_iff.1 hl
  subst this
  have hi:i = 0:=by
   cases i with
   | zero=>rfl
   | succ i=>obtain ⟨x,hx,_⟩:=M.fst (by omega); simp at hx
  subst hi
  exact ⟨by simp,fun x hx=>by simp at hx; subst hx; exact ⟨0,by omega,ht⟩,fun x hx=>by simp at hx; subst hx; exact hw,fun j x y hx hy=>by simp at hy,fun _=>⟨_,rfl,ht⟩⟩
 | some e =>
  simp only
  by_cases he:e.free = w
  .rw [if_pos he]
   exact ⟨by have:=M.len; omega,fun x hx=>by obtain ⟨j,hj,h⟩:=M.mem x hx; exact ⟨j,by omega,h⟩,M.ok,M.asc,fun _=>by
    cases i with
    | zero=>have:=M.len; have:out = []:=List.eq_nil_of_length_eq_zero (by omega); subst this; simp at hl
    | succ i=>exact M.fst (by omega)⟩
  .rw [if_neg he]
   refine ⟨by have:=M.len; simp; omega,fun x hx=>?_,fun x hx=>?_,fun j x y hx hy=>?_,fun _=>?_⟩
   .rcases List.mem_append.1 hx with hx | hx
    .obtain ⟨j,hj,h⟩:=M.mem x hx; exact ⟨j,by omega,h⟩
    .simp at hx; subst hx; exact ⟨i,by omega,ht⟩
   .rcases List.mem_append.1 hx with hx | hx
    .exact M.ok x hx
    .simp at hx; subst hx; exact hw
   .by_cases hj:j + 1 < out.length
    .rw [List.getElem?_append_left (by omega)] at hx
     rw [List.getElem?_append_left hj] at hy
     exact M.asc j x y hx hy
    .have hlt:=(yB hy).1
     simp only [List.length_append,List.length_cons,List.length_nil] at hlt
     have hje:j = out.length - 1:=by omega
     rw [List.getElem?_append_left (by omega)] at hx
     rw [List.getElem?_append_right (by omega),show j + 1 - out.length = 0 by omega] at hy
     simp at hy
     subst hy
     rw [List.getLast?_eq_getElem?,← hje,hx] at hl
     have hl:=Option.some.inj hl
     subst hl
     exact ⟨lt _ (yE hx),he⟩
   .have hne:out ≠ []:=fun e=>by rw [e] at hl; simp at hl
    cases i with
    | zero=>have:=M.len; exact absurd (List.eq_nil_of_length_eq_zero (by omega)) hne
    | succ i =>
     obtain ⟨x,hx,h⟩:=M.fst (by omega)
     exact ⟨x,by rw [List.getElem?_append_left (by have:=(yB hx).1; omega)]; exact hx,h⟩
theorem Z1n {p:List Pt} (h:ProfP p) {from_ to_:Int} (h1:time from_ = true) (h2:time to_ = true) :
  (ZP1 p from_ to_).Pairwise (· < ·) /\ (ZP1 p from_ to_).length <= 202 /\ (∀ t ∈ ZP1 p from_ to_,time t = true) /\ (ZP1 p from_ to_)[0]? = some 0 /\ from_ ∈ ZP1 p from_ to_:=by
 have hp:=Zu5 (t:=to_) (Zu5 (t:=from_) h.asc_times)
 have hm:∀ t,t ∈ ZP1 p from_ to_ ↔ t = to_ \/ t = from_ \/ t ∈ p.map Pt.t:=fun t=>by rw [ZP1,ZYd,ZYd]
 have hok:∀ t ∈ ZP1 p from_ to_,time t = true:=by
  intro t ht
  rcases (hm t).1 ht with rfl | rfl | ht
  .exact h2
  .exact h1
  .obtain ⟨x,hx,rfl⟩:=List.mem_map.1 ht
   exact (h.ok x hx).1
 have h0:(0:Int) ∈ ZP1 p from_ to_:=by
  obtain ⟨x,hx⟩:∃ x,p[0]? = some x:=⟨_,yA h.pos⟩
  exact (hm 0).2 (.inr (.inr (List.mem_map.2 ⟨x,yE hx,h.zero x hx⟩)))
 have hl1:=ZQj from_ (p.map Pt.t)
 have hl2:=ZQj to_ (insT from_ (p.map Pt.t))
 simp only [List.length_map] at hl1
 have:=h.le
 refine ⟨hp,by unfold ZP1; omega,hok,?_,(hm from_).2 (.inr (.inl rfl))⟩
 obtain ⟨j,hj⟩:=List.getElem?_of_mem h0
 obtain ⟨hjl,hje⟩:=yB hj
 by_cases e:j = 0
 .subst e; exact hj
 .have:=List.pairwise_iff_getElem.1 hp 0 j (by unfold ZP1 at hjl; omega) (by unfold ZP1 at hjl; exact hjl) (by omega)
  have h00:=hok (ZP1 p from_ to_)[0] (List.getElem_mem (by omega))
  have:=(Zp9.1 h00).1
  unfold ZP1 at hje this
  omega
def takeB (p:List Pt) (from_ to_:Int) (v:Vec) (x:Int) (out:List Pt) (k:List Pt -> Option (List Pt × Bool)):Option (List Pt × Bool) :=
 bif decide (from_ <= x) && decide (x < to_) then (bif (spec_VecSub (atV p x) v).2 then k (pushP out x (spec_VecSub (atV p x) v).1) else some ([],false)) else k (pushP out x (atV p x))
theorem ZFm {p:List Pt} {from_ to_:Int} {v:Vec} {x:Int} {i:Nat} {out:List Pt} (h:out.length <= 1000) (k:List Pt -> Option (List Pt × Bool)):Z02 p from_ to_ v false x i out k = takeB p from_ to_ v x out k:=by
 unfold Z02 takeB
 rw [Zr7,bS]
 cases (decide (from_ <= x) && decide (x < to_)) with
 | false=>simp only [cond_false]; rw [Zbm h]
 | true =>
  simp only [cond_true,cond_false,Zr1]
  cases (spec_VecSub (atV p x) v).2 with
  | false=>rfl
  | true=>simp only [Bool.not_true,cond_false,cond_true]; rw [Zbm h]
theorem ZLm {p:List Pt} (hp:ProfP p) {from_ to_:Int} {v:Vec} {x:Int} {i:Nat} {out:List Pt} (h:out.length <= 1000) (k:List Pt -> Option (List Pt × Bool)):Zn p from_ to_ v x i out k = takeB p from_ to_ v x out k:=by
 unfold Zn takeB impl_ProfTake_1
 rw [ZVk,bS,ZTh (Zel hp x)]
 cases (decide (from_ <= x) && decide (x < to_)) with
 | false=>simp only [cond_false]; exact Zbm h x _ k
 | true =>
  simp only [cond_true]
  cases (spec_VecSub (atV p x) v).2 with
  | false=>rfl
  | true=>simp only [Bool.not_true,cond_false,cond_true]; exact Zbm h x _ k
theorem Z3g {a b:Vec} (h:(spec_VecSub a b).2 = true):spec_VecOk (spec_VecSub a b).1 = true:=by
 unfold spec_VecSub at h ⊢
 cases hf:spec_VecFits b a with
 | false=>rw [hf] at h; simp at h
 | true =>
  simp only [Bool.not_true,cond_false]
  unfold spec_VecFits at hf
  simp only [yD,decide_eq_true_eq] at hf
  obtain ⟨⟨⟨⟨h1,h2⟩,h3⟩,h4⟩,h5⟩:=hf
  have h1:=Zq1.1 h1
  have h2:=Zq1.1 h2
  rw [Zq1,ZN (by omega),ZN (by omega),ZN (by omega)]
  simp only; omega
theorem Zsa (p:List Pt) (from_ to_:Int) (v:Vec):impl_ProfTake p from_ to_ v = spec_ProfTake p from_ to_ v /\ ∃ r,spec_ProfTake p from_ to_ v = some r /\ (r.2 = true -> ProfP r.1):=by
 unfold impl_ProfTake spec_ProfTake
 rw [ZQ6,Zc1,Zje,bS,bS]
 cases hpo:profOk p with
 | false=>simp
 | true =>
 have hp:=Zv9.1 hpo
 unfold impl_isSpan
 simp only [ZQ9]
 by_cases hs:time from_ = true /\ time to_ = true /\ from_ < to_
 rotate_left
 .have e:((time from_ && time to_) && decide (from_ < to_)) = false:=by
   rw [Bool.eq_false_iff]; intro q; simp only [yD,decide_eq_true_eq] at q; exact hs ⟨q.1.1,q.1.2,q.2⟩
  rw [e,if_neg (fun q=>hs q.2)]
  simp
 obtain ⟨h1,h2,h3⟩:=hs
 rw [if_pos ⟨trivial,h1,h2,h3⟩]
 obtain ⟨t1,t2,t3,t4,t5⟩:=Z1n hp h1 h2
 have T:=ZNc hp from_ to_
 -- the reference,in common words
 have ZAi:spec_l03Change p from_ to_ v false = rgl (fun x _=>takeB p from_ to_ v x) ZU (ZP1 p from_ to_) 0 []:=by
  unfold spec_l03Change
  rw [T,bS]
  refine ZSi (fun i b c=>b = c /\ Made (ZP1 p from_ to_) i b) rfl (fun i x y b c k k2 hx hy hr hk=>?_) (fun b c hr=>by rw [hr.1]) ⟨rfl,Made.nil _⟩
  obtain ⟨rfl,M⟩:=hr
  rw [hx] at hy; cases hy
  have hil:=(yB hx).1
  rw [ZFm (by have:=M.len; omega)]
  unfold takeB
  cases (decide (from_ <= x) && decide (x < to_)) with
  | false=>exact hk _ _ ⟨rfl,M.push t1 hx (Zel hp x)⟩
  | true =>
   simp only [cond_true]
   cases hv:(spec_VecSub (atV p x) v).2 with
   | false=>rfl
   | true=>exact hk _ _ ⟨rfl,M.push t1 hx (Z3g hv)⟩
 have ends:∀ b,Made (ZP1 p from_ to_) (ZP1 p from_ to_).length b -> (profOk b = true ↔ b.length <= 200):=by
  intro b M
  rw [Zv9]
  refine ⟨fun h=>h.le,fun hl=>?_⟩
  obtain ⟨x,hx,h0⟩:=M.fst (by have:=List.length_pos_of_mem t5; omega)
  rw [t4] at h0
  exact ⟨(yB hx).1,hl,fun y hy=>by rw [hx] at hy; cases hy; exact (Option.some.inj h0).symm,fun y hy=>⟨by
   obtain ⟨j,_,hj⟩:=M.mem y hy
   exact t3 _ (yE hj),M.ok y hy⟩,M.asc⟩
 have total:∃ r:List Pt × Bool,rgl (fun x _=>takeB p from_ to_ v x) ZU (ZP1 p from_ to_) 0 [] = some r /\ (r.2 = true -> ProfP r.1):=by
  refine ZD1 (fun i b=>Made (ZP1 p from_ to_) i b) (fun o=>∃ r:List Pt × Bool,o = some r /\ (r.2 = true -> ProfP r.1)) (fun i x b k hx M hk=>?_) (fun b M=>?_) (Made.nil _)
  .unfold takeB
   cases (decide (from_ <= x) && decide (x < to_)) with
   | false=>exact hk _ (M.push t1 hx (Zel hp x))
   | true =>
    simp only [cond_true]
    cases hv:(spec_VecSub (atV p x) v).2 with
    | false=>exact ⟨_,rfl,fun h=>by cases h⟩
    | true=>exact hk _ (M.push t1 hx (Z3g hv))
  .unfold ZU
   rw [Zc1,bS]
   cases hb:profOk b with
   | false=>exact ⟨_,rfl,fun h=>by cases h⟩
   | true=>exact ⟨_,rfl,fun _=>Zv9.1 hb⟩
 have bind_id:∀ o:Option (List Pt × Bool),(o.bind fun y6=>some (y6.1,y6.2)) = o:=by intro o; cases o <;> rfl
 simp only [Bool.not_true,Bool.false_or,h1,h2,h3,Bool.and_self,decide_true,cond_false,bind_id,Zs1]
 rw [ZAi]
 refine ⟨?_,total⟩
 cases hv:spec_VecOk v with
 | false =>
  simp only [Bool.not_false,cond_true]
  symm
  refine ZD1 (fun i b=>Made (ZP1 p from_ to_) i b /\ ∀ j,j < i -> (ZP1 p from_ to_)[j]? ≠ some from_) (fun o=>o = some ([],false)) (fun i x b k hx hI hk=>?_) (fun b hI=>?_) ⟨Made.nil _,fun j h=>by omega⟩
  .obtain ⟨M,hI⟩:=hI
   have sub:∀ x,spec_VecSub (atV p x) v = (⟨0,0,0⟩,false):=fun x=>by unfold spec_VecSub spec_VecFits; rw [hv]; rfl
   unfold takeB
   rw [sub]
   by_cases hf:from_ <= x /\ x < to_
   .simp [hf.1,hf.2]
   .have e:(decide (from_ <= x) && decide (x < to_)) = false:=by simpa using fun q=>by omega
    rw [e]
    refine hk _ ⟨M.push t1 hx (Zel hp x),fun j hj e=>?_⟩
    by_cases hji:j = i
    .subst hji; rw [hx] at e; cases e; omega
    .exact hI j (by omega) e
  .obtain ⟨j,hj⟩:=List.getElem?_of_mem t5
   exact absurd hj (hI.2 j (yB hj).1)
 | true =>
  simp only [Bool.not_true,cond_false]
  unfold Zw
  rw [ZE1 (bd:=ZE) (bs:=8) (p:=fun _=>true) (f:=Pt.t) (fun x _ i b k=>rfl) (by have:=hp.le; simp; omega)]
  unfold ZD
  rw [show (p.filter fun _=>true) = p from List.filter_eq_self.2 fun _ _=>rfl]
  have hs:sortQ ([from_,to_] ++ p.map Pt.t) = some (sortI ([from_,to_] ++ p.map Pt.t)):=by
   unfold sortQ
   rw [if_pos (by have:=hp.le; simp; omega)]
  rw [hs,bS,Z9l hp]
  refine ZSi (fun i b c=>b = c /\ Made (ZP1 p from_ to_) i b) rfl (fun i x y b c k k2 hx hy hr hk=>?_) (fun b c hr=>?_) ⟨rfl,Made.nil _⟩
  .obtain ⟨rfl,M⟩:=hr
   rw [hx] at hy; cases hy
   have hil:=(yB hx).1
   rw [ZLm hp (by have:=M.len; omega)]
   unfold takeB
   cases (decide (from_ <= x) && decide (x < to_)) with
   | false=>exact hk _ _ ⟨rfl,M.push t1 hx (Zel hp x)⟩
   | true =>
    simp only [cond_true]
    cases hv:(spec_VecSub (atV p x) v).2 with
    | false=>rfl
    | true=>exact hk _ _ ⟨rfl,M.push t1 hx (Z3g hv)⟩
  .obtain ⟨rfl,M⟩:=hr
   unfold ZC ZU
   rw [Zc1,bS]
   by_cases hl:b.length <= 200
   .rw [(ends b M).2 hl]
    simp [show ¬ (200:Int) < b.length by omega]
   .rw [show profOk b = false from Bool.eq_false_iff.2 fun q=>hl ((ends b M).1 q)]
    simp [show (200:Int) < b.length by omega]
theorem Zg7 {j:Job}:spec_JobOk j = true ↔ (1 <= j.id /\ j.id <= 999) /\ (0 <= j.prio /\ j.prio <= 999) /\ (1 <= j.nodes /\ j.nodes <= 24) /\ spec_VecOk j.need = true /\ spec_VecOk j.lic = true /\ (1 <= j.wall /\ j.wall <= 1000000) /\ (0 <= j.level /\ j.level <= 24):=by
 unfold spec_JobOk
 by_cases h:(1 <= j.id /\ j.id <= 999) /\ (0 <= j.prio /\ j.prio <= 999) /\ (1 <= j.nodes /\ j.nodes <= 24)
 .rw [show ((((((decide (j.id < 1)) || (decide (999 < j.id))) || (decide (j.prio < 0))) || (decide (999 < j.prio))) || (decide (j.nodes < 1))) || (decide (24 < j.nodes))) = false by simp; omega]
  simp only [cond_false,yD,decide_eq_true_eq]
  constructor
  .intro q; exact ⟨h.1,h.2.1,h.2.2,q.1.1.1.1.1,q.1.1.1.1.2,⟨q.1.1.1.2,q.1.1.2⟩,q.1.2,q.2⟩
  .intro q; exact ⟨⟨⟨⟨⟨q.2.2.2.1,q.2.2.2.2.1⟩,q.2.2.2.2.2.1.1⟩,q.2.2.2.2.2.1.2⟩,q.2.2.2.2.2.2.1⟩,q.2.2.2.2.2.2.2⟩
 .rw [show ((((((decide (j.id < 1)) || (decide (999 < j.id))) || (decide (j.prio < 0))) || (decide (999 < j.prio))) || (decide (j.nodes < 1))) || (decide (24 < j.nodes))) = true by
   simp only [Bool.or_eq_true,decide_eq_true_eq]; omega]
  simp only [cond_true]
  exact ZM1 fun q=>h ⟨q.1,q.2.1,q.2.2.1⟩
theorem Z85 (j:Job):impl_JobOk j = spec_JobOk j:=by
 rw [Bool.eq_iff_iff,Zg7]
 unfold impl_JobOk impl_within
 simp only [Zs1,yD,decide_eq_true_eq,and_assoc]
structure RoomP (r:Room):Prop where
 topo:TopoP r.topo
 up:r.up.length = r.topo.nodes.length
 profs:r.profs.length = r.topo.nodes.length
 prof:∀ p ∈ r.profs,ProfP p
 lics:ProfP r.lics
noncomputable def roomOk (r:Room):Bool:=topoOk r.topo && decide (r.up.length = r.topo.nodes.length) && decide (r.profs.length = r.topo.nodes.length) && profOk r.lics && r.profs.all profOk
theorem Z6i {r:Room}:roomOk r = true ↔ RoomP r:=by
 unfold roomOk
 simp only [yD,decide_eq_true_eq,List.all_eq_true,Z97,Zv9]
 exact ⟨fun h=>⟨h.1.1.1.1,h.1.1.1.2,h.1.1.2,h.2,h.1.2⟩,fun h=>⟨⟨⟨⟨h.topo,h.up⟩,h.profs⟩,h.lics⟩,h.prof⟩⟩
theorem Z6j (a b:Nat):((a:Int) != (b:Int)) = !decide (a = b):=by
 by_cases h:a = b
 .simp [h]
 .rw [show ((a:Int) != (b:Int)) = true by simp; omega]; simp [h]
theorem Zeg (r:Room):spec_RoomOk r = some (roomOk r):=by
 unfold spec_RoomOk roomOk
 rw [ZB2,bS]
 simp only [Z6j,Zc1]
 rw [ZS1 (r:=some false) (p:=fun p=>!profOk p) (fun x _ i k=>by unfold Zn5; rw [Zc1,bS]),← List.not_all_eq_any_not]
 cases topoOk r.topo <;> cases decide (r.up.length = r.topo.nodes.length) <;> cases decide (r.profs.length = r.topo.nodes.length) <;> cases profOk r.lics <;> cases r.profs.all profOk <;> rfl
theorem ZYh (r:Room):impl_RoomOk r = some (roomOk r):=by
 unfold impl_RoomOk roomOk
 rw [ZK6,ZB2,bS]
 simp only [Z6j]
 rw [ZS1 (r:=some false) (p:=fun p=>!profOk p) (fun x _ i k=>by unfold Zz5; rw [ZQ6,Zc1,bS]),← List.not_all_eq_any_not]
 unfold Zy5
 rw [ZQ6,Zc1,bS]
 cases topoOk r.topo <;> cases decide (r.up.length = r.topo.nodes.length) <;> cases decide (r.profs.length = r.topo.nodes.length) <;> cases profOk r.lics <;> cases r.profs.all profOk <;> rfl
structure RoomS (r:Room):Prop where
 up:r.up.length <= 1048576
 par:r.topo.parents.length <= 1048576
 nodes:r.topo.nodes.length <= 1048576
 profs:r.profs.length <= 1048576
 prof:∀ p ∈ r.profs,p.length <= 1048576
 lics:r.lics.length <= 1048576
theorem RoomP.small {r:Room} (h:RoomP r):RoomS r :=
  ⟨by have:=h.up; have:=h.topo.nodes; omega,by have:=h.topo.tree.le; omega,by have:=h.topo.nodes; omega,by have:=h.profs; have:=h.topo.nodes; omega,fun p hp=>by have:=(h.prof p hp).le; omega,by have:=h.lics.le; omega⟩
theorem Zt8 {r:Room} (h:RoomS r):spec_l04Copy r = some r:=by
 unfold spec_l04Copy spec_l04Prof
 have:=h.up; have:=h.lics; have:=h.par; have:=h.nodes; have:=h.profs
 rw [Zt (by simp; omega),bS,Zt (by simp; omega),bS,bS,Zt (by simp; omega),bS,Zt (by simp; omega),bS]
 rw [ZE1 (bd:=ZE2) (bs:=24) (p:=fun _=>true) (f:=id) (fun x hx i b k=>by
  have:=h.prof x hx
  unfold ZE2 spec_l04Prof
  rw [Zt (by simp; omega),bS,bS]; simp) (by simp; omega)]
 unfold Zu4
 simp [List.filter_eq_self.2]
theorem ZJd {r:Room} (h:RoomS r):impl_copyRoom r = some r:=by
 unfold impl_copyRoom impl_copyTopo impl_copyInts impl_copyProf
 have:=h.up; have:=h.lics; have:=h.par; have:=h.nodes; have:=h.profs
 rw [Zt (by simp; omega),bS,bS,Zt (by simp; omega),bS,bS,Zt (by simp; omega),bS,Zt (by simp; omega),bS,bS]
 rw [ZE1 (bd:=Zp2) (bs:=24) (p:=fun _=>true) (f:=id) (fun x hx i b k=>by
  have:=h.prof x hx
  unfold Zp2 impl_copyProf
  rw [Zt (by simp; omega),bS,bS]; simp) (by simp; omega)]
 unfold ZO3
 simp [List.filter_eq_self.2]
theorem Z0e {α:Type} {l:List α} {i:Nat} (h:i <= l.length):cutL l none (some (i:Int)) = some (l.take i):=by
 unfold cutL bhi blo
 simp [h]
theorem Zei {l:List Int} {i:Nat} {x:Int} (hx:l[i]? = some x):(l.take (i + 1)).Nodup ↔ (l.take i).Nodup /\ x ∉ l.take i:=by
 obtain ⟨hi,rfl⟩:=yB hx
 rw [List.take_succ_eq_append_getElem hi,List.nodup_append]
 constructor
 .intro h; exact ⟨h.1,fun hm=>h.2.2 _ hm _ (List.mem_singleton.2 rfl) rfl⟩
 .intro h; exact ⟨h.1,by simp,fun a ha b hb e=>by rw [List.mem_singleton.1 hb] at e; subst e; exact h.2 ha⟩
theorem Zfi {γ:Type} {bd:Int -> Nat -> Unit -> (Unit -> Option γ) -> Option γ} {kk:Unit -> Option γ} {r:Option γ} {l:List Int}
  (hb:∀ i x k,i <= l.length -> bd x i () k = bif (l.take i).contains x then r else k ()):rgl bd kk l 0 () = bif decide l.Nodup then kk () else r:=by
 refine ZD1 (fun i (_:Unit)=>(l.take i).Nodup) (fun o=>o = bif decide l.Nodup then kk () else r) (fun i x b k hx hI hk=>?_) (fun b hI=>?_) (by simp)
 .have hil:=(yB hx).1
  rw [hb i x k (by omega)]
  cases hc:(l.take i).contains x with
  | true =>
   have hm:=List.contains_iff_mem.1 hc
   have:¬ l.Nodup:=fun q=>((Zei hx).1 (q.sublist (List.take_sublist _ _))).2 hm
   simp [this]
  | false=>exact hk () ((Zei hx).2 ⟨hI,fun hm=>by rw [List.contains_iff_mem.2 hm] at hc; cases hc⟩)
 .rw [List.take_of_length_le (Nat.le_refl _)] at hI
  simp [hI]
noncomputable def diffOk (r:Room) (j:Job) (nodes:List Int):Bool:=roomOk r && spec_JobOk j && decide ((nodes.length:Int) = j.nodes) && ZF1 r.topo nodes && decide nodes.Nodup
theorem Zr8 (r:Room) (j:Job) (nodes:List Int):spec_l04Diff r j nodes = some (diffOk r j nodes):=by
 unfold spec_l04Diff diffOk
 rw [Zeg,bS]
 have e:((nodes.length:Int) != j.nodes) = !decide ((nodes.length:Int) = j.nodes):=by
  by_cases h:(nodes.length:Int) = j.nodes <;> simp [h]
 simp only [e,Zv4]
 rw [Zfi (r:=some false) (fun i x k hi=>by unfold Zt4; rw [Z0e hi,bS,ZA2,bS])]
 cases roomOk r <;> cases spec_JobOk j <;> cases decide ((nodes.length:Int) = j.nodes) <;> cases ZF1 r.topo nodes <;> cases decide nodes.Nodup <;> rfl
theorem Zpa {t:Topo} (ht:t.nodes.length <= 1048576) (j:Job) (nodes:List Int):impl_areJobNodes t j nodes = some (decide ((nodes.length:Int) = j.nodes) && ZF1 t nodes && decide nodes.Nodup):=by
 unfold impl_areJobNodes
 rw [Zfi (r:=some false) (fun i x k hi=>by unfold Zx2; rw [Z0e hi,bS,ZV5,bS])]
 unfold Zw2
 rw [Zf8 t nodes ht,bS]
 have e:((nodes.length:Int) == j.nodes) = decide ((nodes.length:Int) = j.nodes):=by
  by_cases h:(nodes.length:Int) = j.nodes <;> simp [h]
 rw [e]
 cases decide ((nodes.length:Int) = j.nodes) <;> cases ZF1 t nodes <;> cases decide nodes.Nodup <;> rfl
def Zc3:Room × Bool:=(⟨⟨[],[]⟩,[],[],[]⟩,false)
def Zq9 (r:Room) (need lic:Vec) (from_ to_:Int) (nodes:List Int):Option (Room × Bool) :=
 rgl (fun x _ v k=>(idx v x).bind fun e=>(spec_ProfTake e from_ to_ need).bind fun y=>bif !y.2 then some Zc3 else k (v.set x.toNat y.1))
  (fun v=>(spec_ProfTake r.lics from_ to_ lic).bind fun y=>bif !y.2 then some Zc3 else some (⟨r.topo,r.up,v,y.1⟩,true)) nodes 0 r.profs
theorem Zyi {r:Room} (hr:RoomP r) (need lic:Vec) (from_ to_:Int) {nodes:List Int} (hn:ZF1 r.topo nodes = true) :
  ∃ q,Zq9 r need lic from_ to_ nodes = some q /\ (q.2 = true -> RoomP q.1 /\ q.1.topo = r.topo /\ q.1.up = r.up):=by
 have hn:=(ZN3.1 hn).2
 unfold Zq9
 refine ZD1 (fun i (v:List (List Pt))=>v.length = r.topo.nodes.length /\ ∀ p ∈ v,ProfP p) (fun o=>∃ q:Room × Bool,o = some q /\ (q.2 = true -> RoomP q.1 /\ q.1.topo = r.topo /\ q.1.up = r.up)) (fun i x v k hx hI hk=>?_) (fun v hI=>?_) ⟨hr.profs,hr.prof⟩
 .have hx':=hn x (yE hx)
  obtain ⟨e,q1,q2⟩:=Z8k (l:=v) (i:=x) hx'.1 (by rw [hI.1]; exact hx'.2)
  obtain ⟨y,h1,h2⟩:=(Zsa e from_ to_ need).2
  rw [q1,bS,h1,bS]
  cases hy:y.2 with
  | false=>exact ⟨Zc3,rfl,fun h=>by cases h⟩
  | true =>
   refine hk _ ⟨by simp [hI.1],fun p hp=>?_⟩
   rcases List.mem_or_eq_of_mem_set hp with hp | rfl
   .exact hI.2 p hp
   .exact h2 hy
 .obtain ⟨y,h1,h2⟩:=(Zsa r.lics from_ to_ lic).2
  rw [h1,bS]
  cases hy:y.2 with
  | false=>exact ⟨Zc3,rfl,fun h=>by cases h⟩
  | true=>exact ⟨_,rfl,fun _=>⟨⟨hr.topo,hr.up,hI.1,hI.2,h2 hy⟩,rfl,rfl⟩⟩
theorem Zfe (r:Room) (j:Job) (t:Int) (nodes:List Int):spec_Reserve r j t nodes = bif diffOk r j nodes && time t then Zq9 r j.need j.lic t (w64 (t + j.wall)) nodes else some Zc3:=by
 unfold spec_Reserve
 rw [Zr8,bS,Z42]
 cases hd:diffOk r j nodes with
 | false=>rfl
 | true =>
  cases time t with
  | false=>rfl
  | true =>
   have hr:roomOk r = true:=by unfold diffOk at hd; simp only [yD] at hd; exact hd.1.1.1.1
   simp only [Bool.not_true,Bool.or_self,cond_false,Bool.and_self,cond_true]
   rw [Zt8 (Z6i.1 hr).small,bS]
   rfl
theorem ZTj (r:Room) (j:Job) (from_ to_:Int) (nodes:List Int):ZG r j from_ to_ nodes = bif diffOk r j nodes then Zq9 r j.need j.lic from_ to_ nodes else some Zc3:=by
 unfold ZG diffOk
 rw [ZYh,bS,Z85]
 cases hr:roomOk r with
 | false=>rfl
 | true =>
  have hR:=Z6i.1 hr
  rw [Zpa hR.small.nodes]
  cases spec_JobOk j with
  | false=>rfl
  | true =>
   simp only [Bool.not_true,Bool.or_self,cond_false,Bool.true_and,bS]
   cases (decide ((nodes.length:Int) = j.nodes) && ZF1 r.topo nodes && decide nodes.Nodup) with
   | false=>rfl
   | true =>
    simp only [Bool.not_true,Bool.or_self,cond_false,cond_true]
    rw [ZJd hR.small,bS]
    unfold Zq9 Zb1 Za1
    simp only [fun p f t v=>(Zsa p f t v).1]
    rfl
def idsOk (l:List Job):Bool:=decide (l.map Job.id).Nodup
noncomputable def queueOk (l:List Job):Bool:=decide (l.length <= 60) && l.all spec_JobOk && idsOk l
theorem Zdm {l:List Job} {i:Nat} {x:Job} (hx:l[i]? = some x):((l.take (i + 1)).map Job.id).Nodup ↔ ((l.take i).map Job.id).Nodup /\ ∀ y ∈ l.take i,y.id ≠ x.id:=by
 obtain ⟨hi,rfl⟩:=yB hx
 rw [List.take_succ_eq_append_getElem hi,List.map_append,List.nodup_append]
 constructor
 .intro h; exact ⟨h.1,fun y hy e=>h.2.2 _ (List.mem_map_of_mem hy) _ (List.mem_singleton.2 rfl) e⟩
 .intro h; exact ⟨h.1,by simp,fun a ha b hb e=>by
   obtain ⟨y,hy,rfl⟩:=List.mem_map.1 ha
   rw [show b = l[i].id by simpa using hb] at e
   exact h.2 y hy e⟩
theorem Z9i {γ:Type} {bd:Job -> Nat -> Unit -> (Unit -> Option γ) -> Option γ} {kk:Unit -> Option γ} {r:Option γ} {l:List Job}
  (hb:∀ i x k,l[i]? = some x -> bd x i () k = bif (!spec_JobOk x) || (l.take i).any (fun y=>y.id == x.id) then r else k ()):rgl bd kk l 0 () = bif l.all spec_JobOk && idsOk l then kk () else r:=by
 refine ZD1 (fun i (_:Unit)=>(∀ y ∈ l.take i,spec_JobOk y = true) /\ ((l.take i).map Job.id).Nodup) (fun o=>o = bif l.all spec_JobOk && idsOk l then kk () else r) (fun i x b k hx hI hk=>?_) (fun b hI=>?_) (by simp)
 .have hil:=(yB hx).1
  rw [hb i x k hx]
  cases hj:spec_JobOk x with
  | false =>
   have:l.all spec_JobOk = false:=List.all_eq_false.2 ⟨x,yE hx,by rw [hj]; simp⟩
   rw [this]; rfl
  | true =>
   cases hc:(l.take i).any (fun y=>y.id == x.id) with
   | true =>
    obtain ⟨y,hy,he⟩:=List.any_eq_true.1 hc
    have:idsOk l = false:=by
     unfold idsOk
     rw [decide_eq_false_iff_not]
     intro q
     have q2:((l.take (i + 1)).map Job.id).Nodup:=q.sublist ((List.take_sublist _ _).map _)
     exact ((Zdm hx).1 q2).2 y hy (by simpa using he)
    rw [this,Bool.and_false]; rfl
   | false =>
    refine hk () ⟨fun y hy=>?_,(Zdm hx).2 ⟨hI.2,fun y hy e=>?_⟩⟩
    .obtain ⟨hi,rfl⟩:=yB hx
     rw [List.take_succ_eq_append_getElem hi] at hy
     rcases List.mem_append.1 hy with hy | hy
     .exact hI.1 y hy
     .rw [List.mem_singleton.1 hy]; exact hj
    .have:=List.any_eq_false.1 hc y hy
     simp [e] at this
 .rw [List.take_of_length_le (Nat.le_refl _)] at hI
  rw [List.all_eq_true.2 hI.1]
  unfold idsOk
  rw [decide_eq_true hI.2]; rfl
theorem Zhe (l:List Job):spec_QueueOk l = some (queueOk l):=by
 unfold spec_QueueOk queueOk
 by_cases h:60 < l.length
 .simp [show (60:Int) < l.length by omega,show ¬ l.length <= 60 by omega]
 .rw [show decide ((60:Int) < (l.length:Int)) = false by simp; omega,show decide (l.length <= 60) = true by simp; omega]
  simp only [cond_false,Bool.true_and]
  rw [Z9i (r:=some false) (fun i x k hx=>?_)]
  .unfold Zy4
   cases (l.all spec_JobOk && idsOk l) <;> rfl
  .have hil:=(yB hx).1
   unfold Zz4
   cases spec_JobOk x with
   | false=>rfl
   | true =>
    simp only [Bool.not_true,cond_false,Bool.false_or]
    have h:=Zda (bd:=ZY1 l i x k) (fun (i:Nat) (_:Unit)=>(i:Int)) (n:=i)
     (B:=fun m _ _ k=>bif (match l[m]? with | some e=>e.id == x.id | none=>false) then some false else k ()) (kk:=fun _=>k ()) (fun m st k hm=>by
      obtain ⟨e,he⟩:∃ e,l[m]? = some e:=⟨_,yA (by omega)⟩
      have hlt:(m:Int) < (i:Int):=by omega
      simp only [ZY1,hlt,decide_true,cond_true,Za,he,bS,Zz (n:=m) (by omega)])
     (fun m st k hm=>by
      have hlt:¬ (m:Int) < (i:Int):=by omega
      simp only [ZY1,hlt,decide_false,cond_false]) 9223372036854775807 0 () (by omega)
    refine h.trans ?_
    rw [ZS1 (r:=some false) (p:=fun (m:Nat)=>match l[m]? with | some e=>e.id == x.id | none=>false) (fun m _ i k=>rfl)]
    have e:(List.range' 0 (i - 0)).any (fun (m:Nat)=>match l[m]? with | some e=>e.id == x.id | none=>false) = (l.take i).any (fun y=>y.id == x.id):=by
     rw [Bool.eq_iff_iff,List.any_eq_true,List.any_eq_true]
     constructor
     .rintro ⟨m,hm,hq⟩
      obtain ⟨j,hj,rfl⟩:=List.mem_range'.1 hm
      have hlt:0 + 1 * j < l.length:=by omega
      rw [yA hlt] at hq
      exact ⟨_,List.mem_take_iff_getElem.2 ⟨0 + 1 * j,by omega,rfl⟩,hq⟩
     .rintro ⟨y,hy,hq⟩
      obtain ⟨m,hm,rfl⟩:=List.mem_take_iff_getElem.1 hy
      exact ⟨m,List.mem_range'.2 ⟨m,by omega,by omega⟩,by rw [yA (by omega)]; exact hq⟩
    rw [e]
theorem ZCl (l:List Job) (c:Job):Z5 l c = some (l.any fun y=>y.id == c.id):=by
 unfold Z5 Ze
 have:∃ r:Int,rgl (Zb c) Zk l 0 () = some r /\ decide (0 <= r) = l.any fun y=>y.id == c.id:=by
  refine ZD1 (fun i (_:Unit)=>∀ y ∈ l.take i,(y.id == c.id) = false) (fun o=>∃ r:Int,o = some r /\ decide (0 <= r) = l.any fun y=>y.id == c.id) (fun i x b k hx hI hk=>?_) (fun b hI=>?_) (by simp)
  .unfold Zb impl_QueueOk_1
   cases h:(x.id == c.id) with
   | true=>exact ⟨i,rfl,by rw [List.any_eq_true.2 ⟨x,yE hx,h⟩]; simp⟩
   | false =>
    refine hk () fun y hy=>?_
    obtain ⟨hi,rfl⟩:=yB hx
    rw [List.take_succ_eq_append_getElem hi] at hy
    rcases List.mem_append.1 hy with hy | hy
    .exact hI y hy
    .rw [List.mem_singleton.1 hy]; exact h
  .rw [List.take_of_length_le (Nat.le_refl _)] at hI
   exact ⟨-1,rfl,by rw [List.any_eq_false.2 fun y hy=>by rw [hI y hy]; simp]; rfl⟩
 obtain ⟨r,h1,h2⟩:=this
 rw [h1,bS,h2]
theorem ZMf (l:List Job):impl_QueueOk l = some (queueOk l):=by
 unfold impl_QueueOk queueOk
 rw [Z9i (r:=some false) (fun i x k hx=>?_)]
 .unfold ZI4
  have e:decide ((l.length:Int) <= 60) = decide (l.length <= 60):=by rw [Bool.eq_iff_iff]; simp; omega
  rw [e]
  cases l.all spec_JobOk <;> cases idsOk l <;> cases decide (l.length <= 60) <;> rfl
 .have hil:=(yB hx).1
  unfold ZJ4
  rw [Z85,Z0e (by omega)]
  cases spec_JobOk x with
  | false=>rfl
  | true =>
   simp only [Bool.not_true,cond_false,bS,ZCl,Bool.false_or]
theorem ZNf (v:Vec):impl_ProfNew v = spec_ProfNew v:=rfl
def ZE5 (t:Topo) (up:List Bool) (lic:Vec):Room:=⟨t,up,t.nodes.map fun x=>(spec_ProfNew x.cap).1,(spec_ProfNew lic).1⟩
theorem Zri {v:Vec} (h:spec_VecOk v = true):ProfP (spec_ProfNew v).1:=by
 unfold spec_ProfNew
 rw [h]
 simp only [Bool.not_true,cond_false]
 exact ⟨by simp,by simp,fun x hx=>by simp at hx; rw [← hx],fun x hx=>by simp at hx; subst hx; exact ⟨rfl,h⟩,fun i x y hx hy=>by simp at hy⟩
theorem Zwc {t:Topo} (h:TopoP t) {up:List Bool} (hu:up.length = t.nodes.length) {lic:Vec} (hl:spec_VecOk lic = true):RoomP (ZE5 t up lic) :=
  ⟨h,hu,by simp [ZE5],fun p hp=>by
    obtain ⟨x,hx,rfl⟩:=List.mem_map.1 hp
    exact Zri (h.node x hx).2.2.2,Zri hl⟩
theorem ZXj {t:Topo} (h:TopoP t) {up:List Bool} (hu:up.length = t.nodes.length) (lic:Vec):impl_empty t up lic = some (ZE5 t up lic):=by
 have:=h.tree.le; have:=h.nodes
 unfold impl_empty impl_copyTopo impl_copyInts
 rw [Zt (by simp; omega),bS,bS,Zt (by simp; omega),bS,bS,Zt (by simp; omega),bS]
 rw [ZE1 (bd:=ZG6) (bs:=24) (p:=fun _=>true) (f:=fun x=>(spec_ProfNew x.cap).1) (fun x hx i b k=>rfl) (by simp; omega)]
 unfold ZF6 ZE5
 simp [List.filter_eq_self.2,ZNf]
theorem ZLc (s:State):spec_l06Empty s = some (bif topoOk s.topo && decide (s.up.length = s.topo.nodes.length) && spec_VecOk s.lic then (ZE5 s.topo s.up s.lic,true) else Zc3):=by
 unfold spec_l06Empty
 rw [ZB2,bS,Z6j]
 cases ht:topoOk s.topo with
 | false=>rfl
 | true =>
 cases hu:decide (s.up.length = s.topo.nodes.length) with
 | false=>rfl
 | true =>
 cases hl:spec_VecOk s.lic with
 | false=>rfl
 | true =>
  have h:=Z97.1 ht
  have hu:=of_decide_eq_true hu
  have:=h.nodes
  simp only [Bool.not_true,Bool.or_self,cond_false,Bool.and_self,cond_true]
  rw [ZE1 (bd:=ZH3) (bs:=24) (p:=fun _=>true) (f:=fun x=>(spec_ProfNew x.cap).1) (fun x hx i b k=>rfl) (by simp; omega)]
  unfold ZG3
  rw [show (s.topo.nodes.filter fun _=>true) = s.topo.nodes from List.filter_eq_self.2 fun _ _=>rfl,List.nil_append]
  have hR:=Zwc h hu hl
  unfold ZE5 at hR
  rw [Zt8 hR.small,bS]
  rfl
def runOk (s:State) (x:Run):Bool:=time x.t && decide (x.t <= s.now) && decide (s.now < x.t + x.job.wall) && decide (x.t + x.job.wall <= 1000000000)
noncomputable def Zs9 (s:State) (x:Run) (v:Room):Option (Room × Bool):=bif diffOk v x.job x.nodes && runOk s x then Zq9 v x.job.need x.job.lic s.now (x.t + x.job.wall) x.nodes else some Zc3
theorem ZBi {s:State} (hs:time s.now = true) (x:Run) (i:Nat) (v:Room) (k:Room -> Option (Room × Bool)):Z73 s x i v k = (Zs9 s x v).bind fun y=>bif !y.2 then some Zc3 else k y.1:=by
 have hn:=Zp9.1 hs
 unfold Z73 Zs9
 rw [Zr8,bS,Z42]
 cases hd:diffOk v x.job x.nodes with
 | false=>rfl
 | true =>
  have hj:spec_JobOk x.job = true:=by unfold diffOk at hd; simp only [yD] at hd; exact hd.1.1.1.2
  have hj':=Zg7.1 hj
  unfold runOk
  by_cases ht:time x.t = true /\ x.t <= s.now
  .have ht1:=Zp9.1 ht.1
   rw [ht.1,ZN (n:=x.t + x.job.wall) (by omega),show decide (s.now < x.t) = false by simp; omega,show decide (x.t <= s.now) = true by simpa using ht.2]
   by_cases h3:s.now < x.t + x.job.wall
   .rw [show decide (x.t + x.job.wall <= s.now) = false by simp; omega,show decide (s.now < x.t + x.job.wall) = true by simpa using h3]
    by_cases h4:x.t + x.job.wall <= 1000000000
    .rw [show decide (1000000000 < x.t + x.job.wall) = false by simp; omega,show decide (x.t + x.job.wall <= 1000000000) = true by simpa using h4]
     simp only [Bool.not_true,Bool.or_self,cond_false,Bool.and_self,cond_true]
     rw [ZN (n:=x.t + x.job.wall - s.now) (by omega),Zfe]
     have e:diffOk v ⟨x.job.id,x.job.prio,x.job.nodes,x.job.need,x.job.lic,x.t + x.job.wall - s.now,x.job.level⟩ x.nodes = true:=by
      have hj2:spec_JobOk ⟨x.job.id,x.job.prio,x.job.nodes,x.job.need,x.job.lic,x.t + x.job.wall - s.now,x.job.level⟩ = true:=by
       rw [Zg7]; simp only; refine ⟨hj'.1,hj'.2.1,hj'.2.2.1,hj'.2.2.2.1,hj'.2.2.2.2.1,by omega,hj'.2.2.2.2.2.2⟩
      unfold diffOk at hd ⊢
      rw [hj] at hd
      rw [hj2]; exact hd
     rw [e,hs]
     simp only [Bool.and_self,cond_true]
     rw [show s.now + (x.t + x.job.wall - s.now) = x.t + x.job.wall by omega,ZN (by omega)]
     rfl
    .rw [show decide (1000000000 < x.t + x.job.wall) = true by simp; omega,show decide (x.t + x.job.wall <= 1000000000) = false by simpa using h4]
     simp [Zc3]
   .rw [show decide (x.t + x.job.wall <= s.now) = true by simp; omega,show decide (s.now < x.t + x.job.wall) = false by simpa using h3]
    simp [Zc3]
  .have:(time x.t && decide (x.t <= s.now)) = false:=by
    rw [Bool.eq_false_iff]; intro q; simp only [yD,decide_eq_true_eq] at q; exact ht q
   rw [this]
   have h2:(!(time x.t) || decide (s.now < x.t)) = true:=by
    cases hx:time x.t with
    | false=>rfl
    | true =>
     have:¬ x.t <= s.now:=fun q=>ht ⟨hx,q⟩
     simp; omega
   simp only [Bool.not_true,Bool.false_or,h2,Bool.true_or,cond_true,Bool.false_and,Bool.and_false,cond_false,bS]
   rfl
theorem ZSj {s:State} (hs:time s.now = true) (x:Run) (i:Nat) (v:Room) (k:Room -> Option (Room × Bool)):Zu3 s x i v k = (Zs9 s x v).bind fun y=>bif !y.2 then some Zc3 else k y.1:=by
 have hn:=Zp9.1 hs
 unfold Zu3 Zs9
 rw [Z85,ZTj]
 cases hj:spec_JobOk x.job with
 | false =>
  have hd:diffOk v x.job x.nodes = false:=by unfold diffOk; rw [hj]; simp
  rw [hd]; rfl
 | true =>
  have hj':=Zg7.1 hj
  by_cases h1:0 <= x.t /\ x.t <= s.now
  .rw [ZN (n:=x.t + x.job.wall) (by omega),ZN (n:=s.now + 1) (by omega)]
   have e1:impl_within x.t 0 s.now = true:=by simp [impl_within]; exact h1
   have e2:impl_within (x.t + x.job.wall) (s.now + 1) 1000000000 = (decide (s.now < x.t + x.job.wall) && decide (x.t + x.job.wall <= 1000000000)):=by
    unfold impl_within; congr 1
   have e3:time x.t = true:=by rw [Zp9]; omega
   unfold runOk
   rw [e1,e2,e3,show decide (x.t <= s.now) = true by simpa using h1.2]
   simp only [Bool.not_true,Bool.false_or,Bool.and_self,Bool.true_and]
   cases (decide (s.now < x.t + x.job.wall) && decide (x.t + x.job.wall <= 1000000000)) <;> cases diffOk v x.job x.nodes <;> rfl
  .have e1:impl_within x.t 0 s.now = false:=by
    unfold impl_within; rw [Bool.eq_false_iff]; intro q; simp only [yD,decide_eq_true_eq] at q; exact h1 q
   have e2:runOk s x = false:=by
    unfold runOk; rw [Bool.eq_false_iff]; intro q; simp only [yD,decide_eq_true_eq,Zp9] at q; exact h1 ⟨q.1.1.1.1,q.1.1.2⟩
   rw [e1,e2]
   simp [Zc3]
noncomputable def ZEa (s:State):Option (Room × Bool):=rgl (fun x _ v k=>(Zs9 s x v).bind fun y=>bif !y.2 then some Zc3 else k y.1) (fun v=>some (v,true)) s.runs 0 (ZE5 s.topo s.up s.lic)
noncomputable def Zq7 (s:State):Bool:=topoOk s.topo && decide (s.up.length = s.topo.nodes.length) && spec_VecOk s.lic && time s.now
theorem ZI9 (s:State):spec_RoomOf s = bif Zq7 s then ZEa s else some Zc3:=by
 unfold spec_RoomOf Zq7
 rw [ZLc,bS,Z42]
 cases (topoOk s.topo && decide (s.up.length = s.topo.nodes.length) && spec_VecOk s.lic) with
 | false=>rfl
 | true =>
  cases hs:time s.now with
  | false=>rfl
  | true =>
   simp only [cond_true,Bool.not_true,Bool.or_self,cond_false,Bool.and_self]
   unfold ZEa
   exact Ze7 (fun i x b k _=>ZBi hs x i b k) fun b=>rfl
theorem Z0i (s:State):impl_RoomOf s = spec_RoomOf s:=by
 rw [ZI9]
 unfold impl_RoomOf Zq7
 rw [ZK6,ZB2,bS,Z6j,Zs1,ZQ9]
 cases ht:topoOk s.topo with
 | false=>rfl
 | true =>
 cases hu:decide (s.up.length = s.topo.nodes.length) with
 | false=>rfl
 | true =>
 cases hl:spec_VecOk s.lic with
 | false=>rfl
 | true =>
 cases hs:time s.now with
 | false=>rfl
 | true =>
  simp only [Bool.not_true,Bool.or_self,cond_false,Bool.and_self,cond_true]
  rw [ZXj (Z97.1 ht) (of_decide_eq_true hu),bS]
  unfold ZEa
  exact Ze7 (fun i x b k _=>ZSj hs x i b k) fun b=>rfl
structure RunsP (s:State):Prop where
 job:∀ x ∈ s.runs,spec_JobOk x.job = true /\ (x.nodes.length:Int) = x.job.nodes /\ ZF1 s.topo x.nodes = true /\ x.nodes.Nodup /\ runOk s x = true
theorem ZRi {s:State} (h:Zq7 s = true):∃ q,ZEa s = some q /\ (q.2 = true -> RoomP q.1 /\ q.1.topo = s.topo /\ q.1.up = s.up /\ RunsP s):=by
 unfold Zq7 at h
 simp only [yD,decide_eq_true_eq,Z97] at h
 unfold ZEa
 refine ZD1 (fun i (v:Room)=>RoomP v /\ v.topo = s.topo /\ v.up = s.up /\ ∀ x ∈ s.runs.take i,spec_JobOk x.job = true /\ (x.nodes.length:Int) = x.job.nodes /\ ZF1 s.topo x.nodes = true /\ x.nodes.Nodup /\ runOk s x = true) (fun o=>∃ q:Room × Bool,o = some q /\ (q.2 = true -> RoomP q.1 /\ q.1.topo = s.topo /\ q.1.up = s.up /\ RunsP s)) (fun i x v k hx hI hk=>?_) (fun v hI=>?_) ⟨Zwc h.1.1.1 h.1.1.2 h.1.2,rfl,rfl,by simp⟩
 .obtain ⟨h1,h2,h3,h4⟩:=hI
  unfold Zs9
  cases hd:(diffOk v x.job x.nodes && runOk s x) with
  | false=>exact ⟨Zc3,rfl,fun h=>by cases h⟩
  | true =>
   simp only [yD] at hd
   have hd1:=hd.1
   unfold diffOk at hd1
   simp only [yD,decide_eq_true_eq] at hd1
   obtain ⟨q,q1,q2⟩:=Zyi h1 x.job.need x.job.lic s.now (x.t + x.job.wall) hd1.1.2
   simp only [cond_true]
   rw [q1,bS]
   cases hq:q.2 with
   | false=>exact ⟨Zc3,rfl,fun h=>by cases h⟩
   | true =>
    obtain ⟨a1,a2,a3⟩:=q2 hq
    refine hk q.1 ⟨a1,a2.trans h2,a3.trans h3,fun y hy=>?_⟩
    obtain ⟨hi,rfl⟩:=yB hx
    rw [List.take_succ_eq_append_getElem hi] at hy
    rcases List.mem_append.1 hy with hy | hy
    .exact h4 y hy
    .rw [List.mem_singleton.1 hy]
     exact ⟨hd1.1.1.1.2,hd1.1.1.2,by rw [← h2]; exact hd1.1.2,hd1.2,hd.2⟩
 .obtain ⟨h1,h2,h3,h4⟩:=hI
  rw [List.take_of_length_le (Nat.le_refl _)] at h4
  exact ⟨_,rfl,fun _=>⟨h1,h2,h3,⟨h4⟩⟩⟩
theorem ZTc (s:State):∃ q,spec_RoomOf s = some q /\ (q.2 = true -> Zq7 s = true /\ RoomP q.1 /\ q.1.topo = s.topo /\ q.1.up = s.up /\ RunsP s):=by
 rw [ZI9]
 cases h:Zq7 s with
 | false=>exact ⟨Zc3,rfl,fun h=>by cases h⟩
 | true =>
  obtain ⟨q,h1,h2⟩:=ZRi h
  exact ⟨q,h1,fun h=>⟨rfl,h2 h⟩⟩
def allJobs (s:State):List Job:=s.queue ++ s.runs.map Run.job
theorem Zj5 {s:State} (h:s.queue.length + s.runs.length <= 1048576):spec_l06Jobs s = some (allJobs s):=by
 unfold spec_l06Jobs
 rw [Zt (by simp; omega),bS,ZE1 (bd:=Zs4) (bs:=88) (p:=fun _=>true) (f:=Run.job) (fun x hx i b k=>rfl) (by simp; omega)]
 unfold Zr4 allJobs
 simp [List.filter_eq_self.2]
theorem Zi7 (s:State):impl_State_all s = spec_l06Jobs s:=rfl
def AscP (l:List Int):Prop:=∀ (i:Nat) (x y:Int),l[i]? = some x -> l[i + 1]? = some y -> x < y
open Classical in
noncomputable def ascB (l:List Int):Bool:=decide (AscP l)
theorem Z3e {l:List Int}:ascB l = true ↔ AscP l:=by unfold ascB; simp
theorem ZD9 {l:List Int} (hl:l.length <= 1048576):impl_areAscending l = some (ascB l):=by
 unfold impl_areAscending
 have h:=Zda (bd:=ZR l) (fun (i:Nat) (_:Unit)=>((i + 1:Nat):Int)) (n:=l.length - 1)
  (B:=fun x _ _ k=>bif (match l[x]?,l[x + 1]? with | some a,some b=>decide (b <= a) | _,_=>true) then some false else k ()) (kk:=fun _=>some true) (fun i st k hi=>by
   obtain ⟨a,ha⟩:∃ e,l[i]? = some e:=⟨_,yA (by omega)⟩
   obtain ⟨b,hb⟩:∃ e,l[i + 1]? = some e:=⟨_,yA (by omega)⟩
   have hlt:((i + 1:Nat):Int) < (l.length:Int):=by omega
   simp only [ZR,hlt,decide_true,cond_true,ZRd (n:=i + 1) (by omega) (by omega),Nat.add_sub_cancel,Za,ha,hb,bS,Zz (n:=i + 1) (by omega)])
  (fun i st k hi=>by
   have hlt:¬ ((i + 1:Nat):Int) < (l.length:Int):=by omega
   simp only [ZR,hlt,decide_false,cond_false]) 9223372036854775807 0 () (by omega)
 refine h.trans ?_
 rw [ZS1 (r:=some false) (p:=fun (x:Nat)=>match l[x]?,l[x + 1]? with | some a,some b=>decide (b <= a) | _,_=>true) (fun x _ i k=>rfl)]
 cases hany:(List.range' 0 (l.length - 1 - 0)).any (fun (x:Nat)=>match l[x]?,l[x + 1]? with | some a,some b=>decide (b <= a) | _,_=>true) with
 | true =>
  obtain ⟨x,hx,hq⟩:=List.any_eq_true.1 hany
  obtain ⟨j,hj,rfl⟩:=List.mem_range'.1 hx
  obtain ⟨a,ha⟩:∃ e,l[0 + 1 * j]? = some e:=⟨_,yA (by omega)⟩
  obtain ⟨b,hb⟩:∃ e,l[0 + 1 * j + 1]? = some e:=⟨_,yA (by omega)⟩
  rw [ha,hb] at hq
  have:ascB l = false:=by
   rw [Bool.eq_false_iff]
   intro q
   have:=Z3e.1 q _ a b ha hb
   simp at hq; omega
  rw [this]; rfl
 | false =>
  have:ascB l = true:=Z3e.2 fun i x y hx hy=>by
   have hlt:=(yB hy).1
   have:=List.any_eq_false.1 hany i (List.mem_range'.2 ⟨i,by omega,by omega⟩)
   rw [hx,hy] at this
   simpa using this
  rw [this]; rfl
noncomputable def lowN (t:Topo) (l:List Int):Nat:=((spec_Lowest t l).getD 0).toNat
theorem Zwn {t:Topo} {l:List Int} (h:ZF1 t l = true) (hne:l ≠ []):lowN t l < t.parents.length /\ spec_Lowest t l = some (lowN t l:Int) /\ impl_Lowest t l = some (lowN t l:Int):=by
 obtain ⟨s,h1,h2,h3⟩:=ZFl h hne
 have:lowN t l = s:=by unfold lowN; rw [h2]; simp
 rw [this]; exact ⟨h1,h2,h3⟩
def isUp (s:State) (n:Int):Bool:=(idx s.up n).getD false
noncomputable def runFit (s:State) (x:Run):Bool:=x.nodes.all (isUp s) && ascB x.nodes && decide (lev s.topo (lowN s.topo x.nodes) <= x.job.level)
def endOk (s:State) (e:End):Bool:=(decide (1 <= e.id) && decide (e.id <= 999)) && (decide (0 <= e.t) && decide (e.t <= s.now)) && (decide (1 <= e.why) && decide (e.why <= 4))
noncomputable def stateOk (s:State):Bool:=((spec_RoomOf s).getD Zc3).2 && (decide (0 <= s.depth) && decide (s.depth <= 60)) && queueOk (allJobs s) && decide (s.ends.length <= 300) && s.runs.all (runFit s) && s.ends.all (endOk s)
theorem ZKk {a b:Int}:decide (b < a) = !decide (a <= b):=by rw [Bool.eq_iff_iff]; simp
theorem Zyk {s:State} (_:TopoP s.topo) (hu:s.up.length = s.topo.nodes.length) (hR:RunsP s) {x:Run} (hx:x ∈ s.runs) :
  x.nodes ≠ [] /\ ZF1 s.topo x.nodes = true /\ x.nodes.length <= 24 /\ ∀ n ∈ x.nodes,∃ b,idx s.up n = some b:=by
 obtain ⟨h1,h2,h3,_,_⟩:=hR.job x hx
 have hj:=(Zg7.1 h1).2.2.1
 refine ⟨fun e=>by rw [e] at h2; simp at h2; omega,h3,by omega,fun n hn=>?_⟩
 have:=(ZN3.1 h3).2 n hn
 obtain ⟨b,q,_⟩:=Z8k (l:=s.up) (i:=n) this.1 (by rw [hu]; exact this.2)
 exact ⟨b,q⟩
theorem ZAi {s:State} (hT:TopoP s.topo) (hu:s.up.length = s.topo.nodes.length) (hR:RunsP s) {x:Run} (hx:x ∈ s.runs) (k:Unit -> Option Bool) (i:Nat):ZH2 s x i () k = bif !runFit s x then some false else k ():=by
 obtain ⟨h1,h2,h3,h4⟩:=Zyk hT hu hR hx
 obtain ⟨l1,l2,l3⟩:=Zwn h2 h1
 unfold ZH2
 have hk:ZY s x k () = bif decide (lev s.topo (lowN s.topo x.nodes) <= x.job.level) then k () else some false:=by
  unfold ZY
  rw [l2,bS,Z43 hT l1,bS,ZKk]
  cases decide (lev s.topo (lowN s.topo x.nodes) <= x.job.level) <;> rfl
 have:rgl (ZI2 s x) (ZY s x k) x.nodes 0 () = bif x.nodes.all (isUp s) && ascB x.nodes then ZY s x k () else some false:=by
  refine ZD1 (fun i (_:Unit)=>(∀ j n,j < i -> x.nodes[j]? = some n -> isUp s n = true) /\ ∀ j a b,j + 1 < i -> x.nodes[j]? = some a -> x.nodes[j + 1]? = some b -> a < b) (fun o=>o = bif x.nodes.all (isUp s) && ascB x.nodes then ZY s x k () else some false) (fun i n b kc hi hI hkc=>?_) (fun b hI=>?_) ⟨fun j n h=>by omega,fun j a b h=>by omega⟩
  .have hil:=(yB hi).1
   obtain ⟨u,hu'⟩:=h4 n (yE hi)
   have hup:isUp s n = u:=by unfold isUp; rw [hu']; rfl
   unfold ZI2
   rw [hu',bS]
   cases u with
   | false =>
    have:x.nodes.all (isUp s) = false:=List.all_eq_false.2 ⟨n,yE hi,by rw [hup]; simp⟩
    rw [this]; rfl
   | true =>
    have new:∀ j m,j < i + 1 -> x.nodes[j]? = some m -> isUp s m = true:=by
     intro j m hj hm
     by_cases e:j = i
     .subst e; rw [hi] at hm; cases hm; exact hup
     .exact hI.1 j m (by omega) hm
    by_cases h0:i = 0
    .subst h0
     exact hkc () ⟨new,fun j a b hj=>by omega⟩
    .have hgt:decide ((0:Int) < (i:Int)) = true:=by simp; omega
     obtain ⟨q,hq⟩:∃ q,x.nodes[i - 1]? = some q:=⟨_,yA (by omega)⟩
     rw [hgt,ZRd (by omega) (by omega)]
     simp only [Bool.not_true,cond_false,cond_true,Bool.false_or,Bool.true_and,Za,hq,bS]
     by_cases h5:n <= q
     .have:ascB x.nodes = false:=by
       rw [Bool.eq_false_iff]
       intro w
       have:=Z3e.1 w (i - 1) q n hq (by rw [show i - 1 + 1 = i by omega]; exact hi)
       omega
      rw [this,Bool.and_false]; simp [h5]
     .simp only [h5,decide_false,cond_false]
      refine hkc () ⟨new,fun j a b hj ha hb=>?_⟩
      by_cases e:j + 1 = i
      .have:j = i - 1:=by omega
       subst this
       rw [hq] at ha; cases ha
       rw [show i - 1 + 1 = i by omega,hi] at hb; cases hb
       omega
      .exact hI.2 j a b (by omega) ha hb
  .have e1:x.nodes.all (isUp s) = true:=List.all_eq_true.2 fun n hn=>by
    obtain ⟨j,hj⟩:=List.getElem?_of_mem hn
    exact hI.1 j n (yB hj).1 hj
   have e2:ascB x.nodes = true:=Z3e.2 fun j a b ha hb=>hI.2 j a b (yB hb).1 ha hb
   rw [e1,e2]; rfl
 rw [this,hk]
 unfold runFit
 cases x.nodes.all (isUp s) <;> cases ascB x.nodes <;> cases decide (lev s.topo (lowN s.topo x.nodes) <= x.job.level) <;> rfl
theorem impl_run {s:State} (hT:TopoP s.topo) (hu:s.up.length = s.topo.nodes.length) (hR:RunsP s) {x:Run} (hx:x ∈ s.runs) (k:Unit -> Option Bool) (i:Nat):ZT2 s x i () k = bif !runFit s x then some false else k ():=by
 obtain ⟨h1,h2,h3,h4⟩:=Zyk hT hu hR hx
 obtain ⟨l1,l2,l3⟩:=Zwn h2 h1
 unfold ZT2
 rw [ZS1 (r:=some false) (p:=fun n=>!isUp s n) (fun n hn i k=>by
  obtain ⟨u,hu'⟩:=h4 n hn
  unfold ZH4 isUp
  rw [hu',bS]; rfl),← List.not_all_eq_any_not]
 unfold ZG4
 rw [ZD9 (by omega),bS]
 unfold runFit
 cases x.nodes.all (isUp s) with
 | false=>rfl
 | true =>
 cases ascB x.nodes with
 | false=>rfl
 | true =>
  simp only [Bool.not_true,cond_false,l3,bS,Zw5 hT l1,Bool.false_or,Bool.true_and,ZKk]
theorem Zqi {s:State} (hs:s.queue.length + s.runs.length <= 1048576):spec_StateOk s = some (stateOk s) /\ impl_StateOk s = some (stateOk s):=by
 obtain ⟨q,h1,h2⟩:=ZTc s
 unfold spec_StateOk impl_StateOk stateOk
 rw [Z0i,h1,bS,bS,Zi7,Zj5 hs,Option.getD_some]
 have e1:(decide (s.depth < 0) || decide (60 < s.depth)) = !(decide (0 <= s.depth) && decide (s.depth <= 60)):=by rw [Bool.eq_iff_iff]; simp
 have e2:impl_within s.depth 0 60 = (decide (0 <= s.depth) && decide (s.depth <= 60)):=rfl
 have e3:decide ((300:Int) < (s.ends.length:Int)) = !decide (s.ends.length <= 300):=by rw [Bool.eq_iff_iff]; simp; omega
 rw [Bool.or_assoc,e1,e2,e3]
 cases hq:q.2 with
 | false=>exact ⟨rfl,rfl⟩
 | true =>
 obtain ⟨a1,a2,a3,a4,a5⟩:=h2 hq
 have hT:TopoP s.topo:=by rw [← a3]; exact a2.topo
 have hu:s.up.length = s.topo.nodes.length:=by rw [← a3,← a4]; exact a2.up
 cases (decide (0 <= s.depth) && decide (s.depth <= 60)) with
 | false=>exact ⟨rfl,rfl⟩
 | true =>
 simp only [Bool.not_true,Bool.or_self,cond_false,bS,Zhe,ZMf,Bool.false_or,Bool.true_and]
 cases queueOk (allJobs s) with
 | false=>exact ⟨rfl,rfl⟩
 | true =>
 cases decide (s.ends.length <= 300) with
 | false=>exact ⟨rfl,rfl⟩
 | true =>
 simp only [Bool.not_true,Bool.or_self,cond_false,Bool.true_and]
 rw [ZS1 (r:=some false) (p:=fun x=>!runFit s x) (fun x hx i k=>ZAi hT hu a5 hx k i),ZS1 (r:=some false) (p:=fun x=>!runFit s x) (fun x hx i k=>impl_run hT hu a5 hx k i),← List.not_all_eq_any_not]
 unfold Zx4 ZF4
 have f1:∀ e:End,((((((decide (e.id < 1)) || (decide (999 < e.id))) || (decide (e.t < 0))) || (decide (s.now < e.t))) || (decide (e.why < 1))) || (decide (4 < e.why))) = !endOk s e:=by
  intro e; unfold endOk; rw [Bool.eq_iff_iff]; simp; omega
 have f2:∀ e:End,(((!(impl_within e.id 1 999)) || (!(impl_within e.t 0 s.now))) || (!(impl_within e.why 1 4))) = !endOk s e:=by
  intro e; unfold endOk impl_within
  cases (decide (1 <= e.id) && decide (e.id <= 999)) <;> cases (decide (0 <= e.t) && decide (e.t <= s.now)) <;> cases (decide (1 <= e.why) && decide (e.why <= 4)) <;> rfl
 rw [ZS1 (bd:=ZG2 s) (r:=some false) (p:=fun e=>!endOk s e) (fun e he i k=>by unfold ZG2; rw [f1]),ZS1 (bd:=ZS2 s) (r:=some false) (p:=fun e=>!endOk s e) (fun e he i k=>by unfold ZS2; rw [f2]),← List.not_all_eq_any_not]
 unfold Zw4 ZE4
 cases s.runs.all (runFit s) <;> cases s.ends.all (endOk s) <;> exact ⟨rfl,rfl⟩
theorem Z7e (s:Str):impl_WordOk s = spec_WordOk s:=rfl
theorem Z6e {s:Str} (h:s.length < 9223372036854775807):∃ b,spec_WordOk s = some b /\ (b = true -> s.length <= 8):=by
 unfold spec_WordOk
 refine Zq4 (fun _ o=>∃ b,o = some b /\ (b = true -> s.length <= 8)) (fun v=>s.length - v.toNat) (fun v=>∃ i:Nat,v = (i:Int) /\ i <= s.length) ?_ 9223372036854775807 0 ⟨0,rfl,Nat.zero_le _⟩ (by omega)
 rintro _ k ⟨i,rfl,hi⟩ hk
 unfold Zl5
 by_cases hlt:i < s.length
 .have hlt':(i:Int) < (s.length:Int):=by omega
  obtain ⟨c,hc⟩:∃ c,s[i]? = some c:=⟨_,yA hlt⟩
  simp only [hlt',decide_true,cond_true,Za,hc,bS,Zz (n:=i) (by omega)]
  cases (decide ((c.toNat:Int) < 97) || decide (122 < (c.toNat:Int))) with
  | true=>exact ⟨_,rfl,fun h=>by cases h⟩
  | false=>exact hk _ ⟨i + 1,rfl,hlt⟩ (by omega)
 .have:i = s.length:=by omega
  subst this
  simp only [Int.lt_irrefl,decide_false,cond_false]
  refine ⟨_,rfl,fun h=>?_⟩
  simp only [yD,decide_eq_true_eq] at h
  omega
def wordB (s:Str):Bool:=(spec_WordOk s).getD false
theorem Zo9 {s:Str} (h:s.length < 9223372036854775807):spec_WordOk s = some (wordB s):=by
 obtain ⟨b,h1,_⟩:=Z6e h
 unfold wordB
 rw [h1]; rfl
theorem Zok {s:Str} (h:s.length < 9223372036854775807) (hw:wordB s = true):s.length <= 8:=by
 obtain ⟨b,h1,h2⟩:=Z6e h
 unfold wordB at hw
 rw [h1] at hw
 exact h2 hw
theorem Zam (a b:Int):decide (a < b) = !decide (b <= a):=by
 by_cases h:a < b
 .have:¬ b <= a:=by omega
  simp [h,this]
 .have:b <= a:=by omega
  simp [h,this]
theorem Z4e {α:Type} {l:List α} {n:Int} {bs bi:α -> Nat -> Unit -> (Unit -> Option Bool) -> Option Bool} {ks ki:Unit -> Option Bool} {G:α -> Prop} (bad:α -> Nat -> Bool)
  (hs:∀ i x k,l[i]? = some x -> bs x i () k = bif bad x i then some false else k ())
  (hi:∀ i x k,l[i]? = some x -> (∀ y ∈ l.take i,G y) -> bi x i () k = bif bad x i then some false else k ())
  (hG:∀ i x,l[i]? = some x -> bad x i = false -> G x) (hks:ks () = some true) (hki:ki () = some (decide ((l.length:Int) <= n))) :
  ∃ b,(bif decide (n < (l.length:Int)) then some false else rgl bs ks l 0 ()) = some b /\ rgl bi ki l 0 () = some b /\ (b = true -> (l.length:Int) <= n /\ ∀ x ∈ l,G x):=by
 have key:∀ (m i:Nat),l.length - i = m -> i <= l.length -> (∀ y ∈ l.take i,G y) ->
   (rgl bs ks (l.drop i) i () = some true /\ rgl bi ki (l.drop i) i () = ki () /\ ∀ x ∈ l,G x) \/ (rgl bs ks (l.drop i) i () = some false /\ rgl bi ki (l.drop i) i () = some false):=by
  intro m
  induction m with
  | zero =>
   intro i hn hle hp
   have:i = l.length:=by omega
   subst this
   rw [List.drop_length]
   rw [List.take_length] at hp
   exact .inl ⟨hks,rfl,hp⟩
  | succ m ih =>
   intro i hn hle hp
   have h1:i < l.length:=by omega
   have hx:=yA h1
   rw [List.drop_eq_getElem_cons h1,rgl,rgl,hs i _ _ hx,hi i _ _ hx hp]
   cases hb:bad l[i] i with
   | true=>exact .inr ⟨rfl,rfl⟩
   | false =>
    refine ih (i + 1) (by omega) h1 fun y hy=>?_
    rw [List.take_add_one,hx] at hy
    rcases List.mem_append.1 hy with hy | hy
    .exact hp y hy
    .simp at hy
     subst hy
     exact hG i _ hx hb
 have:=key l.length 0 (by simp) (Nat.zero_le _) (by simp)
 rw [List.drop_zero,hki] at this
 by_cases hl:n < (l.length:Int)
 .have hn:¬ (l.length:Int) <= n:=by omega
  rw [show decide (n < (l.length:Int)) = true by simpa using hl,cond_true]
  rw [show decide ((l.length:Int) <= n) = false by simpa using hn] at this
  rcases this with ⟨_,h2,_⟩ | ⟨_,h2⟩ <;> exact ⟨false,rfl,h2,fun h=>by cases h⟩
 .have hn:(l.length:Int) <= n:=by omega
  rw [show decide (n < (l.length:Int)) = false by simpa using hl,cond_false]
  rw [show decide ((l.length:Int) <= n) = true by simpa using hn] at this
  rcases this with ⟨h1,h2,h3⟩ | ⟨h1,h2⟩
  .exact ⟨true,h1,h2,fun _=>⟨hn,h3⟩⟩
  .exact ⟨false,h1,h2,fun h=>by cases h⟩
def prevL {α:Type} [Inhabited α] (l:List α) (i:Nat):α:=if 0 < i then (l[i - 1]?).getD default else default
theorem Zw9 {α:Type} [Inhabited α] {l:List α} {i:Nat} (hi:i < l.length) (hl:l.length <= 1048576):(bif decide (0 < (i:Int)) then idx l (w64 ((i:Int) - 1)) else some default) = some (prevL l i):=by
 unfold prevL
 by_cases h:0 < i
 .have e:w64 ((i:Int) - 1) = ((i - 1:Nat):Int):=by rw [ZN (by omega)]; omega
  rw [show decide (0 < (i:Int)) = true by simpa using h,cond_true,e,Za,if_pos h,yA (by omega)]
  rfl
 .rw [show decide (0 < (i:Int)) = false by simpa using h,cond_false,if_neg h]
theorem prev_mem {α:Type} [Inhabited α] {l:List α} {i:Nat} (hi:i < l.length) (h:0 < i):prevL l i ∈ l.take i:=by
 unfold prevL
 rw [if_pos h,yA (by omega)]
 exact List.mem_iff_getElem?.2 ⟨i - 1,by rw [List.getElem?_take_of_lt (by omega),yA (by omega)]; rfl⟩
noncomputable def Zym (l:List Account) (x:Account) (i:Nat):Bool :=
 ((((!(wordB x.name)) || ((decide (0 < (i:Int))) && (!(Op.bytesLess (prevL l i).name x.name)))) || (decide (x.share < 1))) || (decide (1000 < x.share))) || (!(spec_l11Used x.used))
theorem Zzb {l:List Account} (hl:l.length <= 1048576) (hn:∀ x ∈ l,x.name.length < 9223372036854775807) :
  ∃ b,spec_AccountsOk l = some b /\ impl_AccountsOk l = some b /\ (b = true -> (l.length:Int) <= 12 /\ ∀ x ∈ l,x.name.length <= 8):=by
 unfold spec_AccountsOk impl_AccountsOk
 refine Z4e (G:=fun x=>x.name.length <= 8) (Zym l) (fun i x k hx=>?_) (fun i x k hx _=>?_) (fun i x hx hb=>?_) ?_ ?_
 rotate_right 2
 .rfl
 .rfl
 .have hi:=(yB hx).1
  unfold ZY2 Zym
  rw [Zo9 (hn x (yE hx)),bS,Zw9 hi hl]
  cases wordB x.name <;> rfl
 .have hi:=(yB hx).1
  unfold ZZ2 Zym spec_l11Used impl_within
  rw [Z7e,Zo9 (hn x (yE hx)),bS,Zw9 hi hl,Zam x.share 1,Zam 1000 x.share]
  generalize wordB x.name = w,decide ((1:Int) <= x.share) = p,decide (x.share <= 1000) = q,(decide (0 <= x.used) && decide (x.used <= 1000000000)) = u
  cases w <;> cases p <;> cases q <;> cases u <;> simp
 .unfold Zym at hb
  have hw:wordB x.name = true:=by
   cases h:wordB x.name with
   | true=>rfl
   | false=>rw [h] at hb; simp at hb
  exact Zok (hn x (yE hx)) hw
theorem Zjl {l:List Account} (hl:l.length <= 1048576) (hn:∀ x ∈ l,x.name.length < 9223372036854775807) (s:Str):∃ n,spec_AccountAt l s = some n /\ impl_AccountAt l s = some n:=by
 obtain ⟨b,h1,h2,_⟩:=Zzb hl hn
 have e:impl_AccountAt l s = spec_AccountAt l s:=by
  unfold impl_AccountAt spec_AccountAt
  rw [h1,h2]
  rfl
 rw [e]
 obtain ⟨n,hn⟩:∃ n,spec_AccountAt l s = some n:=by
  unfold spec_AccountAt
  rw [h1,bS]
  cases b with
  | false=>exact ⟨_,rfl⟩
  | true =>
   refine ZD1 (l0:=l) (b:=()) (fun _ (_:Unit)=>True) (fun o=>∃ y,o = some y) (fun i x b k _ _ hk=>?_) (fun _ _=>⟨_,rfl⟩) trivial
   unfold Za3
   cases (x.name == s) with
   | true=>exact ⟨_,rfl⟩
   | false=>exact hk () trivial
 exact ⟨n,hn,hn⟩
def DepP (x:Dep):Prop:=(1 <= x.id /\ x.id <= 999) /\ (1 <= x.for_ /\ x.for_ <= 999) /\ x.id ≠ x.for_
def depB (x:Dep):Bool:=decide (1 <= x.id) && decide (x.id <= 999) && (decide (1 <= x.for_) && decide (x.for_ <= 999)) && (x.id != x.for_)
theorem Zsm {x:Dep}:depB x = true ↔ DepP x:=by simp [depB,DepP,and_assoc]
def ZAl (a b:Dep):Bool:=(decide (a.id < b.id)) || ((a.id == b.id) && (decide (a.for_ < b.for_)))
def Zrm (l:List Dep) (x:Dep) (i:Nat):Bool:=!depB x || (decide (0 < (i:Int)) && !ZAl (prevL l i) x)
theorem ZZj (x:Dep):impl_depOk x = depB x:=rfl
theorem Z5i {a b:Dep} (ha:DepP a) (hb:DepP b):decide (0 <= impl_compareDeps a b) = !ZAl a b:=by
 obtain ⟨a1,a2,_⟩:=ha
 obtain ⟨b1,b2,_⟩:=hb
 unfold impl_compareDeps ZAl
 rw [ZN (by omega),ZN (by omega)]
 by_cases h:a.id = b.id
 .simp only [h,bne_self_eq_false,cond_false,Int.lt_irrefl,decide_false,Bool.false_or,beq_self_eq_true,Bool.true_and]
  by_cases h2:a.for_ < b.for_
  .have:¬ 0 <= a.for_ - b.for_:=by omega
   simp [h2]
  .have:0 <= a.for_ - b.for_:=by omega
   simp [h2]; omega
 .rw [show (a.id != b.id) = true by simpa using h,show (a.id == b.id) = false by simpa using h]
  simp only [cond_true,Bool.false_and,Bool.or_false]
  by_cases h2:a.id < b.id
  .have:¬ 0 <= a.id - b.id:=by omega
   simp [h2]
  .have:0 <= a.id - b.id:=by omega
   simp [h2]; omega
theorem Zil {l:List Dep} (hl:l.length <= 1048576):∃ b,spec_DepsOk l = some b /\ impl_DepsOk l = some b /\ (b = true -> (l.length:Int) <= 100 /\ ∀ x ∈ l,DepP x):=by
 unfold spec_DepsOk impl_DepsOk
 refine Z4e (G:=DepP) (Zrm l) (fun i x k hx=>?_) (fun i x k hx hp=>?_) (fun i x hx hb=>?_) ?_ ?_
 rotate_right 2
 .rfl
 .rfl
 .have hi:=(yB hx).1
  have e:(((!(spec_l12Id x.id)) || (!(spec_l12Id x.for_))) || (x.id == x.for_)) = !depB x:=by
   unfold spec_l12Id depB bne
   generalize (decide (1 <= x.id) && decide (x.id <= 999)) = p,(decide (1 <= x.for_) && decide (x.for_ <= 999)) = q,(x.id == x.for_) = r
   cases p <;> cases q <;> cases r <;> rfl
  unfold Zp5 Zrm
  rw [e,Zw9 hi hl]
  cases depB x <;> rfl
 .have hi:=(yB hx).1
  unfold ZC5 Zrm
  rw [ZZj,Zw9 hi hl]
  cases hd:depB x with
  | false=>rfl
  | true =>
   rw [Bool.not_true,cond_false,bS,Bool.false_or,Bool.false_or]
   by_cases h:0 < i
   .rw [Z5i (hp _ (prev_mem hi h)) (Zsm.1 hd)]
   .rw [show decide (0 < (i:Int)) = false by simpa using h]; rfl
 .unfold Zrm at hb
  have hw:depB x = true:=by
   cases h:depB x with
   | true=>rfl
   | false=>rw [h] at hb; simp at hb
  exact Zsm.1 hw
inductive Rch (l:List Dep) (a:Int):Int -> Prop
 | one {x:Dep}:x ∈ l -> x.id = a -> Rch l a x.for_
 | more {x:Dep} {b:Int}:Rch l a b -> x ∈ l -> x.id = b -> Rch l a x.for_
theorem Rch.trans {l:List Dep} {a b c:Int} (h1:Rch l a b) (h2:Rch l b c):Rch l a c:=by
 induction h2 with
 | one hx e=>exact .more h1 hx e
 | more _ hx e ih=>exact .more ih hx e
theorem Rch.head {l:List Dep} {a c:Int} (h:Rch l a c):∃ x,x ∈ l /\ x.id = a /\ (x.for_ = c \/ Rch l x.for_ c):=by
 induction h with
 | one hx e=>exact ⟨_,hx,e,.inl rfl⟩
 | more _ hx e ih =>
  obtain ⟨y,hy,ey,h⟩:=ih
  refine ⟨y,hy,ey,.inr ?_⟩
  rcases h with h | h
  .exact .one hx (e.trans h.symm)
  .exact .more h hx e
def insB (id:Int) (out:List Int) (x:Dep):Bool:=((x.id == id) || out.contains x.id) && !(out.contains x.for_)
theorem ZHm {id:Int} {x:Dep} {i:Nat} {a:Bool} {out:List Int} {k:Bool × List Int -> Option (List Int)} (hl:out.length <= 1048576) :
  Zf2 id x i (a,out) k = bif insB id out x then k (true,out ++ [x.for_]) else k (a,out):=by
 unfold Zf2 insB
 simp only [ZA2]
 have e:appL 8 out [x.for_] = some (out ++ [x.for_]):=Zt (by simp; omega)
 cases (x.id == id) <;> cases out.contains x.id <;> cases out.contains x.for_ <;> simp [e]
theorem Zsn {l:List Int} {x:Int} (h:l.Nodup) (hx:x ∉ l):(l ++ [x]).Nodup:=by
 rw [List.nodup_append]
 exact ⟨h,by simp,fun a ha b hb e=>by simp at hb; subst hb; subst e; exact hx ha⟩
structure RI (l:List Dep) (id:Int) (out:List Int):Prop where
 nd:out.Nodup
 sub:∀ n ∈ out,n ∈ l.map Dep.for_
 rch:∀ n ∈ out,Rch l id n
theorem RI.len {l:List Dep} {id:Int} {out:List Int} (h:RI l id out):out.length <= l.length:=by
 have:=h.nd.length_le_of_subset h.sub
 simpa using this
theorem Reach_eq {l:List Dep} (hl:l.length <= 1048576) (id:Int):∃ r,spec_l12Reach l id = some r /\ ∀ n,n ∈ r ↔ Rch l id n:=by
  unfold spec_l12Reach
  refine Zq4 (fun _ o=>∃ r,o = some r /\ ∀ n,n ∈ r ↔ Rch l id n) (fun v=>(l.length - v.2.length) * 2 + (bif v.1 then 1 else 0)) (fun v=>RI l id v.2 /\ (v.1 = false -> ∀ x ∈ l,insB id v.2 x = false)) ?_ 9223372036854775807 (true,[])
    ⟨⟨List.nodup_nil,by simp,by simp⟩,fun h=>by cases h⟩ (by simp; omega)
  rintro ⟨a,out⟩ k ⟨hI,hc⟩ hk
  unfold ZF3
  cases a with
  | false =>
    refine ⟨out,rfl,fun n=>⟨hI.rch n,fun h=>?_⟩⟩
    have hc':=hc rfl
    simp only at hc'
    have cl:∀ x ∈ l,(x.id = id \/ x.id ∈ out) -> x.for_ ∈ out:=fun x hx h=>by
      have:=hc' x hx
      unfold insB at this
      have e:((x.id == id) || out.contains x.id) = true:=by
        simp only [Bool.or_eq_true,beq_iff_eq,List.contains_iff_mem]; exact h
      rw [e,Bool.true_and,Bool.not_eq_false'] at this
      exact List.contains_iff_mem.1 this
    induction h with
    | one hx e=>exact cl _ hx (.inl e)
    | more _ hx e ih=>exact cl _ hx (.inr (e ▸ ih))
  | true =>
    simp only [cond_true]
    refine ZD1 (l0:=l) (b:=(false,out)) (fun i (v:Bool × List Int)=>RI l id v.2 /\ out.length <= v.2.length /\ (v.1 = true -> out.length < v.2.length) /\ (v.1 = false -> v.2 = out /\ ∀ x ∈ l.take i,insB id out x = false))
      (fun o=>∃ r,o = some r /\ ∀ n,n ∈ r ↔ Rch l id n) (fun i x v k2 hx hv hk2=>?_) (fun v hv=>?_) ⟨hI,Nat.le_refl _,(fun h=>by cases h),fun _=>⟨rfl,by simp⟩⟩
    · obtain ⟨a2,o2⟩:=v
      obtain ⟨v1,v2,v3,v4⟩:=hv
      simp only at v1 v2 v3 v4
      have hlen:=v1.len
      rw [ZHm (by omega)]
      have hxl:=yE hx
      cases hb:insB id o2 x with
      | true =>
        rw [cond_true]
        unfold insB at hb
        simp only [yD,Bool.or_eq_true,beq_iff_eq,List.contains_iff_mem,Bool.not_eq_true',Bool.eq_false_iff,ne_eq] at hb
        refine hk2 _ ⟨⟨Zsn v1.nd hb.2,fun n hn=>?_,fun n hn=>?_⟩,(by simp; omega),(fun _=>by simp; omega),fun h=>by cases h⟩
        · rcases List.mem_append.1 hn with hn | hn
          · exact v1.sub n hn
          · simp at hn; subst hn; exact List.mem_map_of_mem hxl
        · rcases List.mem_append.1 hn with hn | hn
          · exact v1.rch n hn
          · simp at hn; subst hn
            rcases hb.1 with h | h
            · exact .one hxl h
            · exact .more (v1.rch _ h) hxl rfl
      | false =>
        rw [cond_false]
        refine hk2 _ ⟨v1,v2,v3,fun h=>⟨(v4 h).1,fun y hy=>?_⟩⟩
        rw [List.take_add_one,hx] at hy
        rcases List.mem_append.1 hy with hy | hy
        · exact (v4 h).2 y hy
        · simp at hy; subst hy
          rw [← (v4 h).1]; exact hb
    · obtain ⟨a2,o2⟩:=v
      obtain ⟨v1,v2,v3,v4⟩:=hv
      simp only at v1 v2 v3 v4
      have hlen:=v1.len
      refine hk _ ⟨v1,fun h=>?_⟩ ?_
      · obtain ⟨e,q⟩:=v4 h
        simp only at e ⊢
        rw [e]
        rwa [List.take_length] at q
      · cases a2 with
        | true=>have:=v3 rfl; simp only [cond_true]; omega
        | false=>simp only [cond_true,cond_false]; omega
def Ring (l:List Dep):Prop:=∃ d ∈ l,Rch l d.id d.id
noncomputable def ringB (l:List Dep):Bool:=by
 classical exact decide (Ring l)
theorem ZLi {l:List Dep} (hl:l.length <= 1048576) (b:Bool) (h:spec_DepsOk l = some b):spec_Round l = some (b && ringB l):=by
 unfold spec_Round
 rw [h,bS]
 cases b with
 | false=>rfl
 | true =>
  rw [Bool.not_true,cond_false,Bool.true_and]
  classical
  rw [ZS1 (r:=some true) (p:=fun d=>decide (Rch l d.id d.id)) (fun x _ i k=>by
   obtain ⟨r,hr,hm⟩:=Reach_eq hl x.id
   unfold Zz6
   rw [hr,bS,ZA2,bS]
   congr 1
   rw [Bool.eq_iff_iff,List.contains_iff_mem,hm,decide_eq_true_eq])]
  unfold Zy6 ringB
  by_cases hR:Ring l
  .rw [show l.any (fun d=>decide (Rch l d.id d.id)) = true by simpa [Ring] using hR]
   simp [hR]
  .rw [show l.any (fun d=>decide (Rch l d.id d.id)) = false by
    rw [Bool.eq_false_iff]; intro h; exact hR (by simpa [Ring] using h)]
   simp [hR]
def keepB (v:List Dep) (x:Dep):Bool:=v.any fun y=>y.id == x.for_
theorem Zan (v:List Dep) (x:Dep):Z8 v x = some (keepB v x):=by
 have key:∀ (l:List Dep) (i:Nat),∃ r:Int,rgl (Zd x) Zl l i () = some r /\ decide (0 <= r) = keepB l x:=by
  intro l
  induction l with
  | nil=>intro i; exact ⟨-1,rfl,rfl⟩
  | cons y l ih =>
   intro i
   rw [rgl]
   unfold Zd impl_Round_1
   unfold keepB
   rw [List.any_cons]
   cases (y.id == x.for_) with
   | true=>exact ⟨i,rfl,by simp⟩
   | false =>
    obtain ⟨r,h1,h2⟩:=ih (i + 1)
    exact ⟨r,h1,by rw [h2]; rfl⟩
 obtain ⟨r,h1,h2⟩:=key v 0
 unfold Z8 Zg
 rw [h1,bS,h2]
def ZAm (l:List Dep) (x:Dep):Prop:=x ∈ l /\ Rch l x.for_ x.id
theorem Zul {l v:List Dep} {x:Dep} (hx:ZAm l x) (hv:∀ y,ZAm l y -> y ∈ v):keepB v x = true:=by
 obtain ⟨y,hy,ey,h⟩:=hx.2.head
 have hyr:ZAm l y:=by
  refine ⟨hy,?_⟩
  rw [ey]
  rcases h with h | h
  .rw [h]; exact .one hx.1 rfl
  .exact .more h hx.1 rfl
 exact List.any_eq_true.2 ⟨y,hv y hyr,by simpa using ey⟩
theorem Z4l {α:Type} {p q:α -> Bool}:∀ {l:List α} {y:α},(∀ x ∈ l,p x = true -> q x = true) -> y ∈ l -> q y = true -> p y = false -> (l.filter p).length < (l.filter q).length
 | x :: l,y,h,hy,hq,hp=>by
  have hle:∀ {l:List α},(∀ x ∈ l,p x = true -> q x = true) -> (l.filter p).length <= (l.filter q).length:=by
   intro l
   induction l with
   | nil=>intro _; exact Nat.le_refl _
   | cons z l ih =>
    intro h
    have h1:=ih fun x hx=>h x (List.mem_cons_of_mem _ hx)
    have h2:=h z (List.mem_cons_self ..)
    cases hpz:p z with
    | true=>simp [hpz,h2 hpz]; exact h1
    | false=>cases hqz:q z <;> simp [hpz,hqz] <;> omega
  have h1:=hle fun x hx=>h x (List.mem_cons_of_mem _ hx)
  rcases List.mem_cons.1 hy with e | hy
  .subst e
   simp [hp,hq]; omega
  .have h2:=Z4l (fun x hx=>h x (List.mem_cons_of_mem _ hx)) hy hq hp
   have h3:=h x (List.mem_cons_self ..)
   cases hpz:p x with
   | true=>simp [hpz,h3 hpz]; exact h2
   | false=>cases hqz:q x <;> simp [hpz,hqz] <;> omega
theorem ZCn {l v:List Dep} (hs:∀ x ∈ v,x ∈ l) (hk:∀ x ∈ v,keepB v x = true):∀ {x:Dep},x ∈ v -> Ring l:=by
 classical
 have key:∀ (m:Nat) (x:Dep),(l.filter fun d=>decide (Rch l x.id d.id)).length = m -> x ∈ v -> Ring l:=by
  intro m
  induction m using Nat.strongRecOn with
  | ind m ih =>
   intro x hm hx
   obtain ⟨y,hy,ey⟩:=List.any_eq_true.1 (hk x hx)
   have ey:y.id = x.for_:=by simpa using ey
   have hxy:Rch l x.id y.id:=by rw [ey]; exact .one (hs x hx) rfl
   by_cases hr:Rch l y.id y.id
   .exact ⟨y,hs y hy,hr⟩
   .refine ih _ ?_ y rfl hy
    rw [← hm]
    exact Z4l (fun d _ h=>decide_eq_true (hxy.trans (of_decide_eq_true h))) (hs y hy) (decide_eq_true hxy) (decide_eq_false hr)
 exact fun {x} hx=>key _ x rfl hx
theorem Z7k {l:List Dep} (hl:l.length <= 1048576) (b:Bool) (h:impl_DepsOk l = some b):impl_Round l = some (b && ringB l):=by
 unfold impl_Round
 rw [h,bS]
 cases b with
 | false=>rfl
 | true =>
  rw [Bool.not_true,cond_false,Bool.true_and,Zt (by simp; omega),bS,List.nil_append]
  refine Zq4 (fun _ o=>o = some (ringB l)) (fun v=>v.length) (fun v=>(∀ x ∈ v,x ∈ l) /\ (∀ x,ZAm l x -> x ∈ v) /\ v.length <= l.length) ?_ 9223372036854775807 l ⟨fun _ h=>h,fun _ h=>h.1,Nat.le_refl _⟩ (by omega)
  rintro v k ⟨hs,hr,hn⟩ hk
  unfold ZO6
  rw [ZE1 (bs:=16) (bd:=Zd4 v) (p:=keepB v) (f:=fun x=>x) (fun x _ i b k=>by
   unfold Zd4
   rw [Zan,bS]) (by simp; omega),List.nil_append,List.map_id']
  unfold ZN6
  have hle:(v.filter (keepB v)).length <= v.length:=List.length_filter_le ..
  by_cases he:(v.filter (keepB v)).length = v.length
  .rw [show (((v.filter (keepB v)).length:Int) == (v.length:Int)) = true by rw [he]; simp,cond_true]
   have hkeep:∀ x ∈ v,keepB v x = true:=List.filter_eq_self.1 ((List.filter_sublist).eq_of_length he)
   congr 1
   unfold ringB
   by_cases hR:Ring l
   .have:0 < v.length:=by
     obtain ⟨d,hd,hdd⟩:=hR
     obtain ⟨y,hy,ey,h⟩:=hdd.head
     have hyv:y ∈ v:=hr y ⟨hy,by
      rw [ey]
      rcases h with h | h
      .rw [h]; exact hdd
      .exact h⟩
     exact List.length_pos_of_mem hyv
    rw [show decide (0 < (v.length:Int)) = true by rw [decide_eq_true_eq]; omega]
    simp [hR]
   .have:¬ 0 < v.length:=fun h=>by
     obtain ⟨x,hx⟩:=List.exists_mem_of_length_pos h
     exact hR (ZCn hs hkeep hx)
    rw [show decide (0 < (v.length:Int)) = false by rw [decide_eq_false_iff_not]; omega]
    simp [hR]
  .rw [show (((v.filter (keepB v)).length:Int) == (v.length:Int)) = false by simpa using (by omega:((v.filter (keepB v)).length:Int) ≠ (v.length:Int)),cond_false]
   exact hk _ ⟨fun x hx=>hs x (List.mem_filter.1 hx).1,fun x hx=>List.mem_filter.2 ⟨hr x hx,Zul hx hr⟩,by omega⟩ (by omega)
theorem Round_eq {l:List Dep} (hl:l.length <= 1048576):∃ b,spec_Round l = some b /\ impl_Round l = some b:=by
 obtain ⟨b,h1,h2,_⟩:=Zil hl
 exact ⟨_,ZLi hl b h1,Z7k hl b h2⟩
noncomputable def ZRl (l:List Quota) (x:Quota) (i:Nat):Bool :=
 (((((!(wordB x.name)) || ((decide (0 < (i:Int))) && (!(Op.bytesLess (prevL l i).name x.name)))) || (decide (x.jobs < 0))) || (decide (60 < x.jobs))) || (!(spec_l01Res x.nodes))) || (!(spec_VecOk x.res))
theorem Z4g {l:List Quota} (hl:l.length <= 1048576) (hn:∀ x ∈ l,x.name.length < 9223372036854775807) :
  ∃ b,spec_QuotasOk l = some b /\ impl_QuotasOk l = some b /\ (b = true -> (l.length:Int) <= 12 /\ ∀ x ∈ l,x.name.length <= 8):=by
 unfold spec_QuotasOk impl_QuotasOk
 refine Z4e (G:=fun x=>x.name.length <= 8) (ZRl l) (fun i x k hx=>?_) (fun i x k hx _=>?_) (fun i x hx hb=>?_) ?_ ?_
 rotate_right 2
 .rfl
 .rfl
 .have hi:=(yB hx).1
  unfold ZM3 ZRl
  rw [Zo9 (hn x (yE hx)),bS,Zw9 hi hl]
  cases wordB x.name <;> rfl
 .have hi:=(yB hx).1
  unfold ZS3 ZRl spec_l01Res impl_within
  rw [Z7e,Zo9 (hn x (yE hx)),bS,Zw9 hi hl,Zam x.jobs 0,Zam 60 x.jobs,Zs1]
  generalize wordB x.name = w,decide ((0:Int) <= x.jobs) = p,decide (x.jobs <= 60) = q,(decide (0 <= x.nodes) && decide (x.nodes <= 1000000)) = u,spec_VecOk x.res = z
  cases w <;> cases p <;> cases q <;> cases u <;> cases z <;> simp
 .unfold ZRl at hb
  have hw:wordB x.name = true:=by
   cases h:wordB x.name with
   | true=>rfl
   | false=>rw [h] at hb; simp at hb
  exact Zok (hn x (yE hx)) hw
def heldB (l:List Hold) (x:Hold):Bool:=l.any fun y=>y.job.id == x.job.id
noncomputable def Zak (l:List Hold) (x:Hold) (i:Nat):Bool:=((!(wordB x.name)) || (!(spec_JobOk x.job))) || heldB (l.take i) x
theorem ZHn {l:List Hold} {x:Hold} {i:Nat} (hi:i < l.length) (hl:l.length <= 1048576) (k:Unit -> Option Bool) :
  whl (ZK2 l i x k) 9223372036854775807 0 = bif heldB (l.take i) x then some false else k ():=by
 refine Zq4 (fun _ o=>o = bif heldB (l.take i) x then some false else k ()) (fun v=>i - v.toNat) (fun v=>∃ j:Nat,v = (j:Int) /\ j <= i /\ ∀ m y,m < j -> l[m]? = some y -> (y.job.id == x.job.id) = false) ?_ 9223372036854775807 0 ⟨0,rfl,Nat.zero_le _,fun m y h=>by omega⟩ (by omega)
 rintro _ k2 ⟨j,rfl,hj,hI⟩ hk
 unfold ZK2
 by_cases hlt:j < i
 .have hlt':(j:Int) < (i:Int):=by omega
  obtain ⟨y,hy⟩:∃ y,l[j]? = some y:=⟨_,yA (by omega)⟩
  simp only [hlt',decide_true,cond_true,Za,hy,bS,Zz (n:=j) (by omega)]
  cases hb:(y.job.id == x.job.id) with
  | true =>
   have:heldB (l.take i) x = true:=List.any_eq_true.2 ⟨y,List.mem_iff_getElem?.2 ⟨j,by rw [List.getElem?_take_of_lt hlt,hy]⟩,hb⟩
   rw [this]; rfl
  | false =>
   refine hk _ ⟨j + 1,rfl,hlt,fun m z hm hz=>?_⟩ (by omega)
   by_cases e:m = j
   .subst e; rw [hy] at hz; cases hz; exact hb
   .exact hI m z (by omega) hz
 .have:j = i:=by omega
  subst this
  have:heldB (l.take j) x = false:=by
   unfold heldB
   rw [Bool.eq_false_iff]
   intro h
   obtain ⟨y,hy,e⟩:=List.any_eq_true.1 h
   obtain ⟨m,hm⟩:=List.mem_iff_getElem?.1 hy
   have hmj:m < j:=by
    have:=(yB hm).1
    simp at this; omega
   rw [List.getElem?_take_of_lt hmj] at hm
   rw [hI m y hmj hm] at e
   cases e
  simp only [Int.lt_irrefl,decide_false,cond_false,this]
theorem ZIn (v:List Hold) (x:Hold):Z3 v x = some (heldB v x):=by
 have key:∀ (l:List Hold) (i:Nat),∃ r:Int,rgl (Z9 x) Zi l i () = some r /\ decide (0 <= r) = heldB l x:=by
  intro l
  induction l with
  | nil=>intro i; exact ⟨-1,rfl,rfl⟩
  | cons y l ih =>
   intro i
   rw [rgl]
   unfold Z9 impl_HoldsOk_1
   unfold heldB
   rw [List.any_cons]
   cases (y.job.id == x.job.id) with
   | true=>exact ⟨i,rfl,by simp⟩
   | false =>
    obtain ⟨r,h1,h2⟩:=ih (i + 1)
    exact ⟨r,h1,by rw [h2]; rfl⟩
 obtain ⟨r,h1,h2⟩:=key v 0
 unfold Z3 Zc
 rw [h1,bS,h2]
theorem Zsi {l:List Hold} (hl:l.length <= 1048576) (hn:∀ x ∈ l,x.name.length < 9223372036854775807) :
  ∃ b,spec_HoldsOk l = some b /\ impl_HoldsOk l = some b /\ (b = true -> (l.length:Int) <= 60 /\ ∀ x ∈ l,spec_JobOk x.job = true):=by
 unfold spec_HoldsOk impl_HoldsOk
 refine Z4e (l:=l) (n:=60) (bs:=ZJ2 l) (ks:=ZB4) (bi:=ZV2 l) (ki:=ZK4 l) (G:=fun x=>spec_JobOk x.job = true) (Zak l) (fun i x k hx=>?_) (fun i x k hx _=>?_) (fun i x hx hb=>?_) ?_ ?_
 rotate_right 2
 .rfl
 .rfl
 .have hi:=(yB hx).1
  unfold ZJ2 Zak
  rw [Zo9 (hn x (yE hx)),bS,ZHn hi hl]
  cases wordB x.name <;> cases spec_JobOk x.job <;> rfl
 .have hi:=(yB hx).1
  unfold ZV2 Zak
  rw [Z7e,Zo9 (hn x (yE hx)),bS,Z85,Z0e (by omega)]
  cases wordB x.name <;> cases spec_JobOk x.job <;> first | rfl | (simp only [Bool.not_true,Bool.or_self,cond_false,bS,ZIn,Bool.false_or])
 .unfold Zak at hb
  cases h:spec_JobOk x.job with
  | true=>rfl
  | false=>rw [h] at hb; simp at hb
def mulV (v:Vec) (n:Int):Vec:=⟨v.a * n,v.b * n,v.c * n⟩
def timesM (v:Vec) (n:Int):Vec × Bool:=if spec_VecOk v = true /\ 0 <= n /\ spec_VecOk (mulV v n) = true then (mulV v n,true) else (⟨0,0,0⟩,false)
theorem Z2j {a i n:Int} (ha:0 <= a) (h:i <= n):a * i <= a * n:=Int.mul_le_mul_of_nonneg_left h ha
theorem ZBa (v:Vec) (n:Int) (hn:n <= 1048576):spec_Times v n = some (timesM v n):=by
 unfold spec_Times
 by_cases h:spec_VecOk v = true /\ 0 <= n
 .obtain ⟨hv,h0⟩:=h
  have hb:=Zq1.1 hv
  rw [hv,show decide (n < 0) = false by simp; omega,Bool.not_true,Bool.or_self,cond_false]
  by_cases hz:v = ⟨0,0,0⟩
  .subst hz
   simp [timesM,mulV,h0,spec_VecOk,spec_l01Res]
  .rw [show (v.a == 0 && (v.b == 0 && (v.c == 0 && true))) = false by
    rw [Bool.eq_false_iff]; intro q; simp at q; exact hz (by obtain ⟨a,b,c⟩:=v; simp at q; simp [q]),cond_false]
   refine Zq4 (fun _ o=>o = some (timesM v n)) (fun s=>(n - s.2).toNat) (fun s=>∃ i:Nat,s.2 = (i:Int) /\ (i:Int) <= n /\ s.1 = mulV v i /\ spec_VecOk (mulV v i) = true) ?_ 9223372036854775807 (⟨0,0,0⟩,0) ⟨0,rfl,h0,by simp [mulV],by simp [mulV,spec_VecOk,spec_l01Res]⟩ (by simp only; omega)
   rintro ⟨u,_⟩ k ⟨i,rfl,hi,hu,hok⟩ hk
   simp only at hu hi hk
   subst hu
   unfold Zx6
   simp only
   have hob:=Zq1.1 hok
   simp only [mulV] at hob
   by_cases hlt:(i:Int) < n
   .rw [show decide ((i:Int) < n) = true by simpa using hlt,cond_true]
    have e1:∀ a:Int,a * (i:Int) + a = a * ((i + 1:Nat):Int):=fun a=>by rw [Int.natCast_add,Int.mul_add]; simp
    have ea:spec_VecAdd (mulV v i) v = bif spec_VecOk (mulV v ((i + 1:Nat):Int)) then (mulV v ((i + 1:Nat):Int),true) else (⟨0,0,0⟩,false):=by
     unfold spec_VecAdd
     rw [hok,hv]
     simp only [mulV]
     rw [ZN (by omega),ZN (by omega),ZN (by omega),e1,e1,e1]
     simp only [Bool.not_true,Bool.or_self,cond_false]
     cases spec_VecOk (Vec.mk (v.a * ((i + 1:Nat):Int)) (v.b * ((i + 1:Nat):Int)) (v.c * ((i + 1:Nat):Int))) <;> rfl
    rw [ea]
    cases hq:spec_VecOk (mulV v ((i + 1:Nat):Int)) with
    | true =>
     simp only [cond_true,Bool.not_true,cond_false]
     rw [Zz (by omega)]
     exact hk _ ⟨i + 1,rfl,by omega,rfl,hq⟩ (by simp only; omega)
    | false =>
     simp only [cond_false,Bool.not_false,cond_true]
     have:¬ spec_VecOk (mulV v n) = true:=by
      intro q
      have q:=Zq1.1 q
      simp only [mulV] at q
      have l1:=Z2j (i:=((i + 1:Nat):Int)) (n:=n) hb.1.1 (by omega)
      have l2:=Z2j (i:=((i + 1:Nat):Int)) (n:=n) hb.2.1.1 (by omega)
      have l3:=Z2j (i:=((i + 1:Nat):Int)) (n:=n) hb.2.2.1 (by omega)
      have p1:=Int.mul_nonneg hb.1.1 (show (0:Int) <= ((i + 1:Nat):Int) by omega)
      have p2:=Int.mul_nonneg hb.2.1.1 (show (0:Int) <= ((i + 1:Nat):Int) by omega)
      have p3:=Int.mul_nonneg hb.2.2.1 (show (0:Int) <= ((i + 1:Nat):Int) by omega)
      have:spec_VecOk (mulV v ((i + 1:Nat):Int)) = true:=Zq1.2 (by simp only [mulV]; omega)
      rw [hq] at this; cases this
     unfold timesM
     rw [if_neg fun q=>this q.2.2]
   .have:(i:Int) = n:=by omega
    rw [show decide ((i:Int) < n) = false by simpa using hlt,cond_false]
    rw [this] at hok ⊢
    unfold timesM
    rw [if_pos ⟨hv,h0,hok⟩]
 .rw [show (!(spec_VecOk v) || decide (n < 0)) = true by
   by_cases hv:spec_VecOk v = true
   .have:n < 0:=by
     by_cases h0:0 <= n
     .exact absurd ⟨hv,h0⟩ h
     .omega
    simp [this]
   .simp [hv],cond_true]
  unfold timesM
  rw [if_neg fun q=>h ⟨q.1,q.2.1⟩]
theorem quo_lt {x n:Int} (hx:0 < x):decide (1000000 / x < n) = decide (1000000 < x * n):=by
 rw [decide_eq_decide]
 rw [Int.ediv_lt_iff_lt_mul hx,Int.mul_comm]
theorem quo_some {x:Int} (hx:0 < x) (h:x <= 1000000):quoI .i64 1000000 x = some (1000000 / x):=by
 unfold quoI
 have b1:(1000000:Int) / x <= 1000000:=Int.ediv_le_self _ (by omega)
 have b0:(0:Int) <= 1000000 / x:=Int.ediv_nonneg (by omega) (by omega)
 rw [if_neg (by omega),Int.tdiv_eq_ediv_of_nonneg (by omega),Zll (by omega) (by omega)]
theorem Z5k (v:Vec) (n:Int) (hn:n <= 1048576):impl_Times v n = some (timesM v n):=by
 unfold impl_Times
 rw [Zs1]
 by_cases h:spec_VecOk v = true /\ 0 <= n
 .obtain ⟨hv,h0⟩:=h
  have hb:=Zq1.1 hv
  rw [hv,show decide (n < 0) = false by simp; omega,Bool.not_true,Bool.or_self,cond_false]
  rw [ZS1 (r:=some (⟨0,0,0⟩,false)) (p:=fun x=>decide (1000000 < x * n)) (fun x hx i k=>by
   have hx':0 <= x /\ x <= 1000000:=by simp at hx; rcases hx with rfl | rfl | rfl <;> omega
   unfold ZM6
   by_cases h1:0 < x
   .rw [show decide (0 < x) = true by simpa using h1,cond_true,quo_some h1 hx'.2,bS,quo_lt h1]
    cases decide (1000000 < x * n) <;> rfl
   .have:x = 0:=by omega
    subst this
    simp)]
  have p1:=Int.mul_nonneg hb.1.1 h0
  have p2:=Int.mul_nonneg hb.2.1.1 h0
  have p3:=Int.mul_nonneg hb.2.2.1 h0
  have l1:v.a * n <= 1000000 * 1048576:=Int.mul_le_mul hb.1.2 hn h0 (by omega)
  have l2:v.b * n <= 1000000 * 1048576:=Int.mul_le_mul hb.2.1.2 hn h0 (by omega)
  have l3:v.c * n <= 1000000 * 1048576:=Int.mul_le_mul hb.2.2.2 hn h0 (by omega)
  unfold ZL6 timesM
  by_cases hq:spec_VecOk (mulV v n) = true
  .have q:=Zq1.1 hq
   simp only [mulV] at q
   rw [if_pos ⟨hv,h0,hq⟩,ZN (by omega),ZN (by omega),ZN (by omega)]
   have n1:¬ 1000000 < v.a * n:=by omega
   have n2:¬ 1000000 < v.b * n:=by omega
   have n3:¬ 1000000 < v.c * n:=by omega
   simp [n1,n2,n3,mulV]
  .rw [if_neg fun q=>hq q.2.2]
   have:[v.a,v.b,v.c].any (fun x=>decide (1000000 < x * n)) = true:=by
    rw [← Bool.not_eq_false]
    intro q
    simp at q
    exact hq (Zq1.2 (by simp only [mulV]; omega))
   rw [this]; rfl
 .rw [show (!(spec_VecOk v) || decide (n < 0)) = true by
   by_cases hv:spec_VecOk v = true
   .have:n < 0:=by
     by_cases h0:0 <= n
     .exact absurd ⟨hv,h0⟩ h
     .omega
    simp [this]
   .simp [hv],cond_true]
  unfold timesM
  rw [if_neg fun q=>h ⟨q.1,q.2.1⟩]
theorem Z7o (a b:Vec):impl_VecAdd a b = spec_VecAdd a b:=by
 unfold impl_VecAdd impl_valid spec_VecAdd
 simp only [Zs1]
 cases spec_VecOk a <;> cases spec_VecOk b <;> first | rfl | (cases spec_VecOk (Vec.mk (w64 (a.a + b.a)) (w64 (a.b + b.b)) (w64 (a.c + b.c))) <;> rfl)
theorem Zhl {l:List Hold} (hl:l.length <= 1048576) (hn:∀ x ∈ l,x.name.length < 9223372036854775807) (s:Str):∃ r,spec_HeldBy l s = some r /\ impl_HeldBy l s = some r:=by
 obtain ⟨b,h1,h2,h3⟩:=Zsi hl hn
 cases b with
 | false =>
  exact ⟨(0,0,⟨0,0,0⟩,false),by unfold spec_HeldBy; rw [h1]; rfl,by unfold impl_HeldBy; rw [h2]; rfl⟩
 | true =>
  obtain ⟨h4,h5⟩:=h3 rfl
  have hn':∀ x ∈ l,x.job.nodes <= 1048576:=fun x hx=>by
   have:=(Zg7.1 (h5 x hx)).2.2.1; omega
  have e:impl_HeldBy l s = spec_HeldBy l s:=by
   unfold impl_HeldBy spec_HeldBy
   rw [h1,h2]
   simp only [bS,Bool.not_true,cond_false]
   refine Ze7 (fun i x v k hx=>?_) fun _=>rfl
   unfold ZB5 Z93
   have hx':=hn' x (yE hx)
   rw [ZBa _ _ hx',Z5k _ _ hx']
   simp only [Z7o]
  rw [e]
  obtain ⟨r,hr⟩:∃ r,spec_HeldBy l s = some r:=by
   unfold spec_HeldBy
   rw [h1,bS,Bool.not_true,cond_false]
   refine ZD1 (l0:=l) (fun _ (_:Vec × Int × Int)=>True) (fun o=>∃ y,o = some y) (fun i x v k hx _ hk=>?_) (fun _ _=>⟨_,rfl⟩) trivial
   unfold Z93
   rw [ZBa _ _ (hn' x (yE hx)),bS]
   cases (x.name != s) with
   | true=>exact hk _ trivial
   | false =>
    rw [cond_false]
    cases ((!(timesM x.job.need x.job.nodes).2) || (!(spec_VecAdd v.1 (timesM x.job.need x.job.nodes).1).2)) with
    | true=>exact ⟨_,rfl⟩
    | false=>exact hk _ trivial
  exact ⟨r,hr,hr⟩
theorem Z6o {q:List Quota} {l:List Hold} (hq:q.length <= 1048576) (hqn:∀ x ∈ q,x.name.length < 9223372036854775807) (hl:l.length <= 1048576) (hn:∀ x ∈ l,x.name.length < 9223372036854775807):∃ b,spec_Within q l = some b /\ impl_Within q l = some b:=by
 obtain ⟨b1,p1,p2,_⟩:=Z4g hq hqn
 obtain ⟨b2,r1,r2,_⟩:=Zsi hl hn
 have e:impl_Within q l = spec_Within q l:=by
  unfold impl_Within spec_Within
  rw [p1,p2,r1,r2]
  have:rgl (Zq3 l) Zx5 q 0 () = rgl (Zy1 l) Z53 q 0 ():=by
   refine Ze7 (fun i x v k hx=>?_) fun _=>rfl
   unfold Zq3 Zy1
   obtain ⟨y,y1,y2⟩:=Zhl hl hn x.name
   rw [y1,y2]
   rfl
  rw [this]
 rw [e]
 obtain ⟨r,hr⟩:∃ r,spec_Within q l = some r:=by
  unfold spec_Within
  rw [p1,r1,bS]
  have:∃ r,rgl (Zy1 l) Z53 q 0 () = some r:=by
   refine ZD1 (l0:=q) (b:=()) (fun _ (_:Unit)=>True) (fun o=>∃ y,o = some y) (fun i x v k hx _ hk=>?_) (fun _ _=>⟨_,rfl⟩) trivial
   unfold Zy1
   obtain ⟨y,y1,_⟩:=Zhl hl hn x.name
   rw [y1,bS]
   cases ((((!y.2.2.2) || (decide (x.jobs < y.1))) || (decide (x.nodes < y.2.1))) || (!(spec_VecFits y.2.2.1 x.res))) with
   | true=>exact ⟨_,rfl⟩
   | false=>exact hk () trivial
  cases b1 <;> cases b2 <;> first | exact ⟨_,rfl⟩ | exact this
 exact ⟨r,hr,hr⟩
def Zuj:L :=
sR [.bx 1 (.t 0),.al 2 [.int .i64 0,.int .i64 0,.int .i64 0]]
 (sR [.al 3 [.int .i64 0,.int .i64 0,.int .i64 0]]
 (sR [fA 4 1 0,lD 5 4 1 false,fA 6 3 0,.st (.t 6) (.t 5) 1]
 (sR [fA 7 1 1,lD 8 7 1 false,fA 9 3 1,.st (.t 9) (.t 8) 1]
 (sR [fA 10 1 2,lD 11 10 1 false,fA 12 3 2,.st (.t 12) (.t 11) 1]
 (sR [lD 13 3 3 true,.st (.t 2) (.t 13) 3]
 gR)))))
def ZY5 (a1:Vec):Option Vec :=
 some a1
theorem Zue {a1:Vec} {r:Vec} (H:ZY5 a1 = some r):Snd Tryz.prog Zc2 [eVec a1] (eVec r) []:=by
 refine wS Zuj [.c 2 3 true] ?_
 unfold ZY5 at H
 refine wP ?_
 replace H:=sI H; subst H
 exact wN [(2,.d)] [(2,[])] [] [] [] []
def laws_toVec (a1:Vec):Vec :=
 a1
theorem ZLk (a1:Vec):ZY5 a1 = some (laws_toVec a1):=by
 unfold ZY5 laws_toVec
 first | rfl | simp only [Z7]
theorem Zd3 (a1:Vec):Snd Tryz.prog Zc2 [eVec a1] (eVec (laws_toVec a1)) []:=Zue (ZLk a1)
def ZAj:L :=
sR [.bx 2 (.t 0),.bx 3 (.t 1),.mv 4 (cB false)]
 (.seq (sR [fA 5 2 0,lD 6 5 1 false,fA 7 3 0,lD 8 7 1 false,bI 9 .neq 6 8]
 (.cond (.t 9) (.seq (rE 4 (cB false))
 gR)
 .skip))
 (.seq (sR [fA 10 2 1,lD 11 10 1 false,fA 12 3 1,lD 13 12 1 false,bI 14 .neq 11 13]
 (.cond (.t 14) (.seq (rE 4 (cB false))
 gR)
 .skip))
 (.seq (sR [fA 15 2 2,lD 16 15 1 false,fA 17 3 2,lD 18 17 1 false,bI 19 .neq 16 18]
 (.cond (.t 19) (.seq (rE 4 (cB false))
 gR)
 .skip))
 (.seq (rE 4 (cB true))
 gR))))
def Z36 (a1:Vec) (b2:Vec):Option Bool :=
 bif (a1.a != b2.a) then (some false) else (bif (a1.b != b2.b) then (some false) else (bif (a1.c != b2.c) then (some false) else (some true)))
theorem ZMe {a1:Vec} {b2:Vec} {r:Bool} (H:Z36 a1 b2 = some r):Snd Tryz.prog Zd2 [eVec a1,eVec b2] (.bool r) []:=by
 refine wS ZAj [.t 4] ?_
 unfold Z36 at H
 refine wP ?_
 refine Wh_iH H (fun H=>?_) fun H=>?_
 .refine wP ?_
  replace H:=sI H; subst H
  exact wE [(4,.d)]
 .refine wP ?_
  refine Wh_iH H (fun H=>?_) fun H=>?_
  .refine wP ?_
   replace H:=sI H; subst H
   exact wE [(4,.d)]
  .refine wP ?_
   refine Wh_iH H (fun H=>?_) fun H=>?_
   .refine wP ?_
    replace H:=sI H; subst H
    exact wE [(4,.d)]
   .refine wP ?_
    replace H:=sI H; subst H
    exact wE [(4,.d)]
def laws_eqVec (a1:Vec) (b2:Vec):Bool :=
 bif (a1.a != b2.a) then (false) else (bif (a1.b != b2.b) then (false) else (bif (a1.c != b2.c) then (false) else (true)))
theorem ZQk (a1:Vec) (b2:Vec):Z36 a1 b2 = some (laws_eqVec a1 b2):=by
 unfold Z36 laws_eqVec
 first | rfl | simp only [Z7]
theorem Zk3 (a1:Vec) (b2:Vec):Snd Tryz.prog Zd2 [eVec a1,eVec b2] (.bool (laws_eqVec a1 b2)) []:=ZMe (ZQk a1 b2)
def Zfh:L :=
sR [.mv 2 (.c (.nl))]
 (sR [mV 5 0,.ln 6 (.t 5),.ms 7 1 8 [.int .i64 0] (.t 6),mV 3 7]
 (.seq (.seq (rE 4 (kI 0))
 (.blk 0 (.loop (.gw (.seq (sR [mV 8 4,mV 9 0,.ln 10 (.t 9),bI 11 .lss 8 10]
 (.cond (.t 11) .skip
 (.exit 0)))
 (.seq (.blk 1 (.reg [mV 14 3,mV 15 4,mV 16 0,mV 17 4,iA 18 16 17 1,lD 19 18 1 false,iA 20 14 15 1,.st (.t 20) (.t 19) 1]))
 (.reg [mV 12 4,.bi 13 .add (.t 12) (kI 1),mV 4 13])))))))
 (sR [mV 21 3,mV 2 21]
 gR)))
def Zg3 (a1:List Int) (v4:Int × (List Int)) (k4:(Int × (List Int)) -> Option (List Int)):Option (List Int) :=
 bif (decide (v4.1 < (a1.length:Int))) then ((idx a1 v4.1).bind fun e6=>(idx v4.2 v4.1).bind fun _=>k4 ((w64 (v4.1 + 1)),(v4.2.set v4.1.toNat e6))) else (some v4.2)
def laws_toIntS (a1:List Int):Option (List Int) :=
 (mkL 8 (a1.length:Int) 0).bind fun xs2=>whl (Zg3 a1) 9223372036854775807 (0,xs2)
theorem ZM9 {a1:List Int} {r:(List Int)} (H:laws_toIntS a1 = some r):Snd Tryz.prog ZM7 [.sl .rd 1 (a1.map eI)] (.sl .nw 1 (r.map eI)) []:=by
 refine wS Zfh [.t 2] ?_
 unfold laws_toIntS at H
 obtain ⟨xs2,h2,H⟩:=bB H
 refine wG [.u 6 (.ln _ _ fun _=>lm a1 eI),.u 7 (.ms _ _ _ _ fun _=>ZC6 eI h2)] fun q3=>?_
 refine wW (fun (v4:Int × (List Int))=>⟨[(0,.sl .rd 1 (a1.map eI)),(3,.sref 7),(4,.int .i64 v4.1)],[],[],[(7,⟨1,v4.2.map eI,false⟩)]⟩) H (fun v4 I m k4 H N13=>?_)
 unfold Zg3 at H
 refine wG [.u 10 (.ln _ _ fun _=>lm a1 eI)] fun q5=>?_
 refine Wh_iH H (fun H=>?_) fun H=>?_
 .obtain ⟨e6,h6,H⟩:=bB H
  obtain ⟨e7,h7,H⟩:=bB H
  refine wG [.u 18 (.ix _ _ _ fun _=>Z0 eI h6),.u 20 (.ix _ _ _ fun _=>Z0 eI h7),.u 1000000 (.sto _ _ _ (eI e6) _ (fun _=>gm eI (Zt1 h7)) (fun _=>ZD4 ..))] fun _=>?_
  exact wT (N13 _ H)
 .refine wP ?_
  replace H:=sI H; subst H
  exact wN [(2,.f)] [] [] [7] [] [⟨_,nw_I v4.2⟩]
def Zdh:L :=
sR [.bx 1 (.t 0),.al 2 [.int .i64 0,.int .i64 0,.int .i64 0,.int .i64 0]]
 (sR [.al 3 [.int .i64 0,.int .i64 0,.int .i64 0,.int .i64 0]]
 (sR [fA 4 1 0,lD 5 4 1 false,fA 6 3 0,.st (.t 6) (.t 5) 1]
 (sR [fA 7 1 1,lD 8 7 3 true,cQ 9 Zc2 [8],fA 10 3 1,.st (.t 10) (.t 9) 3]
 (sR [lD 11 3 4 true,.st (.t 2) (.t 11) 4]
 gR))))
def ZV4 (a1:Node):Option Node :=
 some (Node.mk a1.leaf (laws_toVec a1.cap))
theorem ZZc {a1:Node} {r:Node} (H:ZV4 a1 = some r):Snd Tryz.prog ZL7 [eNode a1] (eNode r) []:=by
 refine wS Zdh [.c 2 4 true] ?_
 unfold ZV4 at H
 refine wG [.c 9 (Zd3 a1.cap)] fun _=>?_
 replace H:=sI H; subst H
 exact wN [(2,.d)] [(2,[])] [] [] [] []
def laws_toNode (a1:Node):Node :=
 (Node.mk a1.leaf (laws_toVec a1.cap))
theorem Z9j (a1:Node):ZV4 a1 = some (laws_toNode a1):=by
 unfold ZV4 laws_toNode
 first | rfl | simp only [Z7]
theorem Zsg (a1:Node):Snd Tryz.prog ZL7 [eNode a1] (eNode (laws_toNode a1)) []:=ZZc (Z9j a1)
def Zkf:L :=
sR [.mv 2 (.c (.nl))]
 (sR [mV 5 0,.ln 6 (.t 5),.ms 7 4 32 [.int .i64 0,.int .i64 0,.int .i64 0,.int .i64 0] (.t 6),mV 3 7]
 (.seq (.seq (rE 4 (kI 0))
 (.blk 0 (.loop (.gw (.seq (sR [mV 8 4,mV 9 0,.ln 10 (.t 9),bI 11 .lss 8 10]
 (.cond (.t 11) .skip
 (.exit 0)))
 (.seq (.blk 1 (.reg [mV 14 3,mV 15 4,mV 16 0,mV 17 4,iA 18 16 17 4,lD 19 18 4 true,cQ 20 ZL7 [19],iA 21 14 15 4,.st (.t 21) (.t 20) 4]))
 (.reg [mV 12 4,.bi 13 .add (.t 12) (kI 1),mV 4 13])))))))
 (sR [mV 22 3,mV 2 22]
 gR)))
def ZL2 (a1:List Node) (v4:Int × (List Node)) (k4:(Int × (List Node)) -> Option (List Node)):Option (List Node) :=
 bif (decide (v4.1 < (a1.length:Int))) then ((idx a1 v4.1).bind fun e6=>(idx v4.2 v4.1).bind fun _=>k4 ((w64 (v4.1 + 1)),(v4.2.set v4.1.toNat (Node.mk ((laws_toNode e6).leaf) ((laws_toNode e6).cap))))) else (some v4.2)
def laws_toNodeS (a1:List Node):Option (List Node) :=
 (mkL 32 (a1.length:Int) (Node.mk 0 (Vec.mk 0 0 0))).bind fun xs2=>whl (ZL2 a1) 9223372036854775807 (0,xs2)
theorem Zze {a1:List Node} {r:(List Node)} (H:laws_toNodeS a1 = some r):Snd Tryz.prog Z3a [.sl .rd 4 (a1.map eNode)] (.sl .nw 4 (r.map eNode)) []:=by
 refine wS Zkf [.t 2] ?_
 unfold laws_toNodeS at H
 obtain ⟨xs2,h2,H⟩:=bB H
 refine wG [.u 6 (.ln _ _ fun _=>lm a1 eNode),.u 7 (.ms _ _ _ _ fun _=>ZC6 eNode h2)] fun q3=>?_
 refine wW (fun (v4:Int × (List Node))=>⟨[(0,.sl .rd 4 (a1.map eNode)),(3,.sref 7),(4,.int .i64 v4.1)],[],[],[(7,⟨4,v4.2.map eNode,false⟩)]⟩) H (fun v4 I m k4 H N13=>?_)
 unfold ZL2 at H
 refine wG [.u 10 (.ln _ _ fun _=>lm a1 eNode)] fun q5=>?_
 refine Wh_iH H (fun H=>?_) fun H=>?_
 .obtain ⟨e6,h6,H⟩:=bB H
  obtain ⟨e7,h7,H⟩:=bB H
  refine wG [.u 18 (.ix _ _ _ fun _=>Z0 eNode h6),.c 20 (Zsg e6),.u 21 (.ix _ _ _ fun _=>Z0 eNode h7),.u 1000000 (.sto _ _ _ (eNode (Node.mk ((laws_toNode e6).leaf) ((laws_toNode e6).cap))) _ (fun _=>gm eNode (Zt1 h7)) (fun _=>ZD4 ..))] fun _=>?_
  exact wT (N13 _ H)
 .refine wP ?_
  replace H:=sI H; subst H
  exact wN [(2,.f)] [] [] [7] [] [⟨_,ZP v4.2⟩]
def Zbh:L :=
sR [.bx 1 (.t 0),.al 2 [.nl,.nl]]
 (sR [.al 3 [.nl,.nl]]
 (sR [fA 4 1 0,lD 5 4 1 false,cQ 6 ZM7 [5],fA 7 3 0,.st (.t 7) (.t 6) 1]
 (sR [fA 8 1 1,lD 9 8 1 false,cQ 10 Z3a [9],fA 11 3 1,.st (.t 11) (.t 10) 1]
 (sR [lD 12 3 2 true,.st (.t 2) (.t 12) 2]
 gR))))
def laws_toTopo (a1:Topo):Option Topo :=
 (laws_toIntS a1.parents).bind fun y2=>(laws_toNodeS a1.nodes).bind fun y3=>some (Topo.mk y2 y3)
theorem Zmg {a1:Topo} {r:Topo} (H:laws_toTopo a1 = some r):Snd Tryz.prog Zfb [ZF .rd a1] (ZF .nw r) []:=by
 refine wS Zbh [.c 2 2 true] ?_
 unfold laws_toTopo at H
 obtain ⟨y2,h2,H⟩:=bB H
 obtain ⟨y3,h3,H⟩:=bB H
 refine wG [.c 6 (ZM9 h2),.c 10 (Zze h3)] fun _=>?_
 replace H:=sI H; subst H
 exact wN [(2,.d)] [(2,[])] [] [] [] [⟨_,nw_I y2⟩,⟨_,ZP y3⟩]
def Zmh:L :=
.seq (rE 4 (kI 0))
 (sR [mV 5 1,mV 6 0,.ln 7 (.t 6),bI 8 .sub 5 7,mV 1 8]
 (.seq (sR [mV 9 1,.bi 10 .lss (.t 9) (kI 0)]
 (.cond (.t 10) (.seq (rE 4 (kI (-1)))
 gR)
 .skip))
 (sR [mV 11 1,mV 4 11]
 gR)))
def ZY4 (a1:List Int) (left2:Int):Option Int :=
 bif (decide ((w64 (left2 - (a1.length:Int))) < 0)) then (some (-1)) else (some (w64 (left2 - (a1.length:Int))))
theorem Z5d {a1:List Int} {left2:Int} {r:Int} (H:ZY4 a1 left2 = some r):Snd Tryz.prog Zc5 [.sl .rd 1 (a1.map eI),.int .i64 left2] (.int .i64 r) []:=by
 refine wS Zmh [.t 4] ?_
 unfold ZY4 at H
 refine wG [.u 7 (.ln _ _ fun _=>lm a1 eI)] fun q3=>?_
 refine Wh_iH H (fun H=>?_) fun H=>?_
 .refine wP ?_
  replace H:=sI H; subst H
  exact wE [(4,.d)]
 .refine wP ?_
  replace H:=sI H; subst H
  exact wE [(4,.d)]
def laws_szIntS (a1:List Int) (left2:Int):Int :=
 bif (decide ((w64 (left2 - (a1.length:Int))) < 0)) then ((-1)) else ((w64 (left2 - (a1.length:Int))))
theorem Zfj (a1:List Int) (left2:Int):ZY4 a1 left2 = some (laws_szIntS a1 left2):=by
 unfold ZY4 laws_szIntS
 first | rfl | simp only [Z7]
theorem ZO9 (a1:List Int) (left2:Int):Snd Tryz.prog Zc5 [.sl .rd 1 (a1.map eI),.int .i64 left2] (.int .i64 (laws_szIntS a1 left2)) []:=Z5d (Zfj a1 left2)
def Zpf:L :=
.seq (rE 4 (kI 0))
 (sR [mV 5 1,mV 6 0,.ln 7 (.t 6),bI 8 .sub 5 7,mV 1 8]
 (.seq (sR [mV 9 1,.bi 10 .lss (.t 9) (kI 0)]
 (.cond (.t 10) (.seq (rE 4 (kI (-1)))
 gR)
 .skip))
 (sR [mV 11 1,mV 4 11]
 gR)))
def Z74 (a1:List Node) (left2:Int):Option Int :=
 bif (decide ((w64 (left2 - (a1.length:Int))) < 0)) then (some (-1)) else (some (w64 (left2 - (a1.length:Int))))
theorem ZRb {a1:List Node} {left2:Int} {r:Int} (H:Z74 a1 left2 = some r):Snd Tryz.prog Z27 [.sl .rd 4 (a1.map eNode),.int .i64 left2] (.int .i64 r) []:=by
 refine wS Zpf [.t 4] ?_
 unfold Z74 at H
 refine wG [.u 7 (.ln _ _ fun _=>lm a1 eNode)] fun q3=>?_
 refine Wh_iH H (fun H=>?_) fun H=>?_
 .refine wP ?_
  replace H:=sI H; subst H
  exact wE [(4,.d)]
 .refine wP ?_
  replace H:=sI H; subst H
  exact wE [(4,.d)]
def laws_szNodeS (a1:List Node) (left2:Int):Int :=
 bif (decide ((w64 (left2 - (a1.length:Int))) < 0)) then ((-1)) else ((w64 (left2 - (a1.length:Int))))
theorem ZFg (a1:List Node) (left2:Int):Z74 a1 left2 = some (laws_szNodeS a1 left2):=by
 unfold Z74 laws_szNodeS
 first | rfl | simp only [Z7]
theorem ZKe (a1:List Node) (left2:Int):Snd Tryz.prog Z27 [.sl .rd 4 (a1.map eNode),.int .i64 left2] (.int .i64 (laws_szNodeS a1 left2)) []:=ZRb (ZFg a1 left2)
def Zjh:L :=
sR [.bx 2 (.t 0),.mv 4 (kI 0)]
 (sR [fA 5 2 0,lD 6 5 1 false,mV 7 1,cQ 8 Zc5 [6,7],mV 1 8]
 (.seq (sR [mV 9 1,.bi 10 .lss (.t 9) (kI 0)]
 (.cond (.t 10) (.seq (rE 4 (kI (-1)))
 gR)
 .skip))
 (sR [fA 11 2 1,lD 12 11 1 false,mV 13 1,cQ 14 Z27 [12,13],mV 1 14]
 (.seq (sR [mV 15 1,.bi 16 .lss (.t 15) (kI 0)]
 (.cond (.t 16) (.seq (rE 4 (kI (-1)))
 gR)
 .skip))
 (sR [mV 17 1,mV 4 17]
 gR)))))
def ZW4 (a1:Topo) (left2:Int):Option Int :=
 bif (decide ((laws_szIntS a1.parents left2) < 0)) then (some (-1)) else (bif (decide ((laws_szNodeS a1.nodes (laws_szIntS a1.parents left2)) < 0)) then (some (-1)) else (some (laws_szNodeS a1.nodes (laws_szIntS a1.parents left2))))
theorem Z1d {a1:Topo} {left2:Int} {r:Int} (H:ZW4 a1 left2 = some r):Snd Tryz.prog ZN7 [ZF .rd a1,.int .i64 left2] (.int .i64 r) []:=by
 refine wS Zjh [.t 4] ?_
 unfold ZW4 at H
 refine wG [.c 8 (ZO9 a1.parents left2)] fun _=>?_
 refine Wh_iH H (fun H=>?_) fun H=>?_
 .refine wP ?_
  replace H:=sI H; subst H
  exact wE [(4,.d)]
 .refine wG [.u 14 (.call _ _ _ _ _ (AEs.refl _) (fun _=>ZKe a1.nodes (laws_szIntS a1.parents left2)))] fun _=>?_
  refine Wh_iH H (fun H=>?_) fun H=>?_
  .refine wP ?_
   replace H:=sI H; subst H
   exact wE [(4,.d)]
  .refine wP ?_
   replace H:=sI H; subst H
   exact wE [(4,.d)]
def laws_szTopo (a1:Topo) (left2:Int):Int :=
 bif (decide ((laws_szIntS a1.parents left2) < 0)) then ((-1)) else (bif (decide ((laws_szNodeS a1.nodes (laws_szIntS a1.parents left2)) < 0)) then ((-1)) else ((laws_szNodeS a1.nodes (laws_szIntS a1.parents left2))))
theorem Zcj (a1:Topo) (left2:Int):ZW4 a1 left2 = some (laws_szTopo a1 left2):=by
 unfold ZW4 laws_szTopo
 first | rfl | simp only [Z7]
theorem ZAg (a1:Topo) (left2:Int):Snd Tryz.prog ZN7 [ZF .rd a1,.int .i64 left2] (.int .i64 (laws_szTopo a1 left2)) []:=Z1d (Zcj a1 left2)
def Zuh:L :=
.seq (rE 4 (cB false))
 (.seq (sR [mV 6 0,.ln 7 (.t 6),mV 8 1,.ln 9 (.t 8),bI 10 .neq 7 9]
 (.cond (.t 10) (.seq (rE 4 (cB false))
 gR)
 .skip))
 (.seq (.seq (rE 5 (kI 0))
 (.blk 0 (.loop (.gw (.seq (sR [mV 11 5,mV 12 0,.ln 13 (.t 12),bI 14 .lss 11 13]
 (.cond (.t 14) .skip
 (.exit 0)))
 (.seq (.blk 1 (.seq (.rq 9 [mV 17 0,mV 18 5,iA 19 17 18 1,lD 20 19 1 false,mV 21 1,mV 22 5,iA 23 21 22 1,lD 24 23 1 false,bI 25 .neq 20 24])
 (.cond (.t 25) (.seq (rE 4 (cB false))
 gR)
 .skip)))
 (.reg [mV 15 5,.bi 16 .add (.t 15) (kI 1),mV 5 16])))))))
 (.seq (rE 4 (cB true))
 gR)))
def Zn3 (a1:List Int) (b2:List Int) (v4:Int) (k4:Int -> Option Bool):Option Bool :=
 bif (decide (v4 < (a1.length:Int))) then ((idx a1 v4).bind fun e6=>(idx b2 v4).bind fun e7=>bif (e6 != e7) then (some false) else (k4 (w64 (v4 + 1)))) else (some true)
def laws_eqIntS (a1:List Int) (b2:List Int):Option Bool :=
 bif ((a1.length:Int) != (b2.length:Int)) then (some false) else (whl (Zn3 a1 b2) 9223372036854775807 0)
theorem ZP9 {a1:List Int} {b2:List Int} {r:Bool} (H:laws_eqIntS a1 b2 = some r):Snd Tryz.prog ZS7 [.sl .rd 1 (a1.map eI),.sl .rd 1 (b2.map eI)] (.bool r) []:=by
 refine wS Zuh [.t 4] ?_
 unfold laws_eqIntS at H
 refine wG [.u 7 (.ln _ _ fun _=>lm a1 eI),.u 9 (.ln _ _ fun _=>lm b2 eI)] fun q3=>?_
 refine Wh_iH H (fun H=>?_) fun H=>?_
 .refine wP ?_
  replace H:=sI H; subst H
  exact wE [(4,.d)]
 .refine wP ?_
  refine wW (fun (v4:Int)=>⟨[(0,.sl .rd 1 (a1.map eI)),(1,.sl .rd 1 (b2.map eI)),(5,.int .i64 v4)],[],[],[]⟩) H (fun v4 I m k4 H N25=>?_)
  unfold Zn3 at H
  refine wG [.u 13 (.ln _ _ fun _=>lm a1 eI)] fun q5=>?_
  refine Wh_iH H (fun H=>?_) fun H=>?_
  .obtain ⟨e6,h6,H⟩:=bB H
   obtain ⟨e7,h7,H⟩:=bB H
   refine wG [.u 19 (.ix _ _ _ fun _=>Z0 eI h6),.u 23 (.ix _ _ _ fun _=>Z0 eI h7)] fun _=>?_
   refine Wh_iH H (fun H=>?_) fun H=>?_
   .refine wP ?_
    replace H:=sI H; subst H
    exact wE [(4,.d)]
   .refine wP ?_
    exact wT (N25 _ H)
  .refine wP ?_
   replace H:=sI H; subst H
   exact wE [(4,.d)]
def Zsh:L :=
sR [.bx 2 (.t 0),.bx 3 (.t 1),.mv 4 (cB false)]
 (.seq (sR [fA 5 2 0,lD 6 5 1 false,fA 7 3 0,lD 8 7 1 false,bI 9 .neq 6 8]
 (.cond (.t 9) (.seq (rE 4 (cB false))
 gR)
 .skip))
 (.seq (sR [fA 10 2 1,lD 11 10 3 true,fA 12 3 1,lD 13 12 3 true,cQ 14 Zd2 [11,13],.un 15 (.t 14)]
 (.cond (.t 15) (.seq (rE 4 (cB false))
 gR)
 .skip))
 (.seq (rE 4 (cB true))
 gR)))
def Z15 (a1:Node) (b2:Node):Option Bool :=
 bif (a1.leaf != b2.leaf) then (some false) else (bif (!(laws_eqVec a1.cap b2.cap)) then (some false) else (some true))
theorem Zed {a1:Node} {b2:Node} {r:Bool} (H:Z15 a1 b2 = some r):Snd Tryz.prog ZR7 [eNode a1,eNode b2] (.bool r) []:=by
 refine wS Zsh [.t 4] ?_
 unfold Z15 at H
 refine wP ?_
 refine Wh_iH H (fun H=>?_) fun H=>?_
 .refine wP ?_
  replace H:=sI H; subst H
  exact wE [(4,.d)]
 .refine wG [.c 14 (Zk3 a1.cap b2.cap)] fun _=>?_
  refine Wh_iH H (fun H=>?_) fun H=>?_
  .refine wP ?_
   replace H:=sI H; subst H
   exact wE [(4,.d)]
  .refine wP ?_
   replace H:=sI H; subst H
   exact wE [(4,.d)]
def laws_eqNode (a1:Node) (b2:Node):Bool :=
 bif (a1.leaf != b2.leaf) then (false) else (bif (!(laws_eqVec a1.cap b2.cap)) then (false) else (true))
theorem Zjj (a1:Node) (b2:Node):Z15 a1 b2 = some (laws_eqNode a1 b2):=by
 unfold Z15 laws_eqNode
 first | rfl | simp only [Z7]
theorem ZQg (a1:Node) (b2:Node):Snd Tryz.prog ZR7 [eNode a1,eNode b2] (.bool (laws_eqNode a1 b2)) []:=Zed (Zjj a1 b2)
def Zuf:L :=
.seq (rE 4 (cB false))
 (.seq (sR [mV 6 0,.ln 7 (.t 6),mV 8 1,.ln 9 (.t 8),bI 10 .neq 7 9]
 (.cond (.t 10) (.seq (rE 4 (cB false))
 gR)
 .skip))
 (.seq (.seq (rE 5 (kI 0))
 (.blk 0 (.loop (.gw (.seq (sR [mV 11 5,mV 12 0,.ln 13 (.t 12),bI 14 .lss 11 13]
 (.cond (.t 14) .skip
 (.exit 0)))
 (.seq (.blk 1 (.seq (.rq 10 [mV 17 0,mV 18 5,iA 19 17 18 4,lD 20 19 4 true,mV 21 1,mV 22 5,iA 23 21 22 4,lD 24 23 4 true,cQ 25 ZR7 [20,24],.un 26 (.t 25)])
 (.cond (.t 26) (.seq (rE 4 (cB false))
 gR)
 .skip)))
 (.reg [mV 15 5,.bi 16 .add (.t 15) (kI 1),mV 5 16])))))))
 (.seq (rE 4 (cB true))
 gR)))
def ZP2 (a1:List Node) (b2:List Node) (v4:Int) (k4:Int -> Option Bool):Option Bool :=
 bif (decide (v4 < (a1.length:Int))) then ((idx a1 v4).bind fun e6=>(idx b2 v4).bind fun e7=>bif (!(laws_eqNode e6 e7)) then (some false) else (k4 (w64 (v4 + 1)))) else (some true)
def laws_eqNodeS (a1:List Node) (b2:List Node):Option Bool :=
 bif ((a1.length:Int) != (b2.length:Int)) then (some false) else (whl (ZP2 a1 b2) 9223372036854775807 0)
theorem ZRe {a1:List Node} {b2:List Node} {r:Bool} (H:laws_eqNodeS a1 b2 = some r):Snd Tryz.prog Z7a [.sl .rd 4 (a1.map eNode),.sl .rd 4 (b2.map eNode)] (.bool r) []:=by
 refine wS Zuf [.t 4] ?_
 unfold laws_eqNodeS at H
 refine wG [.u 7 (.ln _ _ fun _=>lm a1 eNode),.u 9 (.ln _ _ fun _=>lm b2 eNode)] fun q3=>?_
 refine Wh_iH H (fun H=>?_) fun H=>?_
 .refine wP ?_
  replace H:=sI H; subst H
  exact wE [(4,.d)]
 .refine wP ?_
  refine wW (fun (v4:Int)=>⟨[(0,.sl .rd 4 (a1.map eNode)),(1,.sl .rd 4 (b2.map eNode)),(5,.int .i64 v4)],[],[],[]⟩) H (fun v4 I m k4 H N25=>?_)
  unfold ZP2 at H
  refine wG [.u 13 (.ln _ _ fun _=>lm a1 eNode)] fun q5=>?_
  refine Wh_iH H (fun H=>?_) fun H=>?_
  .obtain ⟨e6,h6,H⟩:=bB H
   obtain ⟨e7,h7,H⟩:=bB H
   refine wG [.u 19 (.ix _ _ _ fun _=>Z0 eNode h6),.u 23 (.ix _ _ _ fun _=>Z0 eNode h7),.c 25 (ZQg e6 e7)] fun _=>?_
   refine Wh_iH H (fun H=>?_) fun H=>?_
   .refine wP ?_
    replace H:=sI H; subst H
    exact wE [(4,.d)]
   .refine wP ?_
    exact wT (N25 _ H)
  .refine wP ?_
   replace H:=sI H; subst H
   exact wE [(4,.d)]
def Zqh:L :=
sR [.bx 2 (.t 0),.bx 3 (.t 1),.mv 4 (cB false)]
 (.seq (sR [fA 5 2 0,lD 6 5 1 false,fA 7 3 0,lD 8 7 1 false,cQ 9 ZS7 [6,8],.un 10 (.t 9)]
 (.cond (.t 10) (.seq (rE 4 (cB false))
 gR)
 .skip))
 (.seq (sR [fA 11 2 1,lD 12 11 1 false,fA 13 3 1,lD 14 13 1 false,cQ 15 Z7a [12,14],.un 16 (.t 15)]
 (.cond (.t 16) (.seq (rE 4 (cB false))
 gR)
 .skip))
 (.seq (rE 4 (cB true))
 gR)))
def laws_eqTopo (a1:Topo) (b2:Topo):Option Bool :=
 (laws_eqIntS a1.parents b2.parents).bind fun b3=>bif (!b3) then (some false) else ((laws_eqNodeS a1.nodes b2.nodes).bind fun b4=>bif (!b4) then (some false) else (some true))
theorem ZMg {a1:Topo} {b2:Topo} {r:Bool} (H:laws_eqTopo a1 b2 = some r):Snd Tryz.prog Zmb [ZF .rd a1,ZF .rd b2] (.bool r) []:=by
 refine wS Zqh [.t 4] ?_
 unfold laws_eqTopo at H
 obtain ⟨b3,h3,H⟩:=bB H
 refine wG [.c 9 (ZP9 h3)] fun _=>?_
 refine Wh_iH H (fun H=>?_) fun H=>?_
 .refine wP ?_
  replace H:=sI H; subst H
  exact wE [(4,.d)]
 .obtain ⟨b4,h4,H⟩:=bB H
  refine wG [.c 15 (ZRe h4)] fun _=>?_
  refine Wh_iH H (fun H=>?_) fun H=>?_
  .refine wP ?_
   replace H:=sI H; subst H
   exact wE [(4,.d)]
  .refine wP ?_
   replace H:=sI H; subst H
   exact wE [(4,.d)]
def Zwj:L :=
sR [.bx 1 (.t 0),.al 2 [.int .i64 0,.int .i64 0,.int .i64 0,.int .i64 0,.int .i64 0,.int .i64 0,.int .i64 0,.int .i64 0,.int .i64 0,.int .i64 0,.int .i64 0]]
 (sR [.al 3 [.int .i64 0,.int .i64 0,.int .i64 0,.int .i64 0,.int .i64 0,.int .i64 0,.int .i64 0,.int .i64 0,.int .i64 0,.int .i64 0,.int .i64 0]]
 (sR [fA 4 1 0,lD 5 4 1 false,fA 6 3 0,.st (.t 6) (.t 5) 1]
 (sR [fA 7 1 1,lD 8 7 1 false,fA 9 3 1,.st (.t 9) (.t 8) 1]
 (sR [fA 10 1 2,lD 11 10 1 false,fA 12 3 2,.st (.t 12) (.t 11) 1]
 (sR [fA 13 1 3,lD 14 13 3 true,cQ 15 Zc2 [14],fA 16 3 3,.st (.t 16) (.t 15) 3]
 (sR [fA 17 1 6,lD 18 17 3 true,cQ 19 Zc2 [18],fA 20 3 6,.st (.t 20) (.t 19) 3]
 (sR [fA 21 1 9,lD 22 21 1 false,fA 23 3 9,.st (.t 23) (.t 22) 1]
 (sR [fA 24 1 10,lD 25 24 1 false,fA 26 3 10,.st (.t 26) (.t 25) 1]
 (sR [lD 27 3 11 true,.st (.t 2) (.t 27) 11]
 gR)))))))))
def ZZ5 (a1:Job):Option Job :=
 some (Job.mk a1.id a1.prio a1.nodes (laws_toVec a1.need) (laws_toVec a1.lic) a1.wall a1.level)
theorem ZBe {a1:Job} {r:Job} (H:ZZ5 a1 = some r):Snd Tryz.prog Zl6 [eJob a1] (eJob r) []:=by
 refine wS Zwj [.c 2 11 true] ?_
 unfold ZZ5 at H
 refine wG [.c 15 (Zd3 a1.need),.c 19 (Zd3 a1.lic)] fun _=>?_
 replace H:=sI H; subst H
 exact wN [(2,.d)] [(2,[])] [] [] [] []
def laws_toJob (a1:Job):Job :=
 (Job.mk a1.id a1.prio a1.nodes (laws_toVec a1.need) (laws_toVec a1.lic) a1.wall a1.level)
theorem ZMk (a1:Job):ZZ5 a1 = some (laws_toJob a1):=by
 unfold ZZ5 laws_toJob
 first | rfl | simp only [Z7]
theorem ZIa (a1:Job):Snd Tryz.prog Zl6 [eJob a1] (eJob (laws_toJob a1)) []:=ZBe (ZMk a1)
def Zlf:L :=
sR [.mv 2 (.c (.nl))]
 (sR [mV 5 0,.ln 6 (.t 5),.ms 7 1 1 [.bool false] (.t 6),mV 3 7]
 (.seq (.seq (rE 4 (kI 0))
 (.blk 0 (.loop (.gw (.seq (sR [mV 8 4,mV 9 0,.ln 10 (.t 9),bI 11 .lss 8 10]
 (.cond (.t 11) .skip
 (.exit 0)))
 (.seq (.blk 1 (.reg [mV 14 3,mV 15 4,mV 16 0,mV 17 4,iA 18 16 17 1,lD 19 18 1 false,iA 20 14 15 1,.st (.t 20) (.t 19) 1]))
 (.reg [mV 12 4,.bi 13 .add (.t 12) (kI 1),mV 4 13])))))))
 (sR [mV 21 3,mV 2 21]
 gR)))
def ZM2 (a1:List Bool) (v4:Int × (List Bool)) (k4:(Int × (List Bool)) -> Option (List Bool)):Option (List Bool) :=
 bif (decide (v4.1 < (a1.length:Int))) then ((idx a1 v4.1).bind fun e6=>(idx v4.2 v4.1).bind fun _=>k4 ((w64 (v4.1 + 1)),(v4.2.set v4.1.toNat e6))) else (some v4.2)
def laws_toBoolS (a1:List Bool):Option (List Bool) :=
 (mkL 1 (a1.length:Int) false).bind fun xs2=>whl (ZM2 a1) 9223372036854775807 (0,xs2)
theorem ZEe {a1:List Bool} {r:(List Bool)} (H:laws_toBoolS a1 = some r):Snd Tryz.prog Z4a [.sl .rd 1 (a1.map eBo)] (.sl .nw 1 (r.map eBo)) []:=by
 refine wS Zlf [.t 2] ?_
 unfold laws_toBoolS at H
 obtain ⟨xs2,h2,H⟩:=bB H
 refine wG [.u 6 (.ln _ _ fun _=>lm a1 eBo),.u 7 (.ms _ _ _ _ fun _=>ZC6 eBo h2)] fun q3=>?_
 refine wW (fun (v4:Int × (List Bool))=>⟨[(0,.sl .rd 1 (a1.map eBo)),(3,.sref 7),(4,.int .i64 v4.1)],[],[],[(7,⟨1,v4.2.map eBo,false⟩)]⟩) H (fun v4 I m k4 H N13=>?_)
 unfold ZM2 at H
 refine wG [.u 10 (.ln _ _ fun _=>lm a1 eBo)] fun q5=>?_
 refine Wh_iH H (fun H=>?_) fun H=>?_
 .obtain ⟨e6,h6,H⟩:=bB H
  obtain ⟨e7,h7,H⟩:=bB H
  refine wG [.u 18 (.ix _ _ _ fun _=>Z0 eBo h6),.u 20 (.ix _ _ _ fun _=>Z0 eBo h7),.u 1000000 (.sto _ _ _ (eBo e6) _ (fun _=>gm eBo (Zt1 h7)) (fun _=>ZD4 ..))] fun _=>?_
  exact wT (N13 _ H)
 .refine wP ?_
  replace H:=sI H; subst H
  exact wN [(2,.f)] [] [] [7] [] [⟨_,nw_Bo v4.2⟩]
def Zqf:L :=
.seq (rE 4 (kI 0))
 (sR [mV 5 1,mV 6 0,.ln 7 (.t 6),bI 8 .sub 5 7,mV 1 8]
 (.seq (sR [mV 9 1,.bi 10 .lss (.t 9) (kI 0)]
 (.cond (.t 10) (.seq (rE 4 (kI (-1)))
 gR)
 .skip))
 (sR [mV 11 1,mV 4 11]
 gR)))
def Z84 (a1:List Bool) (left2:Int):Option Int :=
 bif (decide ((w64 (left2 - (a1.length:Int))) < 0)) then (some (-1)) else (some (w64 (left2 - (a1.length:Int))))
theorem ZSb {a1:List Bool} {left2:Int} {r:Int} (H:Z84 a1 left2 = some r):Snd Tryz.prog Z37 [.sl .rd 1 (a1.map eBo),.int .i64 left2] (.int .i64 r) []:=by
 refine wS Zqf [.t 4] ?_
 unfold Z84 at H
 refine wG [.u 7 (.ln _ _ fun _=>lm a1 eBo)] fun q3=>?_
 refine Wh_iH H (fun H=>?_) fun H=>?_
 .refine wP ?_
  replace H:=sI H; subst H
  exact wE [(4,.d)]
 .refine wP ?_
  replace H:=sI H; subst H
  exact wE [(4,.d)]
def laws_szBoolS (a1:List Bool) (left2:Int):Int :=
 bif (decide ((w64 (left2 - (a1.length:Int))) < 0)) then ((-1)) else ((w64 (left2 - (a1.length:Int))))
theorem ZLg (a1:List Bool) (left2:Int):Z84 a1 left2 = some (laws_szBoolS a1 left2):=by
 unfold Z84 laws_szBoolS
 first | rfl | simp only [Z7]
theorem ZLe (a1:List Bool) (left2:Int):Snd Tryz.prog Z37 [.sl .rd 1 (a1.map eBo),.int .i64 left2] (.int .i64 (laws_szBoolS a1 left2)) []:=ZSb (ZLg a1 left2)
def Zvf:L :=
.seq (rE 4 (cB false))
 (.seq (sR [mV 6 0,.ln 7 (.t 6),mV 8 1,.ln 9 (.t 8),bI 10 .neq 7 9]
 (.cond (.t 10) (.seq (rE 4 (cB false))
 gR)
 .skip))
 (.seq (.seq (rE 5 (kI 0))
 (.blk 0 (.loop (.gw (.seq (sR [mV 11 5,mV 12 0,.ln 13 (.t 12),bI 14 .lss 11 13]
 (.cond (.t 14) .skip
 (.exit 0)))
 (.seq (.blk 1 (.seq (.rq 9 [mV 17 0,mV 18 5,iA 19 17 18 1,lD 20 19 1 false,mV 21 1,mV 22 5,iA 23 21 22 1,lD 24 23 1 false,.eb 25 true (.t 20) (.t 24)])
 (.cond (.t 25) (.seq (rE 4 (cB false))
 gR)
 .skip)))
 (.reg [mV 15 5,.bi 16 .add (.t 15) (kI 1),mV 5 16])))))))
 (.seq (rE 4 (cB true))
 gR)))
def ZQ2 (a1:List Bool) (b2:List Bool) (v4:Int) (k4:Int -> Option Bool):Option Bool :=
 bif (decide (v4 < (a1.length:Int))) then ((idx a1 v4).bind fun e6=>(idx b2 v4).bind fun e7=>bif (!(e6 == e7)) then (some false) else (k4 (w64 (v4 + 1)))) else (some true)
def laws_eqBoolS (a1:List Bool) (b2:List Bool):Option Bool :=
 bif ((a1.length:Int) != (b2.length:Int)) then (some false) else (whl (ZQ2 a1 b2) 9223372036854775807 0)
theorem ZXe {a1:List Bool} {b2:List Bool} {r:Bool} (H:laws_eqBoolS a1 b2 = some r):Snd Tryz.prog Z8a [.sl .rd 1 (a1.map eBo),.sl .rd 1 (b2.map eBo)] (.bool r) []:=by
 refine wS Zvf [.t 4] ?_
 unfold laws_eqBoolS at H
 refine wG [.u 7 (.ln _ _ fun _=>lm a1 eBo),.u 9 (.ln _ _ fun _=>lm b2 eBo)] fun q3=>?_
 refine Wh_iH H (fun H=>?_) fun H=>?_
 .refine wP ?_
  replace H:=sI H; subst H
  exact wE [(4,.d)]
 .refine wP ?_
  refine wW (fun (v4:Int)=>⟨[(0,.sl .rd 1 (a1.map eBo)),(1,.sl .rd 1 (b2.map eBo)),(5,.int .i64 v4)],[],[],[]⟩) H (fun v4 I m k4 H N25=>?_)
  unfold ZQ2 at H
  refine wG [.u 13 (.ln _ _ fun _=>lm a1 eBo)] fun q5=>?_
  refine Wh_iH H (fun H=>?_) fun H=>?_
  .obtain ⟨e6,h6,H⟩:=bB H
   obtain ⟨e7,h7,H⟩:=bB H
   refine wG [.u 19 (.ix _ _ _ fun _=>Z0 eBo h6),.u 23 (.ix _ _ _ fun _=>Z0 eBo h7)] fun _=>?_
   refine Wh_iH H (fun H=>?_) fun H=>?_
   .refine wP ?_
    replace H:=sI H; subst H
    exact wE [(4,.d)]
   .refine wP ?_
    exact wT (N25 _ H)
  .refine wP ?_
   replace H:=sI H; subst H
   exact wE [(4,.d)]
def Zeh:L :=
sR [.mv 2 (.c (.nl))]
 (sR [mV 5 0,.ln 6 (.t 5),.ms 7 11 88 [.int .i64 0,.int .i64 0,.int .i64 0,.int .i64 0,.int .i64 0,.int .i64 0,.int .i64 0,.int .i64 0,.int .i64 0,.int .i64 0,.int .i64 0] (.t 6),mV 3 7]
 (.seq (.seq (rE 4 (kI 0))
 (.blk 0 (.loop (.gw (.seq (sR [mV 8 4,mV 9 0,.ln 10 (.t 9),bI 11 .lss 8 10]
 (.cond (.t 11) .skip
 (.exit 0)))
 (.seq (.blk 1 (.reg [mV 14 3,mV 15 4,mV 16 0,mV 17 4,iA 18 16 17 11,lD 19 18 11 true,cQ 20 Zl6 [19],iA 21 14 15 11,.st (.t 21) (.t 20) 11]))
 (.reg [mV 12 4,.bi 13 .add (.t 12) (kI 1),mV 4 13])))))))
 (sR [mV 22 3,mV 2 22]
 gR)))
def Zf3 (a1:List Job) (v4:Int × (List Job)) (k4:(Int × (List Job)) -> Option (List Job)):Option (List Job) :=
 bif (decide (v4.1 < (a1.length:Int))) then ((idx a1 v4.1).bind fun e6=>(idx v4.2 v4.1).bind fun _=>k4 ((w64 (v4.1 + 1)),(v4.2.set v4.1.toNat (Job.mk ((laws_toJob e6).id) ((laws_toJob e6).prio) ((laws_toJob e6).nodes) ((laws_toJob e6).need) ((laws_toJob e6).lic) ((laws_toJob e6).wall) ((laws_toJob e6).level))))) else (some v4.2)
def laws_toJobS (a1:List Job):Option (List Job) :=
 (mkL 88 (a1.length:Int) (Job.mk 0 0 0 (Vec.mk 0 0 0) (Vec.mk 0 0 0) 0 0)).bind fun xs2=>whl (Zf3 a1) 9223372036854775807 (0,xs2)
theorem Ztg {a1:List Job} {r:(List Job)} (H:laws_toJobS a1 = some r):Snd Tryz.prog Zhb [.sl .rd 11 (a1.map eJob)] (.sl .nw 11 (r.map eJob)) []:=by
 refine wS Zeh [.t 2] ?_
 unfold laws_toJobS at H
 obtain ⟨xs2,h2,H⟩:=bB H
 refine wG [.u 6 (.ln _ _ fun _=>lm a1 eJob),.u 7 (.ms _ _ _ _ fun _=>ZC6 eJob h2)] fun q3=>?_
 refine wW (fun (v4:Int × (List Job))=>⟨[(0,.sl .rd 11 (a1.map eJob)),(3,.sref 7),(4,.int .i64 v4.1)],[],[],[(7,⟨11,v4.2.map eJob,false⟩)]⟩) H (fun v4 I m k4 H N13=>?_)
 unfold Zf3 at H
 refine wG [.u 10 (.ln _ _ fun _=>lm a1 eJob)] fun q5=>?_
 refine Wh_iH H (fun H=>?_) fun H=>?_
 .obtain ⟨e6,h6,H⟩:=bB H
  obtain ⟨e7,h7,H⟩:=bB H
  refine wG [.u 18 (.ix _ _ _ fun _=>Z0 eJob h6),.c 20 (ZIa e6),.u 21 (.ix _ _ _ fun _=>Z0 eJob h7),.u 1000000 (.sto _ _ _ (eJob (Job.mk ((laws_toJob e6).id) ((laws_toJob e6).prio) ((laws_toJob e6).nodes) ((laws_toJob e6).need) ((laws_toJob e6).lic) ((laws_toJob e6).wall) ((laws_toJob e6).level))) _ (fun _=>gm eJob (Zt1 h7)) (fun _=>ZD4 ..))] fun _=>?_
  exact wT (N13 _ H)
 .refine wP ?_
  replace H:=sI H; subst H
  exact wN [(2,.f)] [] [] [7] [] [⟨_,ZDk v4.2⟩]
def Zlh:L :=
.seq (rE 4 (kI 0))
 (sR [mV 5 1,mV 6 0,.ln 7 (.t 6),bI 8 .sub 5 7,mV 1 8]
 (.seq (sR [mV 9 1,.bi 10 .lss (.t 9) (kI 0)]
 (.cond (.t 10) (.seq (rE 4 (kI (-1)))
 gR)
 .skip))
 (sR [mV 11 1,mV 4 11]
 gR)))
def ZX4 (a1:List Job) (left2:Int):Option Int :=
 bif (decide ((w64 (left2 - (a1.length:Int))) < 0)) then (some (-1)) else (some (w64 (left2 - (a1.length:Int))))
theorem Z4d {a1:List Job} {left2:Int} {r:Int} (H:ZX4 a1 left2 = some r):Snd Tryz.prog ZO7 [.sl .rd 11 (a1.map eJob),.int .i64 left2] (.int .i64 r) []:=by
 refine wS Zlh [.t 4] ?_
 unfold ZX4 at H
 refine wG [.u 7 (.ln _ _ fun _=>lm a1 eJob)] fun q3=>?_
 refine Wh_iH H (fun H=>?_) fun H=>?_
 .refine wP ?_
  replace H:=sI H; subst H
  exact wE [(4,.d)]
 .refine wP ?_
  replace H:=sI H; subst H
  exact wE [(4,.d)]
def laws_szJobS (a1:List Job) (left2:Int):Int :=
 bif (decide ((w64 (left2 - (a1.length:Int))) < 0)) then ((-1)) else ((w64 (left2 - (a1.length:Int))))
theorem Zej (a1:List Job) (left2:Int):ZX4 a1 left2 = some (laws_szJobS a1 left2):=by
 unfold ZX4 laws_szJobS
 first | rfl | simp only [Z7]
theorem ZGg (a1:List Job) (left2:Int):Snd Tryz.prog ZO7 [.sl .rd 11 (a1.map eJob),.int .i64 left2] (.int .i64 (laws_szJobS a1 left2)) []:=Z4d (Zej a1 left2)
def ZCj:L :=
sR [.bx 2 (.t 0),.bx 3 (.t 1),.mv 4 (cB false)]
 (.seq (sR [fA 5 2 0,lD 6 5 1 false,fA 7 3 0,lD 8 7 1 false,bI 9 .neq 6 8]
 (.cond (.t 9) (.seq (rE 4 (cB false))
 gR)
 .skip))
 (.seq (sR [fA 10 2 1,lD 11 10 1 false,fA 12 3 1,lD 13 12 1 false,bI 14 .neq 11 13]
 (.cond (.t 14) (.seq (rE 4 (cB false))
 gR)
 .skip))
 (.seq (sR [fA 15 2 2,lD 16 15 1 false,fA 17 3 2,lD 18 17 1 false,bI 19 .neq 16 18]
 (.cond (.t 19) (.seq (rE 4 (cB false))
 gR)
 .skip))
 (.seq (sR [fA 20 2 3,lD 21 20 3 true,fA 22 3 3,lD 23 22 3 true,cQ 24 Zd2 [21,23],.un 25 (.t 24)]
 (.cond (.t 25) (.seq (rE 4 (cB false))
 gR)
 .skip))
 (.seq (sR [fA 26 2 6,lD 27 26 3 true,fA 28 3 6,lD 29 28 3 true,cQ 30 Zd2 [27,29],.un 31 (.t 30)]
 (.cond (.t 31) (.seq (rE 4 (cB false))
 gR)
 .skip))
 (.seq (sR [fA 32 2 9,lD 33 32 1 false,fA 34 3 9,lD 35 34 1 false,bI 36 .neq 33 35]
 (.cond (.t 36) (.seq (rE 4 (cB false))
 gR)
 .skip))
 (.seq (sR [fA 37 2 10,lD 38 37 1 false,fA 39 3 10,lD 40 39 1 false,bI 41 .neq 38 40]
 (.cond (.t 41) (.seq (rE 4 (cB false))
 gR)
 .skip))
 (.seq (rE 4 (cB true))
 gR))))))))
def Z46 (a1:Job) (b2:Job):Option Bool :=
 bif (a1.id != b2.id) then (some false) else (bif (a1.prio != b2.prio) then (some false) else (bif (a1.nodes != b2.nodes) then (some false) else (bif (!(laws_eqVec a1.need b2.need)) then (some false) else (bif (!(laws_eqVec a1.lic b2.lic)) then (some false) else (bif (a1.wall != b2.wall) then (some false) else (bif (a1.level != b2.level) then (some false) else (some true)))))))
theorem ZSe {a1:Job} {b2:Job} {r:Bool} (H:Z46 a1 b2 = some r):Snd Tryz.prog Zm6 [eJob a1,eJob b2] (.bool r) []:=by
 refine wS ZCj [.t 4] ?_
 unfold Z46 at H
 refine wP ?_
 refine Wh_iH H (fun H=>?_) fun H=>?_
 .refine wP ?_
  replace H:=sI H; subst H
  exact wE [(4,.d)]
 .refine wP ?_
  refine Wh_iH H (fun H=>?_) fun H=>?_
  .refine wP ?_
   replace H:=sI H; subst H
   exact wE [(4,.d)]
  .refine wP ?_
   refine Wh_iH H (fun H=>?_) fun H=>?_
   .refine wP ?_
    replace H:=sI H; subst H
    exact wE [(4,.d)]
   .refine wG [.c 24 (Zk3 a1.need b2.need)] fun _=>?_
    refine Wh_iH H (fun H=>?_) fun H=>?_
    .refine wP ?_
     replace H:=sI H; subst H
     exact wE [(4,.d)]
    .refine wG [.c 30 (Zk3 a1.lic b2.lic)] fun _=>?_
     refine Wh_iH H (fun H=>?_) fun H=>?_
     .refine wP ?_
      replace H:=sI H; subst H
      exact wE [(4,.d)]
     .refine wP ?_
      refine Wh_iH H (fun H=>?_) fun H=>?_
      .refine wP ?_
       replace H:=sI H; subst H
       exact wE [(4,.d)]
      .refine wP ?_
       refine Wh_iH H (fun H=>?_) fun H=>?_
       .refine wP ?_
        replace H:=sI H; subst H
        exact wE [(4,.d)]
       .refine wP ?_
        replace H:=sI H; subst H
        exact wE [(4,.d)]
def laws_eqJob (a1:Job) (b2:Job):Bool :=
 bif (a1.id != b2.id) then (false) else (bif (a1.prio != b2.prio) then (false) else (bif (a1.nodes != b2.nodes) then (false) else (bif (!(laws_eqVec a1.need b2.need)) then (false) else (bif (!(laws_eqVec a1.lic b2.lic)) then (false) else (bif (a1.wall != b2.wall) then (false) else (bif (a1.level != b2.level) then (false) else (true)))))))
theorem ZRk (a1:Job) (b2:Job):Z46 a1 b2 = some (laws_eqJob a1 b2):=by
 unfold Z46 laws_eqJob
 first | rfl | simp only [Z7]
theorem ZOa (a1:Job) (b2:Job):Snd Tryz.prog Zm6 [eJob a1,eJob b2] (.bool (laws_eqJob a1 b2)) []:=ZSe (ZRk a1 b2)
def Zth:L :=
.seq (rE 4 (cB false))
 (.seq (sR [mV 6 0,.ln 7 (.t 6),mV 8 1,.ln 9 (.t 8),bI 10 .neq 7 9]
 (.cond (.t 10) (.seq (rE 4 (cB false))
 gR)
 .skip))
 (.seq (.seq (rE 5 (kI 0))
 (.blk 0 (.loop (.gw (.seq (sR [mV 11 5,mV 12 0,.ln 13 (.t 12),bI 14 .lss 11 13]
 (.cond (.t 14) .skip
 (.exit 0)))
 (.seq (.blk 1 (.seq (.rq 10 [mV 17 0,mV 18 5,iA 19 17 18 11,lD 20 19 11 true,mV 21 1,mV 22 5,iA 23 21 22 11,lD 24 23 11 true,cQ 25 Zm6 [20,24],.un 26 (.t 25)])
 (.cond (.t 26) (.seq (rE 4 (cB false))
 gR)
 .skip)))
 (.reg [mV 15 5,.bi 16 .add (.t 15) (kI 1),mV 5 16])))))))
 (.seq (rE 4 (cB true))
 gR)))
def Zm3 (a1:List Job) (b2:List Job) (v4:Int) (k4:Int -> Option Bool):Option Bool :=
 bif (decide (v4 < (a1.length:Int))) then ((idx a1 v4).bind fun e6=>(idx b2 v4).bind fun e7=>bif (!(laws_eqJob e6 e7)) then (some false) else (k4 (w64 (v4 + 1)))) else (some true)
def laws_eqJobS (a1:List Job) (b2:List Job):Option Bool :=
 bif ((a1.length:Int) != (b2.length:Int)) then (some false) else (whl (Zm3 a1 b2) 9223372036854775807 0)
theorem ZRg {a1:List Job} {b2:List Job} {r:Bool} (H:laws_eqJobS a1 b2 = some r):Snd Tryz.prog Zob [.sl .rd 11 (a1.map eJob),.sl .rd 11 (b2.map eJob)] (.bool r) []:=by
 refine wS Zth [.t 4] ?_
 unfold laws_eqJobS at H
 refine wG [.u 7 (.ln _ _ fun _=>lm a1 eJob),.u 9 (.ln _ _ fun _=>lm b2 eJob)] fun q3=>?_
 refine Wh_iH H (fun H=>?_) fun H=>?_
 .refine wP ?_
  replace H:=sI H; subst H
  exact wE [(4,.d)]
 .refine wP ?_
  refine wW (fun (v4:Int)=>⟨[(0,.sl .rd 11 (a1.map eJob)),(1,.sl .rd 11 (b2.map eJob)),(5,.int .i64 v4)],[],[],[]⟩) H (fun v4 I m k4 H N25=>?_)
  unfold Zm3 at H
  refine wG [.u 13 (.ln _ _ fun _=>lm a1 eJob)] fun q5=>?_
  refine Wh_iH H (fun H=>?_) fun H=>?_
  .obtain ⟨e6,h6,H⟩:=bB H
   obtain ⟨e7,h7,H⟩:=bB H
   refine wG [.u 19 (.ix _ _ _ fun _=>Z0 eJob h6),.u 23 (.ix _ _ _ fun _=>Z0 eJob h7),.c 25 (ZOa e6 e7)] fun _=>?_
   refine Wh_iH H (fun H=>?_) fun H=>?_
   .refine wP ?_
    replace H:=sI H; subst H
    exact wE [(4,.d)]
   .refine wP ?_
    exact wT (N25 _ H)
  .refine wP ?_
   replace H:=sI H; subst H
   exact wE [(4,.d)]
def Zvj:L :=
sR [.bx 1 (.t 0),.al 2 [.int .i64 0,.int .i64 0,.int .i64 0,.int .i64 0,.int .i64 0,.int .i64 0,.int .i64 0,.int .i64 0,.int .i64 0,.int .i64 0,.int .i64 0,.int .i64 0,.nl]]
 (sR [.al 3 [.int .i64 0,.int .i64 0,.int .i64 0,.int .i64 0,.int .i64 0,.int .i64 0,.int .i64 0,.int .i64 0,.int .i64 0,.int .i64 0,.int .i64 0,.int .i64 0,.nl]]
 (sR [fA 4 1 0,lD 5 4 11 true,cQ 6 Zl6 [5],fA 7 3 0,.st (.t 7) (.t 6) 11]
 (sR [fA 8 1 11,lD 9 8 1 false,fA 10 3 11,.st (.t 10) (.t 9) 1]
 (sR [fA 11 1 12,lD 12 11 1 false,cQ 13 ZM7 [12],fA 14 3 12,.st (.t 14) (.t 13) 1]
 (sR [lD 15 3 13 true,.st (.t 2) (.t 15) 13]
 gR)))))
def laws_toRun (a1:Run):Option Run :=
 (laws_toIntS a1.nodes).bind fun y2=>some (Run.mk (Job.mk ((laws_toJob a1.job).id) ((laws_toJob a1.job).prio) ((laws_toJob a1.job).nodes) ((laws_toJob a1.job).need) ((laws_toJob a1.job).lic) ((laws_toJob a1.job).wall) ((laws_toJob a1.job).level)) a1.t y2)
theorem Z7j {a1:Run} {r:Run} (H:laws_toRun a1 = some r):Snd Tryz.prog ZCc [eRunT .rd a1] (eRunT .nw r) []:=by
 refine wS Zvj [.c 2 13 true] ?_
 unfold laws_toRun at H
 obtain ⟨y2,h2,H⟩:=bB H
 refine wG [.c 6 (ZIa a1.job),.c 13 (ZM9 h2)] fun _=>?_
 replace H:=sI H; subst H
 exact wN [(2,.d)] [(2,[])] [] [] [] [⟨_,nw_I y2⟩]
def Zch:L :=
sR [.mv 2 (.c (.nl))]
 (sR [mV 5 0,.ln 6 (.t 5),.ms 7 13 120 [.int .i64 0,.int .i64 0,.int .i64 0,.int .i64 0,.int .i64 0,.int .i64 0,.int .i64 0,.int .i64 0,.int .i64 0,.int .i64 0,.int .i64 0,.int .i64 0,.sl .nw 1 []] (.t 6),mV 3 7]
 (.seq (.seq (rE 4 (kI 0))
 (.blk 0 (.loop (.gw (.seq (sR [mV 8 4,mV 9 0,.ln 10 (.t 9),bI 11 .lss 8 10]
 (.cond (.t 11) .skip
 (.exit 0)))
 (.seq (.blk 1 (.reg [mV 14 3,mV 15 4,mV 16 0,mV 17 4,iA 18 16 17 13,lD 19 18 13 true,cQ 20 ZCc [19],iA 21 14 15 13,.st (.t 21) (.t 20) 13]))
 (.reg [mV 12 4,.bi 13 .add (.t 12) (kI 1),mV 4 13])))))))
 (sR [mV 22 3,mV 2 22]
 gR)))
def Ze3 (a1:List Run) (v4:Int × (List Run)) (k4:(Int × (List Run)) -> Option (List Run)):Option (List Run) :=
 bif (decide (v4.1 < (a1.length:Int))) then ((idx a1 v4.1).bind fun e6=>(laws_toRun e6).bind fun y7=>(idx v4.2 v4.1).bind fun _=>k4 ((w64 (v4.1 + 1)),(v4.2.set v4.1.toNat y7))) else (some v4.2)
def laws_toRunS (a1:List Run):Option (List Run) :=
 (mkL 120 (a1.length:Int) (Run.mk (Job.mk 0 0 0 (Vec.mk 0 0 0) (Vec.mk 0 0 0) 0 0) 0 [])).bind fun xs2=>whl (Ze3 a1) 9223372036854775807 (0,xs2)
theorem Zog {a1:List Run} {r:(List Run)} (H:laws_toRunS a1 = some r):Snd Tryz.prog Zgb [.sl .rd 13 (a1.map (eRunT .rd))] (.sl .nw 13 (r.map (eRunT .nw))) []:=by
 refine wS Zch [.t 2] ?_
 unfold laws_toRunS at H
 obtain ⟨xs2,h2,H⟩:=bB H
 refine wG [.u 6 (.ln _ _ fun _=>lm a1 (eRunT .rd)),.u 7 (.ms _ _ _ _ fun _=>ZC6 (eRunT .nw) h2)] fun q3=>?_
 refine wW (fun (v4:Int × (List Run))=>⟨[(0,.sl .rd 13 (a1.map (eRunT .rd))),(3,.sref 7),(4,.int .i64 v4.1)],[],[],[(7,⟨13,v4.2.map (eRunT .nw),false⟩)]⟩) H (fun v4 I m k4 H N13=>?_)
 unfold Ze3 at H
 refine wG [.u 10 (.ln _ _ fun _=>lm a1 (eRunT .rd))] fun q5=>?_
 refine Wh_iH H (fun H=>?_) fun H=>?_
 .obtain ⟨e6,h6,H⟩:=bB H
  obtain ⟨y7,h7,H⟩:=bB H
  obtain ⟨e8,h8,H⟩:=bB H
  refine wG [.u 18 (.ix _ _ _ fun _=>Z0 (eRunT .rd) h6),.c 20 (Z7j h7),.u 21 (.ix _ _ _ fun _=>Z0 (eRunT .nw) h8),.u 1000000 (.sto _ _ _ (eRunT .nw y7) _ (fun _=>gm (eRunT .nw) (Zt1 h8)) (fun _=>ZD4 ..))] fun _=>?_
  exact wT (N13 _ H)
 .refine wP ?_
  replace H:=sI H; subst H
  exact wN [(2,.f)] [] [] [7] [] [⟨_,Zvl v4.2⟩]
def Zxj:L :=
sR [.bx 1 (.t 0),.al 2 [.int .i64 0,.int .i64 0,.int .i64 0]]
 (sR [.al 3 [.int .i64 0,.int .i64 0,.int .i64 0]]
 (sR [fA 4 1 0,lD 5 4 1 false,fA 6 3 0,.st (.t 6) (.t 5) 1]
 (sR [fA 7 1 1,lD 8 7 1 false,fA 9 3 1,.st (.t 9) (.t 8) 1]
 (sR [fA 10 1 2,lD 11 10 1 false,fA 12 3 2,.st (.t 12) (.t 11) 1]
 (sR [lD 13 3 3 true,.st (.t 2) (.t 13) 3]
 gR)))))
def Z06 (a1:End):Option End :=
 some a1
theorem ZCe {a1:End} {r:End} (H:Z06 a1 = some r):Snd Tryz.prog Zc9 [eEnd a1] (eEnd r) []:=by
 refine wS Zxj [.c 2 3 true] ?_
 unfold Z06 at H
 refine wP ?_
 replace H:=sI H; subst H
 exact wN [(2,.d)] [(2,[])] [] [] [] []
def laws_toEnd (a1:End):End :=
 a1
theorem ZNk (a1:End):Z06 a1 = some (laws_toEnd a1):=by
 unfold Z06 laws_toEnd
 first | rfl | simp only [Z7]
theorem Zaj (a1:End):Snd Tryz.prog Zc9 [eEnd a1] (eEnd (laws_toEnd a1)) []:=ZCe (ZNk a1)
def Zgh:L :=
sR [.mv 2 (.c (.nl))]
 (sR [mV 5 0,.ln 6 (.t 5),.ms 7 3 24 [.int .i64 0,.int .i64 0,.int .i64 0] (.t 6),mV 3 7]
 (.seq (.seq (rE 4 (kI 0))
 (.blk 0 (.loop (.gw (.seq (sR [mV 8 4,mV 9 0,.ln 10 (.t 9),bI 11 .lss 8 10]
 (.cond (.t 11) .skip
 (.exit 0)))
 (.seq (.blk 1 (.reg [mV 14 3,mV 15 4,mV 16 0,mV 17 4,iA 18 16 17 3,lD 19 18 3 true,cQ 20 Zc9 [19],iA 21 14 15 3,.st (.t 21) (.t 20) 3]))
 (.reg [mV 12 4,.bi 13 .add (.t 12) (kI 1),mV 4 13])))))))
 (sR [mV 22 3,mV 2 22]
 gR)))
def Zh3 (a1:List End) (v4:Int × (List End)) (k4:(Int × (List End)) -> Option (List End)):Option (List End) :=
 bif (decide (v4.1 < (a1.length:Int))) then ((idx a1 v4.1).bind fun e6=>(idx v4.2 v4.1).bind fun _=>k4 ((w64 (v4.1 + 1)),(v4.2.set v4.1.toNat (laws_toEnd e6)))) else (some v4.2)
def laws_toEndS (a1:List End):Option (List End) :=
 (mkL 24 (a1.length:Int) (End.mk 0 0 0)).bind fun xs2=>whl (Zh3 a1) 9223372036854775807 (0,xs2)
theorem Zvg {a1:List End} {r:(List End)} (H:laws_toEndS a1 = some r):Snd Tryz.prog Zib [.sl .rd 3 (a1.map eEnd)] (.sl .nw 3 (r.map eEnd)) []:=by
 refine wS Zgh [.t 2] ?_
 unfold laws_toEndS at H
 obtain ⟨xs2,h2,H⟩:=bB H
 refine wG [.u 6 (.ln _ _ fun _=>lm a1 eEnd),.u 7 (.ms _ _ _ _ fun _=>ZC6 eEnd h2)] fun q3=>?_
 refine wW (fun (v4:Int × (List End))=>⟨[(0,.sl .rd 3 (a1.map eEnd)),(3,.sref 7),(4,.int .i64 v4.1)],[],[],[(7,⟨3,v4.2.map eEnd,false⟩)]⟩) H (fun v4 I m k4 H N13=>?_)
 unfold Zh3 at H
 refine wG [.u 10 (.ln _ _ fun _=>lm a1 eEnd)] fun q5=>?_
 refine Wh_iH H (fun H=>?_) fun H=>?_
 .obtain ⟨e6,h6,H⟩:=bB H
  obtain ⟨e7,h7,H⟩:=bB H
  refine wG [.u 18 (.ix _ _ _ fun _=>Z0 eEnd h6),.c 20 (Zaj e6),.u 21 (.ix _ _ _ fun _=>Z0 eEnd h7),.u 1000000 (.sto _ _ _ (eEnd (laws_toEnd e6)) _ (fun _=>gm eEnd (Zt1 h7)) (fun _=>ZD4 ..))] fun _=>?_
  exact wT (N13 _ H)
 .refine wP ?_
  replace H:=sI H; subst H
  exact wN [(2,.f)] [] [] [7] [] [⟨_,Zmn v4.2⟩]
def Zhf:L :=
sR [.bx 1 (.t 0),.al 2 [.nl,.nl,.nl,.int .i64 0,.int .i64 0,.int .i64 0,.int .i64 0,.int .i64 0,.nl,.nl,.nl]]
 (sR [.al 3 [.nl,.nl,.nl,.int .i64 0,.int .i64 0,.int .i64 0,.int .i64 0,.int .i64 0,.nl,.nl,.nl]]
 (sR [fA 4 1 0,lD 5 4 2 true,cQ 6 Zfb [5],fA 7 3 0,.st (.t 7) (.t 6) 2]
 (sR [fA 8 1 2,lD 9 8 1 false,cQ 10 Z4a [9],fA 11 3 2,.st (.t 11) (.t 10) 1]
 (sR [fA 12 1 3,lD 13 12 3 true,cQ 14 Zc2 [13],fA 15 3 3,.st (.t 15) (.t 14) 3]
 (sR [fA 16 1 6,lD 17 16 1 false,fA 18 3 6,.st (.t 18) (.t 17) 1]
 (sR [fA 19 1 7,lD 20 19 1 false,fA 21 3 7,.st (.t 21) (.t 20) 1]
 (sR [fA 22 1 8,lD 23 22 1 false,cQ 24 Zhb [23],fA 25 3 8,.st (.t 25) (.t 24) 1]
 (sR [fA 26 1 9,lD 27 26 1 false,cQ 28 Zgb [27],fA 29 3 9,.st (.t 29) (.t 28) 1]
 (sR [fA 30 1 10,lD 31 30 1 false,cQ 32 Zib [31],fA 33 3 10,.st (.t 33) (.t 32) 1]
 (sR [lD 34 3 11 true,.st (.t 2) (.t 34) 11]
 gR))))))))))
def laws_toState (a1:State):Option State :=
 (laws_toTopo a1.topo).bind fun y2=>(laws_toBoolS a1.up).bind fun y3=>(laws_toJobS a1.queue).bind fun y4=>(laws_toRunS a1.runs).bind fun y5=>(laws_toEndS a1.ends).bind fun y6=>some (State.mk y2 y3 (laws_toVec a1.lic) a1.depth a1.now y4 y5 y6)
theorem Zve {a1:State} {r:State} (H:laws_toState a1 = some r):Snd Tryz.prog Z2a [Z21 .rd a1] (Z21 .nw r) []:=by
 refine wS Zhf [.c 2 11 true] ?_
 unfold laws_toState at H
 obtain ⟨y2,h2,H⟩:=bB H
 obtain ⟨y3,h3,H⟩:=bB H
 obtain ⟨y4,h4,H⟩:=bB H
 obtain ⟨y5,h5,H⟩:=bB H
 obtain ⟨y6,h6,H⟩:=bB H
 refine wG [.c 6 (Zmg h2),.c 10 (ZEe h3),.c 14 (Zd3 a1.lic),.c 24 (Ztg h4),.c 28 (Zog h5),.c 32 (Zvg h6)] fun _=>?_
 replace H:=sI H; subst H
 exact wN [(2,.d)] [(2,[])] [] [] [] [⟨_,nw_I y2.parents⟩,⟨_,ZP y2.nodes⟩,⟨_,nw_Bo y3⟩,⟨_,ZDk y4⟩,⟨_,Zvl y5⟩,⟨_,Zmn y6⟩]
def Zzj:L :=
sR [.bx 2 (.t 0),.mv 4 (kI 0)]
 (sR [fA 5 2 12,lD 6 5 1 false,mV 7 1,cQ 8 Zc5 [6,7],mV 1 8]
 (.seq (sR [mV 9 1,.bi 10 .lss (.t 9) (kI 0)]
 (.cond (.t 10) (.seq (rE 4 (kI (-1)))
 gR)
 .skip))
 (sR [mV 11 1,mV 4 11]
 gR)))
def Z26 (a1:Run) (left2:Int):Option Int :=
 bif (decide ((laws_szIntS a1.nodes left2) < 0)) then (some (-1)) else (some (laws_szIntS a1.nodes left2))
theorem ZHe {a1:Run} {left2:Int} {r:Int} (H:Z26 a1 left2 = some r):Snd Tryz.prog Ze9 [eRunT .rd a1,.int .i64 left2] (.int .i64 r) []:=by
 refine wS Zzj [.t 4] ?_
 unfold Z26 at H
 refine wG [.c 8 (ZO9 a1.nodes left2)] fun _=>?_
 refine Wh_iH H (fun H=>?_) fun H=>?_
 .refine wP ?_
  replace H:=sI H; subst H
  exact wE [(4,.d)]
 .refine wP ?_
  replace H:=sI H; subst H
  exact wE [(4,.d)]
def laws_szRun (a1:Run) (left2:Int):Int :=
 bif (decide ((laws_szIntS a1.nodes left2) < 0)) then ((-1)) else ((laws_szIntS a1.nodes left2))
theorem ZPk (a1:Run) (left2:Int):Z26 a1 left2 = some (laws_szRun a1 left2):=by
 unfold Z26 laws_szRun
 first | rfl | simp only [Z7]
theorem Zdj (a1:Run) (left2:Int):Snd Tryz.prog Ze9 [eRunT .rd a1,.int .i64 left2] (.int .i64 (laws_szRun a1 left2)) []:=ZHe (ZPk a1 left2)
def Zkh:L :=
.seq (rE 4 (kI 0))
 (sR [mV 6 1,mV 7 0,.ln 8 (.t 7),bI 9 .sub 6 8,mV 1 9]
 (.seq (sR [mV 10 1,.bi 11 .lss (.t 10) (kI 0)]
 (.cond (.t 11) (.seq (rE 4 (kI (-1)))
 gR)
 .skip))
 (.seq (.seq (rE 5 (kI 0))
 (.blk 0 (.loop (.gw (.seq (sR [mV 12 5,mV 13 0,.ln 14 (.t 13),bI 15 .lss 12 14]
 (.cond (.t 15) .skip
 (.exit 0)))
 (.seq (.blk 1 (sR [mV 18 0,mV 19 5,iA 20 18 19 13,lD 21 20 13 true,mV 22 1,cQ 23 Ze9 [21,22],mV 1 23]
 (sR [mV 24 1,.bi 25 .lss (.t 24) (kI 0)]
 (.cond (.t 25) (.seq (rE 4 (kI (-1)))
 gR)
 .skip))))
 (.reg [mV 16 5,.bi 17 .add (.t 16) (kI 1),mV 5 17])))))))
 (sR [mV 26 1,mV 4 26]
 gR))))
def Zr5 (a1:List Run) (v4:Int × Int) (k4:(Int × Int) -> Option Int):Option Int :=
 bif (decide (v4.2 < (a1.length:Int))) then ((idx a1 v4.2).bind fun e6=>bif (decide ((laws_szRun e6 v4.1) < 0)) then (some (-1)) else (k4 ((laws_szRun e6 v4.1),(w64 (v4.2 + 1))))) else (some v4.1)
def laws_szRunS (a1:List Run) (left2:Int):Option Int :=
 bif (decide ((w64 (left2 - (a1.length:Int))) < 0)) then (some (-1)) else (whl (Zr5 a1) 9223372036854775807 ((w64 (left2 - (a1.length:Int))),0))
theorem ZCg {a1:List Run} {left2:Int} {r:Int} (H:laws_szRunS a1 left2 = some r):Snd Tryz.prog Zkb [.sl .rd 13 (a1.map (eRunT .rd)),.int .i64 left2] (.int .i64 r) []:=by
 refine wS Zkh [.t 4] ?_
 unfold laws_szRunS at H
 refine wG [.u 8 (.ln _ _ fun _=>lm a1 (eRunT .rd))] fun q3=>?_
 refine Wh_iH H (fun H=>?_) fun H=>?_
 .refine wP ?_
  replace H:=sI H; subst H
  exact wE [(4,.d)]
 .refine wP ?_
  refine wW (fun (v4:Int × Int)=>⟨[(0,.sl .rd 13 (a1.map (eRunT .rd))),(1,.int .i64 v4.1),(5,.int .i64 v4.2)],[],[],[]⟩) H (fun v4 I m k4 H N28=>?_)
  unfold Zr5 at H
  refine wG [.u 14 (.ln _ _ fun _=>lm a1 (eRunT .rd))] fun q5=>?_
  refine Wh_iH H (fun H=>?_) fun H=>?_
  .obtain ⟨e6,h6,H⟩:=bB H
   refine wG [.u 20 (.ix _ _ _ fun _=>Z0 (eRunT .rd) h6),.c 23 (Zdj e6 v4.1)] fun _=>?_
   refine Wh_iH H (fun H=>?_) fun H=>?_
   .refine wP ?_
    replace H:=sI H; subst H
    exact wE [(4,.d)]
   .refine wP ?_
    exact wT (N28 _ H)
  .refine wP ?_
   replace H:=sI H; subst H
   exact wE [(4,.d)]
def Znh:L :=
.seq (rE 4 (kI 0))
 (sR [mV 5 1,mV 6 0,.ln 7 (.t 6),bI 8 .sub 5 7,mV 1 8]
 (.seq (sR [mV 9 1,.bi 10 .lss (.t 9) (kI 0)]
 (.cond (.t 10) (.seq (rE 4 (kI (-1)))
 gR)
 .skip))
 (sR [mV 11 1,mV 4 11]
 gR)))
def ZZ4 (a1:List End) (left2:Int):Option Int :=
 bif (decide ((w64 (left2 - (a1.length:Int))) < 0)) then (some (-1)) else (some (w64 (left2 - (a1.length:Int))))
theorem Z6d {a1:List End} {left2:Int} {r:Int} (H:ZZ4 a1 left2 = some r):Snd Tryz.prog ZP7 [.sl .rd 3 (a1.map eEnd),.int .i64 left2] (.int .i64 r) []:=by
 refine wS Znh [.t 4] ?_
 unfold ZZ4 at H
 refine wG [.u 7 (.ln _ _ fun _=>lm a1 eEnd)] fun q3=>?_
 refine Wh_iH H (fun H=>?_) fun H=>?_
 .refine wP ?_
  replace H:=sI H; subst H
  exact wE [(4,.d)]
 .refine wP ?_
  replace H:=sI H; subst H
  exact wE [(4,.d)]
def laws_szEndS (a1:List End) (left2:Int):Int :=
 bif (decide ((w64 (left2 - (a1.length:Int))) < 0)) then ((-1)) else ((w64 (left2 - (a1.length:Int))))
theorem Zgj (a1:List End) (left2:Int):ZZ4 a1 left2 = some (laws_szEndS a1 left2):=by
 unfold ZZ4 laws_szEndS
 first | rfl | simp only [Z7]
theorem ZHg (a1:List End) (left2:Int):Snd Tryz.prog ZP7 [.sl .rd 3 (a1.map eEnd),.int .i64 left2] (.int .i64 (laws_szEndS a1 left2)) []:=Z6d (Zgj a1 left2)
def Zmf:L :=
sR [.bx 2 (.t 0),.mv 4 (kI 0)]
 (sR [fA 5 2 0,lD 6 5 2 true,mV 7 1,cQ 8 ZN7 [6,7],mV 1 8]
 (.seq (sR [mV 9 1,.bi 10 .lss (.t 9) (kI 0)]
 (.cond (.t 10) (.seq (rE 4 (kI (-1)))
 gR)
 .skip))
 (sR [fA 11 2 2,lD 12 11 1 false,mV 13 1,cQ 14 Z37 [12,13],mV 1 14]
 (.seq (sR [mV 15 1,.bi 16 .lss (.t 15) (kI 0)]
 (.cond (.t 16) (.seq (rE 4 (kI (-1)))
 gR)
 .skip))
 (sR [fA 17 2 8,lD 18 17 1 false,mV 19 1,cQ 20 ZO7 [18,19],mV 1 20]
 (.seq (sR [mV 21 1,.bi 22 .lss (.t 21) (kI 0)]
 (.cond (.t 22) (.seq (rE 4 (kI (-1)))
 gR)
 .skip))
 (sR [fA 23 2 9,lD 24 23 1 false,mV 25 1,cQ 26 Zkb [24,25],mV 1 26]
 (.seq (sR [mV 27 1,.bi 28 .lss (.t 27) (kI 0)]
 (.cond (.t 28) (.seq (rE 4 (kI (-1)))
 gR)
 .skip))
 (sR [fA 29 2 10,lD 30 29 1 false,mV 31 1,cQ 32 ZP7 [30,31],mV 1 32]
 (.seq (sR [mV 33 1,.bi 34 .lss (.t 33) (kI 0)]
 (.cond (.t 34) (.seq (rE 4 (kI (-1)))
 gR)
 .skip))
 (sR [mV 35 1,mV 4 35]
 gR)))))))))))
def laws_szState (a1:State) (left2:Int):Option Int :=
 bif (decide ((laws_szTopo a1.topo left2) < 0)) then (some (-1)) else (bif (decide ((laws_szBoolS a1.up (laws_szTopo a1.topo left2)) < 0)) then (some (-1)) else (bif (decide ((laws_szJobS a1.queue (laws_szBoolS a1.up (laws_szTopo a1.topo left2))) < 0)) then (some (-1)) else ((laws_szRunS a1.runs (laws_szJobS a1.queue (laws_szBoolS a1.up (laws_szTopo a1.topo left2)))).bind fun n3=>bif (decide (n3 < 0)) then (some (-1)) else (bif (decide ((laws_szEndS a1.ends n3) < 0)) then (some (-1)) else (some (laws_szEndS a1.ends n3))))))
theorem ZGe {a1:State} {left2:Int} {r:Int} (H:laws_szState a1 left2 = some r):Snd Tryz.prog Z5a [Z21 .rd a1,.int .i64 left2] (.int .i64 r) []:=by
 refine wS Zmf [.t 4] ?_
 unfold laws_szState at H
 refine wG [.c 8 (ZAg a1.topo left2)] fun _=>?_
 refine Wh_iH H (fun H=>?_) fun H=>?_
 .refine wP ?_
  replace H:=sI H; subst H
  exact wE [(4,.d)]
 .refine wG [.u 14 (.call _ _ _ _ _ (AEs.refl _) (fun _=>ZLe a1.up (laws_szTopo a1.topo left2)))] fun _=>?_
  refine Wh_iH H (fun H=>?_) fun H=>?_
  .refine wP ?_
   replace H:=sI H; subst H
   exact wE [(4,.d)]
  .refine wG [.u 20 (.call _ _ _ _ _ (AEs.refl _) (fun _=>ZGg a1.queue (laws_szBoolS a1.up (laws_szTopo a1.topo left2))))] fun _=>?_
   refine Wh_iH H (fun H=>?_) fun H=>?_
   .refine wP ?_
    replace H:=sI H; subst H
    exact wE [(4,.d)]
   .obtain ⟨n3,h3,H⟩:=bB H
    refine wG [.c 26 (ZCg h3)] fun _=>?_
    refine Wh_iH H (fun H=>?_) fun H=>?_
    .refine wP ?_
     replace H:=sI H; subst H
     exact wE [(4,.d)]
    .refine wG [.c 32 (ZHg a1.ends n3)] fun _=>?_
     refine Wh_iH H (fun H=>?_) fun H=>?_
     .refine wP ?_
      replace H:=sI H; subst H
      exact wE [(4,.d)]
     .refine wP ?_
      replace H:=sI H; subst H
      exact wE [(4,.d)]
def ZBj:L :=
sR [.bx 2 (.t 0),.bx 3 (.t 1),.mv 4 (cB false)]
 (.seq (sR [fA 5 2 0,lD 6 5 11 true,fA 7 3 0,lD 8 7 11 true,cQ 9 Zm6 [6,8],.un 10 (.t 9)]
 (.cond (.t 10) (.seq (rE 4 (cB false))
 gR)
 .skip))
 (.seq (sR [fA 11 2 11,lD 12 11 1 false,fA 13 3 11,lD 14 13 1 false,bI 15 .neq 12 14]
 (.cond (.t 15) (.seq (rE 4 (cB false))
 gR)
 .skip))
 (.seq (sR [fA 16 2 12,lD 17 16 1 false,fA 18 3 12,lD 19 18 1 false,cQ 20 ZS7 [17,19],.un 21 (.t 20)]
 (.cond (.t 21) (.seq (rE 4 (cB false))
 gR)
 .skip))
 (.seq (rE 4 (cB true))
 gR))))
def laws_eqRun (a1:Run) (b2:Run):Option Bool :=
 bif (!(laws_eqJob a1.job b2.job)) then (some false) else (bif (a1.t != b2.t) then (some false) else ((laws_eqIntS a1.nodes b2.nodes).bind fun b3=>bif (!b3) then (some false) else (some true)))
theorem Zij {a1:Run} {b2:Run} {r:Bool} (H:laws_eqRun a1 b2 = some r):Snd Tryz.prog ZDc [eRunT .rd a1,eRunT .rd b2] (.bool r) []:=by
 refine wS ZBj [.t 4] ?_
 unfold laws_eqRun at H
 refine wG [.c 9 (ZOa a1.job b2.job)] fun _=>?_
 refine Wh_iH H (fun H=>?_) fun H=>?_
 .refine wP ?_
  replace H:=sI H; subst H
  exact wE [(4,.d)]
 .refine wP ?_
  refine Wh_iH H (fun H=>?_) fun H=>?_
  .refine wP ?_
   replace H:=sI H; subst H
   exact wE [(4,.d)]
  .obtain ⟨b3,h3,H⟩:=bB H
   refine wG [.c 20 (ZP9 h3)] fun _=>?_
   refine Wh_iH H (fun H=>?_) fun H=>?_
   .refine wP ?_
    replace H:=sI H; subst H
    exact wE [(4,.d)]
   .refine wP ?_
    replace H:=sI H; subst H
    exact wE [(4,.d)]
def Zrh:L :=
.seq (rE 4 (cB false))
 (.seq (sR [mV 6 0,.ln 7 (.t 6),mV 8 1,.ln 9 (.t 8),bI 10 .neq 7 9]
 (.cond (.t 10) (.seq (rE 4 (cB false))
 gR)
 .skip))
 (.seq (.seq (rE 5 (kI 0))
 (.blk 0 (.loop (.gw (.seq (sR [mV 11 5,mV 12 0,.ln 13 (.t 12),bI 14 .lss 11 13]
 (.cond (.t 14) .skip
 (.exit 0)))
 (.seq (.blk 1 (.seq (.rq 10 [mV 17 0,mV 18 5,iA 19 17 18 13,lD 20 19 13 true,mV 21 1,mV 22 5,iA 23 21 22 13,lD 24 23 13 true,cQ 25 ZDc [20,24],.un 26 (.t 25)])
 (.cond (.t 26) (.seq (rE 4 (cB false))
 gR)
 .skip)))
 (.reg [mV 15 5,.bi 16 .add (.t 15) (kI 1),mV 5 16])))))))
 (.seq (rE 4 (cB true))
 gR)))
def Zl3 (a1:List Run) (b2:List Run) (v4:Int) (k4:Int -> Option Bool):Option Bool :=
 bif (decide (v4 < (a1.length:Int))) then ((idx a1 v4).bind fun e6=>(idx b2 v4).bind fun e7=>(laws_eqRun e6 e7).bind fun b8=>bif (!b8) then (some false) else (k4 (w64 (v4 + 1)))) else (some true)
def laws_eqRunS (a1:List Run) (b2:List Run):Option Bool :=
 bif ((a1.length:Int) != (b2.length:Int)) then (some false) else (whl (Zl3 a1 b2) 9223372036854775807 0)
theorem ZNg {a1:List Run} {b2:List Run} {r:Bool} (H:laws_eqRunS a1 b2 = some r):Snd Tryz.prog Znb [.sl .rd 13 (a1.map (eRunT .rd)),.sl .rd 13 (b2.map (eRunT .rd))] (.bool r) []:=by
 refine wS Zrh [.t 4] ?_
 unfold laws_eqRunS at H
 refine wG [.u 7 (.ln _ _ fun _=>lm a1 (eRunT .rd)),.u 9 (.ln _ _ fun _=>lm b2 (eRunT .rd))] fun q3=>?_
 refine Wh_iH H (fun H=>?_) fun H=>?_
 .refine wP ?_
  replace H:=sI H; subst H
  exact wE [(4,.d)]
 .refine wP ?_
  refine wW (fun (v4:Int)=>⟨[(0,.sl .rd 13 (a1.map (eRunT .rd))),(1,.sl .rd 13 (b2.map (eRunT .rd))),(5,.int .i64 v4)],[],[],[]⟩) H (fun v4 I m k4 H N25=>?_)
  unfold Zl3 at H
  refine wG [.u 13 (.ln _ _ fun _=>lm a1 (eRunT .rd))] fun q5=>?_
  refine Wh_iH H (fun H=>?_) fun H=>?_
  .obtain ⟨e6,h6,H⟩:=bB H
   obtain ⟨e7,h7,H⟩:=bB H
   obtain ⟨b8,h8,H⟩:=bB H
   refine wG [.u 19 (.ix _ _ _ fun _=>Z0 (eRunT .rd) h6),.u 23 (.ix _ _ _ fun _=>Z0 (eRunT .rd) h7),.c 25 (Zij h8)] fun _=>?_
   refine Wh_iH H (fun H=>?_) fun H=>?_
   .refine wP ?_
    replace H:=sI H; subst H
    exact wE [(4,.d)]
   .refine wP ?_
    exact wT (N25 _ H)
  .refine wP ?_
   replace H:=sI H; subst H
   exact wE [(4,.d)]
def ZDj:L :=
sR [.bx 2 (.t 0),.bx 3 (.t 1),.mv 4 (cB false)]
 (.seq (sR [fA 5 2 0,lD 6 5 1 false,fA 7 3 0,lD 8 7 1 false,bI 9 .neq 6 8]
 (.cond (.t 9) (.seq (rE 4 (cB false))
 gR)
 .skip))
 (.seq (sR [fA 10 2 1,lD 11 10 1 false,fA 12 3 1,lD 13 12 1 false,bI 14 .neq 11 13]
 (.cond (.t 14) (.seq (rE 4 (cB false))
 gR)
 .skip))
 (.seq (sR [fA 15 2 2,lD 16 15 1 false,fA 17 3 2,lD 18 17 1 false,bI 19 .neq 16 18]
 (.cond (.t 19) (.seq (rE 4 (cB false))
 gR)
 .skip))
 (.seq (rE 4 (cB true))
 gR))))
def Z56 (a1:End) (b2:End):Option Bool :=
 bif (a1.id != b2.id) then (some false) else (bif (a1.t != b2.t) then (some false) else (bif (a1.why != b2.why) then (some false) else (some true)))
theorem ZUe {a1:End} {b2:End} {r:Bool} (H:Z56 a1 b2 = some r):Snd Tryz.prog Zj9 [eEnd a1,eEnd b2] (.bool r) []:=by
 refine wS ZDj [.t 4] ?_
 unfold Z56 at H
 refine wP ?_
 refine Wh_iH H (fun H=>?_) fun H=>?_
 .refine wP ?_
  replace H:=sI H; subst H
  exact wE [(4,.d)]
 .refine wP ?_
  refine Wh_iH H (fun H=>?_) fun H=>?_
  .refine wP ?_
   replace H:=sI H; subst H
   exact wE [(4,.d)]
  .refine wP ?_
   refine Wh_iH H (fun H=>?_) fun H=>?_
   .refine wP ?_
    replace H:=sI H; subst H
    exact wE [(4,.d)]
   .refine wP ?_
    replace H:=sI H; subst H
    exact wE [(4,.d)]
def laws_eqEnd (a1:End) (b2:End):Bool :=
 bif (a1.id != b2.id) then (false) else (bif (a1.t != b2.t) then (false) else (bif (a1.why != b2.why) then (false) else (true)))
theorem ZSk (a1:End) (b2:End):Z56 a1 b2 = some (laws_eqEnd a1 b2):=by
 unfold Z56 laws_eqEnd
 first | rfl | simp only [Z7]
theorem Zkj (a1:End) (b2:End):Snd Tryz.prog Zj9 [eEnd a1,eEnd b2] (.bool (laws_eqEnd a1 b2)) []:=ZUe (ZSk a1 b2)
def Zvh:L :=
.seq (rE 4 (cB false))
 (.seq (sR [mV 6 0,.ln 7 (.t 6),mV 8 1,.ln 9 (.t 8),bI 10 .neq 7 9]
 (.cond (.t 10) (.seq (rE 4 (cB false))
 gR)
 .skip))
 (.seq (.seq (rE 5 (kI 0))
 (.blk 0 (.loop (.gw (.seq (sR [mV 11 5,mV 12 0,.ln 13 (.t 12),bI 14 .lss 11 13]
 (.cond (.t 14) .skip
 (.exit 0)))
 (.seq (.blk 1 (.seq (.rq 10 [mV 17 0,mV 18 5,iA 19 17 18 3,lD 20 19 3 true,mV 21 1,mV 22 5,iA 23 21 22 3,lD 24 23 3 true,cQ 25 Zj9 [20,24],.un 26 (.t 25)])
 (.cond (.t 26) (.seq (rE 4 (cB false))
 gR)
 .skip)))
 (.reg [mV 15 5,.bi 16 .add (.t 15) (kI 1),mV 5 16])))))))
 (.seq (rE 4 (cB true))
 gR)))
def Zo3 (a1:List End) (b2:List End) (v4:Int) (k4:Int -> Option Bool):Option Bool :=
 bif (decide (v4 < (a1.length:Int))) then ((idx a1 v4).bind fun e6=>(idx b2 v4).bind fun e7=>bif (!(laws_eqEnd e6 e7)) then (some false) else (k4 (w64 (v4 + 1)))) else (some true)
def laws_eqEndS (a1:List End) (b2:List End):Option Bool :=
 bif ((a1.length:Int) != (b2.length:Int)) then (some false) else (whl (Zo3 a1 b2) 9223372036854775807 0)
theorem ZSg {a1:List End} {b2:List End} {r:Bool} (H:laws_eqEndS a1 b2 = some r):Snd Tryz.prog Zpb [.sl .rd 3 (a1.map eEnd),.sl .rd 3 (b2.map eEnd)] (.bool r) []:=by
 refine wS Zvh [.t 4] ?_
 unfold laws_eqEndS at H
 refine wG [.u 7 (.ln _ _ fun _=>lm a1 eEnd),.u 9 (.ln _ _ fun _=>lm b2 eEnd)] fun q3=>?_
 refine Wh_iH H (fun H=>?_) fun H=>?_
 .refine wP ?_
  replace H:=sI H; subst H
  exact wE [(4,.d)]
 .refine wP ?_
  refine wW (fun (v4:Int)=>⟨[(0,.sl .rd 3 (a1.map eEnd)),(1,.sl .rd 3 (b2.map eEnd)),(5,.int .i64 v4)],[],[],[]⟩) H (fun v4 I m k4 H N25=>?_)
  unfold Zo3 at H
  refine wG [.u 13 (.ln _ _ fun _=>lm a1 eEnd)] fun q5=>?_
  refine Wh_iH H (fun H=>?_) fun H=>?_
  .obtain ⟨e6,h6,H⟩:=bB H
   obtain ⟨e7,h7,H⟩:=bB H
   refine wG [.u 19 (.ix _ _ _ fun _=>Z0 eEnd h6),.u 23 (.ix _ _ _ fun _=>Z0 eEnd h7),.c 25 (Zkj e6 e7)] fun _=>?_
   refine Wh_iH H (fun H=>?_) fun H=>?_
   .refine wP ?_
    replace H:=sI H; subst H
    exact wE [(4,.d)]
   .refine wP ?_
    exact wT (N25 _ H)
  .refine wP ?_
   replace H:=sI H; subst H
   exact wE [(4,.d)]
def Zrf:L :=
sR [.bx 2 (.t 0),.bx 3 (.t 1),.mv 4 (cB false)]
 (.seq (sR [fA 5 2 0,lD 6 5 2 true,fA 7 3 0,lD 8 7 2 true,cQ 9 Zmb [6,8],.un 10 (.t 9)]
 (.cond (.t 10) (.seq (rE 4 (cB false))
 gR)
 .skip))
 (.seq (sR [fA 11 2 2,lD 12 11 1 false,fA 13 3 2,lD 14 13 1 false,cQ 15 Z8a [12,14],.un 16 (.t 15)]
 (.cond (.t 16) (.seq (rE 4 (cB false))
 gR)
 .skip))
 (.seq (sR [fA 17 2 3,lD 18 17 3 true,fA 19 3 3,lD 20 19 3 true,cQ 21 Zd2 [18,20],.un 22 (.t 21)]
 (.cond (.t 22) (.seq (rE 4 (cB false))
 gR)
 .skip))
 (.seq (sR [fA 23 2 6,lD 24 23 1 false,fA 25 3 6,lD 26 25 1 false,bI 27 .neq 24 26]
 (.cond (.t 27) (.seq (rE 4 (cB false))
 gR)
 .skip))
 (.seq (sR [fA 28 2 7,lD 29 28 1 false,fA 30 3 7,lD 31 30 1 false,bI 32 .neq 29 31]
 (.cond (.t 32) (.seq (rE 4 (cB false))
 gR)
 .skip))
 (.seq (sR [fA 33 2 8,lD 34 33 1 false,fA 35 3 8,lD 36 35 1 false,cQ 37 Zob [34,36],.un 38 (.t 37)]
 (.cond (.t 38) (.seq (rE 4 (cB false))
 gR)
 .skip))
 (.seq (sR [fA 39 2 9,lD 40 39 1 false,fA 41 3 9,lD 42 41 1 false,cQ 43 Znb [40,42],.un 44 (.t 43)]
 (.cond (.t 44) (.seq (rE 4 (cB false))
 gR)
 .skip))
 (.seq (sR [fA 45 2 10,lD 46 45 1 false,fA 47 3 10,lD 48 47 1 false,cQ 49 Zpb [46,48],.un 50 (.t 49)]
 (.cond (.t 50) (.seq (rE 4 (cB false))
 gR)
 .skip))
 (.seq (rE 4 (cB true))
 gR)))))))))
def laws_eqState (a1:State) (b2:State):Option Bool :=
 (laws_eqTopo a1.topo b2.topo).bind fun b3=>bif (!b3) then (some false) else ((laws_eqBoolS a1.up b2.up).bind fun b4=>bif (!b4) then (some false) else (bif (!(laws_eqVec a1.lic b2.lic)) then (some false) else (bif (a1.depth != b2.depth) then (some false) else (bif (a1.now != b2.now) then (some false) else ((laws_eqJobS a1.queue b2.queue).bind fun b5=>bif (!b5) then (some false) else ((laws_eqRunS a1.runs b2.runs).bind fun b6=>bif (!b6) then (some false) else ((laws_eqEndS a1.ends b2.ends).bind fun b7=>bif (!b7) then (some false) else (some true))))))))
theorem ZNe {a1:State} {b2:State} {r:Bool} (H:laws_eqState a1 b2 = some r):Snd Tryz.prog Z6a [Z21 .rd a1,Z21 .rd b2] (.bool r) []:=by
 refine wS Zrf [.t 4] ?_
 unfold laws_eqState at H
 obtain ⟨b3,h3,H⟩:=bB H
 refine wG [.c 9 (ZMg h3)] fun _=>?_
 refine Wh_iH H (fun H=>?_) fun H=>?_
 .refine wP ?_
  replace H:=sI H; subst H
  exact wE [(4,.d)]
 .obtain ⟨b4,h4,H⟩:=bB H
  refine wG [.c 15 (ZXe h4)] fun _=>?_
  refine Wh_iH H (fun H=>?_) fun H=>?_
  .refine wP ?_
   replace H:=sI H; subst H
   exact wE [(4,.d)]
  .refine wG [.c 21 (Zk3 a1.lic b2.lic)] fun _=>?_
   refine Wh_iH H (fun H=>?_) fun H=>?_
   .refine wP ?_
    replace H:=sI H; subst H
    exact wE [(4,.d)]
   .refine wP ?_
    refine Wh_iH H (fun H=>?_) fun H=>?_
    .refine wP ?_
     replace H:=sI H; subst H
     exact wE [(4,.d)]
    .refine wP ?_
     refine Wh_iH H (fun H=>?_) fun H=>?_
     .refine wP ?_
      replace H:=sI H; subst H
      exact wE [(4,.d)]
     .obtain ⟨b5,h5,H⟩:=bB H
      refine wG [.c 37 (ZRg h5)] fun _=>?_
      refine Wh_iH H (fun H=>?_) fun H=>?_
      .refine wP ?_
       replace H:=sI H; subst H
       exact wE [(4,.d)]
      .obtain ⟨b6,h6,H⟩:=bB H
       refine wG [.c 43 (ZNg h6)] fun _=>?_
       refine Wh_iH H (fun H=>?_) fun H=>?_
       .refine wP ?_
        replace H:=sI H; subst H
        exact wE [(4,.d)]
       .obtain ⟨b7,h7,H⟩:=bB H
        refine wG [.c 49 (ZSg h7)] fun _=>?_
        refine Wh_iH H (fun H=>?_) fun H=>?_
        .refine wP ?_
         replace H:=sI H; subst H
         exact wE [(4,.d)]
        .refine wP ?_
         replace H:=sI H; subst H
         exact wE [(4,.d)]
def Z4c:L :=
sR [.bx 1 (.t 0),.al 2 [.str [],.int .i64 0,.int .i64 0]]
 (sR [.al 3 [.str [],.int .i64 0,.int .i64 0]]
 (sR [fA 4 1 0,lD 5 4 1 false,fA 6 3 0,.st (.t 6) (.t 5) 1]
 (sR [fA 7 1 1,lD 8 7 1 false,fA 9 3 1,.st (.t 9) (.t 8) 1]
 (sR [fA 10 1 2,lD 11 10 1 false,fA 12 3 2,.st (.t 12) (.t 11) 1]
 (sR [lD 13 3 3 true,.st (.t 2) (.t 13) 3]
 gR)))))
def ZN2 (a1:Account):Option Account :=
 some a1
theorem Zfa {a1:Account} {r:Account} (H:ZN2 a1 = some r):Snd Tryz.prog ZN4 [Z1 a1] (Z1 r) []:=by
 refine wS Z4c [.c 2 3 true] ?_
 unfold ZN2 at H
 refine wP ?_
 replace H:=sI H; subst H
 exact wN [(2,.d)] [(2,[])] [] [] [] []
def laws_toAccount (a1:Account):Account :=
 a1
theorem Z0d (a1:Account):ZN2 a1 = some (laws_toAccount a1):=by
 unfold ZN2 laws_toAccount
 first | rfl | simp only [Z7]
theorem ZOb (a1:Account):Snd Tryz.prog ZN4 [Z1 a1] (Z1 (laws_toAccount a1)) []:=Zfa (Z0d a1)
def ZVa:L :=
sR [.mv 2 (.c (.nl))]
 (sR [mV 5 0,.ln 6 (.t 5),.ms 7 3 32 [.str [],.int .i64 0,.int .i64 0] (.t 6),mV 3 7]
 (.seq (.seq (rE 4 (kI 0))
 (.blk 0 (.loop (.gw (.seq (sR [mV 8 4,mV 9 0,.ln 10 (.t 9),bI 11 .lss 8 10]
 (.cond (.t 11) .skip
 (.exit 0)))
 (.seq (.blk 1 (.reg [mV 14 3,mV 15 4,mV 16 0,mV 17 4,iA 18 16 17 3,lD 19 18 3 true,cQ 20 ZN4 [19],iA 21 14 15 3,.st (.t 21) (.t 20) 3]))
 (.reg [mV 12 4,.bi 13 .add (.t 12) (kI 1),mV 4 13])))))))
 (sR [mV 22 3,mV 2 22]
 gR)))
def ZU1 (a1:List Account) (v4:Int × (List Account)) (k4:(Int × (List Account)) -> Option (List Account)):Option (List Account) :=
 bif (decide (v4.1 < (a1.length:Int))) then ((idx a1 v4.1).bind fun e6=>(idx v4.2 v4.1).bind fun _=>k4 ((w64 (v4.1 + 1)),(v4.2.set v4.1.toNat (laws_toAccount e6)))) else (some v4.2)
def laws_toAccountS (a1:List Account):Option (List Account) :=
 (mkL 32 (a1.length:Int) (Account.mk ([]:Str) 0 0)).bind fun xs2=>whl (ZU1 a1) 9223372036854775807 (0,xs2)
theorem ZJa {a1:List Account} {r:(List Account)} (H:laws_toAccountS a1 = some r):Snd Tryz.prog Zn7 [.sl .rd 3 (a1.map Z1)] (.sl .nw 3 (r.map Z1)) []:=by
 refine wS ZVa [.t 2] ?_
 unfold laws_toAccountS at H
 obtain ⟨xs2,h2,H⟩:=bB H
 refine wG [.u 6 (.ln _ _ fun _=>lm a1 Z1),.u 7 (.ms _ _ _ _ fun _=>ZC6 Z1 h2)] fun q3=>?_
 refine wW (fun (v4:Int × (List Account))=>⟨[(0,.sl .rd 3 (a1.map Z1)),(3,.sref 7),(4,.int .i64 v4.1)],[],[],[(7,⟨3,v4.2.map Z1,false⟩)]⟩) H (fun v4 I m k4 H N13=>?_)
 unfold ZU1 at H
 refine wG [.u 10 (.ln _ _ fun _=>lm a1 Z1)] fun q5=>?_
 refine Wh_iH H (fun H=>?_) fun H=>?_
 .obtain ⟨e6,h6,H⟩:=bB H
  obtain ⟨e7,h7,H⟩:=bB H
  refine wG [.u 18 (.ix _ _ _ fun _=>Z0 Z1 h6),.c 20 (ZOb e6),.u 21 (.ix _ _ _ fun _=>Z0 Z1 h7),.u 1000000 (.sto _ _ _ (Z1 (laws_toAccount e6)) _ (fun _=>gm Z1 (Zt1 h7)) (fun _=>ZD4 ..))] fun _=>?_
  exact wT (N13 _ H)
 .refine wP ?_
  replace H:=sI H; subst H
  exact wN [(2,.f)] [] [] [7] [] [⟨_,Zdi v4.2⟩]
def Z5c:L :=
sR [.bx 2 (.t 0),.mv 4 (kI 0)]
 (sR [mV 5 1,fA 6 2 0,lD 7 6 1 false,.ls 8 (.t 7),bI 9 .sub 5 8,mV 1 9]
 (.seq (sR [mV 10 1,.bi 11 .lss (.t 10) (kI 0)]
 (.cond (.t 11) (.seq (rE 4 (kI (-1)))
 gR)
 .skip))
 (sR [mV 12 1,mV 4 12]
 gR)))
def ZO2 (a1:Account) (left2:Int):Option Int :=
 bif (decide ((w64 (left2 - (a1.name.length:Int))) < 0)) then (some (-1)) else (some (w64 (left2 - (a1.name.length:Int))))
theorem Zga {a1:Account} {left2:Int} {r:Int} (H:ZO2 a1 left2 = some r):Snd Tryz.prog ZO4 [Z1 a1,.int .i64 left2] (.int .i64 r) []:=by
 refine wS Z5c [.t 4] ?_
 unfold ZO2 at H
 refine wP ?_
 refine Wh_iH H (fun H=>?_) fun H=>?_
 .refine wP ?_
  replace H:=sI H; subst H
  exact wE [(4,.d)]
 .refine wP ?_
  replace H:=sI H; subst H
  exact wE [(4,.d)]
def laws_szAccount (a1:Account) (left2:Int):Int :=
 bif (decide ((w64 (left2 - (a1.name.length:Int))) < 0)) then ((-1)) else ((w64 (left2 - (a1.name.length:Int))))
theorem Z8d (a1:Account) (left2:Int):ZO2 a1 left2 = some (laws_szAccount a1 left2):=by
 unfold ZO2 laws_szAccount
 first | rfl | simp only [Z7]
theorem ZTb (a1:Account) (left2:Int):Snd Tryz.prog ZO4 [Z1 a1,.int .i64 left2] (.int .i64 (laws_szAccount a1 left2)) []:=Zga (Z8d a1 left2)
def ZWa:L :=
.seq (rE 4 (kI 0))
 (sR [mV 6 1,mV 7 0,.ln 8 (.t 7),bI 9 .sub 6 8,mV 1 9]
 (.seq (sR [mV 10 1,.bi 11 .lss (.t 10) (kI 0)]
 (.cond (.t 11) (.seq (rE 4 (kI (-1)))
 gR)
 .skip))
 (.seq (.seq (rE 5 (kI 0))
 (.blk 0 (.loop (.gw (.seq (sR [mV 12 5,mV 13 0,.ln 14 (.t 13),bI 15 .lss 12 14]
 (.cond (.t 15) .skip
 (.exit 0)))
 (.seq (.blk 1 (sR [mV 18 0,mV 19 5,iA 20 18 19 3,lD 21 20 3 true,mV 22 1,cQ 23 ZO4 [21,22],mV 1 23]
 (sR [mV 24 1,.bi 25 .lss (.t 24) (kI 0)]
 (.cond (.t 25) (.seq (rE 4 (kI (-1)))
 gR)
 .skip))))
 (.reg [mV 16 5,.bi 17 .add (.t 16) (kI 1),mV 5 17])))))))
 (sR [mV 26 1,mV 4 26]
 gR))))
def Zj1 (a1:List Account) (v4:Int × Int) (k4:(Int × Int) -> Option Int):Option Int :=
 bif (decide (v4.2 < (a1.length:Int))) then ((idx a1 v4.2).bind fun e6=>bif (decide ((laws_szAccount e6 v4.1) < 0)) then (some (-1)) else (k4 ((laws_szAccount e6 v4.1),(w64 (v4.2 + 1))))) else (some v4.1)
def laws_szAccountS (a1:List Account) (left2:Int):Option Int :=
 bif (decide ((w64 (left2 - (a1.length:Int))) < 0)) then (some (-1)) else (whl (Zj1 a1) 9223372036854775807 ((w64 (left2 - (a1.length:Int))),0))
theorem ZLa {a1:List Account} {left2:Int} {r:Int} (H:laws_szAccountS a1 left2 = some r):Snd Tryz.prog Zo7 [.sl .rd 3 (a1.map Z1),.int .i64 left2] (.int .i64 r) []:=by
 refine wS ZWa [.t 4] ?_
 unfold laws_szAccountS at H
 refine wG [.u 8 (.ln _ _ fun _=>lm a1 Z1)] fun q3=>?_
 refine Wh_iH H (fun H=>?_) fun H=>?_
 .refine wP ?_
  replace H:=sI H; subst H
  exact wE [(4,.d)]
 .refine wP ?_
  refine wW (fun (v4:Int × Int)=>⟨[(0,.sl .rd 3 (a1.map Z1)),(1,.int .i64 v4.1),(5,.int .i64 v4.2)],[],[],[]⟩) H (fun v4 I m k4 H N28=>?_)
  unfold Zj1 at H
  refine wG [.u 14 (.ln _ _ fun _=>lm a1 Z1)] fun q5=>?_
  refine Wh_iH H (fun H=>?_) fun H=>?_
  .obtain ⟨e6,h6,H⟩:=bB H
   refine wG [.u 20 (.ix _ _ _ fun _=>Z0 Z1 h6),.c 23 (ZTb e6 v4.1)] fun _=>?_
   refine Wh_iH H (fun H=>?_) fun H=>?_
   .refine wP ?_
    replace H:=sI H; subst H
    exact wE [(4,.d)]
   .refine wP ?_
    exact wT (N28 _ H)
  .refine wP ?_
   replace H:=sI H; subst H
   exact wE [(4,.d)]
def Z6c:L :=
sR [.bx 2 (.t 0),.bx 3 (.t 1),.mv 4 (cB false)]
 (.seq (sR [fA 5 2 0,lD 6 5 1 false,fA 7 3 0,lD 8 7 1 false,bI 9 .neq 6 8]
 (.cond (.t 9) (.seq (rE 4 (cB false))
 gR)
 .skip))
 (.seq (sR [fA 10 2 1,lD 11 10 1 false,fA 12 3 1,lD 13 12 1 false,bI 14 .neq 11 13]
 (.cond (.t 14) (.seq (rE 4 (cB false))
 gR)
 .skip))
 (.seq (sR [fA 15 2 2,lD 16 15 1 false,fA 17 3 2,lD 18 17 1 false,bI 19 .neq 16 18]
 (.cond (.t 19) (.seq (rE 4 (cB false))
 gR)
 .skip))
 (.seq (rE 4 (cB true))
 gR))))
def ZR2 (a1:Account) (b2:Account):Option Bool :=
 bif (a1.name != b2.name) then (some false) else (bif (a1.share != b2.share) then (some false) else (bif (a1.used != b2.used) then (some false) else (some true)))
theorem Zia {a1:Account} {b2:Account} {r:Bool} (H:ZR2 a1 b2 = some r):Snd Tryz.prog ZP4 [Z1 a1,Z1 b2] (.bool r) []:=by
 refine wS Z6c [.t 4] ?_
 unfold ZR2 at H
 refine wP ?_
 refine Wh_iH H (fun H=>?_) fun H=>?_
 .refine wP ?_
  replace H:=sI H; subst H
  exact wE [(4,.d)]
 .refine wP ?_
  refine Wh_iH H (fun H=>?_) fun H=>?_
  .refine wP ?_
   replace H:=sI H; subst H
   exact wE [(4,.d)]
  .refine wP ?_
   refine Wh_iH H (fun H=>?_) fun H=>?_
   .refine wP ?_
    replace H:=sI H; subst H
    exact wE [(4,.d)]
   .refine wP ?_
    replace H:=sI H; subst H
    exact wE [(4,.d)]
def laws_eqAccount (a1:Account) (b2:Account):Bool :=
 bif (a1.name != b2.name) then (false) else (bif (a1.share != b2.share) then (false) else (bif (a1.used != b2.used) then (false) else (true)))
theorem Zjd (a1:Account) (b2:Account):ZR2 a1 b2 = some (laws_eqAccount a1 b2):=by
 unfold ZR2 laws_eqAccount
 first | rfl | simp only [Z7]
theorem Z1c (a1:Account) (b2:Account):Snd Tryz.prog ZP4 [Z1 a1,Z1 b2] (.bool (laws_eqAccount a1 b2)) []:=Zia (Zjd a1 b2)
def ZXa:L :=
.seq (rE 4 (cB false))
 (.seq (sR [mV 6 0,.ln 7 (.t 6),mV 8 1,.ln 9 (.t 8),bI 10 .neq 7 9]
 (.cond (.t 10) (.seq (rE 4 (cB false))
 gR)
 .skip))
 (.seq (.seq (rE 5 (kI 0))
 (.blk 0 (.loop (.gw (.seq (sR [mV 11 5,mV 12 0,.ln 13 (.t 12),bI 14 .lss 11 13]
 (.cond (.t 14) .skip
 (.exit 0)))
 (.seq (.blk 1 (.seq (.rq 10 [mV 17 0,mV 18 5,iA 19 17 18 3,lD 20 19 3 true,mV 21 1,mV 22 5,iA 23 21 22 3,lD 24 23 3 true,cQ 25 ZP4 [20,24],.un 26 (.t 25)])
 (.cond (.t 26) (.seq (rE 4 (cB false))
 gR)
 .skip)))
 (.reg [mV 15 5,.bi 16 .add (.t 15) (kI 1),mV 5 16])))))))
 (.seq (rE 4 (cB true))
 gR)))
def ZV1 (a1:List Account) (b2:List Account) (v4:Int) (k4:Int -> Option Bool):Option Bool :=
 bif (decide (v4 < (a1.length:Int))) then ((idx a1 v4).bind fun e6=>(idx b2 v4).bind fun e7=>bif (!(laws_eqAccount e6 e7)) then (some false) else (k4 (w64 (v4 + 1)))) else (some true)
def laws_eqAccountS (a1:List Account) (b2:List Account):Option Bool :=
 bif ((a1.length:Int) != (b2.length:Int)) then (some false) else (whl (ZV1 a1 b2) 9223372036854775807 0)
theorem ZPa {a1:List Account} {b2:List Account} {r:Bool} (H:laws_eqAccountS a1 b2 = some r):Snd Tryz.prog Zp7 [.sl .rd 3 (a1.map Z1),.sl .rd 3 (b2.map Z1)] (.bool r) []:=by
 refine wS ZXa [.t 4] ?_
 unfold laws_eqAccountS at H
 refine wG [.u 7 (.ln _ _ fun _=>lm a1 Z1),.u 9 (.ln _ _ fun _=>lm b2 Z1)] fun q3=>?_
 refine Wh_iH H (fun H=>?_) fun H=>?_
 .refine wP ?_
  replace H:=sI H; subst H
  exact wE [(4,.d)]
 .refine wP ?_
  refine wW (fun (v4:Int)=>⟨[(0,.sl .rd 3 (a1.map Z1)),(1,.sl .rd 3 (b2.map Z1)),(5,.int .i64 v4)],[],[],[]⟩) H (fun v4 I m k4 H N25=>?_)
  unfold ZV1 at H
  refine wG [.u 13 (.ln _ _ fun _=>lm a1 Z1)] fun q5=>?_
  refine Wh_iH H (fun H=>?_) fun H=>?_
  .obtain ⟨e6,h6,H⟩:=bB H
   obtain ⟨e7,h7,H⟩:=bB H
   refine wG [.u 19 (.ix _ _ _ fun _=>Z0 Z1 h6),.u 23 (.ix _ _ _ fun _=>Z0 Z1 h7),.c 25 (Z1c e6 e7)] fun _=>?_
   refine Wh_iH H (fun H=>?_) fun H=>?_
   .refine wP ?_
    replace H:=sI H; subst H
    exact wE [(4,.d)]
   .refine wP ?_
    exact wT (N25 _ H)
  .refine wP ?_
   replace H:=sI H; subst H
   exact wE [(4,.d)]
def Zyj:L :=
sR [.bx 1 (.t 0),.al 2 [.int .i64 0,.int .i64 0]]
 (sR [.al 3 [.int .i64 0,.int .i64 0]]
 (sR [fA 4 1 0,lD 5 4 1 false,fA 6 3 0,.st (.t 6) (.t 5) 1]
 (sR [fA 7 1 1,lD 8 7 1 false,fA 9 3 1,.st (.t 9) (.t 8) 1]
 (sR [lD 10 3 2 true,.st (.t 2) (.t 10) 2]
 gR))))
def Z16 (a1:Dep):Option Dep :=
 some a1
theorem ZDe {a1:Dep} {r:Dep} (H:Z16 a1 = some r):Snd Tryz.prog Zd9 [eDep a1] (eDep r) []:=by
 refine wS Zyj [.c 2 2 true] ?_
 unfold Z16 at H
 refine wP ?_
 replace H:=sI H; subst H
 exact wN [(2,.d)] [(2,[])] [] [] [] []
def laws_toDep (a1:Dep):Dep :=
 a1
theorem ZOk (a1:Dep):Z16 a1 = some (laws_toDep a1):=by
 unfold Z16 laws_toDep
 first | rfl | simp only [Z7]
theorem Zbj (a1:Dep):Snd Tryz.prog Zd9 [eDep a1] (eDep (laws_toDep a1)) []:=ZDe (ZOk a1)
def Zih:L :=
sR [.mv 2 (.c (.nl))]
 (sR [mV 5 0,.ln 6 (.t 5),.ms 7 2 16 [.int .i64 0,.int .i64 0] (.t 6),mV 3 7]
 (.seq (.seq (rE 4 (kI 0))
 (.blk 0 (.loop (.gw (.seq (sR [mV 8 4,mV 9 0,.ln 10 (.t 9),bI 11 .lss 8 10]
 (.cond (.t 11) .skip
 (.exit 0)))
 (.seq (.blk 1 (.reg [mV 14 3,mV 15 4,mV 16 0,mV 17 4,iA 18 16 17 2,lD 19 18 2 true,cQ 20 Zd9 [19],iA 21 14 15 2,.st (.t 21) (.t 20) 2]))
 (.reg [mV 12 4,.bi 13 .add (.t 12) (kI 1),mV 4 13])))))))
 (sR [mV 22 3,mV 2 22]
 gR)))
def Zi3 (a1:List Dep) (v4:Int × (List Dep)) (k4:(Int × (List Dep)) -> Option (List Dep)):Option (List Dep) :=
 bif (decide (v4.1 < (a1.length:Int))) then ((idx a1 v4.1).bind fun e6=>(idx v4.2 v4.1).bind fun _=>k4 ((w64 (v4.1 + 1)),(v4.2.set v4.1.toNat (laws_toDep e6)))) else (some v4.2)
def laws_toDepS (a1:List Dep):Option (List Dep) :=
 (mkL 16 (a1.length:Int) (Dep.mk 0 0)).bind fun xs2=>whl (Zi3 a1) 9223372036854775807 (0,xs2)
theorem Zyg {a1:List Dep} {r:(List Dep)} (H:laws_toDepS a1 = some r):Snd Tryz.prog Zjb [.sl .rd 2 (a1.map eDep)] (.sl .nw 2 (r.map eDep)) []:=by
 refine wS Zih [.t 2] ?_
 unfold laws_toDepS at H
 obtain ⟨xs2,h2,H⟩:=bB H
 refine wG [.u 6 (.ln _ _ fun _=>lm a1 eDep),.u 7 (.ms _ _ _ _ fun _=>ZC6 eDep h2)] fun q3=>?_
 refine wW (fun (v4:Int × (List Dep))=>⟨[(0,.sl .rd 2 (a1.map eDep)),(3,.sref 7),(4,.int .i64 v4.1)],[],[],[(7,⟨2,v4.2.map eDep,false⟩)]⟩) H (fun v4 I m k4 H N13=>?_)
 unfold Zi3 at H
 refine wG [.u 10 (.ln _ _ fun _=>lm a1 eDep)] fun q5=>?_
 refine Wh_iH H (fun H=>?_) fun H=>?_
 .obtain ⟨e6,h6,H⟩:=bB H
  obtain ⟨e7,h7,H⟩:=bB H
  refine wG [.u 18 (.ix _ _ _ fun _=>Z0 eDep h6),.c 20 (Zbj e6),.u 21 (.ix _ _ _ fun _=>Z0 eDep h7),.u 1000000 (.sto _ _ _ (eDep (laws_toDep e6)) _ (fun _=>gm eDep (Zt1 h7)) (fun _=>ZD4 ..))] fun _=>?_
  exact wT (N13 _ H)
 .refine wP ?_
  replace H:=sI H; subst H
  exact wN [(2,.f)] [] [] [7] [] [⟨_,nw_Dep v4.2⟩]
def Zph:L :=
.seq (rE 4 (kI 0))
 (sR [mV 5 1,mV 6 0,.ln 7 (.t 6),bI 8 .sub 5 7,mV 1 8]
 (.seq (sR [mV 9 1,.bi 10 .lss (.t 9) (kI 0)]
 (.cond (.t 10) (.seq (rE 4 (kI (-1)))
 gR)
 .skip))
 (sR [mV 11 1,mV 4 11]
 gR)))
def Z05 (a1:List Dep) (left2:Int):Option Int :=
 bif (decide ((w64 (left2 - (a1.length:Int))) < 0)) then (some (-1)) else (some (w64 (left2 - (a1.length:Int))))
theorem Z7d {a1:List Dep} {left2:Int} {r:Int} (H:Z05 a1 left2 = some r):Snd Tryz.prog ZQ7 [.sl .rd 2 (a1.map eDep),.int .i64 left2] (.int .i64 r) []:=by
 refine wS Zph [.t 4] ?_
 unfold Z05 at H
 refine wG [.u 7 (.ln _ _ fun _=>lm a1 eDep)] fun q3=>?_
 refine Wh_iH H (fun H=>?_) fun H=>?_
 .refine wP ?_
  replace H:=sI H; subst H
  exact wE [(4,.d)]
 .refine wP ?_
  replace H:=sI H; subst H
  exact wE [(4,.d)]
def laws_szDepS (a1:List Dep) (left2:Int):Int :=
 bif (decide ((w64 (left2 - (a1.length:Int))) < 0)) then ((-1)) else ((w64 (left2 - (a1.length:Int))))
theorem Zhj (a1:List Dep) (left2:Int):Z05 a1 left2 = some (laws_szDepS a1 left2):=by
 unfold Z05 laws_szDepS
 first | rfl | simp only [Z7]
theorem ZKg (a1:List Dep) (left2:Int):Snd Tryz.prog ZQ7 [.sl .rd 2 (a1.map eDep),.int .i64 left2] (.int .i64 (laws_szDepS a1 left2)) []:=Z7d (Zhj a1 left2)
def ZEj:L :=
sR [.bx 2 (.t 0),.bx 3 (.t 1),.mv 4 (cB false)]
 (.seq (sR [fA 5 2 0,lD 6 5 1 false,fA 7 3 0,lD 8 7 1 false,bI 9 .neq 6 8]
 (.cond (.t 9) (.seq (rE 4 (cB false))
 gR)
 .skip))
 (.seq (sR [fA 10 2 1,lD 11 10 1 false,fA 12 3 1,lD 13 12 1 false,bI 14 .neq 11 13]
 (.cond (.t 14) (.seq (rE 4 (cB false))
 gR)
 .skip))
 (.seq (rE 4 (cB true))
 gR)))
def Z66 (a1:Dep) (b2:Dep):Option Bool :=
 bif (a1.id != b2.id) then (some false) else (bif (a1.for_ != b2.for_) then (some false) else (some true))
theorem ZWe {a1:Dep} {b2:Dep} {r:Bool} (H:Z66 a1 b2 = some r):Snd Tryz.prog Zk9 [eDep a1,eDep b2] (.bool r) []:=by
 refine wS ZEj [.t 4] ?_
 unfold Z66 at H
 refine wP ?_
 refine Wh_iH H (fun H=>?_) fun H=>?_
 .refine wP ?_
  replace H:=sI H; subst H
  exact wE [(4,.d)]
 .refine wP ?_
  refine Wh_iH H (fun H=>?_) fun H=>?_
  .refine wP ?_
   replace H:=sI H; subst H
   exact wE [(4,.d)]
  .refine wP ?_
   replace H:=sI H; subst H
   exact wE [(4,.d)]
def laws_eqDep (a1:Dep) (b2:Dep):Bool :=
 bif (a1.id != b2.id) then (false) else (bif (a1.for_ != b2.for_) then (false) else (true))
theorem ZTk (a1:Dep) (b2:Dep):Z66 a1 b2 = some (laws_eqDep a1 b2):=by
 unfold Z66 laws_eqDep
 first | rfl | simp only [Z7]
theorem Zlj (a1:Dep) (b2:Dep):Snd Tryz.prog Zk9 [eDep a1,eDep b2] (.bool (laws_eqDep a1 b2)) []:=ZWe (ZTk a1 b2)
def Zxh:L :=
.seq (rE 4 (cB false))
 (.seq (sR [mV 6 0,.ln 7 (.t 6),mV 8 1,.ln 9 (.t 8),bI 10 .neq 7 9]
 (.cond (.t 10) (.seq (rE 4 (cB false))
 gR)
 .skip))
 (.seq (.seq (rE 5 (kI 0))
 (.blk 0 (.loop (.gw (.seq (sR [mV 11 5,mV 12 0,.ln 13 (.t 12),bI 14 .lss 11 13]
 (.cond (.t 14) .skip
 (.exit 0)))
 (.seq (.blk 1 (.seq (.rq 10 [mV 17 0,mV 18 5,iA 19 17 18 2,lD 20 19 2 true,mV 21 1,mV 22 5,iA 23 21 22 2,lD 24 23 2 true,cQ 25 Zk9 [20,24],.un 26 (.t 25)])
 (.cond (.t 26) (.seq (rE 4 (cB false))
 gR)
 .skip)))
 (.reg [mV 15 5,.bi 16 .add (.t 15) (kI 1),mV 5 16])))))))
 (.seq (rE 4 (cB true))
 gR)))
def Zp3 (a1:List Dep) (b2:List Dep) (v4:Int) (k4:Int -> Option Bool):Option Bool :=
 bif (decide (v4 < (a1.length:Int))) then ((idx a1 v4).bind fun e6=>(idx b2 v4).bind fun e7=>bif (!(laws_eqDep e6 e7)) then (some false) else (k4 (w64 (v4 + 1)))) else (some true)
def laws_eqDepS (a1:List Dep) (b2:List Dep):Option Bool :=
 bif ((a1.length:Int) != (b2.length:Int)) then (some false) else (whl (Zp3 a1 b2) 9223372036854775807 0)
theorem ZUg {a1:List Dep} {b2:List Dep} {r:Bool} (H:laws_eqDepS a1 b2 = some r):Snd Tryz.prog Zrb [.sl .rd 2 (a1.map eDep),.sl .rd 2 (b2.map eDep)] (.bool r) []:=by
 refine wS Zxh [.t 4] ?_
 unfold laws_eqDepS at H
 refine wG [.u 7 (.ln _ _ fun _=>lm a1 eDep),.u 9 (.ln _ _ fun _=>lm b2 eDep)] fun q3=>?_
 refine Wh_iH H (fun H=>?_) fun H=>?_
 .refine wP ?_
  replace H:=sI H; subst H
  exact wE [(4,.d)]
 .refine wP ?_
  refine wW (fun (v4:Int)=>⟨[(0,.sl .rd 2 (a1.map eDep)),(1,.sl .rd 2 (b2.map eDep)),(5,.int .i64 v4)],[],[],[]⟩) H (fun v4 I m k4 H N25=>?_)
  unfold Zp3 at H
  refine wG [.u 13 (.ln _ _ fun _=>lm a1 eDep)] fun q5=>?_
  refine Wh_iH H (fun H=>?_) fun H=>?_
  .obtain ⟨e6,h6,H⟩:=bB H
   obtain ⟨e7,h7,H⟩:=bB H
   refine wG [.u 19 (.ix _ _ _ fun _=>Z0 eDep h6),.u 23 (.ix _ _ _ fun _=>Z0 eDep h7),.c 25 (Zlj e6 e7)] fun _=>?_
   refine Wh_iH H (fun H=>?_) fun H=>?_
   .refine wP ?_
    replace H:=sI H; subst H
    exact wE [(4,.d)]
   .refine wP ?_
    exact wT (N25 _ H)
  .refine wP ?_
   replace H:=sI H; subst H
   exact wE [(4,.d)]
def Zif:L :=
sR [.bx 1 (.t 0),.al 2 [.str [],.int .i64 0,.int .i64 0,.int .i64 0,.int .i64 0,.int .i64 0]]
 (sR [.al 3 [.str [],.int .i64 0,.int .i64 0,.int .i64 0,.int .i64 0,.int .i64 0]]
 (sR [fA 4 1 0,lD 5 4 1 false,fA 6 3 0,.st (.t 6) (.t 5) 1]
 (sR [fA 7 1 1,lD 8 7 1 false,fA 9 3 1,.st (.t 9) (.t 8) 1]
 (sR [fA 10 1 2,lD 11 10 1 false,fA 12 3 2,.st (.t 12) (.t 11) 1]
 (sR [fA 13 1 3,lD 14 13 3 true,cQ 15 Zc2 [14],fA 16 3 3,.st (.t 16) (.t 15) 3]
 (sR [lD 17 3 6 true,.st (.t 2) (.t 17) 6]
 gR))))))
def Z34 (a1:Quota):Option Quota :=
 some (Quota.mk a1.name a1.jobs a1.nodes (laws_toVec a1.res))
theorem ZMb {a1:Quota} {r:Quota} (H:Z34 a1 = some r):Snd Tryz.prog ZY6 [Zj a1] (Zj r) []:=by
 refine wS Zif [.c 2 6 true] ?_
 unfold Z34 at H
 refine wG [.c 15 (Zd3 a1.res)] fun _=>?_
 replace H:=sI H; subst H
 exact wN [(2,.d)] [(2,[])] [] [] [] []
def laws_toQuota (a1:Quota):Quota :=
 (Quota.mk a1.name a1.jobs a1.nodes (laws_toVec a1.res))
theorem Zqg (a1:Quota):Z34 a1 = some (laws_toQuota a1):=by
 unfold Z34 laws_toQuota
 first | rfl | simp only [Z7]
theorem Zxe (a1:Quota):Snd Tryz.prog ZY6 [Zj a1] (Zj (laws_toQuota a1)) []:=ZMb (Zqg a1)
def Zsd:L :=
sR [.mv 2 (.c (.nl))]
 (sR [mV 5 0,.ln 6 (.t 5),.ms 7 6 56 [.str [],.int .i64 0,.int .i64 0,.int .i64 0,.int .i64 0,.int .i64 0] (.t 6),mV 3 7]
 (.seq (.seq (rE 4 (kI 0))
 (.blk 0 (.loop (.gw (.seq (sR [mV 8 4,mV 9 0,.ln 10 (.t 9),bI 11 .lss 8 10]
 (.cond (.t 11) .skip
 (.exit 0)))
 (.seq (.blk 1 (.reg [mV 14 3,mV 15 4,mV 16 0,mV 17 4,iA 18 16 17 6,lD 19 18 6 true,cQ 20 ZY6 [19],iA 21 14 15 6,.st (.t 21) (.t 20) 6]))
 (.reg [mV 12 4,.bi 13 .add (.t 12) (kI 1),mV 4 13])))))))
 (sR [mV 22 3,mV 2 22]
 gR)))
def Zl2 (a1:List Quota) (v4:Int × (List Quota)) (k4:(Int × (List Quota)) -> Option (List Quota)):Option (List Quota) :=
 bif (decide (v4.1 < (a1.length:Int))) then ((idx a1 v4.1).bind fun e6=>(idx v4.2 v4.1).bind fun _=>k4 ((w64 (v4.1 + 1)),(v4.2.set v4.1.toNat (Quota.mk ((laws_toQuota e6).name) ((laws_toQuota e6).jobs) ((laws_toQuota e6).nodes) ((laws_toQuota e6).res))))) else (some v4.2)
def laws_toQuotaS (a1:List Quota):Option (List Quota) :=
 (mkL 56 (a1.length:Int) (Quota.mk ([]:Str) 0 0 (Vec.mk 0 0 0))).bind fun xs2=>whl (Zl2 a1) 9223372036854775807 (0,xs2)
theorem ZVc {a1:List Quota} {r:(List Quota)} (H:laws_toQuotaS a1 = some r):Snd Tryz.prog Za9 [.sl .rd 6 (a1.map Zj)] (.sl .nw 6 (r.map Zj)) []:=by
 refine wS Zsd [.t 2] ?_
 unfold laws_toQuotaS at H
 obtain ⟨xs2,h2,H⟩:=bB H
 refine wG [.u 6 (.ln _ _ fun _=>lm a1 Zj),.u 7 (.ms _ _ _ _ fun _=>ZC6 Zj h2)] fun q3=>?_
 refine wW (fun (v4:Int × (List Quota))=>⟨[(0,.sl .rd 6 (a1.map Zj)),(3,.sref 7),(4,.int .i64 v4.1)],[],[],[(7,⟨6,v4.2.map Zj,false⟩)]⟩) H (fun v4 I m k4 H N13=>?_)
 unfold Zl2 at H
 refine wG [.u 10 (.ln _ _ fun _=>lm a1 Zj)] fun q5=>?_
 refine Wh_iH H (fun H=>?_) fun H=>?_
 .obtain ⟨e6,h6,H⟩:=bB H
  obtain ⟨e7,h7,H⟩:=bB H
  refine wG [.u 18 (.ix _ _ _ fun _=>Z0 Zj h6),.c 20 (Zxe e6),.u 21 (.ix _ _ _ fun _=>Z0 Zj h7),.u 1000000 (.sto _ _ _ (Zj (Quota.mk ((laws_toQuota e6).name) ((laws_toQuota e6).jobs) ((laws_toQuota e6).nodes) ((laws_toQuota e6).res))) _ (fun _=>gm Zj (Zt1 h7)) (fun _=>ZD4 ..))] fun _=>?_
  exact wT (N13 _ H)
 .refine wP ?_
  replace H:=sI H; subst H
  exact wN [(2,.f)] [] [] [7] [] [⟨_,Z2m v4.2⟩]
def Znf:L :=
sR [.bx 2 (.t 0),.mv 4 (kI 0)]
 (sR [mV 5 1,fA 6 2 0,lD 7 6 1 false,.ls 8 (.t 7),bI 9 .sub 5 8,mV 1 9]
 (.seq (sR [mV 10 1,.bi 11 .lss (.t 10) (kI 0)]
 (.cond (.t 11) (.seq (rE 4 (kI (-1)))
 gR)
 .skip))
 (sR [mV 12 1,mV 4 12]
 gR)))
def Z54 (a1:Quota) (left2:Int):Option Int :=
 bif (decide ((w64 (left2 - (a1.name.length:Int))) < 0)) then (some (-1)) else (some (w64 (left2 - (a1.name.length:Int))))
theorem ZPb {a1:Quota} {left2:Int} {r:Int} (H:Z54 a1 left2 = some r):Snd Tryz.prog Z07 [Zj a1,.int .i64 left2] (.int .i64 r) []:=by
 refine wS Znf [.t 4] ?_
 unfold Z54 at H
 refine wP ?_
 refine Wh_iH H (fun H=>?_) fun H=>?_
 .refine wP ?_
  replace H:=sI H; subst H
  exact wE [(4,.d)]
 .refine wP ?_
  replace H:=sI H; subst H
  exact wE [(4,.d)]
def laws_szQuota (a1:Quota) (left2:Int):Int :=
 bif (decide ((w64 (left2 - (a1.name.length:Int))) < 0)) then ((-1)) else ((w64 (left2 - (a1.name.length:Int))))
theorem ZDg (a1:Quota) (left2:Int):Z54 a1 left2 = some (laws_szQuota a1 left2):=by
 unfold Z54 laws_szQuota
 first | rfl | simp only [Z7]
theorem ZIe (a1:Quota) (left2:Int):Snd Tryz.prog Z07 [Zj a1,.int .i64 left2] (.int .i64 (laws_szQuota a1 left2)) []:=ZPb (ZDg a1 left2)
def Zud:L :=
.seq (rE 4 (kI 0))
 (sR [mV 6 1,mV 7 0,.ln 8 (.t 7),bI 9 .sub 6 8,mV 1 9]
 (.seq (sR [mV 10 1,.bi 11 .lss (.t 10) (kI 0)]
 (.cond (.t 11) (.seq (rE 4 (kI (-1)))
 gR)
 .skip))
 (.seq (.seq (rE 5 (kI 0))
 (.blk 0 (.loop (.gw (.seq (sR [mV 12 5,mV 13 0,.ln 14 (.t 13),bI 15 .lss 12 14]
 (.cond (.t 15) .skip
 (.exit 0)))
 (.seq (.blk 1 (sR [mV 18 0,mV 19 5,iA 20 18 19 6,lD 21 20 6 true,mV 22 1,cQ 23 Z07 [21,22],mV 1 23]
 (sR [mV 24 1,.bi 25 .lss (.t 24) (kI 0)]
 (.cond (.t 25) (.seq (rE 4 (kI (-1)))
 gR)
 .skip))))
 (.reg [mV 16 5,.bi 17 .add (.t 16) (kI 1),mV 5 17])))))))
 (sR [mV 26 1,mV 4 26]
 gR))))
def ZG1 (a1:List Quota) (v4:Int × Int) (k4:(Int × Int) -> Option Int):Option Int :=
 bif (decide (v4.2 < (a1.length:Int))) then ((idx a1 v4.2).bind fun e6=>bif (decide ((laws_szQuota e6 v4.1) < 0)) then (some (-1)) else (k4 ((laws_szQuota e6 v4.1),(w64 (v4.2 + 1))))) else (some v4.1)
def laws_szQuotaS (a1:List Quota) (left2:Int):Option Int :=
 bif (decide ((w64 (left2 - (a1.length:Int))) < 0)) then (some (-1)) else (whl (ZG1 a1) 9223372036854775807 ((w64 (left2 - (a1.length:Int))),0))
theorem Z2d {a1:List Quota} {left2:Int} {r:Int} (H:laws_szQuotaS a1 left2 = some r):Snd Tryz.prog Zf9 [.sl .rd 6 (a1.map Zj),.int .i64 left2] (.int .i64 r) []:=by
 refine wS Zud [.t 4] ?_
 unfold laws_szQuotaS at H
 refine wG [.u 8 (.ln _ _ fun _=>lm a1 Zj)] fun q3=>?_
 refine Wh_iH H (fun H=>?_) fun H=>?_
 .refine wP ?_
  replace H:=sI H; subst H
  exact wE [(4,.d)]
 .refine wP ?_
  refine wW (fun (v4:Int × Int)=>⟨[(0,.sl .rd 6 (a1.map Zj)),(1,.int .i64 v4.1),(5,.int .i64 v4.2)],[],[],[]⟩) H (fun v4 I m k4 H N28=>?_)
  unfold ZG1 at H
  refine wG [.u 14 (.ln _ _ fun _=>lm a1 Zj)] fun q5=>?_
  refine Wh_iH H (fun H=>?_) fun H=>?_
  .obtain ⟨e6,h6,H⟩:=bB H
   refine wG [.u 20 (.ix _ _ _ fun _=>Z0 Zj h6),.c 23 (ZIe e6 v4.1)] fun _=>?_
   refine Wh_iH H (fun H=>?_) fun H=>?_
   .refine wP ?_
    replace H:=sI H; subst H
    exact wE [(4,.d)]
   .refine wP ?_
    exact wT (N28 _ H)
  .refine wP ?_
   replace H:=sI H; subst H
   exact wE [(4,.d)]
def Zsf:L :=
sR [.bx 2 (.t 0),.bx 3 (.t 1),.mv 4 (cB false)]
 (.seq (sR [fA 5 2 0,lD 6 5 1 false,fA 7 3 0,lD 8 7 1 false,bI 9 .neq 6 8]
 (.cond (.t 9) (.seq (rE 4 (cB false))
 gR)
 .skip))
 (.seq (sR [fA 10 2 1,lD 11 10 1 false,fA 12 3 1,lD 13 12 1 false,bI 14 .neq 11 13]
 (.cond (.t 14) (.seq (rE 4 (cB false))
 gR)
 .skip))
 (.seq (sR [fA 15 2 2,lD 16 15 1 false,fA 17 3 2,lD 18 17 1 false,bI 19 .neq 16 18]
 (.cond (.t 19) (.seq (rE 4 (cB false))
 gR)
 .skip))
 (.seq (sR [fA 20 2 3,lD 21 20 3 true,fA 22 3 3,lD 23 22 3 true,cQ 24 Zd2 [21,23],.un 25 (.t 24)]
 (.cond (.t 25) (.seq (rE 4 (cB false))
 gR)
 .skip))
 (.seq (rE 4 (cB true))
 gR)))))
def Z94 (a1:Quota) (b2:Quota):Option Bool :=
 bif (a1.name != b2.name) then (some false) else (bif (a1.jobs != b2.jobs) then (some false) else (bif (a1.nodes != b2.nodes) then (some false) else (bif (!(laws_eqVec a1.res b2.res)) then (some false) else (some true))))
theorem ZWb {a1:Quota} {b2:Quota} {r:Bool} (H:Z94 a1 b2 = some r):Snd Tryz.prog Z47 [Zj a1,Zj b2] (.bool r) []:=by
 refine wS Zsf [.t 4] ?_
 unfold Z94 at H
 refine wP ?_
 refine Wh_iH H (fun H=>?_) fun H=>?_
 .refine wP ?_
  replace H:=sI H; subst H
  exact wE [(4,.d)]
 .refine wP ?_
  refine Wh_iH H (fun H=>?_) fun H=>?_
  .refine wP ?_
   replace H:=sI H; subst H
   exact wE [(4,.d)]
  .refine wP ?_
   refine Wh_iH H (fun H=>?_) fun H=>?_
   .refine wP ?_
    replace H:=sI H; subst H
    exact wE [(4,.d)]
   .refine wG [.c 24 (Zk3 a1.res b2.res)] fun _=>?_
    refine Wh_iH H (fun H=>?_) fun H=>?_
    .refine wP ?_
     replace H:=sI H; subst H
     exact wE [(4,.d)]
    .refine wP ?_
     replace H:=sI H; subst H
     exact wE [(4,.d)]
def laws_eqQuota (a1:Quota) (b2:Quota):Bool :=
 bif (a1.name != b2.name) then (false) else (bif (a1.jobs != b2.jobs) then (false) else (bif (a1.nodes != b2.nodes) then (false) else (bif (!(laws_eqVec a1.res b2.res)) then (false) else (true))))
theorem ZOg (a1:Quota) (b2:Quota):Z94 a1 b2 = some (laws_eqQuota a1 b2):=by
 unfold Z94 laws_eqQuota
 first | rfl | simp only [Z7]
theorem ZPe (a1:Quota) (b2:Quota):Snd Tryz.prog Z47 [Zj a1,Zj b2] (.bool (laws_eqQuota a1 b2)) []:=ZWb (ZOg a1 b2)
def Zwd:L :=
.seq (rE 4 (cB false))
 (.seq (sR [mV 6 0,.ln 7 (.t 6),mV 8 1,.ln 9 (.t 8),bI 10 .neq 7 9]
 (.cond (.t 10) (.seq (rE 4 (cB false))
 gR)
 .skip))
 (.seq (.seq (rE 5 (kI 0))
 (.blk 0 (.loop (.gw (.seq (sR [mV 11 5,mV 12 0,.ln 13 (.t 12),bI 14 .lss 11 13]
 (.cond (.t 14) .skip
 (.exit 0)))
 (.seq (.blk 1 (.seq (.rq 10 [mV 17 0,mV 18 5,iA 19 17 18 6,lD 20 19 6 true,mV 21 1,mV 22 5,iA 23 21 22 6,lD 24 23 6 true,cQ 25 Z47 [20,24],.un 26 (.t 25)])
 (.cond (.t 26) (.seq (rE 4 (cB false))
 gR)
 .skip)))
 (.reg [mV 15 5,.bi 16 .add (.t 15) (kI 1),mV 5 16])))))))
 (.seq (rE 4 (cB true))
 gR)))
def Zn2 (a1:List Quota) (b2:List Quota) (v4:Int) (k4:Int -> Option Bool):Option Bool :=
 bif (decide (v4 < (a1.length:Int))) then ((idx a1 v4).bind fun e6=>(idx b2 v4).bind fun e7=>bif (!(laws_eqQuota e6 e7)) then (some false) else (k4 (w64 (v4 + 1)))) else (some true)
def laws_eqQuotaS (a1:List Quota) (b2:List Quota):Option Bool :=
 bif ((a1.length:Int) != (b2.length:Int)) then (some false) else (whl (Zn2 a1 b2) 9223372036854775807 0)
theorem Zbd {a1:List Quota} {b2:List Quota} {r:Bool} (H:laws_eqQuotaS a1 b2 = some r):Snd Tryz.prog Zh9 [.sl .rd 6 (a1.map Zj),.sl .rd 6 (b2.map Zj)] (.bool r) []:=by
 refine wS Zwd [.t 4] ?_
 unfold laws_eqQuotaS at H
 refine wG [.u 7 (.ln _ _ fun _=>lm a1 Zj),.u 9 (.ln _ _ fun _=>lm b2 Zj)] fun q3=>?_
 refine Wh_iH H (fun H=>?_) fun H=>?_
 .refine wP ?_
  replace H:=sI H; subst H
  exact wE [(4,.d)]
 .refine wP ?_
  refine wW (fun (v4:Int)=>⟨[(0,.sl .rd 6 (a1.map Zj)),(1,.sl .rd 6 (b2.map Zj)),(5,.int .i64 v4)],[],[],[]⟩) H (fun v4 I m k4 H N25=>?_)
  unfold Zn2 at H
  refine wG [.u 13 (.ln _ _ fun _=>lm a1 Zj)] fun q5=>?_
  refine Wh_iH H (fun H=>?_) fun H=>?_
  .obtain ⟨e6,h6,H⟩:=bB H
   obtain ⟨e7,h7,H⟩:=bB H
   refine wG [.u 19 (.ix _ _ _ fun _=>Z0 Zj h6),.u 23 (.ix _ _ _ fun _=>Z0 Zj h7),.c 25 (ZPe e6 e7)] fun _=>?_
   refine Wh_iH H (fun H=>?_) fun H=>?_
   .refine wP ?_
    replace H:=sI H; subst H
    exact wE [(4,.d)]
   .refine wP ?_
    exact wT (N25 _ H)
  .refine wP ?_
   replace H:=sI H; subst H
   exact wE [(4,.d)]
def Zjf:L :=
sR [.bx 1 (.t 0),.al 2 [.int .i64 0,.str []]]
 (sR [.al 3 [.int .i64 0,.str []]]
 (sR [fA 4 1 0,lD 5 4 1 false,fA 6 3 0,.st (.t 6) (.t 5) 1]
 (sR [fA 7 1 1,lD 8 7 1 false,fA 9 3 1,.st (.t 9) (.t 8) 1]
 (sR [lD 10 3 2 true,.st (.t 2) (.t 10) 2]
 gR))))
def Z44 (a1:Owner):Option Owner :=
 some a1
theorem ZNb {a1:Owner} {r:Owner} (H:Z44 a1 = some r):Snd Tryz.prog ZZ6 [Zp a1] (Zp r) []:=by
 refine wS Zjf [.c 2 2 true] ?_
 unfold Z44 at H
 refine wP ?_
 replace H:=sI H; subst H
 exact wN [(2,.d)] [(2,[])] [] [] [] []
def laws_toOwner (a1:Owner):Owner :=
 a1
theorem Zrg (a1:Owner):Z44 a1 = some (laws_toOwner a1):=by
 unfold Z44 laws_toOwner
 first | rfl | simp only [Z7]
theorem Zye (a1:Owner):Snd Tryz.prog ZZ6 [Zp a1] (Zp (laws_toOwner a1)) []:=ZNb (Zrg a1)
def Ztd:L :=
sR [.mv 2 (.c (.nl))]
 (sR [mV 5 0,.ln 6 (.t 5),.ms 7 2 24 [.int .i64 0,.str []] (.t 6),mV 3 7]
 (.seq (.seq (rE 4 (kI 0))
 (.blk 0 (.loop (.gw (.seq (sR [mV 8 4,mV 9 0,.ln 10 (.t 9),bI 11 .lss 8 10]
 (.cond (.t 11) .skip
 (.exit 0)))
 (.seq (.blk 1 (.reg [mV 14 3,mV 15 4,mV 16 0,mV 17 4,iA 18 16 17 2,lD 19 18 2 true,cQ 20 ZZ6 [19],iA 21 14 15 2,.st (.t 21) (.t 20) 2]))
 (.reg [mV 12 4,.bi 13 .add (.t 12) (kI 1),mV 4 13])))))))
 (sR [mV 22 3,mV 2 22]
 gR)))
def Zm2 (a1:List Owner) (v4:Int × (List Owner)) (k4:(Int × (List Owner)) -> Option (List Owner)):Option (List Owner) :=
 bif (decide (v4.1 < (a1.length:Int))) then ((idx a1 v4.1).bind fun e6=>(idx v4.2 v4.1).bind fun _=>k4 ((w64 (v4.1 + 1)),(v4.2.set v4.1.toNat (laws_toOwner e6)))) else (some v4.2)
def laws_toOwnerS (a1:List Owner):Option (List Owner) :=
 (mkL 24 (a1.length:Int) (Owner.mk 0 ([]:Str))).bind fun xs2=>whl (Zm2 a1) 9223372036854775807 (0,xs2)
theorem ZXc {a1:List Owner} {r:(List Owner)} (H:laws_toOwnerS a1 = some r):Snd Tryz.prog Zb9 [.sl .rd 2 (a1.map Zp)] (.sl .nw 2 (r.map Zp)) []:=by
 refine wS Ztd [.t 2] ?_
 unfold laws_toOwnerS at H
 obtain ⟨xs2,h2,H⟩:=bB H
 refine wG [.u 6 (.ln _ _ fun _=>lm a1 Zp),.u 7 (.ms _ _ _ _ fun _=>ZC6 Zp h2)] fun q3=>?_
 refine wW (fun (v4:Int × (List Owner))=>⟨[(0,.sl .rd 2 (a1.map Zp)),(3,.sref 7),(4,.int .i64 v4.1)],[],[],[(7,⟨2,v4.2.map Zp,false⟩)]⟩) H (fun v4 I m k4 H N13=>?_)
 unfold Zm2 at H
 refine wG [.u 10 (.ln _ _ fun _=>lm a1 Zp)] fun q5=>?_
 refine Wh_iH H (fun H=>?_) fun H=>?_
 .obtain ⟨e6,h6,H⟩:=bB H
  obtain ⟨e7,h7,H⟩:=bB H
  refine wG [.u 18 (.ix _ _ _ fun _=>Z0 Zp h6),.c 20 (Zye e6),.u 21 (.ix _ _ _ fun _=>Z0 Zp h7),.u 1000000 (.sto _ _ _ (Zp (laws_toOwner e6)) _ (fun _=>gm Zp (Zt1 h7)) (fun _=>ZD4 ..))] fun _=>?_
  exact wT (N13 _ H)
 .refine wP ?_
  replace H:=sI H; subst H
  exact wN [(2,.f)] [] [] [7] [] [⟨_,Z3m v4.2⟩]
def Zof:L :=
sR [.bx 2 (.t 0),.mv 4 (kI 0)]
 (sR [mV 5 1,fA 6 2 1,lD 7 6 1 false,.ls 8 (.t 7),bI 9 .sub 5 8,mV 1 9]
 (.seq (sR [mV 10 1,.bi 11 .lss (.t 10) (kI 0)]
 (.cond (.t 11) (.seq (rE 4 (kI (-1)))
 gR)
 .skip))
 (sR [mV 12 1,mV 4 12]
 gR)))
def Z64 (a1:Owner) (left2:Int):Option Int :=
 bif (decide ((w64 (left2 - (a1.name.length:Int))) < 0)) then (some (-1)) else (some (w64 (left2 - (a1.name.length:Int))))
theorem ZQb {a1:Owner} {left2:Int} {r:Int} (H:Z64 a1 left2 = some r):Snd Tryz.prog Z17 [Zp a1,.int .i64 left2] (.int .i64 r) []:=by
 refine wS Zof [.t 4] ?_
 unfold Z64 at H
 refine wP ?_
 refine Wh_iH H (fun H=>?_) fun H=>?_
 .refine wP ?_
  replace H:=sI H; subst H
  exact wE [(4,.d)]
 .refine wP ?_
  replace H:=sI H; subst H
  exact wE [(4,.d)]
def laws_szOwner (a1:Owner) (left2:Int):Int :=
 bif (decide ((w64 (left2 - (a1.name.length:Int))) < 0)) then ((-1)) else ((w64 (left2 - (a1.name.length:Int))))
theorem ZEg (a1:Owner) (left2:Int):Z64 a1 left2 = some (laws_szOwner a1 left2):=by
 unfold Z64 laws_szOwner
 first | rfl | simp only [Z7]
theorem ZJe (a1:Owner) (left2:Int):Snd Tryz.prog Z17 [Zp a1,.int .i64 left2] (.int .i64 (laws_szOwner a1 left2)) []:=ZQb (ZEg a1 left2)
def Zvd:L :=
.seq (rE 4 (kI 0))
 (sR [mV 6 1,mV 7 0,.ln 8 (.t 7),bI 9 .sub 6 8,mV 1 9]
 (.seq (sR [mV 10 1,.bi 11 .lss (.t 10) (kI 0)]
 (.cond (.t 11) (.seq (rE 4 (kI (-1)))
 gR)
 .skip))
 (.seq (.seq (rE 5 (kI 0))
 (.blk 0 (.loop (.gw (.seq (sR [mV 12 5,mV 13 0,.ln 14 (.t 13),bI 15 .lss 12 14]
 (.cond (.t 15) .skip
 (.exit 0)))
 (.seq (.blk 1 (sR [mV 18 0,mV 19 5,iA 20 18 19 2,lD 21 20 2 true,mV 22 1,cQ 23 Z17 [21,22],mV 1 23]
 (sR [mV 24 1,.bi 25 .lss (.t 24) (kI 0)]
 (.cond (.t 25) (.seq (rE 4 (kI (-1)))
 gR)
 .skip))))
 (.reg [mV 16 5,.bi 17 .add (.t 16) (kI 1),mV 5 17])))))))
 (sR [mV 26 1,mV 4 26]
 gR))))
def ZH1 (a1:List Owner) (v4:Int × Int) (k4:(Int × Int) -> Option Int):Option Int :=
 bif (decide (v4.2 < (a1.length:Int))) then ((idx a1 v4.2).bind fun e6=>bif (decide ((laws_szOwner e6 v4.1) < 0)) then (some (-1)) else (k4 ((laws_szOwner e6 v4.1),(w64 (v4.2 + 1))))) else (some v4.1)
def laws_szOwnerS (a1:List Owner) (left2:Int):Option Int :=
 bif (decide ((w64 (left2 - (a1.length:Int))) < 0)) then (some (-1)) else (whl (ZH1 a1) 9223372036854775807 ((w64 (left2 - (a1.length:Int))),0))
theorem Z3d {a1:List Owner} {left2:Int} {r:Int} (H:laws_szOwnerS a1 left2 = some r):Snd Tryz.prog Zg9 [.sl .rd 2 (a1.map Zp),.int .i64 left2] (.int .i64 r) []:=by
 refine wS Zvd [.t 4] ?_
 unfold laws_szOwnerS at H
 refine wG [.u 8 (.ln _ _ fun _=>lm a1 Zp)] fun q3=>?_
 refine Wh_iH H (fun H=>?_) fun H=>?_
 .refine wP ?_
  replace H:=sI H; subst H
  exact wE [(4,.d)]
 .refine wP ?_
  refine wW (fun (v4:Int × Int)=>⟨[(0,.sl .rd 2 (a1.map Zp)),(1,.int .i64 v4.1),(5,.int .i64 v4.2)],[],[],[]⟩) H (fun v4 I m k4 H N28=>?_)
  unfold ZH1 at H
  refine wG [.u 14 (.ln _ _ fun _=>lm a1 Zp)] fun q5=>?_
  refine Wh_iH H (fun H=>?_) fun H=>?_
  .obtain ⟨e6,h6,H⟩:=bB H
   refine wG [.u 20 (.ix _ _ _ fun _=>Z0 Zp h6),.c 23 (ZJe e6 v4.1)] fun _=>?_
   refine Wh_iH H (fun H=>?_) fun H=>?_
   .refine wP ?_
    replace H:=sI H; subst H
    exact wE [(4,.d)]
   .refine wP ?_
    exact wT (N28 _ H)
  .refine wP ?_
   replace H:=sI H; subst H
   exact wE [(4,.d)]
def Ztf:L :=
sR [.bx 2 (.t 0),.bx 3 (.t 1),.mv 4 (cB false)]
 (.seq (sR [fA 5 2 0,lD 6 5 1 false,fA 7 3 0,lD 8 7 1 false,bI 9 .neq 6 8]
 (.cond (.t 9) (.seq (rE 4 (cB false))
 gR)
 .skip))
 (.seq (sR [fA 10 2 1,lD 11 10 1 false,fA 12 3 1,lD 13 12 1 false,bI 14 .neq 11 13]
 (.cond (.t 14) (.seq (rE 4 (cB false))
 gR)
 .skip))
 (.seq (rE 4 (cB true))
 gR)))
def Za4 (a1:Owner) (b2:Owner):Option Bool :=
 bif (a1.id != b2.id) then (some false) else (bif (a1.name != b2.name) then (some false) else (some true))
theorem ZYb {a1:Owner} {b2:Owner} {r:Bool} (H:Za4 a1 b2 = some r):Snd Tryz.prog Z57 [Zp a1,Zp b2] (.bool r) []:=by
 refine wS Ztf [.t 4] ?_
 unfold Za4 at H
 refine wP ?_
 refine Wh_iH H (fun H=>?_) fun H=>?_
 .refine wP ?_
  replace H:=sI H; subst H
  exact wE [(4,.d)]
 .refine wP ?_
  refine Wh_iH H (fun H=>?_) fun H=>?_
  .refine wP ?_
   replace H:=sI H; subst H
   exact wE [(4,.d)]
  .refine wP ?_
   replace H:=sI H; subst H
   exact wE [(4,.d)]
def laws_eqOwner (a1:Owner) (b2:Owner):Bool :=
 bif (a1.id != b2.id) then (false) else (bif (a1.name != b2.name) then (false) else (true))
theorem ZPg (a1:Owner) (b2:Owner):Za4 a1 b2 = some (laws_eqOwner a1 b2):=by
 unfold Za4 laws_eqOwner
 first | rfl | simp only [Z7]
theorem ZQe (a1:Owner) (b2:Owner):Snd Tryz.prog Z57 [Zp a1,Zp b2] (.bool (laws_eqOwner a1 b2)) []:=ZYb (ZPg a1 b2)
def Zxd:L :=
.seq (rE 4 (cB false))
 (.seq (sR [mV 6 0,.ln 7 (.t 6),mV 8 1,.ln 9 (.t 8),bI 10 .neq 7 9]
 (.cond (.t 10) (.seq (rE 4 (cB false))
 gR)
 .skip))
 (.seq (.seq (rE 5 (kI 0))
 (.blk 0 (.loop (.gw (.seq (sR [mV 11 5,mV 12 0,.ln 13 (.t 12),bI 14 .lss 11 13]
 (.cond (.t 14) .skip
 (.exit 0)))
 (.seq (.blk 1 (.seq (.rq 10 [mV 17 0,mV 18 5,iA 19 17 18 2,lD 20 19 2 true,mV 21 1,mV 22 5,iA 23 21 22 2,lD 24 23 2 true,cQ 25 Z57 [20,24],.un 26 (.t 25)])
 (.cond (.t 26) (.seq (rE 4 (cB false))
 gR)
 .skip)))
 (.reg [mV 15 5,.bi 16 .add (.t 15) (kI 1),mV 5 16])))))))
 (.seq (rE 4 (cB true))
 gR)))
def Zo2 (a1:List Owner) (b2:List Owner) (v4:Int) (k4:Int -> Option Bool):Option Bool :=
 bif (decide (v4 < (a1.length:Int))) then ((idx a1 v4).bind fun e6=>(idx b2 v4).bind fun e7=>bif (!(laws_eqOwner e6 e7)) then (some false) else (k4 (w64 (v4 + 1)))) else (some true)
def laws_eqOwnerS (a1:List Owner) (b2:List Owner):Option Bool :=
 bif ((a1.length:Int) != (b2.length:Int)) then (some false) else (whl (Zo2 a1 b2) 9223372036854775807 0)
theorem Zcd {a1:List Owner} {b2:List Owner} {r:Bool} (H:laws_eqOwnerS a1 b2 = some r):Snd Tryz.prog Zi9 [.sl .rd 2 (a1.map Zp),.sl .rd 2 (b2.map Zp)] (.bool r) []:=by
 refine wS Zxd [.t 4] ?_
 unfold laws_eqOwnerS at H
 refine wG [.u 7 (.ln _ _ fun _=>lm a1 Zp),.u 9 (.ln _ _ fun _=>lm b2 Zp)] fun q3=>?_
 refine Wh_iH H (fun H=>?_) fun H=>?_
 .refine wP ?_
  replace H:=sI H; subst H
  exact wE [(4,.d)]
 .refine wP ?_
  refine wW (fun (v4:Int)=>⟨[(0,.sl .rd 2 (a1.map Zp)),(1,.sl .rd 2 (b2.map Zp)),(5,.int .i64 v4)],[],[],[]⟩) H (fun v4 I m k4 H N25=>?_)
  unfold Zo2 at H
  refine wG [.u 13 (.ln _ _ fun _=>lm a1 Zp)] fun q5=>?_
  refine Wh_iH H (fun H=>?_) fun H=>?_
  .obtain ⟨e6,h6,H⟩:=bB H
   obtain ⟨e7,h7,H⟩:=bB H
   refine wG [.u 19 (.ix _ _ _ fun _=>Z0 Zp h6),.u 23 (.ix _ _ _ fun _=>Z0 Zp h7),.c 25 (ZQe e6 e7)] fun _=>?_
   refine Wh_iH H (fun H=>?_) fun H=>?_
   .refine wP ?_
    replace H:=sI H; subst H
    exact wE [(4,.d)]
   .refine wP ?_
    exact wT (N25 _ H)
  .refine wP ?_
   replace H:=sI H; subst H
   exact wE [(4,.d)]
def Zhh:L :=
sR [.bx 1 (.t 0),.al 2 [.nl,.nl,.nl,.int .i64 0,.int .i64 0,.int .i64 0,.int .i64 0,.int .i64 0,.nl,.nl,.nl,.nl,.nl,.nl,.nl]]
 (sR [.al 3 [.nl,.nl,.nl,.int .i64 0,.int .i64 0,.int .i64 0,.int .i64 0,.int .i64 0,.nl,.nl,.nl,.nl,.nl,.nl,.nl]]
 (sR [fA 4 1 0,lD 5 4 11 true,cQ 6 Z2a [5],fA 7 3 0,.st (.t 7) (.t 6) 11]
 (sR [fA 8 1 11,lD 9 8 1 false,cQ 10 Zn7 [9],fA 11 3 11,.st (.t 11) (.t 10) 1]
 (sR [fA 12 1 12,lD 13 12 1 false,cQ 14 Za9 [13],fA 15 3 12,.st (.t 15) (.t 14) 1]
 (sR [fA 16 1 13,lD 17 16 1 false,cQ 18 Zjb [17],fA 19 3 13,.st (.t 19) (.t 18) 1]
 (sR [fA 20 1 14,lD 21 20 1 false,cQ 22 Zb9 [21],fA 23 3 14,.st (.t 23) (.t 22) 1]
 (sR [lD 24 3 15 true,.st (.t 2) (.t 24) 15]
 gR)))))))
def laws_toDesk (a1:Desk):Option Desk :=
 (laws_toState a1.state).bind fun y2=>(laws_toAccountS a1.accounts).bind fun y3=>(laws_toQuotaS a1.quotas).bind fun y4=>(laws_toDepS a1.deps).bind fun y5=>(laws_toOwnerS a1.owners).bind fun y6=>some (Desk.mk y2 y3 y4 y5 y6)
theorem ZE6 {a1:Desk} {r:Desk} (H:laws_toDesk a1 = some r):Snd Tryz.prog Zb5 [Zx3 .rd a1] (Zx3 .nw r) []:=by
 refine wS Zhh [.c 2 15 true] ?_
 unfold laws_toDesk at H
 obtain ⟨y2,h2,H⟩:=bB H
 obtain ⟨y3,h3,H⟩:=bB H
 obtain ⟨y4,h4,H⟩:=bB H
 obtain ⟨y5,h5,H⟩:=bB H
 obtain ⟨y6,h6,H⟩:=bB H
 refine wG [.c 6 (Zve h2),.c 10 (ZJa h3),.c 14 (ZVc h4),.c 18 (Zyg h5),.c 22 (ZXc h6)] fun _=>?_
 replace H:=sI H; subst H
 exact wN [(2,.d)] [(2,[])] [] [] [] [⟨_,nw_I y2.topo.parents⟩,⟨_,ZP y2.topo.nodes⟩,⟨_,nw_Bo y2.up⟩,⟨_,ZDk y2.queue⟩,⟨_,Zvl y2.runs⟩,⟨_,Zmn y2.ends⟩,⟨_,Zdi y3⟩,⟨_,Z2m y4⟩,⟨_,nw_Dep y5⟩,⟨_,Z3m y6⟩]
def Zoh:L :=
sR [.bx 2 (.t 0),.mv 4 (kI 0)]
 (sR [fA 5 2 0,lD 6 5 11 true,mV 7 1,cQ 8 Z5a [6,7],mV 1 8]
 (.seq (sR [mV 9 1,.bi 10 .lss (.t 9) (kI 0)]
 (.cond (.t 10) (.seq (rE 4 (kI (-1)))
 gR)
 .skip))
 (sR [fA 11 2 11,lD 12 11 1 false,mV 13 1,cQ 14 Zo7 [12,13],mV 1 14]
 (.seq (sR [mV 15 1,.bi 16 .lss (.t 15) (kI 0)]
 (.cond (.t 16) (.seq (rE 4 (kI (-1)))
 gR)
 .skip))
 (sR [fA 17 2 12,lD 18 17 1 false,mV 19 1,cQ 20 Zf9 [18,19],mV 1 20]
 (.seq (sR [mV 21 1,.bi 22 .lss (.t 21) (kI 0)]
 (.cond (.t 22) (.seq (rE 4 (kI (-1)))
 gR)
 .skip))
 (sR [fA 23 2 13,lD 24 23 1 false,mV 25 1,cQ 26 ZQ7 [24,25],mV 1 26]
 (.seq (sR [mV 27 1,.bi 28 .lss (.t 27) (kI 0)]
 (.cond (.t 28) (.seq (rE 4 (kI (-1)))
 gR)
 .skip))
 (sR [fA 29 2 14,lD 30 29 1 false,mV 31 1,cQ 32 Zg9 [30,31],mV 1 32]
 (.seq (sR [mV 33 1,.bi 34 .lss (.t 33) (kI 0)]
 (.cond (.t 34) (.seq (rE 4 (kI (-1)))
 gR)
 .skip))
 (sR [mV 35 1,mV 4 35]
 gR)))))))))))
def laws_szDesk (a1:Desk) (left2:Int):Option Int :=
 (laws_szState a1.state left2).bind fun n3=>bif (decide (n3 < 0)) then (some (-1)) else ((laws_szAccountS a1.accounts n3).bind fun n4=>bif (decide (n4 < 0)) then (some (-1)) else ((laws_szQuotaS a1.quotas n4).bind fun n5=>bif (decide (n5 < 0)) then (some (-1)) else (bif (decide ((laws_szDepS a1.deps n5) < 0)) then (some (-1)) else ((laws_szOwnerS a1.owners (laws_szDepS a1.deps n5)).bind fun n6=>bif (decide (n6 < 0)) then (some (-1)) else (some n6)))))
theorem ZIg {a1:Desk} {left2:Int} {r:Int} (H:laws_szDesk a1 left2 = some r):Snd Tryz.prog Zlb [Zx3 .rd a1,.int .i64 left2] (.int .i64 r) []:=by
 refine wS Zoh [.t 4] ?_
 unfold laws_szDesk at H
 obtain ⟨n3,h3,H⟩:=bB H
 refine wG [.c 8 (ZGe h3)] fun _=>?_
 refine Wh_iH H (fun H=>?_) fun H=>?_
 .refine wP ?_
  replace H:=sI H; subst H
  exact wE [(4,.d)]
 .obtain ⟨n4,h4,H⟩:=bB H
  refine wG [.c 14 (ZLa h4)] fun _=>?_
  refine Wh_iH H (fun H=>?_) fun H=>?_
  .refine wP ?_
   replace H:=sI H; subst H
   exact wE [(4,.d)]
  .obtain ⟨n5,h5,H⟩:=bB H
   refine wG [.c 20 (Z2d h5)] fun _=>?_
   refine Wh_iH H (fun H=>?_) fun H=>?_
   .refine wP ?_
    replace H:=sI H; subst H
    exact wE [(4,.d)]
   .refine wG [.c 26 (ZKg a1.deps n5)] fun _=>?_
    refine Wh_iH H (fun H=>?_) fun H=>?_
    .refine wP ?_
     replace H:=sI H; subst H
     exact wE [(4,.d)]
    .obtain ⟨n6,h6,H⟩:=bB H
     refine wG [.c 32 (Z3d h6)] fun _=>?_
     refine Wh_iH H (fun H=>?_) fun H=>?_
     .refine wP ?_
      replace H:=sI H; subst H
      exact wE [(4,.d)]
     .refine wP ?_
      replace H:=sI H; subst H
      exact wE [(4,.d)]
def Zwh:L :=
sR [.bx 2 (.t 0),.bx 3 (.t 1),.mv 4 (cB false)]
 (.seq (sR [fA 5 2 0,lD 6 5 11 true,fA 7 3 0,lD 8 7 11 true,cQ 9 Z6a [6,8],.un 10 (.t 9)]
 (.cond (.t 10) (.seq (rE 4 (cB false))
 gR)
 .skip))
 (.seq (sR [fA 11 2 11,lD 12 11 1 false,fA 13 3 11,lD 14 13 1 false,cQ 15 Zp7 [12,14],.un 16 (.t 15)]
 (.cond (.t 16) (.seq (rE 4 (cB false))
 gR)
 .skip))
 (.seq (sR [fA 17 2 12,lD 18 17 1 false,fA 19 3 12,lD 20 19 1 false,cQ 21 Zh9 [18,20],.un 22 (.t 21)]
 (.cond (.t 22) (.seq (rE 4 (cB false))
 gR)
 .skip))
 (.seq (sR [fA 23 2 13,lD 24 23 1 false,fA 25 3 13,lD 26 25 1 false,cQ 27 Zrb [24,26],.un 28 (.t 27)]
 (.cond (.t 28) (.seq (rE 4 (cB false))
 gR)
 .skip))
 (.seq (sR [fA 29 2 14,lD 30 29 1 false,fA 31 3 14,lD 32 31 1 false,cQ 33 Zi9 [30,32],.un 34 (.t 33)]
 (.cond (.t 34) (.seq (rE 4 (cB false))
 gR)
 .skip))
 (.seq (rE 4 (cB true))
 gR))))))
def laws_eqDesk (a1:Desk) (b2:Desk):Option Bool :=
 (laws_eqState a1.state b2.state).bind fun b3=>bif (!b3) then (some false) else ((laws_eqAccountS a1.accounts b2.accounts).bind fun b4=>bif (!b4) then (some false) else ((laws_eqQuotaS a1.quotas b2.quotas).bind fun b5=>bif (!b5) then (some false) else ((laws_eqDepS a1.deps b2.deps).bind fun b6=>bif (!b6) then (some false) else ((laws_eqOwnerS a1.owners b2.owners).bind fun b7=>bif (!b7) then (some false) else (some true)))))
theorem ZTg {a1:Desk} {b2:Desk} {r:Bool} (H:laws_eqDesk a1 b2 = some r):Snd Tryz.prog Zqb [Zx3 .rd a1,Zx3 .rd b2] (.bool r) []:=by
 refine wS Zwh [.t 4] ?_
 unfold laws_eqDesk at H
 obtain ⟨b3,h3,H⟩:=bB H
 refine wG [.c 9 (ZNe h3)] fun _=>?_
 refine Wh_iH H (fun H=>?_) fun H=>?_
 .refine wP ?_
  replace H:=sI H; subst H
  exact wE [(4,.d)]
 .obtain ⟨b4,h4,H⟩:=bB H
  refine wG [.c 15 (ZPa h4)] fun _=>?_
  refine Wh_iH H (fun H=>?_) fun H=>?_
  .refine wP ?_
   replace H:=sI H; subst H
   exact wE [(4,.d)]
  .obtain ⟨b5,h5,H⟩:=bB H
   refine wG [.c 21 (Zbd h5)] fun _=>?_
   refine Wh_iH H (fun H=>?_) fun H=>?_
   .refine wP ?_
    replace H:=sI H; subst H
    exact wE [(4,.d)]
   .obtain ⟨b6,h6,H⟩:=bB H
    refine wG [.c 27 (ZUg h6)] fun _=>?_
    refine Wh_iH H (fun H=>?_) fun H=>?_
    .refine wP ?_
     replace H:=sI H; subst H
     exact wE [(4,.d)]
    .obtain ⟨b7,h7,H⟩:=bB H
     refine wG [.c 33 (Zcd h7)] fun _=>?_
     refine Wh_iH H (fun H=>?_) fun H=>?_
     .refine wP ?_
      replace H:=sI H; subst H
      exact wE [(4,.d)]
     .refine wP ?_
      replace H:=sI H; subst H
      exact wE [(4,.d)]
end Go.Proofs.YtpljbgcghpamjaaGreat
namespace Go.Proofs.YtpljbgcghpamjaaGreat.Eng
open Go Go.RowKit
def CE (a b:AV):Prop:=AE a b /\ (a.one = true -> b.one = true)
def CEs (l m:List AV):Prop:=l.length = m.length /\ ∀ (i:Nat) (a b:AV),l[i]? = some a -> m[i]? = some b -> CE a b
theorem CE.refl (a:AV):CE a a:=⟨AE.refl a,id⟩
theorem CEs.refl (l:List AV):CEs l l:=⟨rfl,fun i a b h h'=>by rw [h] at h'; cases h'; exact .refl a⟩
theorem CEs.one {a b:AV} (h:CE a b):CEs [a] [b]:=⟨rfl,fun i x y hx hy=>by
 cases i with
 | zero=>simp at hx hy; subst hx; subst hy; exact h
 | succ i=>simp at hx⟩
theorem CEs.append {l1 l2 m1 m2:List AV} (h1:CEs l1 m1) (h2:CEs l2 m2):CEs (l1 ++ l2) (m1 ++ m2):=by
 refine ⟨by rw [List.length_append,List.length_append,h1.1,h2.1],fun i a b ha hb=>?_⟩
 by_cases hi:i < l1.length
 .rw [List.getElem?_append_left hi] at ha
  rw [List.getElem?_append_left (by rw [← h1.1]; exact hi)] at hb
  exact h1.2 i a b ha hb
 .rw [List.getElem?_append_right (by omega)] at ha
  rw [List.getElem?_append_right (by rw [← h1.1]; omega),← h1.1] at hb
  exact h2.2 _ a b ha hb
theorem CEs.flat {α:Type} {E:α -> AV}:∀ {es:List AV} {ys:List α},es.length = ys.length -> (∀ (i:Nat) (x:AV) (y:α),es[i]? = some x -> ys[i]? = some y -> CEs x.cells (E y).cells) -> CEs (Eng.flat es) (Eng.flat (ys.map E))
 | [],[],_,_=>CEs.refl []
 | x :: es,y :: ys,hl,h=>by
  have h0:=h 0 x y rfl rfl
  have h1:=CEs.flat (es:=es) (ys:=ys) (by simpa using hl) fun i x y hx hy=>h (i + 1) x y (by simpa using hx) (by simpa using hy)
  simpa [Eng.flat] using h0.append h1
 | [],_ :: _,hl,_=>by simp at hl
 | _ :: _,[],hl,_=>by simp at hl
theorem AE.agg {cs ds:List AV} (h:CEs cs ds):AE (.agg cs) (.agg ds):=by
 intro w S v hr
 cases hr with
 | agg _ vs hl h1 h2 =>
  refine .agg ds vs (by rw [← h.1,hl]) (fun b hb=>?_) fun i b u hb hu=>?_
  .obtain ⟨i,hi⟩:=List.getElem?_of_mem hb
   have hlt:i < cs.length:=by rw [h.1]; exact (yB hi).1
   exact (h.2 i cs[i] b (yA hlt) hi).2 (h1 _ (List.getElem_mem hlt))
  .have hlt:i < cs.length:=by rw [h.1]; exact (yB hb).1
   exact (h.2 i cs[i] b (yA hlt) hb).1 w S u (h2 i _ u (yA hlt) hu)
theorem AE.nl {sz:Nat}:AE .nl (.sl .rd sz []):=by
 intro w S v hr
 cases hr
 exact .sl0 _ _ _ _ fun _ _=>trivial
theorem AE.sl {g:Tag} {sz:Nat} {es ds:List AV} (hl:es.length = ds.length) (hs:∀ e ∈ ds,e.cells.length = sz) (h:CEs (Eng.flat es) (Eng.flat ds)):AE (.sl g sz es) (.sl g sz ds):=by
 intro w S v hr
 cases hr with
 | sl0 _ _ a c ho =>
  cases ds with
  | nil=>exact .sl0 _ _ _ _ ho
  | cons _ _=>simp at hl
 | sl _ _ _ b o c cv hc hm _ hw ho h2 =>
  rw [hl]
  have hx:∀ (j:Nat) (d:AV),(Eng.flat ds)[j]? = some d -> ∃ e,(Eng.flat es)[j]? = some e /\ CE e d:=fun j d hj=>by
   have hlt:j < (Eng.flat es).length:=by rw [h.1]; exact (yB hj).1
   exact ⟨_,yA hlt,h.2 j _ d (yA hlt) hj⟩
  refine .sl g sz ds b o c cv (by rw [← hl]; exact hc) hm hs (fun j d hj=>?_) ho fun j d hj=>?_
  .obtain ⟨e,he,hce⟩:=hx j d hj
   obtain ⟨q1,q2,q3,_⟩:=hw j e he
   exact ⟨q1,q2,hce.2 q3,trivial⟩
  .obtain ⟨e,he,hce⟩:=hx j d hj
   exact hce.1 w S _ (h2 j e he)
theorem Snd.wkS {P:Program} {f:FuncId} {xs1 xs2:List AV} {res:AV} {rows:List Row} (h:Snd P f xs2 res rows) (hae:AEs xs1 xs2):Snd P f xs1 res rows:=by
 intro w S N vs hS hl hr
 have hal:=hae.1
 refine h w S TT vs hS (by omega) fun i b v hb hv=>?_
 have hi:i < xs1.length:=by have:=(yB hb).1; omega
 exact hae.2 w S i _ b v (yA hi) hb ((hr i _ v (yA hi) hv).mono (fun _ _ h=>h) ⟨fun _ _ _ _ _ _ _ _=>trivial,fun _ _ _ _=>trivial⟩ fun _ _ _=>rfl)
def EncOf {α:Type} (τ:Ty) (e:α -> List AV) (W:α -> Prop):Prop:=∀ l,τ.ok l -> ∃ y,CEs l (e y) /\ W y
def Zf {α:Type} (τs:List Ty) (e:α -> List AV) (W:α -> Prop):Prop:=∀ l,okL τs l -> ∃ y,CEs l (e y) /\ W y
def FitL {α:Type} (W:α -> Prop) (l:List α):Prop:=l.length <= maxLen /\ ∀ x ∈ l,W x
def FitT {α:Type} (_:α):Prop:=True
section
variable {α β:Type}
theorem EncOf.int (k:IntKind):EncOf (.int k) (fun n:Int=>[.int k n]) FitT:=by
 intro l h
 obtain ⟨n,rfl,_⟩:=h
 exact ⟨n,.refl _,trivial⟩
theorem EncOf.bool:EncOf .bool (fun n:Bool=>[.bool n]) FitT:=by
 intro l h
 obtain ⟨n,rfl⟩:=h
 exact ⟨n,.refl _,trivial⟩
theorem EncOf.str:EncOf .str (fun s:List UInt8=>[.str s]) (fun s=>s.length <= maxLen):=by
 intro l h
 obtain ⟨s,rfl,hs⟩:=h
 exact ⟨s,.refl _,hs⟩
theorem Zf.nil:Zf [] (fun _:Unit=>[]) FitT:=by
 intro l h
 simp only [okL] at h
 subst h
 exact ⟨(),.refl _,trivial⟩
theorem Zf.cons {f:Ty} {fs:List Ty} {e1:α -> List AV} {e2:β -> List AV} {W1:α -> Prop} {W2:β -> Prop} (h1:EncOf f e1 W1) (h2:Zf fs e2 W2):Zf (f :: fs) (fun p:α × β=>e1 p.1 ++ e2 p.2) (fun p=>W1 p.1 /\ W2 p.2):=by
 intro l h
 simp only [okL] at h
 obtain ⟨l1,l2,rfl,q1,q2⟩:=h
 obtain ⟨y1,c1,w1⟩:=h1 l1 q1
 obtain ⟨y2,c2,w2⟩:=h2 l2 q2
 exact ⟨(y1,y2),c1.append c2,w1,w2⟩
theorem Zf.st {fs:List Ty} {e:α -> List AV} {W:α -> Prop} (h:Zf fs e W) (g:α -> β) {e':β -> List AV} {W':β -> Prop} (he:∀ x,e x = e' (g x)) (hW:∀ x,W x -> W' (g x)):EncOf (.st fs) e' W':=by
 intro l hl
 simp only [Ty.ok] at hl
 obtain ⟨y,c,w⟩:=h l hl
 exact ⟨g y,he y ▸ c,hW y w⟩
theorem exL {R:AV -> α -> Prop}:∀ {es:List AV},(∀ x ∈ es,∃ y,R x y) -> ∃ ys:List α,es.length = ys.length /\ ∀ (i:Nat) (x:AV) (y:α),es[i]? = some x -> ys[i]? = some y -> R x y
 | [],_=>⟨[],rfl,fun i x y h=>by simp at h⟩
 | x :: es,h=>by
  obtain ⟨y,hy⟩:=h x (List.mem_cons_self ..)
  obtain ⟨ys,hl,hys⟩:=exL (es:=es) fun z hz=>h z (List.mem_cons_of_mem _ hz)
  refine ⟨y :: ys,by simp [hl],fun i a b ha hb=>?_⟩
  cases i with
  | zero=>simp at ha hb; subst ha; subst hb; exact hy
  | succ i=>exact hys i a b (by simpa using ha) (by simpa using hb)
theorem EncOf.sl {τ:Ty} {e:α -> List AV} {W:α -> Prop} (h:EncOf τ e W) (E:α -> AV) (hE:∀ y,(E y).cells = e y) {n:Nat} (hn:τ.size = n):EncOf (.sl τ) (fun l:List α=>[.sl .rd n (l.map E)]) (FitL W):=by
 intro l hl
 simp only [Ty.ok] at hl
 rcases hl with rfl | ⟨es,rfl,hm,h2⟩
 .exact ⟨[],.one ⟨AE.nl,fun _=>rfl⟩,Nat.zero_le _,fun x hx=>by simp at hx⟩
 .obtain ⟨ys,hys,hR⟩:=exL (α:=α) (R:=fun x y=>CEs x.cells (E y).cells /\ W y /\ x.cells.length = τ.size) (es:=es) fun x hx=>by
   obtain ⟨a1,_,a3⟩:=h2 x hx
   obtain ⟨y,c,w⟩:=h _ a3
   exact ⟨y,(hE y).symm ▸ c,w,a1⟩
  have get:∀ y ∈ ys,∃ (i:Nat) (x:AV),es[i]? = some x /\ ys[i]? = some y:=fun y hy=>by
   obtain ⟨i,hi⟩:=List.getElem?_of_mem hy
   exact ⟨i,_,yA (by rw [hys]; exact (yB hi).1),hi⟩
  refine ⟨ys,.one ⟨?_,fun _=>rfl⟩,by rw [← hys]; exact hm,fun y hy=>?_⟩
  .rw [hn]
   refine AE.sl (by simpa using hys) (fun d hd=>?_) (CEs.flat hys fun i x y hx hy=>(hR i x y hx hy).1)
   obtain ⟨y,hy,rfl⟩:=List.mem_map.1 hd
   obtain ⟨i,x,hx,hy'⟩:=get y hy
   have:=hR i x y hx hy'
   rw [← this.1.1,this.2.2,hn]
  .obtain ⟨i,x,hx,hy'⟩:=get y hy
   exact (hR i x y hx hy').2.1
theorem EncOf.okV_st {fs:List Ty} {e:α -> List AV} {W:α -> Prop} (h:EncOf (.st fs) e W) {a:AV} (ha:(Ty.st fs).okV a):∃ y,AE a (.agg (e y)) /\ W y:=by
 obtain ⟨cs,rfl,hc⟩:=ha
 obtain ⟨y,c,w⟩:=h cs (by simpa only [Ty.ok] using hc)
 exact ⟨y,.agg c,w⟩
end
end Go.Proofs.YtpljbgcghpamjaaGreat.Eng
namespace Go.Proofs.YtpljbgcghpamjaaGreat
open Go Go.RowKit Eng
def tyVec:Ty:=.st [.int .i64,.int .i64,.int .i64]
def Zmi (x:Vec):Prop:=FitT x.a /\ FitT x.b /\ FitT x.c /\ True
theorem ofVec:EncOf tyVec (fun x:Vec=>(eVec x).cells) Zmi:=Zf.st (Zf.cons (EncOf.int .i64) (Zf.cons (EncOf.int .i64) (Zf.cons (EncOf.int .i64) Zf.nil))) (fun p=>⟨p.1,p.2.1,p.2.2.1⟩) (fun _=>by rfl) (fun _ h=>by exact h)
def tyNode:Ty:=.st [.int .i64,tyVec]
def ZQn (x:Node):Prop:=FitT x.leaf /\ Zmi x.cap /\ True
theorem ofNode:EncOf tyNode (fun x:Node=>(eNode x).cells) ZQn:=Zf.st (Zf.cons (EncOf.int .i64) (Zf.cons ofVec Zf.nil)) (fun p=>⟨p.1,p.2.1⟩) (fun _=>by rfl) (fun _ h=>by exact h)
def tyTopo:Ty:=.st [.sl (.int .i64),.sl tyNode]
def ZOn (x:Topo):Prop:=(FitL FitT) x.parents /\ (FitL ZQn) x.nodes /\ True
theorem ofTopo:EncOf tyTopo (fun x:Topo=>(ZF .rd x).cells) ZOn:=Zf.st (Zf.cons (EncOf.sl (EncOf.int .i64) eI (fun _=>rfl) rfl) (Zf.cons (EncOf.sl ofNode eNode (fun _=>rfl) rfl) Zf.nil)) (fun p=>⟨p.1,p.2.1⟩) (fun _=>by rfl) (fun _ h=>by exact h)
def tyJob:Ty:=.st [.int .i64,.int .i64,.int .i64,tyVec,tyVec,.int .i64,.int .i64]
def ZRn (x:Job):Prop:=FitT x.id /\ FitT x.prio /\ FitT x.nodes /\ Zmi x.need /\ Zmi x.lic /\ FitT x.wall /\ FitT x.level /\ True
theorem ofJob:EncOf tyJob (fun x:Job=>(eJob x).cells) ZRn:=Zf.st (Zf.cons (EncOf.int .i64) (Zf.cons (EncOf.int .i64) (Zf.cons (EncOf.int .i64) (Zf.cons ofVec (Zf.cons ofVec (Zf.cons (EncOf.int .i64) (Zf.cons (EncOf.int .i64) Zf.nil))))))) (fun p=>⟨p.1,p.2.1,p.2.2.1,p.2.2.2.1,p.2.2.2.2.1,p.2.2.2.2.2.1,p.2.2.2.2.2.2.1⟩) (fun _=>by rfl) (fun _ h=>by exact h)
def tyRun:Ty:=.st [tyJob,.int .i64,.sl (.int .i64)]
def ZPn (x:Run):Prop:=ZRn x.job /\ FitT x.t /\ (FitL FitT) x.nodes /\ True
theorem ofRun:EncOf tyRun (fun x:Run=>(eRunT .rd x).cells) ZPn:=Zf.st (Zf.cons ofJob (Zf.cons (EncOf.int .i64) (Zf.cons (EncOf.sl (EncOf.int .i64) eI (fun _=>rfl) rfl) Zf.nil))) (fun p=>⟨p.1,p.2.1,p.2.2.1⟩) (fun _=>by rfl) (fun _ h=>by exact h)
def tyEnd:Ty:=.st [.int .i64,.int .i64,.int .i64]
def fitEnd (x:End):Prop:=FitT x.id /\ FitT x.t /\ FitT x.why /\ True
theorem ofEnd:EncOf tyEnd (fun x:End=>(eEnd x).cells) fitEnd:=Zf.st (Zf.cons (EncOf.int .i64) (Zf.cons (EncOf.int .i64) (Zf.cons (EncOf.int .i64) Zf.nil))) (fun p=>⟨p.1,p.2.1,p.2.2.1⟩) (fun _=>by rfl) (fun _ h=>by exact h)
def ZXm:Ty:=.st [tyTopo,.sl .bool,tyVec,.int .i64,.int .i64,.sl tyJob,.sl tyRun,.sl tyEnd]
def Zdk (x:State):Prop:=ZOn x.topo /\ (FitL FitT) x.up /\ Zmi x.lic /\ FitT x.depth /\ FitT x.now /\ (FitL ZRn) x.queue /\ (FitL ZPn) x.runs /\ (FitL fitEnd) x.ends /\ True
theorem ofState:EncOf ZXm (fun x:State=>(Z21 .rd x).cells) Zdk:=Zf.st (Zf.cons ofTopo (Zf.cons (EncOf.sl EncOf.bool eBo (fun _=>rfl) rfl) (Zf.cons ofVec (Zf.cons (EncOf.int .i64) (Zf.cons (EncOf.int .i64) (Zf.cons (EncOf.sl ofJob eJob (fun _=>rfl) rfl) (Zf.cons (EncOf.sl ofRun (eRunT .rd) (fun _=>rfl) rfl) (Zf.cons (EncOf.sl ofEnd eEnd (fun _=>rfl) rfl) Zf.nil)))))))) (fun p=>⟨p.1,p.2.1,p.2.2.1,p.2.2.2.1,p.2.2.2.2.1,p.2.2.2.2.2.1,p.2.2.2.2.2.2.1,p.2.2.2.2.2.2.2.1⟩) (fun _=>by rfl) (fun _ h=>by exact h)
def Zpk:Ty:=.st [.str,.int .i64,.int .i64]
def Zni (x:Account):Prop:=(fun s:Str=>s.length <= maxLen) x.name /\ FitT x.share /\ FitT x.used /\ True
theorem Zin:EncOf Zpk (fun x:Account=>(Z1 x).cells) Zni:=Zf.st (Zf.cons EncOf.str (Zf.cons (EncOf.int .i64) (Zf.cons (EncOf.int .i64) Zf.nil))) (fun p=>⟨p.1,p.2.1,p.2.2.1⟩) (fun _=>by rfl) (fun _ h=>by exact h)
def ZYm:Ty:=.st [.str,.int .i64,.int .i64,tyVec]
def Znm (x:Quota):Prop:=(fun s:Str=>s.length <= maxLen) x.name /\ FitT x.jobs /\ FitT x.nodes /\ Zmi x.res /\ True
theorem ofQuota:EncOf ZYm (fun x:Quota=>(Zj x).cells) Znm:=Zf.st (Zf.cons EncOf.str (Zf.cons (EncOf.int .i64) (Zf.cons (EncOf.int .i64) (Zf.cons ofVec Zf.nil)))) (fun p=>⟨p.1,p.2.1,p.2.2.1,p.2.2.2.1⟩) (fun _=>by rfl) (fun _ h=>by exact h)
def tyDep:Ty:=.st [.int .i64,.int .i64]
def fitDep (x:Dep):Prop:=FitT x.id /\ FitT x.for_ /\ True
theorem ofDep:EncOf tyDep (fun x:Dep=>(eDep x).cells) fitDep:=Zf.st (Zf.cons (EncOf.int .i64) (Zf.cons (EncOf.int .i64) Zf.nil)) (fun p=>⟨p.1,p.2.1⟩) (fun _=>by rfl) (fun _ h=>by exact h)
def ZZm:Ty:=.st [.int .i64,.str]
def Zom (x:Owner):Prop:=FitT x.id /\ (fun s:Str=>s.length <= maxLen) x.name /\ True
theorem ofOwner:EncOf ZZm (fun x:Owner=>(Zp x).cells) Zom:=Zf.st (Zf.cons (EncOf.int .i64) (Zf.cons EncOf.str Zf.nil)) (fun p=>⟨p.1,p.2.1⟩) (fun _=>by rfl) (fun _ h=>by exact h)
def ZMl:Ty:=.st [ZXm,.sl Zpk,.sl ZYm,.sl tyDep,.sl ZZm]
def Zek (x:Desk):Prop:=Zdk x.state /\ (FitL Zni) x.accounts /\ (FitL Znm) x.quotas /\ (FitL fitDep) x.deps /\ (FitL Zom) x.owners /\ True
theorem ofDesk:EncOf ZMl (fun x:Desk=>(Zx3 .rd x).cells) Zek:=Zf.st (Zf.cons ofState (Zf.cons (EncOf.sl Zin Z1 (fun _=>rfl) rfl) (Zf.cons (EncOf.sl ofQuota Zj (fun _=>rfl) rfl) (Zf.cons (EncOf.sl ofDep eDep (fun _=>rfl) rfl) (Zf.cons (EncOf.sl ofOwner Zp (fun _=>rfl) rfl) Zf.nil))))) (fun p=>⟨p.1,p.2.1,p.2.2.1,p.2.2.2.1,p.2.2.2.2.1⟩) (fun _=>by rfl) (fun _ h=>by exact h)
end Go.Proofs.YtpljbgcghpamjaaGreat
