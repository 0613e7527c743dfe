/-
  Lemmas, part 10: the engine that steps through the code, the walks of functions, and the laws of what they compute.
-/
import Derived.Test.YtpljbgcghpamjaaGreatKA9
import Derived.Test.YtpljbgcghpamjaaGreatChecked
namespace Go.Proofs.YtpljbgcghpamjaaGreat
open Go Go.RowKit Eng
section
variable {α:Type}
theorem set_take {a ys:List α} {i:Nat} {x:α} (hx:a[i]? = some x) (hl:ys.length = a.length) (h:ys.take i = a.take i):(ys.set i x).take (i + 1) = a.take (i + 1):=by
 have hi:=(yB hx).1
 apply List.ext_getElem?
 intro j
 by_cases hj:j < i + 1
 .rw [List.getElem?_take_of_lt hj,List.getElem?_take_of_lt hj,List.getElem?_set]
  by_cases e:i = j
  .subst e; rw [if_pos rfl,if_pos (by omega),hx]
  .rw [if_neg e]
   have:=congrArg (fun l:List α=>l[j]?) h
   rwa [List.getElem?_take_of_lt (by omega),List.getElem?_take_of_lt (by omega)] at this
 .rw [List.getElem?_eq_none (by simp; omega),List.getElem?_eq_none (by simp; omega)]
theorem Zg4 {bd:Int × List α -> (Int × List α -> Option (List α)) -> Option (List α)} {a:List α} (hm:a.length < 9223372036854775807)
  (h1:∀ (i:Nat) ys k x,a[i]? = some x -> ys.length = a.length -> bd ((i:Int),ys) k = k (((i + 1:Nat):Int),ys.set i x)) (h2:∀ ys k,bd ((a.length:Int),ys) k = some ys) {ys:List α} (hy:ys.length = a.length):whl bd 9223372036854775807 (0,ys) = some a:=by
 refine Zq4 (fun _ o=>o = some a) (fun b=>a.length - b.1.toNat) (fun b=>∃ i:Nat,b.1 = (i:Int) /\ i <= a.length /\ b.2.length = a.length /\ b.2.take i = a.take i) ?_ 9223372036854775807 (0,ys) ⟨0,rfl,Nat.zero_le _,hy,rfl⟩ (by simp only; omega)
 rintro ⟨n,zs⟩ k ⟨i,hi,hle,hz,ht⟩ hk
 simp only at hi hz ht hk
 subst hi
 by_cases h:i < a.length
 .rw [h1 i zs k a[i] (yA h) hz]
  exact hk _ ⟨i + 1,rfl,h,by simp [hz],set_take (yA h) hz ht⟩ (by simp only; omega)
 .have:i = a.length:=by omega
  subst this
  rw [h2]
  rw [List.take_length,← hz,List.take_length] at ht
  rw [ht]
theorem ZB6 {bs:Nat} {n:Nat} {z:α} (h:bs * n <= 140737488355328) (h':n <= 9223372036854775807):mkL bs (n:Int) z = some (List.replicate n z):=by
 unfold mkL
 have e:(bs:Int) * (n:Int) = ((bs * n:Nat):Int):=by rw [Int.natCast_mul]
 rw [if_pos ⟨by omega,by omega,by omega⟩]
 simp
theorem ZV9 {bd:Int -> (Int -> Option Bool) -> Option Bool} {n:Nat} (hm:n < 9223372036854775807) (h1:∀ (i:Nat) k,i < n -> bd (i:Int) k = k ((i + 1:Nat):Int)) (h2:∀ k,bd (n:Int) k = some true):whl bd 9223372036854775807 0 = some true:=by
 refine Zq4 (fun _ o=>o = some true) (fun b=>n - b.toNat) (fun b=>∃ i:Nat,b = (i:Int) /\ i <= n) ?_ 9223372036854775807 0 ⟨0,rfl,Nat.zero_le _⟩ (by omega)
 rintro _ k ⟨i,rfl,hle⟩ hk
 by_cases h:i < n
 .rw [h1 i k h]
  exact hk _ ⟨i + 1,rfl,h⟩ (by omega)
 .have:i = n:=by omega
  subst this
  exact h2 k
theorem Z32 {n:Nat}:¬ ((n:Int) < (n:Int)):=by omega
end
theorem ZN9 {l:List Int} (h:l.length <= 1048576):laws_toIntS l = some l:=by
 unfold laws_toIntS
 rw [ZB6 (by omega) (by omega),bS]
 refine Zg4 (by omega) (fun i ys k x hx hl=>?_) (fun ys k=>?_) (by simp)
 .have hi:=(yB hx).1
  have hlt:(i:Int) < (l.length:Int):=by omega
  obtain ⟨y,hy⟩:∃ y,ys[i]? = some y:=⟨_,yA (by omega)⟩
  simp only [Zg3,hlt,decide_true,cond_true,Za,hx,hy,bS,Zz (n:=i) (by omega),Int.toNat_natCast]
 .simp only [Zg3,Z32,decide_false,cond_false]
theorem ZAe {l:List Node} (h:l.length <= 1048576):laws_toNodeS l = some l:=by
 unfold laws_toNodeS
 rw [ZB6 (by omega) (by omega),bS]
 refine Zg4 (by omega) (fun i ys k x hx hl=>?_) (fun ys k=>?_) (by simp)
 .have hi:=(yB hx).1
  have hlt:(i:Int) < (l.length:Int):=by omega
  obtain ⟨y,hy⟩:∃ y,ys[i]? = some y:=⟨_,yA (by omega)⟩
  simp only [ZL2,hlt,decide_true,cond_true,Za,hx,hy,bS,Zz (n:=i) (by omega),Int.toNat_natCast]
  rfl
 .simp only [ZL2,Z32,decide_false,cond_false]
theorem ZFe {l:List Bool} (h:l.length <= 1048576):laws_toBoolS l = some l:=by
 unfold laws_toBoolS
 rw [ZB6 (by omega) (by omega),bS]
 refine Zg4 (by omega) (fun i ys k x hx hl=>?_) (fun ys k=>?_) (by simp)
 .have hi:=(yB hx).1
  have hlt:(i:Int) < (l.length:Int):=by omega
  obtain ⟨y,hy⟩:∃ y,ys[i]? = some y:=⟨_,yA (by omega)⟩
  simp only [ZM2,hlt,decide_true,cond_true,Za,hx,hy,bS,Zz (n:=i) (by omega),Int.toNat_natCast]
 .simp only [ZM2,Z32,decide_false,cond_false]
theorem Zug {l:List Job} (h:l.length <= 1048576):laws_toJobS l = some l:=by
 unfold laws_toJobS
 rw [ZB6 (by omega) (by omega),bS]
 refine Zg4 (by omega) (fun i ys k x hx hl=>?_) (fun ys k=>?_) (by simp)
 .have hi:=(yB hx).1
  have hlt:(i:Int) < (l.length:Int):=by omega
  obtain ⟨y,hy⟩:∃ y,ys[i]? = some y:=⟨_,yA (by omega)⟩
  simp only [Zf3,hlt,decide_true,cond_true,Za,hx,hy,bS,Zz (n:=i) (by omega),Int.toNat_natCast]
  rfl
 .simp only [Zf3,Z32,decide_false,cond_false]
theorem Zwg {l:List End} (h:l.length <= 1048576):laws_toEndS l = some l:=by
 unfold laws_toEndS
 rw [ZB6 (by omega) (by omega),bS]
 refine Zg4 (by omega) (fun i ys k x hx hl=>?_) (fun ys k=>?_) (by simp)
 .have hi:=(yB hx).1
  have hlt:(i:Int) < (l.length:Int):=by omega
  obtain ⟨y,hy⟩:∃ y,ys[i]? = some y:=⟨_,yA (by omega)⟩
  simp only [Zh3,hlt,decide_true,cond_true,Za,hx,hy,bS,Zz (n:=i) (by omega),Int.toNat_natCast]
  rfl
 .simp only [Zh3,Z32,decide_false,cond_false]
theorem Zng {t:Topo} (h1:t.parents.length <= 1048576) (h2:t.nodes.length <= 1048576):laws_toTopo t = some t:=by
 unfold laws_toTopo
 rw [ZN9 h1,bS,ZAe h2,bS]
theorem Z8j {x:Run} (h:x.nodes.length <= 1048576):laws_toRun x = some x:=by
 unfold laws_toRun
 rw [ZN9 h,bS]
 rfl
theorem Zpg {l:List Run} (h:l.length <= 1048576) (hn:∀ x ∈ l,x.nodes.length <= 1048576):laws_toRunS l = some l:=by
 unfold laws_toRunS
 rw [ZB6 (by omega) (by omega),bS]
 refine Zg4 (by omega) (fun i ys k x hx hl=>?_) (fun ys k=>?_) (by simp)
 .have hi:=(yB hx).1
  have hlt:(i:Int) < (l.length:Int):=by omega
  obtain ⟨y,hy⟩:∃ y,ys[i]? = some y:=⟨_,yA (by omega)⟩
  simp only [Ze3,hlt,decide_true,cond_true,Za,hx,hy,bS,Zz (n:=i) (by omega),Int.toNat_natCast,Z8j (hn x (yE hx))]
 .simp only [Ze3,Z32,decide_false,cond_false]
structure SizedS (s:State):Prop where
 parents:s.topo.parents.length <= 1048576
 nodes:s.topo.nodes.length <= 1048576
 up:s.up.length <= 1048576
 jobs:s.queue.length + s.runs.length <= 1048576
 run:∀ x ∈ s.runs,x.nodes.length <= 1048576
 ends:s.ends.length <= 1048576
theorem Zwe {s:State} (h:SizedS s):laws_toState s = some s:=by
 have:=h.jobs
 unfold laws_toState
 rw [Zng h.parents h.nodes,bS,ZFe h.up,bS,Zug (by omega),bS,Zpg (by omega) h.run,bS,Zwg h.ends,bS]
 rfl
theorem ZW1 {α:Type} [BEq α] [LawfulBEq α] (a:α):(a != a) = false:=by simp
theorem Zj3 (v:Vec):laws_eqVec v v = true:=by simp [laws_eqVec]
theorem Zdd (v:Node):laws_eqNode v v = true:=by simp [laws_eqNode,Zj3]
theorem ZL8 (v:Job):laws_eqJob v v = true:=by simp [laws_eqJob,Zj3]
theorem ZTe (v:End):laws_eqEnd v v = true:=by simp [laws_eqEnd]
theorem Z98 {l:List Int} (h:l.length <= 1048576):laws_eqIntS l l = some true:=by
 unfold laws_eqIntS
 rw [ZW1,cond_false]
 refine ZV9 (n:=l.length) (by omega) (fun i k hi=>?_) (fun k=>?_)
 .have hlt:(i:Int) < (l.length:Int):=by omega
  obtain ⟨x,hx⟩:∃ x,l[i]? = some x:=⟨_,yA hi⟩
  simp only [Zn3,hlt,decide_true,cond_true,Za,hx,bS,Zz (n:=i) (by omega),ZW1,cond_false]
 .simp only [Zn3,Z32,decide_false,cond_false]
theorem ZZb {l:List Node} (h:l.length <= 1048576):laws_eqNodeS l l = some true:=by
 unfold laws_eqNodeS
 rw [ZW1,cond_false]
 refine ZV9 (n:=l.length) (by omega) (fun i k hi=>?_) (fun k=>?_)
 .have hlt:(i:Int) < (l.length:Int):=by omega
  obtain ⟨x,hx⟩:∃ x,l[i]? = some x:=⟨_,yA hi⟩
  simp only [ZP2,hlt,decide_true,cond_true,Za,hx,bS,Zz (n:=i) (by omega),Zdd,Bool.not_true,cond_false]
 .simp only [ZP2,Z32,decide_false,cond_false]
theorem Z0c {l:List Bool} (h:l.length <= 1048576):laws_eqBoolS l l = some true:=by
 unfold laws_eqBoolS
 rw [ZW1,cond_false]
 refine ZV9 (n:=l.length) (by omega) (fun i k hi=>?_) (fun k=>?_)
 .have hlt:(i:Int) < (l.length:Int):=by omega
  obtain ⟨x,hx⟩:∃ x,l[i]? = some x:=⟨_,yA hi⟩
  simp only [ZQ2,hlt,decide_true,cond_true,Za,hx,bS,Zz (n:=i) (by omega),beq_self_eq_true,Bool.not_true,cond_false]
 .simp only [ZQ2,Z32,decide_false,cond_false]
theorem Zfd {l:List Job} (h:l.length <= 1048576):laws_eqJobS l l = some true:=by
 unfold laws_eqJobS
 rw [ZW1,cond_false]
 refine ZV9 (n:=l.length) (by omega) (fun i k hi=>?_) (fun k=>?_)
 .have hlt:(i:Int) < (l.length:Int):=by omega
  obtain ⟨x,hx⟩:∃ x,l[i]? = some x:=⟨_,yA hi⟩
  simp only [Zm3,hlt,decide_true,cond_true,Za,hx,bS,Zz (n:=i) (by omega),ZL8,Bool.not_true,cond_false]
 .simp only [Zm3,Z32,decide_false,cond_false]
theorem Zgd {l:List End} (h:l.length <= 1048576):laws_eqEndS l l = some true:=by
 unfold laws_eqEndS
 rw [ZW1,cond_false]
 refine ZV9 (n:=l.length) (by omega) (fun i k hi=>?_) (fun k=>?_)
 .have hlt:(i:Int) < (l.length:Int):=by omega
  obtain ⟨x,hx⟩:∃ x,l[i]? = some x:=⟨_,yA hi⟩
  simp only [Zo3,hlt,decide_true,cond_true,Za,hx,bS,Zz (n:=i) (by omega),ZTe,Bool.not_true,cond_false]
 .simp only [Zo3,Z32,decide_false,cond_false]
theorem Z9d {t:Topo} (h1:t.parents.length <= 1048576) (h2:t.nodes.length <= 1048576):laws_eqTopo t t = some true:=by
 unfold laws_eqTopo
 rw [Z98 h1,bS,ZZb h2]
 rfl
theorem ZOe {x:Run} (h:x.nodes.length <= 1048576):laws_eqRun x x = some true:=by
 unfold laws_eqRun
 rw [ZL8,Z98 h,ZW1]
 rfl
theorem Zad {l:List Run} (h:l.length <= 1048576) (hn:∀ x ∈ l,x.nodes.length <= 1048576):laws_eqRunS l l = some true:=by
 unfold laws_eqRunS
 rw [ZW1,cond_false]
 refine ZV9 (n:=l.length) (by omega) (fun i k hi=>?_) (fun k=>?_)
 .have hlt:(i:Int) < (l.length:Int):=by omega
  obtain ⟨x,hx⟩:∃ x,l[i]? = some x:=⟨_,yA hi⟩
  simp only [Zl3,hlt,decide_true,cond_true,Za,hx,bS,Zz (n:=i) (by omega),ZOe (hn x (yE hx)),Bool.not_true,cond_false]
 .simp only [Zl3,Z32,decide_false,cond_false]
theorem ZUb {s:State} (h:SizedS s):laws_eqState s s = some true:=by
 have:=h.jobs
 unfold laws_eqState
 rw [Z9d h.parents h.nodes,Z0c h.up,Zj3,ZW1,ZW1,Zfd (by omega),Zad (by omega) h.run,Zgd h.ends]
 rfl
theorem sz_eq {n:Int} {c:Nat} (h0:0 <= n) (h:n <= 1048576) (hc:c <= maxLen):(bif decide (w64 (n - (c:Int)) < 0) then (-1:Int) else w64 (n - (c:Int))) = szr n c:=by
 have hm:maxLen = 9223372036854775807:=rfl
 rw [ZN (by omega)]
 unfold szr
 by_cases q:n < c
 .rw [if_pos q,show decide (n - (c:Int) < 0) = true by rw [decide_eq_true_eq]; omega]; rfl
 .rw [if_neg q,show decide (n - (c:Int) < 0) = false by rw [decide_eq_false_iff_not]; omega]; rfl
theorem Zh5 {n:Int} {c:Nat}:(szr n c < 0) \/ (0 <= szr n c /\ (c:Int) <= n /\ szr n c = n - c):=by
 unfold szr; split
 .exact .inl (by omega)
 .exact .inr (by omega)
theorem szRun_eq {x:Run} {n:Int} (h0:0 <= n) (h:n <= 1048576) (hc:x.nodes.length <= maxLen):laws_szRun x n = szr n x.nodes.length:=by
 unfold laws_szRun laws_szIntS
 rw [sz_eq h0 h hc]
 rcases Zh5 (n:=n) (c:=x.nodes.length) with q | q
 .have:szr n x.nodes.length = -1:=by unfold szr at q ⊢; split <;> omega
  rw [this]; rfl
 .have:decide (szr n x.nodes.length < 0) = false:=by simp; omega
  rw [this]; rfl
theorem Z5n {l:List Run} {n:Int} (h0:0 <= n) (h:n <= 1048576) (hc:FitL ZPn l):∃ r,laws_szRunS l n = some r /\ r <= n /\ (0 <= r -> (l.length:Int) + r <= n /\ ∀ x ∈ l,x.nodes.length <= 1048576):=by
 have hm:maxLen = 9223372036854775807:=rfl
 obtain ⟨c1,c2⟩:=hc
 unfold laws_szRunS
 rw [ZN (by omega)]
 by_cases q:n - (l.length:Int) < 0
 .exact ⟨-1,by simp [q],by omega,fun h=>by omega⟩
 .simp only [q,decide_false,cond_false]
  refine Zq4 (fun _ o=>∃ r,o = some r /\ r <= n /\ (0 <= r -> (l.length:Int) + r <= n /\ ∀ x ∈ l,x.nodes.length <= 1048576)) (fun b=>l.length - b.2.toNat) (fun b=>∃ i:Nat,b.2 = (i:Int) /\ i <= l.length /\ 0 <= b.1 /\ (l.length:Int) + b.1 <= n /\ ∀ j x,j < i -> l[j]? = some x -> x.nodes.length <= 1048576) ?_ 9223372036854775807 (n - (l.length:Int),0) ⟨0,rfl,Nat.zero_le _,by simp only; omega,by simp only; omega,fun j x hj=>by omega⟩ (by simp only; omega)
  rintro ⟨m,_⟩ k ⟨i,rfl,hi,hm0,hmn,hall⟩ hk
  simp only at hm0 hmn hk
  unfold Zr5
  by_cases hlt:i < l.length
  .have hlt':(i:Int) < (l.length:Int):=by omega
   have hx:l[i]? = some l[i]:=yA hlt
   simp only [hlt',decide_true,cond_true,Za,hx,bS,Zz (n:=i) (by omega)]
   rw [szRun_eq hm0 (by omega) (c2 _ (List.getElem_mem hlt)).2.2.1.1]
   rcases Zh5 (n:=m) (c:=l[i].nodes.length) with q | q
   .simp only [q,decide_true,cond_true]
    exact ⟨-1,rfl,by omega,fun h=>by omega⟩
   .have:¬ szr m l[i].nodes.length < 0:=by omega
    simp only [this,decide_false,cond_false]
    refine hk _ ⟨i + 1,rfl,hlt,q.1,by simp only; omega,fun j x hj hx'=>?_⟩ (by simp only; omega)
    by_cases e:j = i
    .subst e; rw [hx] at hx'; cases hx'; omega
    .exact hall j x (by omega) hx'
  .have:i = l.length:=by omega
   subst this
   simp only [Z32,decide_false,cond_false]
   exact ⟨m,rfl,by omega,fun _=>⟨hmn,fun x hx=>by
    obtain ⟨j,hj⟩:=List.getElem?_of_mem hx
    exact hall j x (yB hj).1 hj⟩⟩
theorem ZBg {s:State} (hf:Zdk s) {n:Int} (hn0:0 <= n) (hn:n <= 1048576):∃ r,laws_szState s n = some r /\ (r < 0 \/ (SizedS s /\ r <= n)):=by
 obtain ⟨⟨p1,p2,_⟩,p3,_,_,_,p4,p5,p6,_⟩:=hf
 have no:∀ {c:Prop} [Decidable c],c -> (decide c) = true:=fun h=>by simp [h]
 have nn:∀ {c:Prop} [Decidable c],¬ c -> (decide c) = false:=fun h=>by simp [h]
 have bad:∃ r,(some (-1):Option Int) = some r /\ (r < 0 \/ (SizedS s /\ r <= n)):=⟨-1,rfl,.inl (by omega)⟩
 unfold laws_szState
 have e1:laws_szIntS s.topo.parents n = szr n s.topo.parents.length:=sz_eq hn0 hn p1.1
 have et:laws_szTopo s.topo n < 0 \/ (s.topo.parents.length <= 1048576 /\ s.topo.nodes.length <= 1048576 /\ 0 <= laws_szTopo s.topo n /\ laws_szTopo s.topo n <= n):=by
  unfold laws_szTopo
  rw [e1]
  rcases Zh5 (n:=n) (c:=s.topo.parents.length) with q | q
  .rw [no q,cond_true]; exact .inl (by omega)
  .rw [nn (by omega),cond_false]
   have e2:laws_szNodeS s.topo.nodes (szr n s.topo.parents.length) = szr (szr n s.topo.parents.length) s.topo.nodes.length:=sz_eq q.1 (by omega) p2.1
   rw [e2]
   rcases Zh5 (n:=szr n s.topo.parents.length) (c:=s.topo.nodes.length) with q' | q'
   .rw [no q',cond_true]; exact .inl (by omega)
   .rw [nn (by omega),cond_false]
    exact .inr (by omega)
 generalize laws_szTopo s.topo n = m0 at et ⊢
 rcases et with q | q
 .rw [no q,cond_true]; exact bad
 rw [nn (by omega),cond_false]
 have e3:laws_szBoolS s.up m0 = szr m0 s.up.length:=sz_eq (by omega) (by omega) p3.1
 rw [e3]
 rcases Zh5 (n:=m0) (c:=s.up.length) with r | r
 .rw [no r,cond_true]; exact bad
 rw [nn (by omega),cond_false]
 generalize szr m0 s.up.length = m1 at r ⊢
 have e4:laws_szJobS s.queue m1 = szr m1 s.queue.length:=sz_eq (by omega) (by omega) p4.1
 rw [e4]
 rcases Zh5 (n:=m1) (c:=s.queue.length) with t | t
 .rw [no t,cond_true]; exact bad
 rw [nn (by omega),cond_false]
 generalize szr m1 s.queue.length = m2 at t ⊢
 obtain ⟨m3,e5,u1,u2⟩:=Z5n (n:=m2) (by omega) (by omega) p5
 rw [e5,bS]
 by_cases u:m3 < 0
 .rw [no u,cond_true]; exact bad
 rw [nn u,cond_false]
 have u':=u2 (by omega)
 have e6:laws_szEndS s.ends m3 = szr m3 s.ends.length:=sz_eq (by omega) (by omega) p6.1
 rw [e6]
 rcases Zh5 (n:=m3) (c:=s.ends.length) with v | v
 .rw [no v,cond_true]; exact bad
 rw [nn (by omega),cond_false]
 exact ⟨_,rfl,.inr ⟨⟨q.1,q.2.1,by omega,by omega,u'.2,by omega⟩,by omega⟩⟩
end Go.Proofs.YtpljbgcghpamjaaGreat
namespace Go.Proofs.YtpljbgcghpamjaaGreat
open Go Go.RowKit Eng
theorem ZKa {l:List Account} (h:l.length <= 1048576):laws_toAccountS l = some l:=by
 unfold laws_toAccountS
 rw [ZB6 (by omega) (by omega),bS]
 refine Zg4 (by omega) (fun i ys k x hx hl=>?_) (fun ys k=>?_) (by simp)
 .have hi:=(yB hx).1
  have hlt:(i:Int) < (l.length:Int):=by omega
  obtain ⟨y,hy⟩:∃ y,ys[i]? = some y:=⟨_,yA (by omega)⟩
  simp only [ZU1,hlt,decide_true,cond_true,Za,hx,hy,bS,Zz (n:=i) (by omega),Int.toNat_natCast]
  rfl
 .simp only [ZU1,Z32,decide_false,cond_false]
theorem ZWc {l:List Quota} (h:l.length <= 1048576):laws_toQuotaS l = some l:=by
 unfold laws_toQuotaS
 rw [ZB6 (by omega) (by omega),bS]
 refine Zg4 (by omega) (fun i ys k x hx hl=>?_) (fun ys k=>?_) (by simp)
 .have hi:=(yB hx).1
  have hlt:(i:Int) < (l.length:Int):=by omega
  obtain ⟨y,hy⟩:∃ y,ys[i]? = some y:=⟨_,yA (by omega)⟩
  simp only [Zl2,hlt,decide_true,cond_true,Za,hx,hy,bS,Zz (n:=i) (by omega),Int.toNat_natCast]
  rfl
 .simp only [Zl2,Z32,decide_false,cond_false]
theorem Zzg {l:List Dep} (h:l.length <= 1048576):laws_toDepS l = some l:=by
 unfold laws_toDepS
 rw [ZB6 (by omega) (by omega),bS]
 refine Zg4 (by omega) (fun i ys k x hx hl=>?_) (fun ys k=>?_) (by simp)
 .have hi:=(yB hx).1
  have hlt:(i:Int) < (l.length:Int):=by omega
  obtain ⟨y,hy⟩:∃ y,ys[i]? = some y:=⟨_,yA (by omega)⟩
  simp only [Zi3,hlt,decide_true,cond_true,Za,hx,hy,bS,Zz (n:=i) (by omega),Int.toNat_natCast]
  rfl
 .simp only [Zi3,Z32,decide_false,cond_false]
theorem ZYc {l:List Owner} (h:l.length <= 1048576):laws_toOwnerS l = some l:=by
 unfold laws_toOwnerS
 rw [ZB6 (by omega) (by omega),bS]
 refine Zg4 (by omega) (fun i ys k x hx hl=>?_) (fun ys k=>?_) (by simp)
 .have hi:=(yB hx).1
  have hlt:(i:Int) < (l.length:Int):=by omega
  obtain ⟨y,hy⟩:∃ y,ys[i]? = some y:=⟨_,yA (by omega)⟩
  simp only [Zm2,hlt,decide_true,cond_true,Za,hx,hy,bS,Zz (n:=i) (by omega),Int.toNat_natCast]
  rfl
 .simp only [Zm2,Z32,decide_false,cond_false]
theorem Zha (v:Account):laws_eqAccount v v = true:=by simp [laws_eqAccount]
theorem ZVb (v:Quota):laws_eqQuota v v = true:=by simp [laws_eqQuota,Zj3]
theorem ZVe (v:Dep):laws_eqDep v v = true:=by simp [laws_eqDep]
theorem ZXb (v:Owner):laws_eqOwner v v = true:=by simp [laws_eqOwner]
theorem ZA9 {l:List Account} (h:l.length <= 1048576):laws_eqAccountS l l = some true:=by
 unfold laws_eqAccountS
 rw [ZW1,cond_false]
 refine ZV9 (n:=l.length) (by omega) (fun i k hi=>?_) (fun k=>?_)
 .have hlt:(i:Int) < (l.length:Int):=by omega
  obtain ⟨x,hx⟩:∃ x,l[i]? = some x:=⟨_,yA hi⟩
  simp only [ZV1,hlt,decide_true,cond_true,Za,hx,bS,Zz (n:=i) (by omega),Zha,Bool.not_true,cond_false]
 .simp only [ZV1,Z32,decide_false,cond_false]
theorem ZMa {l:List Quota} (h:l.length <= 1048576):laws_eqQuotaS l l = some true:=by
 unfold laws_eqQuotaS
 rw [ZW1,cond_false]
 refine ZV9 (n:=l.length) (by omega) (fun i k hi=>?_) (fun k=>?_)
 .have hlt:(i:Int) < (l.length:Int):=by omega
  obtain ⟨x,hx⟩:∃ x,l[i]? = some x:=⟨_,yA hi⟩
  simp only [Zn2,hlt,decide_true,cond_true,Za,hx,bS,Zz (n:=i) (by omega),ZVb,Bool.not_true,cond_false]
 .simp only [Zn2,Z32,decide_false,cond_false]
theorem Zid {l:List Dep} (h:l.length <= 1048576):laws_eqDepS l l = some true:=by
 unfold laws_eqDepS
 rw [ZW1,cond_false]
 refine ZV9 (n:=l.length) (by omega) (fun i k hi=>?_) (fun k=>?_)
 .have hlt:(i:Int) < (l.length:Int):=by omega
  obtain ⟨x,hx⟩:∃ x,l[i]? = some x:=⟨_,yA hi⟩
  simp only [Zp3,hlt,decide_true,cond_true,Za,hx,bS,Zz (n:=i) (by omega),ZVe,Bool.not_true,cond_false]
 .simp only [Zp3,Z32,decide_false,cond_false]
theorem ZNa {l:List Owner} (h:l.length <= 1048576):laws_eqOwnerS l l = some true:=by
 unfold laws_eqOwnerS
 rw [ZW1,cond_false]
 refine ZV9 (n:=l.length) (by omega) (fun i k hi=>?_) (fun k=>?_)
 .have hlt:(i:Int) < (l.length:Int):=by omega
  obtain ⟨x,hx⟩:∃ x,l[i]? = some x:=⟨_,yA hi⟩
  simp only [Zo2,hlt,decide_true,cond_true,Za,hx,bS,Zz (n:=i) (by omega),ZXb,Bool.not_true,cond_false]
 .simp only [Zo2,Z32,decide_false,cond_false]
structure SizedD (d:Desk):Prop where
 state:SizedS d.state
 accounts:d.accounts.length <= 1048576
 quotas:d.quotas.length <= 1048576
 deps:d.deps.length <= 1048576
 owners:d.owners.length <= 1048576
 an:∀ x ∈ d.accounts,x.name.length <= 1048576
 qn:∀ x ∈ d.quotas,x.name.length <= 1048576
 ow:∀ x ∈ d.owners,x.name.length <= 1048576
theorem Zxg {d:Desk} (h:SizedD d):laws_toDesk d = some d:=by
 unfold laws_toDesk
 rw [Zwe h.state,bS,ZKa h.accounts,bS,ZWc h.quotas,bS,Zzg h.deps,bS,ZYc h.owners,bS]
theorem Zhd {d:Desk} (h:SizedD d):laws_eqDesk d d = some true:=by
 unfold laws_eqDesk
 rw [ZUb h.state,ZA9 h.accounts,ZMa h.quotas,Zid h.deps,ZNa h.owners]
 rfl
theorem Z4n {α:Type} {f:α -> Int -> Int} {bd:Int × Int -> (Int × Int -> Option Int) -> Option Int} {l:List α} {n:Int} (h0:0 <= n) (h:n <= 1048576) (hm:l.length < 9223372036854775807)
  (hb:∀ (i:Nat) m x k,l[i]? = some x -> 0 <= m -> m <= 1048576 -> bd (m,(i:Int)) k = bif decide (f x m < 0) then some (-1) else k (f x m,((i + 1:Nat):Int)))
  (he:∀ m k,bd (m,(l.length:Int)) k = some m) {P:α -> Prop} (hf:∀ x ∈ l,∀ m,0 <= m -> m <= 1048576 -> f x m <= m /\ (0 <= f x m -> P x)):∃ r,whl bd 9223372036854775807 (n,0) = some r /\ (r < 0 \/ (r <= n /\ ∀ x ∈ l,P x)):=by
 refine Zq4 (fun _ o=>∃ r,o = some r /\ (r < 0 \/ (r <= n /\ ∀ x ∈ l,P x))) (fun b=>l.length - b.2.toNat) (fun b=>∃ i:Nat,b.2 = (i:Int) /\ i <= l.length /\ 0 <= b.1 /\ b.1 <= n /\ ∀ x ∈ l.take i,P x) ?_ 9223372036854775807 (n,0) ⟨0,rfl,Nat.zero_le _,by simp only; omega,by simp only; omega,by simp⟩ (by simp only; omega)
 rintro ⟨m,_⟩ k ⟨i,rfl,hi,hm0,hmn,hP⟩ hk
 simp only at hm0 hmn hk
 by_cases hlt:i < l.length
 .have hx:l[i]? = some l[i]:=yA hlt
  rw [hb i m _ k hx hm0 (by omega)]
  obtain ⟨hle,hPx⟩:=hf _ (List.getElem_mem hlt) m hm0 (by omega)
  by_cases q:f l[i] m < 0
  .simp only [q,decide_true,cond_true]
   exact ⟨-1,rfl,.inl (by omega)⟩
  .simp only [q,decide_false,cond_false]
   refine hk _ ⟨i + 1,rfl,hlt,by simp only; omega,by simp only; omega,fun y hy=>?_⟩ (by simp only; omega)
   rw [List.take_add_one,hx] at hy
   rcases List.mem_append.1 hy with hy | hy
   .exact hP y hy
   .simp at hy
    subst hy
    exact hPx (by omega)
 .have:i = l.length:=by omega
  subst this
  rw [he]
  rw [List.take_length] at hP
  exact ⟨m,rfl,.inr ⟨by omega,hP⟩⟩
theorem Z3n (n:Int) (c:Nat) (h:0 <= n):szr n c <= n:=by
 unfold szr; split <;> omega
theorem Zqk {x:Account} {n:Int} (h0:0 <= n) (h:n <= 1048576) (hc:x.name.length <= maxLen):laws_szAccount x n = szr n x.name.length:=by
 unfold laws_szAccount
 rw [sz_eq h0 h hc]
theorem Zzi {l:List Account} {n:Int} (h0:0 <= n) (h:n <= 1048576) (hc:l.length <= maxLen) (hl:∀ x ∈ l,x.name.length <= maxLen):∃ r,laws_szAccountS l n = some r /\ (r < 0 \/ (r <= n /\ l.length <= 1048576 /\ ∀ x ∈ l,x.name.length <= 1048576)):=by
 have hm:maxLen = 9223372036854775807:=rfl
 unfold laws_szAccountS
 rw [ZN (by omega)]
 by_cases q:n - (l.length:Int) < 0
 .exact ⟨-1,by simp [q],.inl (by omega)⟩
 .simp only [q,decide_false,cond_false]
  obtain ⟨r,e,hr⟩:=Z4n (l:=l) (f:=fun x m=>laws_szAccount x m) (bd:=Zj1 l) (n:=n - (l.length:Int)) (by omega) (by omega) (by omega) (fun i m x k hx _ _=>by
   have hi:=(yB hx).1
   have hlt:(i:Int) < (l.length:Int):=by omega
   simp only [Zj1,hlt,decide_true,cond_true,Za,hx,bS,Zz (n:=i) (by omega)])
   (fun m k=>by simp only [Zj1,Z32,decide_false,cond_false]) (P:=fun x=>x.name.length <= 1048576) (fun x hx m m0 m1=>by
    rw [Zqk m0 m1 (hl x hx)]
    refine ⟨Z3n _ _ m0,fun h=>?_⟩
    rcases Zh5 (n:=m) (c:=x.name.length) with v | v
    .omega
    .omega)
  exact ⟨r,e,hr.imp id fun hr=>⟨by omega,by omega,hr.2⟩⟩
theorem ZDm {x:Quota} {n:Int} (h0:0 <= n) (h:n <= 1048576) (hc:x.name.length <= maxLen):laws_szQuota x n = szr n x.name.length:=by
 unfold laws_szQuota
 rw [sz_eq h0 h hc]
theorem Zol {l:List Quota} {n:Int} (h0:0 <= n) (h:n <= 1048576) (hc:l.length <= maxLen) (hl:∀ x ∈ l,x.name.length <= maxLen):∃ r,laws_szQuotaS l n = some r /\ (r < 0 \/ (r <= n /\ l.length <= 1048576 /\ ∀ x ∈ l,x.name.length <= 1048576)):=by
 have hm:maxLen = 9223372036854775807:=rfl
 unfold laws_szQuotaS
 rw [ZN (by omega)]
 by_cases q:n - (l.length:Int) < 0
 .exact ⟨-1,by simp [q],.inl (by omega)⟩
 .simp only [q,decide_false,cond_false]
  obtain ⟨r,e,hr⟩:=Z4n (l:=l) (f:=fun x m=>laws_szQuota x m) (bd:=ZG1 l) (n:=n - (l.length:Int)) (by omega) (by omega) (by omega) (fun i m x k hx _ _=>by
   have hi:=(yB hx).1
   have hlt:(i:Int) < (l.length:Int):=by omega
   simp only [ZG1,hlt,decide_true,cond_true,Za,hx,bS,Zz (n:=i) (by omega)])
   (fun m k=>by simp only [ZG1,Z32,decide_false,cond_false]) (P:=fun x=>x.name.length <= 1048576) (fun x hx m m0 m1=>by
    rw [ZDm m0 m1 (hl x hx)]
    refine ⟨Z3n _ _ m0,fun h=>?_⟩
    rcases Zh5 (n:=m) (c:=x.name.length) with v | v
    .omega
    .omega)
  exact ⟨r,e,hr.imp id fun hr=>⟨by omega,by omega,hr.2⟩⟩
theorem ZEm {x:Owner} {n:Int} (h0:0 <= n) (h:n <= 1048576) (hc:x.name.length <= maxLen):laws_szOwner x n = szr n x.name.length:=by
 unfold laws_szOwner
 rw [sz_eq h0 h hc]
theorem Zpl {l:List Owner} {n:Int} (h0:0 <= n) (h:n <= 1048576) (hc:l.length <= maxLen) (hl:∀ x ∈ l,x.name.length <= maxLen):∃ r,laws_szOwnerS l n = some r /\ (r < 0 \/ (r <= n /\ l.length <= 1048576 /\ ∀ x ∈ l,x.name.length <= 1048576)):=by
 have hm:maxLen = 9223372036854775807:=rfl
 unfold laws_szOwnerS
 rw [ZN (by omega)]
 by_cases q:n - (l.length:Int) < 0
 .exact ⟨-1,by simp [q],.inl (by omega)⟩
 .simp only [q,decide_false,cond_false]
  obtain ⟨r,e,hr⟩:=Z4n (l:=l) (f:=fun x m=>laws_szOwner x m) (bd:=ZH1 l) (n:=n - (l.length:Int)) (by omega) (by omega) (by omega) (fun i m x k hx _ _=>by
   have hi:=(yB hx).1
   have hlt:(i:Int) < (l.length:Int):=by omega
   simp only [ZH1,hlt,decide_true,cond_true,Za,hx,bS,Zz (n:=i) (by omega)])
   (fun m k=>by simp only [ZH1,Z32,decide_false,cond_false]) (P:=fun x=>x.name.length <= 1048576) (fun x hx m m0 m1=>by
    rw [ZEm m0 m1 (hl x hx)]
    refine ⟨Z3n _ _ m0,fun h=>?_⟩
    rcases Zh5 (n:=m) (c:=x.name.length) with v | v
    .omega
    .omega)
  exact ⟨r,e,hr.imp id fun hr=>⟨by omega,by omega,hr.2⟩⟩
theorem ZJg {d:Desk} (hf:Zek d):∃ r,laws_szDesk d 1048576 = some r /\ (r < 0 \/ SizedD d):=by
 obtain ⟨f1,f2,f3,f4,f5,_⟩:=hf
 have no:∀ {c:Prop} [Decidable c],c -> (decide c) = true:=fun h=>by simp [h]
 have nn:∀ {c:Prop} [Decidable c],¬ c -> (decide c) = false:=fun h=>by simp [h]
 have bad:∃ r,(some (-1):Option Int) = some r /\ (r < 0 \/ SizedD d):=⟨-1,rfl,.inl (by omega)⟩
 unfold laws_szDesk
 obtain ⟨m0,e0,h0⟩:=ZBg f1 (n:=1048576) (by omega) (by omega)
 rw [e0,bS]
 by_cases q0:m0 < 0
 .rw [no q0,cond_true]; exact bad
 rw [nn q0,cond_false]
 obtain ⟨s0,b0⟩:=h0.resolve_left q0
 obtain ⟨m1,e1,h1⟩:=Zzi (l:=d.accounts) (n:=m0) (by omega) (by omega) f2.1 (fun x hx=>(f2.2 x hx).1)
 rw [e1,bS]
 by_cases q1:m1 < 0
 .rw [no q1,cond_true]; exact bad
 rw [nn q1,cond_false]
 obtain ⟨b1,s1,t1⟩:=h1.resolve_left q1
 obtain ⟨m2,e2,h2⟩:=Zol (l:=d.quotas) (n:=m1) (by omega) (by omega) f3.1 (fun x hx=>(f3.2 x hx).1)
 rw [e2,bS]
 by_cases q2:m2 < 0
 .rw [no q2,cond_true]; exact bad
 rw [nn q2,cond_false]
 obtain ⟨b2,s2,t2⟩:=h2.resolve_left q2
 have e3:laws_szDepS d.deps m2 = szr m2 d.deps.length:=sz_eq (by omega) (by omega) f4.1
 rw [e3]
 rcases Zh5 (n:=m2) (c:=d.deps.length) with v | v
 .rw [no v,cond_true]; exact bad
 rw [nn (by omega),cond_false]
 generalize szr m2 d.deps.length = m3 at v ⊢
 obtain ⟨m4,e4,h4⟩:=Zpl (l:=d.owners) (n:=m3) (by omega) (by omega) f5.1 (fun x hx=>(f5.2 x hx).2.1)
 rw [e4,bS]
 by_cases q4:m4 < 0
 .rw [no q4,cond_true]; exact bad
 rw [nn q4,cond_false]
 obtain ⟨b4,s4,t4⟩:=h4.resolve_left q4
 exact ⟨_,rfl,.inr ⟨s0,s1,s2,by omega,s4,t1,t2,t4⟩⟩
theorem Zpe {l:List Owner} (h:∀ x ∈ l,x.name.length <= 1048576) (n:Int):∃ y,spec_l17Owner l n = some y /\ impl_ownerOf l n = some y /\ y.1.length <= 1048576:=by
 obtain ⟨y,hy,hn⟩:∃ y,spec_l17Owner l n = some y /\ y.1.length <= 1048576:=by
  unfold spec_l17Owner
  refine ZD1 (l0:=l) (b:=()) (fun _ (_:Unit)=>True) (fun o=>∃ y:Str × Bool,o = some y /\ y.1.length <= 1048576) (fun i x b k hx _ hk=>?_) (fun _ _=>⟨([],false),rfl,by simp⟩) trivial
  unfold ZE3
  cases (x.id == n) with
  | true=>exact ⟨_,rfl,h x (yE hx)⟩
  | false=>exact hk () trivial
 exact ⟨y,hy,hy,hn⟩
theorem Zkk {d:Desk} (hd:d.state.queue.length + d.state.runs.length <= 1048576) (ho:∀ x ∈ d.owners,x.name.length <= 1048576):∃ l,spec_HoldsOf d = some l /\ impl_HoldsOf d = some l /\ l.length <= 1048576 /\ ∀ x ∈ l,x.name.length <= 1048576:=by
 obtain ⟨r,h1,h2⟩:∃ r,spec_HoldsOf d = some r /\ r.length <= 1048576 /\ ∀ x ∈ r,x.name.length <= 1048576:=by
  unfold spec_HoldsOf
  rw [Zj5 hd,bS]
  have hl:(allJobs d.state).length <= 1048576:=by simpa [allJobs] using hd
  refine ZD1 (l0:=allJobs d.state) (b:=([]:List Hold)) (fun i (v:List Hold)=>v.length <= i /\ ∀ x ∈ v,x.name.length <= 1048576) (fun o=>∃ l,o = some l /\ l.length <= 1048576 /\ ∀ x ∈ l,x.name.length <= 1048576) (fun i x v k hx hI hk=>?_) (fun v hI=>⟨v,rfl,by omega,hI.2⟩) ⟨Nat.le_refl 0,by simp⟩
  have hi:=(yB hx).1
  unfold ZC4
  obtain ⟨y,y1,_,y3⟩:=Zpe ho x.id
  rw [y1,bS]
  cases y.2 with
  | false=>exact hk v ⟨by omega,hI.2⟩
  | true =>
   rw [cond_true,Zt (by simp; omega),bS]
   refine hk _ ⟨by simp; omega,fun z hz=>?_⟩
   rcases List.mem_append.1 hz with hz | hz
   .exact hI.2 z hz
   .simp at hz; subst hz; exact y3
 exact ⟨r,h1,h1,h2⟩
theorem Z9o {d:Desk} (h:SizedD d):∃ b,spec_DeskOk d = some b /\ impl_DeskOk d = some b /\ (b = true -> (d.accounts.length:Int) <= 12 /\ ∀ x ∈ d.accounts,x.name.length <= 8):=by
 have hj:=h.state.jobs
 have hs:d.state.queue.length + d.state.runs.length <= 1048576:=hj
 have an:∀ x ∈ d.accounts,x.name.length < 9223372036854775807:=fun x hx=>by have:=h.an x hx; omega
 have qn:∀ x ∈ d.quotas,x.name.length < 9223372036854775807:=fun x hx=>by have:=h.qn x hx; omega
 obtain ⟨b1,a1,a2,a3⟩:=Zzb h.accounts an
 obtain ⟨b2,q1,q2,_⟩:=Z4g h.quotas qn
 obtain ⟨b3,p1,p2,_⟩:=Zil h.deps
 obtain ⟨b4,r1,r2⟩:=Round_eq h.deps
 obtain ⟨hl,l1,l2,l3,l4⟩:=Zkk hs h.ow
 obtain ⟨b5,w1,w2⟩:=Z6o h.quotas qn l3 fun x hx=>by have:=l4 x hx; omega
 have es:=(Zqi hs).1
 have ei:=(Zqi hs).2
 have ek:∀ v,ZK1 d v = some b5 /\ Zi1 d v = some b5:=fun v=>by
  unfold ZK1 Zi1
  rw [l1,l2,bS,bS,w1,w2]
  exact ⟨rfl,rfl⟩
 have eb:∀ (x:Job) (i:Nat) (v:Unit) (k:Unit -> Option Bool),ZL1 d x i v k = ZH d x i v k /\ (ZH d x i v k = some false \/ ZH d x i v k = k ()):=fun x i v k=>by
  unfold ZL1 ZH
  obtain ⟨y,y1,y2,_⟩:=Zpe h.ow x.id
  obtain ⟨n,n1,n2⟩:=Zjl h.accounts an y.1
  rw [y1,y2,bS,bS,n1,n2]
  refine ⟨rfl,?_⟩
  cases y.2 with
  | false=>exact .inl rfl
  | true =>
   simp only [Bool.not_true,cond_false,bS,Bool.false_or]
   cases decide (n < 0) with
   | true=>exact .inl rfl
   | false=>exact .inr rfl
 have et:∃ b,rgl (ZH d) (Zi1 d) (allJobs d.state) 0 () = some b /\ rgl (ZL1 d) (ZK1 d) (allJobs d.state) 0 () = some b:=by
  have e:rgl (ZL1 d) (ZK1 d) (allJobs d.state) 0 () = rgl (ZH d) (Zi1 d) (allJobs d.state) 0 ():=Ze7 (fun i x v k _=>(eb x i v k).1) fun v=>by rw [(ek v).1,(ek v).2]
  rw [e]
  obtain ⟨b,hb⟩:∃ b,rgl (ZH d) (Zi1 d) (allJobs d.state) 0 () = some b:=by
   refine ZD1 (l0:=allJobs d.state) (b:=()) (fun _ (_:Unit)=>True) (fun o=>∃ b,o = some b) (fun i x v k _ _ hk=>?_) (fun v _=>⟨_,(ek v).2⟩) trivial
   rcases (eb x i v k).2 with e | e
   .rw [e]; exact ⟨_,rfl⟩
   .rw [e]; exact hk () trivial
  exact ⟨b,hb,hb⟩
 obtain ⟨b6,t1,t2⟩:=et
 unfold spec_DeskOk impl_DeskOk
 rw [es,ei,a1,a2,q1,q2,p1,p2,r1,r2,Zi7,Zj5 hs]
 simp only [bS]
 rw [t1,t2]
 cases b1 with
 | false=>cases stateOk d.state <;> exact ⟨false,rfl,rfl,fun h=>by cases h⟩
 | true=>cases stateOk d.state <;> cases b2 <;> cases b3 <;> cases b4 <;> exact ⟨_,rfl,rfl,fun _=>a3 rfl⟩
def ZN8:L :=
sR [.bx 1 (.t 0),.mv 2 (cB false)]
 (.seq (rE 3 (kI 1048576))
 (sR [lD 7 1 15 true,mV 8 3,cQ 9 Zlb [7,8],mV 3 9]
 (.seq (sR [mV 10 3,.bi 11 .lss (.t 10) (kI 0)]
 (.cond (.t 11) (.seq (rE 2 (cB true))
 gR)
 .skip))
 (sR [lD 12 1 15 true,cQ 13 Zb5 [12],cQ 14 Zeb [13],mV 4 14]
 (sR [lD 15 1 15 true,cQ 16 Zb5 [15],.al 5 [.nl,.nl,.nl,.int .i64 0,.int .i64 0,.int .i64 0,.int .i64 0,.int .i64 0,.nl,.nl,.nl,.nl,.nl,.nl,.nl],.st (.t 5) (.t 16) 15]
 (sR [lD 17 5 15 true,cQ 18 Zyb [17],mV 6 18]
 (.seq (sR [mV 19 6,mV 20 4,.eb 21 true (.t 19) (.t 20)]
 (.cond (.t 21) (.seq (rE 2 (cB false))
 gR)
 .skip))
 (.seq (.seq (.rq 5 [lD 22 5 15 true,lD 23 1 15 true,cQ 24 Zb5 [23],cQ 25 Zqb [22,24],.un 26 (.t 25)])
 (.cond (.t 26) (.seq (rE 2 (cB false))
 gR)
 .skip))
 (.seq (rE 2 (cB true))
 gR)))))))))
def laws_FnExactDeskOk (aD1:Desk):Option Bool :=
 (laws_szDesk aD1 1048576).bind fun n2=>bif (decide (n2 < 0)) then (some true) else ((laws_toDesk aD1).bind fun y3=>(spec_DeskOk y3).bind fun b4=>(laws_toDesk aD1).bind fun y5=>(impl_DeskOk y5).bind fun b6=>bif (!(b6 == b4)) then (some false) else ((laws_toDesk aD1).bind fun y7=>(laws_eqDesk y5 y7).bind fun b8=>bif (!b8) then (some false) else (some true)))
theorem ZM8 {aD1:Desk} {r:Bool} (H:laws_FnExactDeskOk aD1 = some r):Snd Tryz.prog Zy2 [Zx3 .rd aD1] (.bool r) []:=by
 refine wS ZN8 [.t 2] ?_
 unfold laws_FnExactDeskOk at H
 obtain ⟨n2,h2,H⟩:=bB H
 refine wG [.c 9 (ZIg h2)] fun _=>?_
 refine Wh_iH H (fun H=>?_) fun H=>?_
 .refine wP ?_
  replace H:=sI H; subst H
  exact wE [(2,.d)]
 .obtain ⟨y3,h3,H⟩:=bB H
  obtain ⟨b4,h4,H⟩:=bB H
  obtain ⟨y5,h5,H⟩:=bB H
  obtain ⟨b6,h6,H⟩:=bB H
  refine wG [.c 13 (ZE6 h3),.u 14 (.call _ _ _ _ _ (AEs.of (xs:=[.agg [.sl .rd 1 (y3.state.topo.parents.map eI),.sl .rd 4 (y3.state.topo.nodes.map eNode),.sl .rd 1 (y3.state.up.map eBo),.int .i64 y3.state.lic.a,.int .i64 y3.state.lic.b,.int .i64 y3.state.lic.c,.int .i64 y3.state.depth,.int .i64 y3.state.now,.sl .rd 11 (y3.state.queue.map eJob),.sl .rd 13 (y3.state.runs.map (eRunT .nw)),.sl .rd 3 (y3.state.ends.map eEnd),.sl .rd 3 (y3.accounts.map Z1),.sl .rd 6 (y3.quotas.map Zj),.sl .rd 2 (y3.deps.map eDep),.sl .rd 2 (y3.owners.map Zp)]]) (by simp)) (fun _=>Zjg h4)),.c 16 (ZE6 h5),.u 18 (.call _ _ _ _ _ (AEs.of (xs:=[.agg [.sl .rd 1 (y5.state.topo.parents.map eI),.sl .rd 4 (y5.state.topo.nodes.map eNode),.sl .rd 1 (y5.state.up.map eBo),.int .i64 y5.state.lic.a,.int .i64 y5.state.lic.b,.int .i64 y5.state.lic.c,.int .i64 y5.state.depth,.int .i64 y5.state.now,.sl .rd 11 (y5.state.queue.map eJob),.sl .rd 13 (y5.state.runs.map (eRunT .nw)),.sl .rd 3 (y5.state.ends.map eEnd),.sl .rd 3 (y5.accounts.map Z1),.sl .rd 6 (y5.quotas.map Zj),.sl .rd 2 (y5.deps.map eDep),.sl .rd 2 (y5.owners.map Zp)]]) (by simp)) (fun _=>Z4i h6))] fun _=>?_
  refine Wh_iH H (fun H=>?_) fun H=>?_
  .refine wP ?_
   replace H:=sI H; subst H
   exact wE [(2,.d)]
  .obtain ⟨y7,h7,H⟩:=bB H
   obtain ⟨b8,h8,H⟩:=bB H
   refine wG [.c 24 (ZE6 h7),.u 25 (.call _ _ _ _ _ (AEs.of (xs:=[.agg [.sl .rd 1 (y5.state.topo.parents.map eI),.sl .rd 4 (y5.state.topo.nodes.map eNode),.sl .rd 1 (y5.state.up.map eBo),.int .i64 y5.state.lic.a,.int .i64 y5.state.lic.b,.int .i64 y5.state.lic.c,.int .i64 y5.state.depth,.int .i64 y5.state.now,.sl .rd 11 (y5.state.queue.map eJob),.sl .rd 13 (y5.state.runs.map (eRunT .nw)),.sl .rd 3 (y5.state.ends.map eEnd),.sl .rd 3 (y5.accounts.map Z1),.sl .rd 6 (y5.quotas.map Zj),.sl .rd 2 (y5.deps.map eDep),.sl .rd 2 (y5.owners.map Zp)],.agg [.sl .rd 1 (y7.state.topo.parents.map eI),.sl .rd 4 (y7.state.topo.nodes.map eNode),.sl .rd 1 (y7.state.up.map eBo),.int .i64 y7.state.lic.a,.int .i64 y7.state.lic.b,.int .i64 y7.state.lic.c,.int .i64 y7.state.depth,.int .i64 y7.state.now,.sl .rd 11 (y7.state.queue.map eJob),.sl .rd 13 (y7.state.runs.map (eRunT .nw)),.sl .rd 3 (y7.state.ends.map eEnd),.sl .rd 3 (y7.accounts.map Z1),.sl .rd 6 (y7.quotas.map Zj),.sl .rd 2 (y7.deps.map eDep),.sl .rd 2 (y7.owners.map Zp)]]) (by simp)) (fun _=>ZTg h8))] fun _=>?_
   refine Wh_iH H (fun H=>?_) fun H=>?_
   .refine wP ?_
    replace H:=sI H; subst H
    exact wE [(2,.d)]
   .refine wP ?_
    replace H:=sI H; subst H
    exact wE [(2,.d)]
theorem Desk_of2 {a:AV} (h:ZMl.okV a):∃ s,AE a (Zx3 .rd s) /\ Zek s:=EncOf.okV_st ofDesk h
theorem Z5g {s:Desk} (hf:Zek s):laws_FnExactDeskOk s = some true:=by
 unfold laws_FnExactDeskOk
 obtain ⟨r,h1,h2⟩:=ZJg hf
 rw [h1,bS]
 by_cases hr:r < 0
 .simp [hr]
 have hS:SizedD s:=h2.resolve_left hr
 obtain ⟨q,q1,q2,_⟩:=Z9o hS
 simp only [hr,decide_false,cond_false,Zxg hS,bS,q1,q2,Zhd hS,Bool.not_true]
 cases q <;> rfl
theorem ZPd (xs:List AV) (h:okVs [ZMl] xs):Snd Tryz.prog Zy2 xs (.bool true) []:=by
 obtain ⟨a,_,rfl,ha,rfl⟩:=h
 obtain ⟨s,ha,hf⟩:=Desk_of2 ha
 exact (ZM8 (Z5g hf)).wkS (.cons ha .nil)
def ZZ8:List Nat:=[104,97,114,110,101,115,115,32,53,51,101,52,55,50,99,98,97,55,98,48,49,57,56,50,97,56,54,52,55,49,98,102,52,52,56,54,57,49,50,50,100,102,57,52,54,98,54,53,55,97,54,55,102,49,98,100,102,100,98,100,98,55,49,50,102,51,98,101,55,49,49,48,32,99,117,116,32,97,116,32,108,111,111,112,46,101,120,97,109,112,108,101,47,103,48,48,52,53,52,47,108,97,119,115,46,70,110,69,120,97,99,116,68,101,115,107,79,107,32,108,111,111,112,46,101,120,97,109,112,108,101,47,103,48,48,52,53,52,47,108,97,119,115,46,70,110,69,120,97,99,116,68,101,115,107,82,101,112,111,114,116]
theorem head_a (p:Program) (h:p.initOrder.toList = ZZ8.map Char.ofNat) (h1:p.laysLater = false) (h2:p.bearsReflect = false) (h3:p.doorRows = []):p.mayEnter = true:=by
 unfold Program.mayEnter Program.doorFits
 rw [h,h1,h2,h3]
 kernel_rfl
theorem head_b (p:Program) (h:p.initOrder.toList = ZZ8.map Char.ofNat):p.liftsFinal = false:=by
 unfold Program.liftsFinal Program.headLifts
 rw [h]
 kernel_rfl
theorem head_c (p:Program) (h:p.initOrder.toList = ZZ8.map Char.ofNat):p.make = some .cut:=by
 unfold Program.make Program.headLifts
 rw [h]
 kernel_rfl
theorem Tryz.head0:Tryz.prog.initOrder = String.ofList (ZZ8.map Char.ofNat):=by kernel_rfl
theorem Tryz.headL:Tryz.prog.initOrder.toList = ZZ8.map Char.ofNat:=by rw [Tryz.head0,String.toList_ofList]
theorem Tryz.head1:Tryz.prog.mayEnter = true:=head_a _ Tryz.headL (by kernel_rfl) (by kernel_rfl) (by kernel_rfl)
theorem Tryz.head2:Tryz.prog.liftsFinal = false:=head_b _ Tryz.headL
theorem Tryz.head3:Tryz.prog.make = some .cut:=head_c _ Tryz.headL
theorem Tryz.mapsRowed:mapsRowed Tryz.prog = true:=by kernel_rfl
end Go.Proofs.YtpljbgcghpamjaaGreat
