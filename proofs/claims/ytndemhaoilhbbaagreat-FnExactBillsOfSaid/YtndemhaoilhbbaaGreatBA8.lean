/-
  Lemmas, part 8: the engine that steps through the code, the walks of functions, and the laws of what they compute.
-/
import Derived.Test.YtndemhaoilhbbaaGreatBA7
namespace Go.Proofs.YtndemhaoilhbbaaGreat
open Go Go.RowKit Eng
def pushP (out : List Pt) (t : Int) (w : Vec) : List Pt := match out.getLast? with
 | some e => if e.free = w then out else out ++ [⟨t, w⟩]
 | none => [⟨t, w⟩]
theorem Zcl {out : List Pt} (h : out.length ≤ 1000) (x : Int) (w : Vec) (k : List Pt → Option (List Pt × Bool)) : ZN out x k w = k (pushP out x w) := by
 unfold ZN pushP
 cases hl : out with
 | nil =>
  simp only [List.length_nil, List.getLast?_nil]
  rw [show (((0 : Nat) : Int) == 0) = true from rfl, cond_true, Option.bind_some, Bool.true_or, cond_true, Zp (by simp), Option.bind_some]; rfl
 | cons a l =>
  have hne : ((out.length : Int) == 0) = false := by rw [hl]; simp; omega
  obtain ⟨e, he⟩ : ∃ e, out[out.length - 1]? = some e := ⟨_, List.getElem?_eq_getElem (by rw [hl]; simp)⟩
  have hlast : out.getLast? = some e := by rw [List.getLast?_eq_getElem?]; exact he
  rw [← hl, hne, hlast, ZPb (by rw [hl]; simp) (by omega), Zc, he]
  simp only [cond_false, Option.bind_some, Bool.false_or, ZPl]
  by_cases hw : e.free = w
  ·simp [hw]
  ·simp only [hw, decide_false, Bool.not_false, cond_true, if_false]
   rw [Zp (by simp; omega), Option.bind_some]
/-- The points made so far, of the first i times. -/
structure Made (T : List Int) (i : Nat) (out : List Pt) : Prop where
 len : out.length ≤ i
 mem : ∀ x ∈ out, ∃ j, j < i ∧ T[j]? = some x.t
 ok : ∀ x ∈ out, spec_VecOk x.free = true
 asc : ∀ (j : Nat) (x y : Pt), out[j]? = some x → out[j + 1]? = some y → x.t < y.t ∧ x.free ≠ y.free
 fst : 0 < i → ∃ x, out[0]? = some x ∧ T[0]? = some x.t
theorem Made.nil (T : List Int) : Made T 0 [] where
 len := Nat.le_refl _
 mem := fun x hx => by cases hx
 ok := fun x hx => by cases hx
 asc := fun j x y hx => by simp at hx
 fst := fun h => by omega
theorem Made.push {T : List Int} (hT : T.Pairwise (· < ·)) {i : Nat} {out : List Pt} (M : Made T i out) {t : Int} (ht : T[i]? = some t) {w : Vec} (hw : spec_VecOk w = true) : Made T (i + 1) (pushP out t w) := by
 have lt : ∀ x ∈ out, x.t < t := by
  intro x hx
  obtain ⟨j, hj, he⟩ := M.mem x hx
  obtain ⟨h1, e1⟩ := List.getElem?_eq_some_iff.1 he
  obtain ⟨h2, e2⟩ := List.getElem?_eq_some_iff.1 ht
  rw [← e1, ← e2]
  exact List.pairwise_iff_getElem.1 hT j i h1 h2 hj
 unfold pushP
 cases hl : out.getLast? with
 | none =>
  have : out = [] := List.getLast?_eq_none_iff.1 hl
  subst this
  have hi : i = 0 := by
   cases i with
   | zero => rfl
   | succ i => obtain ⟨x, hx, _⟩ := M.fst (by omega); simp at hx
  subst hi
  exact ⟨by simp, fun x hx => by simp at hx; subst hx; exact ⟨0, by omega, ht⟩, fun x hx => by simp at hx; subst hx; exact hw, fun j x y hx hy => by simp at hy, fun _ => ⟨_, rfl, ht⟩⟩
 | some e =>
  simp only
  by_cases he : e.free = w
  ·rw [if_pos he]
   exact ⟨by have := M.len; omega, fun x hx => by obtain ⟨j, hj, h⟩ := M.mem x hx; exact ⟨j, by omega, h⟩, M.ok, M.asc, fun _ => by
    cases i with
    | zero => have := M.len; have : out = [] := List.eq_nil_of_length_eq_zero (by omega); subst this; simp at hl
    | succ i => exact M.fst (by omega)⟩
  ·rw [if_neg he]
   refine ⟨by have := M.len; simp; omega, fun x hx => ?_, fun x hx => ?_, fun j x y hx hy => ?_, fun _ => ?_⟩
   ·rcases List.mem_append.1 hx with hx | hx
    ·obtain ⟨j, hj, h⟩ := M.mem x hx; exact ⟨j, by omega, h⟩
    ·simp at hx; subst hx; exact ⟨i, by omega, ht⟩
   ·rcases List.mem_append.1 hx with hx | hx
    ·exact M.ok x hx
    ·simp at hx; subst hx; exact hw
   ·by_cases hj : j + 1 < out.length
    ·rw [List.getElem?_append_left (by omega)] at hx
     rw [List.getElem?_append_left hj] at hy
     exact M.asc j x y hx hy
    ·have hlt := (List.getElem?_eq_some_iff.1 hy).1
     simp only [List.length_append, List.length_cons, List.length_nil] at hlt
     have hje : j = out.length - 1 := by omega
     rw [List.getElem?_append_left (by omega)] at hx
     rw [List.getElem?_append_right (by omega), show j + 1 - out.length = 0 by omega] at hy
     simp at hy
     subst hy
     rw [List.getLast?_eq_getElem?, ← hje, hx] at hl
     have hl := Option.some.inj hl
     subst hl
     exact ⟨lt _ (List.mem_of_getElem? hx), he⟩
   ·have hne : out ≠ [] := fun e => by rw [e] at hl; simp at hl
    cases i with
    | zero => have := M.len; exact absurd (List.eq_nil_of_length_eq_zero (by omega)) hne
    | succ i =>
     obtain ⟨x, hx, h⟩ := M.fst (by omega)
     exact ⟨x, by rw [List.getElem?_append_left (by have := (List.getElem?_eq_some_iff.1 hx).1; omega)]; exact hx, h⟩
theorem ZQl {p : List Pt} (h : ProfP p) {from_ to_ : Int} (h1 : time from_ = true) (h2 : time to_ = true) :
  (Zp1 p from_ to_).Pairwise (· < ·) ∧ (Zp1 p from_ to_).length ≤ 202 ∧ (∀ t ∈ Zp1 p from_ to_, time t = true) ∧ (Zp1 p from_ to_)[0]? = some 0 ∧ from_ ∈ Zp1 p from_ to_ := by
 have hp := Z45 (t := to_) (Z45 (t := from_) h.asc_times)
 have hm : ∀ t, t ∈ Zp1 p from_ to_ ↔ t = to_ ∨ t = from_ ∨ t ∈ p.map Pt.t := fun t => by rw [Zp1, ZWb, ZWb]
 have hok : ∀ t ∈ Zp1 p from_ to_, time t = true := by
  intro t ht
  rcases (hm t).1 ht with rfl | rfl | ht
  ·exact h2
  ·exact h1
  ·obtain ⟨x, hx, rfl⟩ := List.mem_map.1 ht
   exact (h.ok x hx).1
 have h0 : (0 : Int) ∈ Zp1 p from_ to_ := by
  obtain ⟨x, hx⟩ : ∃ x, p[0]? = some x := ⟨_, List.getElem?_eq_getElem h.pos⟩
  exact (hm 0).2 (.inr (.inr (List.mem_map.2 ⟨x, List.mem_of_getElem? hx, h.zero x hx⟩)))
 have hl1 := ZOi from_ (p.map Pt.t)
 have hl2 := ZOi to_ (insT from_ (p.map Pt.t))
 simp only [List.length_map] at hl1
 have := h.le
 refine ⟨hp, by unfold Zp1; omega, hok, ?_, (hm from_).2 (.inr (.inl rfl))⟩
 obtain ⟨j, hj⟩ := List.getElem?_of_mem h0
 obtain ⟨hjl, hje⟩ := List.getElem?_eq_some_iff.1 hj
 by_cases e : j = 0
 ·subst e; exact hj
 ·have := List.pairwise_iff_getElem.1 hp 0 j (by unfold Zp1 at hjl; omega) (by unfold Zp1 at hjl; exact hjl) (by omega)
  have h00 := hok (Zp1 p from_ to_)[0] (List.getElem_mem (by omega))
  have := (Zl8.1 h00).1
  unfold Zp1 at hje this
  omega
/-- Both loops, in common words. -/
def takeB (p : List Pt) (from_ to_ : Int) (v : Vec) (x : Int) (out : List Pt) (k : List Pt → Option (List Pt × Bool)) : Option (List Pt × Bool) :=
 bif decide (from_ ≤ x) && decide (x < to_) then (bif (spec_VecSub (atV p x) v).2 then k (pushP out x (spec_VecSub (atV p x) v).1) else some ([], false)) else k (pushP out x (atV p x))
theorem Zyl {p : List Pt} {from_ to_ : Int} {v : Vec} {x : Int} {i : Nat} {out : List Pt} (h : out.length ≤ 1000) (k : List Pt → Option (List Pt × Bool)) : ZD1 p from_ to_ v false x i out k = takeB p from_ to_ v x out k := by
 unfold ZD1 takeB
 rw [ZH6, Option.bind_some]
 cases (decide (from_ ≤ x) && decide (x < to_)) with
 | false => simp only [cond_false]; rw [Zcl h]
 | true =>
  simp only [cond_true, cond_false, Z81]
  cases (spec_VecSub (atV p x) v).2 with
  | false => rfl
  | true => simp only [Bool.not_true, cond_false, cond_true]; rw [Zcl h]
theorem ZEl {p : List Pt} (hp : ProfP p) {from_ to_ : Int} {v : Vec} {x : Int} {i : Nat} {out : List Pt} (h : out.length ≤ 1000) (k : List Pt → Option (List Pt × Bool)) : Ze p from_ to_ v x i out k = takeB p from_ to_ v x out k := by
 unfold Ze takeB impl_ProfTake_1
 rw [Z5k, Option.bind_some, Zhg (Zsk hp x)]
 cases (decide (from_ ≤ x) && decide (x < to_)) with
 | false => simp only [cond_false]; exact Zcl h x _ k
 | true =>
  simp only [cond_true]
  cases (spec_VecSub (atV p x) v).2 with
  | false => rfl
  | true => simp only [Bool.not_true, cond_false, cond_true]; exact Zcl h x _ k
theorem Zoe {a b : Vec} (h : (spec_VecSub a b).2 = true) : spec_VecOk (spec_VecSub a b).1 = true := by
 unfold spec_VecSub at h ⊢
 cases hf : spec_VecFits b a with
 | false => rw [hf] at h; simp at h
 | true =>
  simp only [Bool.not_true, cond_false]
  unfold spec_VecFits at hf
  simp only [Bool.and_eq_true, decide_eq_true_eq] at hf
  obtain ⟨⟨⟨⟨h1, h2⟩, h3⟩, h4⟩, h5⟩ := hf
  have h1 := ZT4.1 h1
  have h2 := ZT4.1 h2
  rw [ZT4, ZE1 (by omega), ZE1 (by omega), ZE1 (by omega)]
  simp only; omega
theorem Z89 (p : List Pt) (from_ to_ : Int) (v : Vec) : impl_ProfTake p from_ to_ v = spec_ProfTake p from_ to_ v ∧ ∃ r, spec_ProfTake p from_ to_ v = some r ∧ (r.2 = true → ProfP r.1) := by
 unfold impl_ProfTake spec_ProfTake
 rw [Zc6, Z21, Zcc, Option.bind_some, Option.bind_some]
 cases hpo : profOk p with
 | false => simp
 | true =>
 have hp := Zr8.1 hpo
 unfold impl_isSpan
 simp only [ZN8]
 by_cases hs : time from_ = true ∧ time to_ = true ∧ from_ < to_
 rotate_left
 ·have e : ((time from_ && time to_) && decide (from_ < to_)) = false := by
   rw [Bool.eq_false_iff]; intro q; simp only [Bool.and_eq_true, decide_eq_true_eq] at q; exact hs ⟨q.1.1, q.1.2, q.2⟩
  rw [e, if_neg (fun q => hs q.2)]
  simp
 obtain ⟨h1, h2, h3⟩ := hs
 rw [if_pos ⟨trivial, h1, h2, h3⟩]
 obtain ⟨t1, t2, t3, t4, t5⟩ := ZQl hp h1 h2
 have T := ZNa hp from_ to_
 -- the reference, in common words
 have Zph : spec_l03Change p from_ to_ v false = rgl (fun x _ => takeB p from_ to_ v x) ZM (Zp1 p from_ to_) 0 [] := by
  unfold spec_l03Change
  rw [T, Option.bind_some]
  refine ZYh (fun i b c => b = c ∧ Made (Zp1 p from_ to_) i b) rfl (fun i x y b c k k2 hx hy hr hk => ?_) (fun b c hr => by rw [hr.1]) ⟨rfl, Made.nil _⟩
  obtain ⟨rfl, M⟩ := hr
  rw [hx] at hy; cases hy
  have hil := (List.getElem?_eq_some_iff.1 hx).1
  rw [Zyl (by have := M.len; omega)]
  unfold takeB
  cases (decide (from_ ≤ x) && decide (x < to_)) with
  | false => exact hk _ _ ⟨rfl, M.push t1 hx (Zsk hp x)⟩
  | true =>
   simp only [cond_true]
   cases hv : (spec_VecSub (atV p x) v).2 with
   | false => rfl
   | true => exact hk _ _ ⟨rfl, M.push t1 hx (Zoe hv)⟩
 have ends : ∀ b, Made (Zp1 p from_ to_) (Zp1 p from_ to_).length b → (profOk b = true ↔ b.length ≤ 200) := by
  intro b M
  rw [Zr8]
  refine ⟨fun h => h.le, fun hl => ?_⟩
  obtain ⟨x, hx, h0⟩ := M.fst (by have := List.length_pos_of_mem t5; omega)
  rw [t4] at h0
  exact ⟨(List.getElem?_eq_some_iff.1 hx).1, hl, fun y hy => by rw [hx] at hy; cases hy; exact (Option.some.inj h0).symm, fun y hy => ⟨by
   obtain ⟨j, _, hj⟩ := M.mem y hy
   exact t3 _ (List.mem_of_getElem? hj), M.ok y hy⟩, M.asc⟩
 have total : ∃ r : List Pt × Bool, rgl (fun x _ => takeB p from_ to_ v x) ZM (Zp1 p from_ to_) 0 [] = some r ∧ (r.2 = true → ProfP r.1) := by
  refine ZC2 (fun i b => Made (Zp1 p from_ to_) i b) (fun o => ∃ r : List Pt × Bool, o = some r ∧ (r.2 = true → ProfP r.1)) (fun i x b k hx M hk => ?_) (fun b M => ?_) (Made.nil _)
  ·unfold takeB
   cases (decide (from_ ≤ x) && decide (x < to_)) with
   | false => exact hk _ (M.push t1 hx (Zsk hp x))
   | true =>
    simp only [cond_true]
    cases hv : (spec_VecSub (atV p x) v).2 with
    | false => exact ⟨_, rfl, fun h => by cases h⟩
    | true => exact hk _ (M.push t1 hx (Zoe hv))
  ·unfold ZM
   rw [Z21, Option.bind_some]
   cases hb : profOk b with
   | false => exact ⟨_, rfl, fun h => by cases h⟩
   | true => exact ⟨_, rfl, fun _ => Zr8.1 hb⟩
 have bind_id : ∀ o : Option (List Pt × Bool), (o.bind fun y6 => some (y6.1, y6.2)) = o := by intro o; cases o <;> rfl
 simp only [Bool.not_true, Bool.false_or, h1, h2, h3, Bool.and_self, decide_true, cond_false, bind_id, ZQ2]
 rw [Zph]
 refine ⟨?_, total⟩
 cases hv : spec_VecOk v with
 | false =>
  simp only [Bool.not_false, cond_true]
  symm
  refine ZC2 (fun i b => Made (Zp1 p from_ to_) i b ∧ ∀ j, j < i → (Zp1 p from_ to_)[j]? ≠ some from_) (fun o => o = some ([], false)) (fun i x b k hx hI hk => ?_) (fun b hI => ?_) ⟨Made.nil _, fun j h => by omega⟩
  ·obtain ⟨M, hI⟩ := hI
   have sub : ∀ x, spec_VecSub (atV p x) v = (⟨0, 0, 0⟩, false) := fun x => by unfold spec_VecSub spec_VecFits; rw [hv]; rfl
   unfold takeB
   rw [sub]
   by_cases hf : from_ ≤ x ∧ x < to_
   ·simp [hf.1, hf.2]
   ·have e : (decide (from_ ≤ x) && decide (x < to_)) = false := by simpa using fun q => by omega
    rw [e]
    refine hk _ ⟨M.push t1 hx (Zsk hp x), fun j hj e => ?_⟩
    by_cases hji : j = i
    ·subst hji; rw [hx] at e; cases e; omega
    ·exact hI j (by omega) e
  ·obtain ⟨j, hj⟩ := List.getElem?_of_mem t5
   exact absurd hj (hI.2 j (List.getElem?_eq_some_iff.1 hj).1)
 | true =>
  simp only [Bool.not_true, cond_false]
  unfold Zk
  rw [ZA1 (bd := Zu) (bs := 8) (p := fun _ => true) (f := Pt.t) (fun x _ i b k => rfl) (by have := hp.le; simp; omega)]
  unfold Zt
  rw [show (p.filter fun _ => true) = p from List.filter_eq_self.2 fun _ _ => rfl]
  have hs : sortQ ([from_, to_] ++ p.map Pt.t) = some (sortI ([from_, to_] ++ p.map Pt.t)) := by
   unfold sortQ
   rw [if_pos (by have := hp.le; simp; omega)]
  rw [hs, Option.bind_some, Zjk hp]
  refine ZYh (fun i b c => b = c ∧ Made (Zp1 p from_ to_) i b) rfl (fun i x y b c k k2 hx hy hr hk => ?_) (fun b c hr => ?_) ⟨rfl, Made.nil _⟩
  ·obtain ⟨rfl, M⟩ := hr
   rw [hx] at hy; cases hy
   have hil := (List.getElem?_eq_some_iff.1 hx).1
   rw [ZEl hp (by have := M.len; omega)]
   unfold takeB
   cases (decide (from_ ≤ x) && decide (x < to_)) with
   | false => exact hk _ _ ⟨rfl, M.push t1 hx (Zsk hp x)⟩
   | true =>
    simp only [cond_true]
    cases hv : (spec_VecSub (atV p x) v).2 with
    | false => rfl
    | true => exact hk _ _ ⟨rfl, M.push t1 hx (Zoe hv)⟩
  ·obtain ⟨rfl, M⟩ := hr
   unfold Zs ZM
   rw [Z21, Option.bind_some]
   by_cases hl : b.length ≤ 200
   ·rw [(ends b M).2 hl]
    simp [show ¬ (200 : Int) < b.length by omega]
   ·rw [show profOk b = false from Bool.eq_false_iff.2 fun q => hl ((ends b M).1 q)]
    simp [show (200 : Int) < b.length by omega]
def Zwi : L :=
.seq (.reg [.bx 1 (.t 0),.mv 2 (cB false)])
 (.seq (.seq (.reg [fA 3 1 0,lD 4 3 1 false,.bi 5 .lss (.t 4) (kI 1),mV 6 5,.g 6 false (fA 7 1 0),.g 6 false (lD 8 7 1 false),.g 6 false (.bi 9 .gtr (.t 8) (kI 999)),.pk 10 (.t 6) (cB true) (.t 9),mV 11 10,.g 11 false (fA 12 1 1),.g 11 false (lD 13 12 1 false),.g 11 false (.bi 14 .lss (.t 13) (kI 0)),.pk 15 (.t 11) (cB true) (.t 14),mV 16 15,.g 16 false (fA 17 1 1),.g 16 false (lD 18 17 1 false),.g 16 false (.bi 19 .gtr (.t 18) (kI 999)),.pk 20 (.t 16) (cB true) (.t 19),mV 21 20,.g 21 false (fA 22 1 2),.g 21 false (lD 23 22 1 false),.g 21 false (.bi 24 .lss (.t 23) (kI 1)),.pk 25 (.t 21) (cB true) (.t 24),mV 26 25,.g 26 false (fA 27 1 2),.g 26 false (lD 28 27 1 false),.g 26 false (.bi 29 .gtr (.t 28) (kI 24)),.pk 30 (.t 26) (cB true) (.t 29)])
 (.cond (.t 30) (.seq (rE 2 (cB false))
 (.gw (.ret)))
 (.skip)))
 (.seq (.reg [fA 31 1 3,lD 32 31 3 true,cQ 33 Zj [32],mV 34 33,.g 34 true (fA 35 1 6),.g 34 true (lD 36 35 3 true),.g 34 true (cQ 37 Zj [36]),.pk 38 (.t 34) (.t 37) (cB false),mV 39 38,.g 39 true (fA 40 1 9),.g 39 true (lD 41 40 1 false),.g 39 true (.bi 42 .geq (.t 41) (kI 1)),.pk 43 (.t 39) (.t 42) (cB false),mV 44 43,.g 44 true (fA 45 1 9),.g 44 true (lD 46 45 1 false),.g 44 true (.bi 47 .leq (.t 46) (kI 1000000)),.pk 48 (.t 44) (.t 47) (cB false),mV 49 48,.g 49 true (fA 50 1 10),.g 49 true (lD 51 50 1 false),.g 49 true (.bi 52 .geq (.t 51) (kI 0)),.pk 53 (.t 49) (.t 52) (cB false),mV 54 53,.g 54 true (fA 55 1 10),.g 54 true (lD 56 55 1 false),.g 54 true (.bi 57 .leq (.t 56) (kI 24)),.pk 58 (.t 54) (.t 57) (cB false),mV 2 58])
 (.gw (.ret))))
def ZDh : List Rv := [.t 2]
theorem Zbj : chkFn Tryz.prog ZN3 1 Zwi ZDh = true := by kernel_rfl
def Zo5 (j1 : Job) : Option Bool :=
 bif ((((((decide (j1.id < 1)) || (decide (999 < j1.id))) || (decide (j1.prio < 0))) || (decide (999 < j1.prio))) || (decide (j1.nodes < 1))) || (decide (24 < j1.nodes))) then (some false) else (some ((((((spec_VecOk j1.need) && (spec_VecOk j1.lic)) && (decide (1 ≤ j1.wall))) && (decide (j1.wall ≤ 1000000))) && (decide (0 ≤ j1.level))) && (decide (j1.level ≤ 24))))
theorem Zdc {j1 : Job} {r : Bool} (H : Zo5 j1 = some r) : Snd Tryz.prog ZN3 [eJob j1] (.bool r) [] := by
 refine snd_g Zbj rfl (by simp) ?_
 unfold Zo5 at H
 refine Wh_o fun _ => ?_
 refine Wh_iH H (fun H => ?_) fun H => ?_
 ·refine Wh_o fun _ => ?_
  replace H := sI H; subst H
  exact Z0 [(2, .d)] [] [] [] [] [] (by kernel_rfl)
 ·refine Wh_go 99 [.c 33 (Zr j1.need), .g 37 [((spec_VecOk j1.need), true)] (.call _ _ _ _ _ (AEs.refl _) (fun _ => Zr j1.lic))] (by kernel_rfl) fun _ => ?_
  replace H := sI H; subst H
  exact Z0 [(2, .d)] [] [] [] [] [] (by kernel_rfl)
def spec_JobOk (j1 : Job) : Bool :=
 bif ((((((decide (j1.id < 1)) || (decide (999 < j1.id))) || (decide (j1.prio < 0))) || (decide (999 < j1.prio))) || (decide (j1.nodes < 1))) || (decide (24 < j1.nodes))) then (false) else (((((((spec_VecOk j1.need) && (spec_VecOk j1.lic)) && (decide (1 ≤ j1.wall))) && (decide (j1.wall ≤ 1000000))) && (decide (0 ≤ j1.level))) && (decide (j1.level ≤ 24))))
theorem ZBj (j1 : Job) : Zo5 j1 = some (spec_JobOk j1) := by
 unfold Zo5 spec_JobOk
 first | rfl | simp only [Za]
theorem Zg9 (j1 : Job) : Snd Tryz.prog ZN3 [eJob j1] (.bool (spec_JobOk j1)) [] := Zdc (ZBj j1)
def ZHf : L :=
.seq (.reg [.bx 1 (.t 0),.mv 2 (cB false)])
 (.seq (.seq (.reg [fA 5 1 0,lD 6 5 2 true,cQ 7 Z23 [6],.un 8 (.t 7),mV 9 8,.g 9 false (fA 10 1 2),.g 9 false (lD 11 10 1 false),.g 9 false (.ln 12 (.t 11)),.g 9 false (fA 13 1 0),.g 9 false (fA 14 13 1),.g 9 false (lD 15 14 1 false),.g 9 false (.ln 16 (.t 15)),.g 9 false (bI 17 .neq 12 16),.pk 18 (.t 9) (cB true) (.t 17),mV 19 18,.g 19 false (fA 20 1 3),.g 19 false (lD 21 20 1 false),.g 19 false (.ln 22 (.t 21)),.g 19 false (fA 23 1 0),.g 19 false (fA 24 23 1),.g 19 false (lD 25 24 1 false),.g 19 false (.ln 26 (.t 25)),.g 19 false (bI 27 .neq 22 26),.pk 28 (.t 19) (cB true) (.t 27),mV 29 28,.g 29 false (fA 30 1 4),.g 29 false (lD 31 30 1 true),.g 29 false (cQ 32 ZY1 [31]),.g 29 false (.un 33 (.t 32)),.pk 34 (.t 29) (cB true) (.t 33)])
 (.cond (.t 34) (.seq (rE 2 (cB false))
 (.gw (.ret)))
 (.skip)))
 (.seq (.seq (.reg [fA 35 1 3,lD 36 35 1 false,.ln 37 (.t 36),.mv 38 (kI 0)])
 (.blk 0 (.loop (.gw (.seq (.reg [bI 39 .lss 38 37])
 (.seq (.cond (.t 39) (.skip)
 (.exit 0))
 (.seq (.blk 1 (.seq (.reg [iA 40 36 38 1,lD 41 40 1 true,.al 4 [.nl],.st (.t 4) (.t 41) 1])
 (.seq (.reg [lD 42 4 1 true,cQ 43 ZY1 [42],.un 44 (.t 43)])
 (.cond (.t 44) (.seq (rE 2 (cB false))
 (.gw (.ret)))
 (.skip)))))
 (.reg [.bi 45 .add (.t 38) (kI 1),mV 38 45]))))))))
 (.seq (rE 2 (cB true))
 (.gw (.ret)))))
def ZHe : List Rv := [.t 2]
theorem Zvg : chkFn Tryz.prog Z17 1 ZHf ZHe = true := by kernel_rfl
def ZW4 (x5 : List Pt) (_ : Nat) (_ : Unit) (k5 : Unit → Option Bool) : Option Bool :=
 (spec_ProfOk x5).bind fun b6 => bif (!b6) then (some false) else (k5 ())
def ZL7 (_ : Unit) : Option Bool :=
 some true
def spec_RoomOk (r1 : Room) : Option Bool :=
 (spec_TopoOk r1.topo).bind fun b2 => (bif (((!b2) || ((r1.up.length : Int) != (r1.topo.nodes.length : Int))) || ((r1.profs.length : Int) != (r1.topo.nodes.length : Int))) then some default else (spec_ProfOk r1.lics)).bind fun b3 => bif ((((!b2) || ((r1.up.length : Int) != (r1.topo.nodes.length : Int))) || ((r1.profs.length : Int) != (r1.topo.nodes.length : Int))) || (!b3)) then (some false) else (rgl ZW4 ZL7 r1.profs 0 ())
theorem Zue {r1 : Room} {r : Bool} (H : spec_RoomOk r1 = some r) : Snd Tryz.prog Z17 [ZX2 .rd r1] (.bool r) [] := by
 refine snd_g Zvg rfl (by simp) ?_
 unfold spec_RoomOk at H
 obtain ⟨b2, h2, H⟩ := bB H
 obtain ⟨b3, h3, H⟩ := bB H
 refine Wh_go 99 [.c 7 (Z36 h2), .g 12 [((!b2), false)] (.ln _ _ fun _ => lm r1.up eBo), .g 16 [((!b2), false)] (.ln _ _ fun _ => lm r1.topo.nodes eNode), .g 22 [(((!b2) || ((r1.up.length : Int) != (r1.topo.nodes.length : Int))), false)] (.ln _ _ fun _ => lm r1.profs (Zf .rd)), .g 26 [(((!b2) || ((r1.up.length : Int) != (r1.topo.nodes.length : Int))), false)] (.ln _ _ fun _ => lm r1.topo.nodes eNode), .g 32 [(_, false)] (.call _ _ _ _ _ (AEs.refl _) (fun q => Zt3 (bF q.1 h3)))] (by kernel_rfl) fun _ => ?_
 refine Wh_iH H (fun H => ?_) fun H => ?_
 ·refine Wh_o fun _ => ?_
  replace H := sI H; subst H
  exact Z0 [(2, .d)] [] [] [] [] [] (by kernel_rfl)
 ·refine Wh_go 99 [.u 37 (.ln _ _ fun _ => lm r1.profs (Zf .rd))] (by kernel_rfl) fun q4 => ?_
  refine Zg (fun (i5 : Nat) (v5 : Unit) => ⟨[(36, .sl .rd 1 (r1.profs.map (Zf .rd))), (37, .int .i64 (r1.profs.length : Int)), (38, .int .i64 (i5 : Int))], [], [], []⟩) [] [] [] [] (by kernel_rfl) (by kernel_rfl) H (fun i5 x5 v5 I m k5 hxv5 hiv5 H N27 => ?_) (fun v5 I m H => ?_)
  ·unfold ZW4 at H
   refine Wh_o fun _ => ?_
   refine Zh (ltT hiv5) (by kernel_rfl) ?_
   obtain ⟨b6, h6, H⟩ := bB H
   refine Wh_go 99 [.u 40 (.ix _ _ _ fun _ => Z1 (Zf .rd) (Z7 hxv5)), .c 43 (Zt3 h6)] (by kernel_rfl) fun _ => ?_
   refine Wh_iH H (fun H => ?_) fun H => ?_
   ·refine Wh_o fun _ => ?_
    replace H := sI H; subst H
    exact Z0 [(2, .d)] [] [] [] [] [] (by kernel_rfl)
   ·refine Wh_go 99 [.w 45 (wi .i64 rfl hiv5 q4.1)] (by kernel_rfl) fun _ => ?_
    exact Wh_to (N27 () H) [] [] [] [] (by kernel_rfl) (by kernel_rfl)
  ·unfold ZL7 at H
   refine Wh_o fun _ => ?_
   refine Zi (ltF r1.profs.length) (by kernel_rfl) ?_
   refine Wh_o fun _ => ?_
   replace H := sI H; subst H
   exact Z0 [(2, .d)] [] [] [] [] [] (by kernel_rfl)
def Zcd : L :=
.seq (.reg [.bx 1 (.t 0),.al 2 [.nl]])
 (.seq (.reg [.bs 3 4 [] true,fA 4 1 0,lD 5 4 1 false,.ap 6 (.t 3) (.t 5) 4 32,.bd 7 [.nl] [(0, 1, (.t 6))],.st (.t 2) (.t 7) 1])
 (.gw (.ret)))
def Zjc : List Rv := [.c 2 1 true]
theorem ZTd : chkFn Tryz.prog ZA3 1 Zcd Zjc = true := by kernel_rfl
def spec_l04Prof (p1 : List Pt) : Option (List Pt) :=
 (appL 32 ([] : List Pt) p1).bind fun xs2 => some xs2
theorem ZC7 {p1 : List Pt} {r : (List Pt)} (H : spec_l04Prof p1 = some r) : Snd Tryz.prog ZA3 [.agg [.sl .rd 4 (p1.map ePt)]] (Zf .nw r) [] := by
 refine snd_g ZTd rfl (by simp) ?_
 unfold spec_l04Prof at H
 obtain ⟨xs2, h2, H⟩ := bB H
 refine Wh_go 99 [.u 6 (.ap _ _ _ _ fun _ => Zm ePt h2)] (by kernel_rfl) fun _ => ?_
 replace H := sI H; subst H
 exact Z0 [(2, .d)] [(2, [.f])] [] [3] [] [⟨_, nw_Pt xs2⟩] (by kernel_rfl)
def Zed : L :=
.seq (.reg [.bx 1 (.t 0),.al 2 [.nl, .nl, .nl, .nl, .nl]])
 (.seq (.rz [(8, 3, [.nl, .nl, .nl, .nl, .nl])] [(1, false, fA 7 1 2),
 (2, false, lD 8 7 1 false),
 (4, false, fA 10 1 4),
 (5, false, lD 11 10 1 true),
 (0, true, .bs 6 1 [] true),
 (3, true, .ap 9 (.t 6) (.t 8) 1 1),
 (6, false, cQ 12 ZA3 [11]),
 (7, true, .bd 13 [.nl, .nl, .nl, .nl, .nl] [(2, 1, (.t 9)), (4, 1, (.t 12))])]
 [.st (.t 3) (.t 13) 5])
 (.seq (.rq 12 [.be 14,fA 15 1 0,fA 16 15 0,lD 17 16 1 false,.ae 18 (.t 14) (.t 17) 1 8,.be 19,fA 20 1 0,fA 21 20 1,lD 22 21 1 false,.ae 23 (.t 19) (.t 22) 4 32,.bd 24 [.nl, .nl] [(0, 1, (.t 18)), (1, 1, (.t 23))],fA 25 3 0,.st (.t 25) (.t 24) 2])
 (.seq (.seq (.reg [fA 26 1 3,lD 27 26 1 false,.ln 28 (.t 27),.mv 29 (kI 0)])
 (.blk 0 (.loop (.gw (.seq (.reg [bI 30 .lss 29 28])
 (.seq (.cond (.t 30) (.skip)
 (.exit 0))
 (.seq (.blk 1 (.seq (.reg [iA 31 27 29 1,lD 32 31 1 true,.al 5 [.nl],.st (.t 5) (.t 32) 1])
 (.rq 5 [fA 33 3 3,lD 34 33 1 false,lD 35 5 1 true,cQ 36 ZA3 [35],.bs 37 1 [(.t 36)] false,.ap 38 (.t 34) (.t 37) 1 24,fA 39 3 3,.st (.t 39) (.t 38) 1])))
 (.reg [.bi 40 .add (.t 29) (kI 1),mV 29 40]))))))))
 (.seq (.reg [lD 41 3 5 true,.st (.t 2) (.t 41) 5])
 (.gw (.ret))))))
def Zlc : List Rv := [.c 2 5 true]
theorem ZVd : chkFn Tryz.prog ZC3 1 Zed Zlc = true := by kernel_rfl
def Zd2 (x7 : List Pt) (_ : Nat) (v7 : (List (List Pt))) (k7 : (List (List Pt)) → Option Room) : Option Room :=
 (spec_l04Prof x7).bind fun y8 => (appL 24 v7 [y8]).bind fun xs9 => k7 xs9
def ZV3 (xs2 : List Bool) (y3 : (List Pt)) (xs4 : List Int) (xs5 : List Node) (v7 : (List (List Pt))) : Option Room :=
 some (Room.mk (Topo.mk xs4 xs5) xs2 v7 y3)
def spec_l04Copy (r1 : Room) : Option Room :=
 (appL 1 ([] : List Bool) r1.up).bind fun xs2 => (spec_l04Prof r1.lics).bind fun y3 => (appL 8 ([] : List Int) r1.topo.parents).bind fun xs4 => (appL 32 ([] : List Node) r1.topo.nodes).bind fun xs5 => rgl Zd2 (ZV3 xs2 y3 xs4 xs5) r1.profs 0 []
theorem ZF7 {r1 : Room} {r : Room} (H : spec_l04Copy r1 = some r) : Snd Tryz.prog ZC3 [ZX2 .rd r1] (.agg [.sl .nw 1 (r.topo.parents.map eI), .sl .nw 4 (r.topo.nodes.map eNode), .sl .nw 1 (r.up.map eBo), .sref 0, .sl .nw 4 (r.lics.map ePt)]) [⟨1, r.profs.map (Zf .nw), false⟩] := by
 refine snd_g ZVd rfl (by simp) ?_
 unfold spec_l04Copy at H
 obtain ⟨xs2, h2, H⟩ := bB H
 obtain ⟨y3, h3, H⟩ := bB H
 obtain ⟨xs4, h4, H⟩ := bB H
 obtain ⟨xs5, h5, H⟩ := bB H
 refine Wh_go 99 [.u 9 (.ap _ _ _ _ fun _ => Zm eBo h2), .c 12 (ZC7 h3), .u 18 (.ap _ _ _ _ fun _ => Zm eI h4), .u 23 (.ap _ _ _ _ fun _ => Zm eNode h5), .u 28 (.ln _ _ fun _ => lm r1.profs (Zf .rd))] (by kernel_rfl) fun q6 => ?_
 refine Zg (fun (i7 : Nat) (v7 : (List (List Pt))) => ⟨[(2, .ptr 2 0), (3, .ptr 3 0), (27, .sl .rd 1 (r1.profs.map (Zf .rd))), (28, .int .i64 (r1.profs.length : Int)), (29, .int .i64 (i7 : Int))], [], [(2, [.nl, .nl, .nl, .nl, .nl]), (3, [.sl .nw 1 (xs4.map eI), .sl .nw 4 (xs5.map eNode), .sref 6, .sref 425001, .sl .nw 4 (y3.map ePt)])], [(6, ⟨1, xs2.map eBo, false⟩), (425001, ⟨1, v7.map (Zf .nw), false⟩)]⟩) [] [(3, [.d, .d, .d, .z 425001, .d])] [(425001, (none, 1))] [] (by kernel_rfl) (by kernel_rfl) H (fun i7 x7 v7 I m k7 hxv7 hiv7 H N16 => ?_) (fun v7 I m H => ?_)
 ·unfold Zd2 at H
  refine Wh_o fun _ => ?_
  refine Zh (ltT hiv7) (by kernel_rfl) ?_
  obtain ⟨y8, h8, H⟩ := bB H
  obtain ⟨xs9, h9, H⟩ := bB H
  refine Wh_go 99 [.u 31 (.ix _ _ _ fun _ => Z1 (Zf .rd) (Z7 hxv7)), .c 36 (ZC7 h8), .u 38 (.ap _ _ _ _ fun _ => Zm (Zf .nw) h9), .w 40 (wi .i64 rfl hiv7 q6.1)] (by kernel_rfl) fun _ => ?_
  exact Wh_to (N16 _ H) [] [] [] [] (by kernel_rfl) (by kernel_rfl)
 ·unfold ZV3 at H
  refine Wh_o fun _ => ?_
  refine Zi (ltF r1.profs.length) (by kernel_rfl) ?_
  refine Wh_o fun _ => ?_
  replace H := sI H; subst H
  exact Z0 [(2, .d)] [(2, [.d, .d, .f, .d, .d])] [(425001, some 425001, 0)] [6] [some 425001] [⟨_, nw_I xs4⟩, ⟨_, ZT xs5⟩, ⟨_, nw_Bo xs2⟩, ⟨_, nw_Pt y3⟩, ⟨_, ZF v7⟩] (by kernel_rfl)
def Zdd : L :=
.seq (.reg [.bx 3 (.t 0),.bx 4 (.t 1),.mv 6 (cB false)])
 (.seq (.seq (.reg [lD 9 3 5 true,cQ 10 Z17 [9],.un 11 (.t 10),mV 12 11,.g 12 false (lD 13 4 11 true),.g 12 false (cQ 14 ZN3 [13]),.g 12 false (.un 15 (.t 14)),.pk 16 (.t 12) (cB true) (.t 15),mV 17 16,.g 17 false (mV 18 2),.g 17 false (.ln 19 (.t 18)),.g 17 false (fA 20 4 2),.g 17 false (lD 21 20 1 false),.g 17 false (bI 22 .neq 19 21),.pk 23 (.t 17) (cB true) (.t 22),mV 24 23,.g 24 false (fA 25 3 0),.g 24 false (lD 26 25 2 true),.g 24 false (mV 27 2),.g 24 false (cQ 28 Z13 [26, 27]),.g 24 false (.un 29 (.t 28)),.pk 30 (.t 24) (cB true) (.t 29)])
 (.cond (.t 30) (.seq (rE 6 (cB false))
 (.gw (.ret)))
 (.skip)))
 (.seq (.seq (.reg [mV 31 2,.ln 32 (.t 31),.mv 33 (kI 0)])
 (.blk 0 (.loop (.gw (.seq (.reg [bI 34 .lss 33 32])
 (.seq (.cond (.t 34) (.skip)
 (.exit 0))
 (.seq (.blk 1 (.seq (.reg [mV 35 33,iA 36 31 33 1,lD 37 36 1 false,mV 7 35,mV 8 37])
 (.seq (.reg [mV 38 2,mV 39 7,.sc 40 (.t 38) none (some (.t 39)) 1,mV 41 8,cQ 42 ZD4 [40, 41]])
 (.cond (.t 42) (.seq (rE 6 (cB false))
 (.gw (.ret)))
 (.skip)))))
 (.reg [.bi 43 .add (.t 33) (kI 1),mV 33 43]))))))))
 (.seq (rE 6 (cB true))
 (.gw (.ret)))))
def Zkc : List Rv := [.t 6]
theorem ZUd : chkFn Tryz.prog ZB3 3 Zdd Zkc = true := by kernel_rfl
def ZU3 (nodes3 : List Int) (x7 : Int) (i7 : Nat) (_ : Unit) (k7 : Unit → Option Bool) : Option Bool :=
 (cutL nodes3 none (some (i7 : Int))).bind fun xs8 => (spec_l02Has xs8 x7).bind fun b9 => bif b9 then (some false) else (k7 ())
def Zj7 (_ : Unit) : Option Bool :=
 some true
def spec_l04Diff (r1 : Room) (j2 : Job) (nodes3 : List Int) : Option Bool :=
 (spec_RoomOk r1).bind fun b4 => (bif (((!b4) || (!(spec_JobOk j2))) || ((nodes3.length : Int) != j2.nodes)) then some default else (spec_l02Nodes r1.topo nodes3)).bind fun b5 => bif ((((!b4) || (!(spec_JobOk j2))) || ((nodes3.length : Int) != j2.nodes)) || (!b5)) then (some false) else (rgl (ZU3 nodes3) Zj7 nodes3 0 ())
theorem ZD7 {r1 : Room} {j2 : Job} {nodes3 : List Int} {r : Bool} (H : spec_l04Diff r1 j2 nodes3 = some r) : Snd Tryz.prog ZB3 [ZX2 .rd r1, eJob j2, .sl .rd 1 (nodes3.map eI)] (.bool r) [] := by
 refine snd_g ZUd rfl (by simp) ?_
 unfold spec_l04Diff at H
 obtain ⟨b4, h4, H⟩ := bB H
 obtain ⟨b5, h5, H⟩ := bB H
 refine Wh_go 99 [.c 10 (Zue h4), .g 14 [((!b4), false)] (.call _ _ _ _ _ (AEs.refl _) (fun _ => Zg9 j2)), .g 19 [(((!b4) || (!(spec_JobOk j2))), false)] (.ln _ _ fun _ => lm nodes3 eI), .g 28 [(_, false)] (.call _ _ _ _ _ (AEs.refl _) (fun q => Zk7 (bF q.1 h5)))] (by kernel_rfl) fun _ => ?_
 refine Wh_iH H (fun H => ?_) fun H => ?_
 ·refine Wh_o fun _ => ?_
  replace H := sI H; subst H
  exact Z0 [(6, .d)] [] [] [] [] [] (by kernel_rfl)
 ·refine Wh_go 99 [.u 32 (.ln _ _ fun _ => lm nodes3 eI)] (by kernel_rfl) fun q6 => ?_
  refine Zg (fun (i7 : Nat) (v7 : Unit) => ⟨[(2, .sl .rd 1 (nodes3.map eI)), (31, .sl .rd 1 (nodes3.map eI)), (32, .int .i64 (nodes3.length : Int)), (33, .int .i64 (i7 : Int))], [], [], []⟩) [] [] [] [] (by kernel_rfl) (by kernel_rfl) H (fun i7 x7 v7 I m k7 hxv7 hiv7 H N27 => ?_) (fun v7 I m H => ?_)
  ·unfold ZU3 at H
   refine Wh_o fun _ => ?_
   refine Zh (ltT hiv7) (by kernel_rfl) ?_
   obtain ⟨xs8, h8, H⟩ := bB H
   obtain ⟨b9, h9, H⟩ := bB H
   refine Wh_go 99 [.u 36 (.ix _ _ _ fun _ => Z1 eI (Z7 hxv7)), .u 40 (.sc _ _ _ _ fun _ => Z7j eI h8), .c 42 (ZE8 h9)] (by kernel_rfl) fun _ => ?_
   refine Wh_iH H (fun H => ?_) fun H => ?_
   ·refine Wh_o fun _ => ?_
    replace H := sI H; subst H
    exact Z0 [(6, .d)] [] [] [] [] [] (by kernel_rfl)
   ·refine Wh_go 99 [.w 43 (wi .i64 rfl hiv7 q6.1)] (by kernel_rfl) fun _ => ?_
    exact Wh_to (N27 () H) [] [] [] [] (by kernel_rfl) (by kernel_rfl)
  ·unfold Zj7 at H
   refine Wh_o fun _ => ?_
   refine Zi (ltF nodes3.length) (by kernel_rfl) ?_
   refine Wh_o fun _ => ?_
   replace H := sI H; subst H
   exact Z0 [(6, .d)] [] [] [] [] [] (by kernel_rfl)
def Zjd : L :=
.seq (.reg [.bx 4 (.t 0),.bx 5 (.t 1),.al 8 [.nl, .nl, .nl, .nl, .nl],.mv 9 (cB false)])
 (.seq (.seq (.reg [lD 17 4 5 true,lD 18 5 11 true,mV 19 3,cQ 20 ZB3 [17, 18, 19],.un 21 (.t 20),mV 22 21,.g 22 false (mV 23 2),.g 22 false (cQ 24 ZH [23]),.g 22 false (.un 25 (.t 24)),.pk 26 (.t 22) (cB true) (.t 25)])
 (.cond (.t 26) (.seq (.reg [.bd 27 [.nl, .nl, .nl, .nl, .nl] [],.st (.t 8) (.t 27) 5,.mv 9 (cB false)])
 (.gw (.ret)))
 (.skip)))
 (.seq (.reg [lD 28 4 5 true,.cl 29 ZC3 [(.t 28)],.al 10 [.nl, .nl, .nl, .nl, .nl],.st (.t 10) (.t 29) 5])
 (.seq (.seq (.reg [mV 30 3,.ln 31 (.t 30),.mv 32 (kI 0)])
 (.blk 0 (.loop (.gw (.seq (.reg [bI 33 .lss 32 31])
 (.seq (.cond (.t 33) (.skip)
 (.exit 0))
 (.seq (.blk 1 (.seq (.reg [iA 34 30 32 1,lD 35 34 1 false,mV 12 35])
 (.seq (.rz [(16, 13, [.nl])] [(2, false, mV 39 12),
 (5, false, mV 42 2),
 (6, false, mV 43 2),
 (7, false, fA 44 5 9),
 (8, false, lD 45 44 1 false),
 (9, false, bI 46 .add 43 45),
 (10, false, fA 47 5 3),
 (11, false, lD 48 47 3 true),
 (0, true, fA 37 10 3),
 (1, true, lD 38 37 1 false),
 (3, true, iA 40 38 39 1),
 (4, true, lD 41 40 1 true),
 (12, false, cQ 49 Z33 [41, 42, 46, 48]),
 (13, false, mV 36 49),
 (14, false, eX 50 36 0),
 (15, false, eX 51 36 1)]
 [.st (.t 13) (.t 50) 1,mV 14 51])
 (.seq (.seq (.reg [mV 52 14,.un 53 (.t 52)])
 (.cond (.t 53) (.seq (.reg [.bd 54 [.nl, .nl, .nl, .nl, .nl] [],.st (.t 8) (.t 54) 5,.mv 9 (cB false)])
 (.gw (.ret)))
 (.skip)))
 (.reg [fA 55 10 3,lD 56 55 1 false,mV 57 12,lD 58 13 1 true,iA 59 56 57 1,.st (.t 59) (.t 58) 1])))))
 (.reg [.bi 60 .add (.t 32) (kI 1),mV 32 60]))))))))
 (.seq (.reg [fA 62 10 4,lD 63 62 1 true,mV 64 2,mV 65 2,fA 66 5 9,lD 67 66 1 false,bI 68 .add 65 67,fA 69 5 6,lD 70 69 3 true,cQ 71 Z33 [63, 64, 68, 70],mV 61 71,eX 72 61 0,eX 73 61 1,.al 15 [.nl],.st (.t 15) (.t 72) 1,mV 16 73])
 (.seq (.seq (.reg [mV 74 16,.un 75 (.t 74)])
 (.cond (.t 75) (.seq (.reg [.bd 76 [.nl, .nl, .nl, .nl, .nl] [],.st (.t 8) (.t 76) 5,.mv 9 (cB false)])
 (.gw (.ret)))
 (.skip)))
 (.seq (.reg [lD 77 15 1 true,fA 78 10 4,.st (.t 78) (.t 77) 1])
 (.seq (.reg [lD 79 10 5 true,.st (.t 8) (.t 79) 5,.mv 9 (cB true)])
 (.gw (.ret)))))))))
def Zqc : List Rv := [.c 8 5 true, .t 9]
theorem Z0e : chkFn Tryz.prog Zf6 4 Zjd Zqc = true := by kernel_rfl
def Zn7 (j2 : Job) (at3 : Int) (x8 : Int) (_ : Nat) (v8 : (List (List Pt))) (k8 : (List (List Pt)) → Option (Room × Bool)) : Option (Room × Bool) :=
 (idx v8 x8).bind fun e9 => (spec_ProfTake e9 at3 (w64 (at3 + j2.wall)) j2.need).bind fun y10 => bif (!y10.2) then (some ((Room.mk (Topo.mk [] []) [] [] []), false)) else (k8 (v8.set x8.toNat y10.1))
def Zm7 (j2 : Job) (at3 : Int) (y6 : Room) (v8 : (List (List Pt))) : Option (Room × Bool) :=
 (spec_ProfTake y6.lics at3 (w64 (at3 + j2.wall)) j2.lic).bind fun y11 => bif (!y11.2) then (some ((Room.mk (Topo.mk [] []) [] [] []), false)) else (some ((Room.mk y6.topo y6.up v8 y11.1), true))
def spec_Reserve (r1 : Room) (j2 : Job) (at3 : Int) (nodes4 : List Int) : Option (Room × Bool) :=
 (spec_l04Diff r1 j2 nodes4).bind fun b5 => bif ((!b5) || (!(spec_l01Time at3))) then (some ((Room.mk (Topo.mk [] []) [] [] []), false)) else ((spec_l04Copy r1).bind fun y6 => rgl (Zn7 j2 at3) (Zm7 j2 at3 y6) nodes4 0 y6.profs)
theorem Z7c {r1 : Room} {j2 : Job} {at3 : Int} {nodes4 : List Int} {r : Room × Bool} (H : spec_Reserve r1 j2 at3 nodes4 = some r) : Snd Tryz.prog Zf6 [ZX2 .rd r1, eJob j2, .int .i64 at3, .sl .rd 1 (nodes4.map eI)] (.tup [ZX2 .nw r.1, .bool r.2]) [] := by
 refine snd_g Z0e rfl (by simp) ?_
 unfold spec_Reserve at H
 obtain ⟨b5, h5, H⟩ := bB H
 refine Wh_go 99 [.c 20 (ZD7 h5), .g 24 [((!b5), false)] (.call _ _ _ _ _ (AEs.refl _) (fun _ => Ze1 at3))] (by kernel_rfl) fun _ => ?_
 refine Wh_iH H (fun H => ?_) fun H => ?_
 ·refine Wh_o fun _ => ?_
  replace H := sI H; subst H
  exact Z0 [(8, .d), (9, .d)] [(8, [.n 1, .n 4, .n 1, .n 1, .n 4])] [] [] [] [⟨_, nw_I ([] : List Int)⟩, ⟨_, ZT ([] : List Node)⟩, ⟨_, nw_Bo ([] : List Bool)⟩, ⟨_, ZF ([] : List (List Pt))⟩, ⟨_, nw_Pt ([] : List Pt)⟩] (by kernel_rfl)
 ·obtain ⟨y6, h6, H⟩ := bB H
  refine Wh_go 99 [.c 29 (ZF7 h6), .u 31 (.ln _ _ fun _ => lm nodes4 eI)] (by kernel_rfl) fun q7 => ?_
  refine Zg (fun (i8 : Nat) (v8 : (List (List Pt))) => ⟨[(2, .int .i64 at3), (5, .ptr 5 0), (8, .ptr 8 0), (10, .ptr 10 0), (30, .sl .rd 1 (nodes4.map eI)), (31, .int .i64 (nodes4.length : Int)), (32, .int .i64 (i8 : Int))], [], [(5, (eJob j2).cells), (8, [.nl, .nl, .nl, .nl, .nl]), (10, [.sl .nw 1 (y6.topo.parents.map eI), .sl .nw 4 (y6.topo.nodes.map eNode), .sl .nw 1 (y6.up.map eBo), .sref 30000, .sl .nw 4 (y6.lics.map ePt)])], [(30000, ⟨1, v8.map (Zf .nw), false⟩)]⟩) [] [] [] [] (by kernel_rfl) (by kernel_rfl) H (fun i8 x8 v8 I m k8 hxv8 hiv8 H N32 => ?_) (fun v8 I m H => ?_)
  ·unfold Zn7 at H
   refine Wh_o fun _ => ?_
   refine Zh (ltT hiv8) (by kernel_rfl) ?_
   obtain ⟨e9, h9, H⟩ := bB H
   obtain ⟨y10, h10, H⟩ := bB H
   refine Wh_go 99 [.u 34 (.ix _ _ _ fun _ => Z1 eI (Z7 hxv8)), .u 40 (.ix _ _ _ fun _ => Z1 (Zf .nw) h9), .u 41 (.el _ _ _ fun _ => gm (Zf .nw) (Z32 h9)), .c 49 (Zo7 h10)] (by kernel_rfl) fun _ => ?_
   refine Wh_iH H (fun H => ?_) fun H => ?_
   ·refine Wh_o fun _ => ?_
    replace H := sI H; subst H
    exact Z0 [(8, .d), (9, .d)] [(8, [.n 1, .n 4, .n 1, .n 1, .n 4])] [] [] [] [⟨_, nw_I ([] : List Int)⟩, ⟨_, ZT ([] : List Node)⟩, ⟨_, nw_Bo ([] : List Bool)⟩, ⟨_, ZF ([] : List (List Pt))⟩, ⟨_, nw_Pt ([] : List Pt)⟩] (by kernel_rfl)
   ·refine Wh_go 99 [.u 59 (.ix _ _ _ fun _ => Z1 (Zf .nw) h9), .u 1000000 (.sto _ _ _ (Zf .nw y10.1) _ (fun _ => gm (Zf .nw) (Z32 h9)) (fun _ => ZS7 ..)), .w 60 (wi .i64 rfl hiv8 q7.1)] (by kernel_rfl) fun _ => ?_
    exact Wh_to (N32 _ H) [] [] [] [] (by kernel_rfl) (by kernel_rfl)
  ·unfold Zm7 at H
   refine Wh_o fun _ => ?_
   refine Zi (ltF nodes4.length) (by kernel_rfl) ?_
   obtain ⟨y11, h11, H⟩ := bB H
   refine Wh_go 99 [.c 71 (Zo7 h11)] (by kernel_rfl) fun _ => ?_
   refine Wh_iH H (fun H => ?_) fun H => ?_
   ·refine Wh_o fun _ => ?_
    replace H := sI H; subst H
    exact Z0 [(8, .d), (9, .d)] [(8, [.n 1, .n 4, .n 1, .n 1, .n 4])] [] [] [] [⟨_, nw_I ([] : List Int)⟩, ⟨_, ZT ([] : List Node)⟩, ⟨_, nw_Bo ([] : List Bool)⟩, ⟨_, ZF ([] : List (List Pt))⟩, ⟨_, nw_Pt ([] : List Pt)⟩] (by kernel_rfl)
   ·refine Wh_o fun _ => ?_
    replace H := sI H; subst H
    exact Z0 [(8, .d), (9, .d)] [(8, [.d, .d, .d, .f, .d])] [] [30000] [] [⟨_, nw_I y6.topo.parents⟩, ⟨_, ZT y6.topo.nodes⟩, ⟨_, nw_Bo y6.up⟩, ⟨_, ZF v8⟩, ⟨_, nw_Pt y11.1⟩] (by kernel_rfl)
def Zpb : L :=
.seq (.reg [.bx 1 (.t 0),.al 2 [.nl, .nl, .nl, .nl, .nl]])
 (.seq (.rz [(10, 3, [.nl, .nl, .nl, .nl, .nl])] [(0, false, fA 6 1 0),
 (1, false, lD 7 6 2 true),
 (2, false, cQ 8 Z63 [7]),
 (3, false, fA 9 1 2),
 (4, false, lD 10 9 1 false),
 (6, false, fA 12 1 4),
 (7, false, lD 13 12 1 true),
 (5, true, .ap 11 (.c (.nl)) (.t 10) 1 1),
 (8, false, cQ 14 Z73 [13]),
 (9, true, .bd 15 [.nl, .nl, .nl, .nl, .nl] [(0, 2, (.t 8)), (2, 1, (.t 11)), (4, 1, (.t 14))])]
 [.st (.t 3) (.t 15) 5])
 (.seq (.seq (.reg [fA 16 1 3,lD 17 16 1 false,.ln 18 (.t 17),.mv 19 (kI 0)])
 (.blk 0 (.loop (.gw (.seq (.reg [bI 20 .lss 19 18])
 (.seq (.cond (.t 20) (.skip)
 (.exit 0))
 (.seq (.blk 1 (.seq (.reg [iA 21 17 19 1,lD 22 21 1 true,.al 5 [.nl],.st (.t 5) (.t 22) 1])
 (.rq 5 [fA 23 3 3,lD 24 23 1 false,lD 25 5 1 true,cQ 26 Z73 [25],.bs 27 1 [(.t 26)] false,.ap 28 (.t 24) (.t 27) 1 24,fA 29 3 3,.st (.t 29) (.t 28) 1])))
 (.reg [.bi 30 .add (.t 19) (kI 1),mV 19 30]))))))))
 (.seq (.reg [lD 31 3 5 true,.st (.t 2) (.t 31) 5])
 (.gw (.ret)))))
def Z1b : List Rv := [.c 2 5 true]
theorem ZIb : chkFn Tryz.prog Zi5 1 Zpb Z1b = true := by kernel_rfl
def ZU1 (x6 : List Pt) (_ : Nat) (v6 : (List (List Pt))) (k6 : (List (List Pt)) → Option Room) : Option Room :=
 (impl_copyProf x6).bind fun y7 => (appL 24 v6 [y7]).bind fun xs8 => k6 xs8
def Zn3 (y2 : Topo) (xs3 : List Bool) (y4 : (List Pt)) (v6 : (List (List Pt))) : Option Room :=
 some (Room.mk y2 xs3 v6 y4)
def impl_copyRoom (r1 : Room) : Option Room :=
 (impl_copyTopo r1.topo).bind fun y2 => (appL 1 ([] : List Bool) r1.up).bind fun xs3 => (impl_copyProf r1.lics).bind fun y4 => rgl ZU1 (Zn3 y2 xs3 y4) r1.profs 0 []
theorem Zxb {r1 : Room} {r : Room} (H : impl_copyRoom r1 = some r) : Snd Tryz.prog Zi5 [ZX2 .rd r1] (.agg [.sl .nw 1 (r.topo.parents.map eI), .sl .nw 4 (r.topo.nodes.map eNode), .sl .nw 1 (r.up.map eBo), .sref 0, .sl .nw 4 (r.lics.map ePt)]) [⟨1, r.profs.map (Zf .nw), false⟩] := by
 refine snd_g ZIb rfl (by simp) ?_
 unfold impl_copyRoom at H
 obtain ⟨y2, h2, H⟩ := bB H
 obtain ⟨xs3, h3, H⟩ := bB H
 obtain ⟨y4, h4, H⟩ := bB H
 refine Wh_go 99 [.c 8 (Zt7 h2), .u 11 (.ap _ _ _ _ fun _ => Zm eBo h3), .c 14 (Zu7 h4), .u 18 (.ln _ _ fun _ => lm r1.profs (Zf .rd))] (by kernel_rfl) fun q5 => ?_
 refine Zg (fun (i6 : Nat) (v6 : (List (List Pt))) => ⟨[(2, .ptr 2 0), (3, .ptr 3 0), (17, .sl .rd 1 (r1.profs.map (Zf .rd))), (18, .int .i64 (r1.profs.length : Int)), (19, .int .i64 (i6 : Int))], [], [(2, [.nl, .nl, .nl, .nl, .nl]), (3, [.sl .nw 1 (y2.parents.map eI), .sl .nw 4 (y2.nodes.map eNode), .sref 11, .sref 425001, .sl .nw 4 (y4.map ePt)])], [(11, ⟨1, xs3.map eBo, false⟩), (425001, ⟨1, v6.map (Zf .nw), false⟩)]⟩) [] [(3, [.d, .d, .d, .z 425001, .d])] [(425001, (none, 1))] [] (by kernel_rfl) (by kernel_rfl) H (fun i6 x6 v6 I m k6 hxv6 hiv6 H N15 => ?_) (fun v6 I m H => ?_)
 ·unfold ZU1 at H
  refine Wh_o fun _ => ?_
  refine Zh (ltT hiv6) (by kernel_rfl) ?_
  obtain ⟨y7, h7, H⟩ := bB H
  obtain ⟨xs8, h8, H⟩ := bB H
  refine Wh_go 99 [.u 21 (.ix _ _ _ fun _ => Z1 (Zf .rd) (Z7 hxv6)), .c 26 (Zu7 h7), .u 28 (.ap _ _ _ _ fun _ => Zm (Zf .nw) h8), .w 30 (wi .i64 rfl hiv6 q5.1)] (by kernel_rfl) fun _ => ?_
  exact Wh_to (N15 _ H) [] [] [] [] (by kernel_rfl) (by kernel_rfl)
 ·unfold Zn3 at H
  refine Wh_o fun _ => ?_
  refine Zi (ltF r1.profs.length) (by kernel_rfl) ?_
  refine Wh_o fun _ => ?_
  replace H := sI H; subst H
  exact Z0 [(2, .d)] [(2, [.d, .d, .f, .d, .d])] [(425001, some 425001, 0)] [11] [some 425001] [⟨_, nw_I y2.parents⟩, ⟨_, ZT y2.nodes⟩, ⟨_, nw_Bo xs3⟩, ⟨_, nw_Pt y4⟩, ⟨_, ZF v6⟩] (by kernel_rfl)
def ZMi : L :=
.seq (.reg [.bx 1 (.t 0),.mv 2 (cB false)])
 (.seq (.reg [fA 3 1 0,lD 4 3 1 false,.cq 5 Z4 [(.t 4), (kI 1), (kI 999)],mV 6 5,.g 6 true (fA 7 1 1),.g 6 true (lD 8 7 1 false),.g 6 true (.cq 9 Z4 [(.t 8), (kI 0), (kI 999)]),.pk 10 (.t 6) (.t 9) (cB false),mV 11 10,.g 11 true (fA 12 1 2),.g 11 true (lD 13 12 1 false),.g 11 true (.cq 14 Z4 [(.t 13), (kI 1), (kI 24)]),.pk 15 (.t 11) (.t 14) (cB false),mV 16 15,.g 16 true (fA 17 1 3),.g 16 true (lD 18 17 3 true),.g 16 true (cQ 19 ZC [18]),.pk 20 (.t 16) (.t 19) (cB false),mV 21 20,.g 21 true (fA 22 1 6),.g 21 true (lD 23 22 3 true),.g 21 true (cQ 24 ZC [23]),.pk 25 (.t 21) (.t 24) (cB false),mV 26 25,.g 26 true (fA 27 1 9),.g 26 true (lD 28 27 1 false),.g 26 true (.cq 29 Z4 [(.t 28), (kI 1), (kI 1000000)]),.pk 30 (.t 26) (.t 29) (cB false),mV 31 30,.g 31 true (fA 32 1 10),.g 31 true (lD 33 32 1 false),.g 31 true (.cq 34 Z4 [(.t 33), (kI 0), (kI 24)]),.pk 35 (.t 31) (.t 34) (cB false),mV 2 35])
 (.gw (.ret)))
def ZTh : List Rv := [.t 2]
theorem Zrj : chkFn Tryz.prog Zx2 1 ZMi ZTh = true := by kernel_rfl
def ZQ5 (j1 : Job) : Option Bool :=
 some (((((((impl_within j1.id 1 999) && (impl_within j1.prio 0 999)) && (impl_within j1.nodes 1 24)) && (impl_VecOk j1.need)) && (impl_VecOk j1.lic)) && (impl_within j1.wall 1 1000000)) && (impl_within j1.level 0 24))
theorem ZId {j1 : Job} {r : Bool} (H : ZQ5 j1 = some r) : Snd Tryz.prog Zx2 [eJob j1] (.bool r) [] := by
 refine snd_g Zrj rfl (by simp) ?_
 unfold ZQ5 at H
 refine Wh_go 99 [.c 5 (Z5 j1.id 1 999), .g 9 [((impl_within j1.id 1 999), true)] (.call _ _ _ _ _ (AEs.refl _) (fun _ => Z5 j1.prio 0 999)), .g 14 [(((impl_within j1.id 1 999) && (impl_within j1.prio 0 999)), true)] (.call _ _ _ _ _ (AEs.refl _) (fun _ => Z5 j1.nodes 1 24)), .g 19 [((((impl_within j1.id 1 999) && (impl_within j1.prio 0 999)) && (impl_within j1.nodes 1 24)), true)] (.call _ _ _ _ _ (AEs.refl _) (fun _ => ZG j1.need)), .g 24 [(((((impl_within j1.id 1 999) && (impl_within j1.prio 0 999)) && (impl_within j1.nodes 1 24)) && (impl_VecOk j1.need)), true)] (.call _ _ _ _ _ (AEs.refl _) (fun _ => ZG j1.lic)), .g 29 [((((((impl_within j1.id 1 999) && (impl_within j1.prio 0 999)) && (impl_within j1.nodes 1 24)) && (impl_VecOk j1.need)) && (impl_VecOk j1.lic)), true)] (.call _ _ _ _ _ (AEs.refl _) (fun _ => Z5 j1.wall 1 1000000)), .g 34 [(((((((impl_within j1.id 1 999) && (impl_within j1.prio 0 999)) && (impl_within j1.nodes 1 24)) && (impl_VecOk j1.need)) && (impl_VecOk j1.lic)) && (impl_within j1.wall 1 1000000)), true)] (.call _ _ _ _ _ (AEs.refl _) (fun _ => Z5 j1.level 0 24))] (by kernel_rfl) fun _ => ?_
 replace H := sI H; subst H
 exact Z0 [(2, .d)] [] [] [] [] [] (by kernel_rfl)
def impl_JobOk (j1 : Job) : Bool :=
 (((((((impl_within j1.id 1 999) && (impl_within j1.prio 0 999)) && (impl_within j1.nodes 1 24)) && (impl_VecOk j1.need)) && (impl_VecOk j1.lic)) && (impl_within j1.wall 1 1000000)) && (impl_within j1.level 0 24))
theorem Z7k (j1 : Job) : ZQ5 j1 = some (impl_JobOk j1) := by
 unfold ZQ5 impl_JobOk
 first | rfl | simp only [Za]
theorem ZT6 (j1 : Job) : Snd Tryz.prog Zx2 [eJob j1] (.bool (impl_JobOk j1)) [] := ZId (Z7k j1)
def Zag : L :=
.seq (.reg [.bx 1 (.t 0),.mv 2 (cB false)])
 (.seq (.seq (.reg [fA 5 1 0,lD 6 5 2 true,cQ 7 Za3 [6],.un 8 (.t 7),mV 9 8,.g 9 false (fA 10 1 2),.g 9 false (lD 11 10 1 false),.g 9 false (.ln 12 (.t 11)),.g 9 false (fA 13 1 0),.g 9 false (fA 14 13 1),.g 9 false (lD 15 14 1 false),.g 9 false (.ln 16 (.t 15)),.g 9 false (bI 17 .neq 12 16),.pk 18 (.t 9) (cB true) (.t 17),mV 19 18,.g 19 false (fA 20 1 3),.g 19 false (lD 21 20 1 false),.g 19 false (.ln 22 (.t 21)),.g 19 false (fA 23 1 0),.g 19 false (fA 24 23 1),.g 19 false (lD 25 24 1 false),.g 19 false (.ln 26 (.t 25)),.g 19 false (bI 27 .neq 22 26),.pk 28 (.t 19) (cB true) (.t 27)])
 (.cond (.t 28) (.seq (rE 2 (cB false))
 (.gw (.ret)))
 (.skip)))
 (.seq (.seq (.reg [fA 29 1 3,lD 30 29 1 false,.ln 31 (.t 30),.mv 32 (kI 0)])
 (.blk 0 (.loop (.gw (.seq (.reg [bI 33 .lss 32 31])
 (.seq (.cond (.t 33) (.skip)
 (.exit 0))
 (.seq (.blk 1 (.seq (.reg [iA 34 30 32 1,lD 35 34 1 true,.al 4 [.nl],.st (.t 4) (.t 35) 1])
 (.seq (.reg [lD 36 4 1 true,cQ 37 Zb3 [36],.un 38 (.t 37)])
 (.cond (.t 38) (.seq (rE 2 (cB false))
 (.gw (.ret)))
 (.skip)))))
 (.reg [.bi 39 .add (.t 32) (kI 1),mV 32 39]))))))))
 (.seq (.reg [fA 40 1 4,lD 41 40 1 true,cQ 42 Zb3 [41],mV 2 42])
 (.gw (.ret)))))
def Zaf : List Rv := [.t 2]
theorem ZYg : chkFn Tryz.prog Ze7 1 Zag Zaf = true := by kernel_rfl
def Z85 (x4 : List Pt) (_ : Nat) (_ : Unit) (k4 : Unit → Option Bool) : Option Bool :=
 (impl_ProfOk x4).bind fun b5 => bif (!b5) then (some false) else (k4 ())
def Z75 (r1 : Room) (_ : Unit) : Option Bool :=
 (impl_ProfOk r1.lics).bind fun b6 => some b6
def impl_RoomOk (r1 : Room) : Option Bool :=
 (impl_TopoOk r1.topo).bind fun b2 => bif (((!b2) || ((r1.up.length : Int) != (r1.topo.nodes.length : Int))) || ((r1.profs.length : Int) != (r1.topo.nodes.length : Int))) then (some false) else (rgl Z85 (Z75 r1) r1.profs 0 ())
theorem Zig {r1 : Room} {r : Bool} (H : impl_RoomOk r1 = some r) : Snd Tryz.prog Ze7 [ZX2 .rd r1] (.bool r) [] := by
 refine snd_g ZYg rfl (by simp) ?_
 unfold impl_RoomOk at H
 obtain ⟨b2, h2, H⟩ := bB H
 refine Wh_go 99 [.c 7 (Z96 h2), .g 12 [((!b2), false)] (.ln _ _ fun _ => lm r1.up eBo), .g 16 [((!b2), false)] (.ln _ _ fun _ => lm r1.topo.nodes eNode), .g 22 [(((!b2) || ((r1.up.length : Int) != (r1.topo.nodes.length : Int))), false)] (.ln _ _ fun _ => lm r1.profs (Zf .rd)), .g 26 [(((!b2) || ((r1.up.length : Int) != (r1.topo.nodes.length : Int))), false)] (.ln _ _ fun _ => lm r1.topo.nodes eNode)] (by kernel_rfl) fun _ => ?_
 refine Wh_iH H (fun H => ?_) fun H => ?_
 ·refine Wh_o fun _ => ?_
  replace H := sI H; subst H
  exact Z0 [(2, .d)] [] [] [] [] [] (by kernel_rfl)
 ·refine Wh_go 99 [.u 31 (.ln _ _ fun _ => lm r1.profs (Zf .rd))] (by kernel_rfl) fun q3 => ?_
  refine Zg (fun (i4 : Nat) (v4 : Unit) => ⟨[(1, .ptr 1 0), (30, .sl .rd 1 (r1.profs.map (Zf .rd))), (31, .int .i64 (r1.profs.length : Int)), (32, .int .i64 (i4 : Int))], [], [(1, (ZX2 .rd r1).cells)], []⟩) [] [] [] [] (by kernel_rfl) (by kernel_rfl) H (fun i4 x4 v4 I m k4 hxv4 hiv4 H N27 => ?_) (fun v4 I m H => ?_)
  ·unfold Z85 at H
   refine Wh_o fun _ => ?_
   refine Zh (ltT hiv4) (by kernel_rfl) ?_
   obtain ⟨b5, h5, H⟩ := bB H
   refine Wh_go 99 [.u 34 (.ix _ _ _ fun _ => Z1 (Zf .rd) (Z7 hxv4)), .c 37 (Zb6 h5)] (by kernel_rfl) fun _ => ?_
   refine Wh_iH H (fun H => ?_) fun H => ?_
   ·refine Wh_o fun _ => ?_
    replace H := sI H; subst H
    exact Z0 [(2, .d)] [] [] [] [] [] (by kernel_rfl)
   ·refine Wh_go 99 [.w 39 (wi .i64 rfl hiv4 q3.1)] (by kernel_rfl) fun _ => ?_
    exact Wh_to (N27 () H) [] [] [] [] (by kernel_rfl) (by kernel_rfl)
  ·unfold Z75 at H
   refine Wh_o fun _ => ?_
   refine Zi (ltF r1.profs.length) (by kernel_rfl) ?_
   obtain ⟨b6, h6, H⟩ := bB H
   refine Wh_go 99 [.c 42 (Zb6 h6)] (by kernel_rfl) fun _ => ?_
   replace H := sI H; subst H
   exact Z0 [(2, .d)] [] [] [] [] [] (by kernel_rfl)
def Zy8 : L :=
.seq (rE 2 (cB false))
 (.seq (.seq (rE 3 (kI 1))
 (.blk 0 (.loop (.gw (.seq (.seq (.reg [mV 4 3,mV 5 0,.ln 6 (.t 5),bI 7 .lss 4 6])
 (.cond (.t 7) (.skip)
 (.exit 0)))
 (.seq (.blk 1 (.seq (.rq 10 [mV 10 0,mV 11 3,.bi 12 .sub (.t 11) (kI 1),iA 13 10 12 1,lD 14 13 1 false,mV 15 0,mV 16 3,iA 17 15 16 1,lD 18 17 1 false,bI 19 .geq 14 18])
 (.cond (.t 19) (.seq (rE 2 (cB false))
 (.gw (.ret)))
 (.skip))))
 (.reg [mV 8 3,.bi 9 .add (.t 8) (kI 1),mV 3 9])))))))
 (.seq (rE 2 (cB true))
 (.gw (.ret))))
def Zx8 : List Rv := [.t 2]
theorem ZC8 : chkFn Tryz.prog Zt2 1 Zy8 Zx8 = true := by kernel_rfl
def ZK (l1 : List Int) (v2 : Int) (k2 : Int → Option Bool) : Option Bool :=
 bif (decide (v2 < (l1.length : Int))) then ((idx l1 (w64 (v2 - 1))).bind fun e4 => (idx l1 v2).bind fun e5 => bif (decide (e5 ≤ e4)) then (some false) else (k2 (w64 (v2 + 1)))) else (some true)
def impl_areAscending (l1 : List Int) : Option Bool :=
 whl (ZK l1) 9223372036854775807 1
theorem Zz8 {l1 : List Int} {r : Bool} (H : impl_areAscending l1 = some r) : Snd Tryz.prog Zt2 [.sl .rd 1 (l1.map eI)] (.bool r) [] := by
 refine snd_g ZC8 rfl (by simp) ?_
 unfold impl_areAscending at H
 refine Wh_o fun _ => ?_
 refine ZM1 (fun (v2 : Int) => ⟨[(0, .sl .rd 1 (l1.map eI)), (3, .int .i64 v2)], [], [], []⟩) [] [] [] [] (by kernel_rfl) (by kernel_rfl) H (fun v2 I m k2 H N18 => ?_)
 unfold ZK at H
 refine Wh_go 99 [.u 6 (.ln _ _ fun _ => lm l1 eI)] (by kernel_rfl) fun q3 => ?_
 refine Wh_iH H (fun H => ?_) fun H => ?_
 ·obtain ⟨e4, h4, H⟩ := bB H
  obtain ⟨e5, h5, H⟩ := bB H
  refine Wh_go 99 [.u 13 (.ix _ _ _ fun _ => Z1 eI h4), .u 17 (.ix _ _ _ fun _ => Z1 eI h5)] (by kernel_rfl) fun _ => ?_
  refine Wh_iH H (fun H => ?_) fun H => ?_
  ·refine Wh_o fun _ => ?_
   replace H := sI H; subst H
   exact Z0 [(2, .d)] [] [] [] [] [] (by kernel_rfl)
  ·refine Wh_o fun _ => ?_
   exact Wh_to (N18 _ H) [] [] [] [] (by kernel_rfl) (by kernel_rfl)
 ·refine Wh_o fun _ => ?_
  replace H := sI H; subst H
  exact Z0 [(2, .d)] [] [] [] [] [] (by kernel_rfl)
def Z39 : L :=
.seq (.reg [.bx 3 (.t 0),.bx 4 (.t 1),.mv 6 (cB false)])
 (.seq (.seq (.reg [mV 9 2,.ln 10 (.t 9),.mv 11 (kI 0)])
 (.blk 0 (.loop (.gw (.seq (.reg [bI 12 .lss 11 10])
 (.seq (.cond (.t 12) (.skip)
 (.exit 0))
 (.seq (.blk 1 (.seq (.reg [mV 13 11,iA 14 9 11 1,lD 15 14 1 false,mV 7 13,mV 8 15])
 (.seq (.reg [mV 16 2,mV 17 7,.sc 18 (.t 16) none (some (.t 17)) 1,mV 19 8,cQ 20 ZJ [18, 19]])
 (.cond (.t 20) (.seq (rE 6 (cB false))
 (.gw (.ret)))
 (.skip)))))
 (.reg [.bi 21 .add (.t 11) (kI 1),mV 11 21]))))))))
 (.seq (.reg [lD 22 3 2 true,mV 23 2,cQ 24 Z83 [22, 23],mV 25 24,.g 25 true (mV 26 2),.g 25 true (.ln 27 (.t 26)),.g 25 true (fA 28 4 2),.g 25 true (lD 29 28 1 false),.g 25 true (bI 30 .eql 27 29),.pk 31 (.t 25) (.t 30) (cB false),mV 6 31])
 (.gw (.ret))))
def ZY8 : List Rv := [.t 6]
theorem Z79 : chkFn Tryz.prog Z93 3 Z39 ZY8 = true := by kernel_rfl
def Z22 (nodes3 : List Int) (x5 : Int) (i5 : Nat) (_ : Unit) (k5 : Unit → Option Bool) : Option Bool :=
 (cutL nodes3 none (some (i5 : Int))).bind fun xs6 => (slices_Contains_int_int xs6 x5).bind fun b7 => bif b7 then (some false) else (k5 ())
def Z12 (t1 : Topo) (j2 : Job) (nodes3 : List Int) (_ : Unit) : Option Bool :=
 (impl_areNodes t1 nodes3).bind fun b8 => some (b8 && ((nodes3.length : Int) == j2.nodes))
def impl_areJobNodes (t1 : Topo) (j2 : Job) (nodes3 : List Int) : Option Bool :=
 rgl (Z22 nodes3) (Z12 t1 j2 nodes3) nodes3 0 ()
theorem Z49 {t1 : Topo} {j2 : Job} {nodes3 : List Int} {r : Bool} (H : impl_areJobNodes t1 j2 nodes3 = some r) : Snd Tryz.prog Z93 [Zy .rd t1, eJob j2, .sl .rd 1 (nodes3.map eI)] (.bool r) [] := by
 refine snd_g Z79 rfl (by simp) ?_
 unfold impl_areJobNodes at H
 refine Wh_go 99 [.u 10 (.ln _ _ fun _ => lm nodes3 eI)] (by kernel_rfl) fun q4 => ?_
 refine Zg (fun (i5 : Nat) (v5 : Unit) => ⟨[(2, .sl .rd 1 (nodes3.map eI)), (3, .ptr 3 0), (4, .ptr 4 0), (9, .sl .rd 1 (nodes3.map eI)), (10, .int .i64 (nodes3.length : Int)), (11, .int .i64 (i5 : Int))], [], [(3, (Zy .rd t1).cells), (4, (eJob j2).cells)], []⟩) [] [] [] [] (by kernel_rfl) (by kernel_rfl) H (fun i5 x5 v5 I m k5 hxv5 hiv5 H N20 => ?_) (fun v5 I m H => ?_)
 ·unfold Z22 at H
  refine Wh_o fun _ => ?_
  refine Zh (ltT hiv5) (by kernel_rfl) ?_
  obtain ⟨xs6, h6, H⟩ := bB H
  obtain ⟨b7, h7, H⟩ := bB H
  refine Wh_go 99 [.u 14 (.ix _ _ _ fun _ => Z1 eI (Z7 hxv5)), .u 18 (.sc _ _ _ _ fun _ => Z7j eI h6), .c 20 (ZZ1 h7)] (by kernel_rfl) fun _ => ?_
  refine Wh_iH H (fun H => ?_) fun H => ?_
  ·refine Wh_o fun _ => ?_
   replace H := sI H; subst H
   exact Z0 [(6, .d)] [] [] [] [] [] (by kernel_rfl)
  ·refine Wh_go 99 [.w 21 (wi .i64 rfl hiv5 q4.1)] (by kernel_rfl) fun _ => ?_
   exact Wh_to (N20 () H) [] [] [] [] (by kernel_rfl) (by kernel_rfl)
 ·unfold Z12 at H
  refine Wh_o fun _ => ?_
  refine Zi (ltF nodes3.length) (by kernel_rfl) ?_
  obtain ⟨b8, h8, H⟩ := bB H
  refine Wh_go 99 [.c 24 (Zv7 h8), .g 27 [(b8, true)] (.ln _ _ fun _ => lm nodes3 eI)] (by kernel_rfl) fun _ => ?_
  replace H := sI H; subst H
  exact Z0 [(6, .d)] [] [] [] [] [] (by kernel_rfl)
theorem ZY7 {j : Job} : spec_JobOk j = true ↔ (1 ≤ j.id ∧ j.id ≤ 999) ∧ (0 ≤ j.prio ∧ j.prio ≤ 999) ∧ (1 ≤ j.nodes ∧ j.nodes ≤ 24) ∧ spec_VecOk j.need = true ∧ spec_VecOk j.lic = true ∧ (1 ≤ j.wall ∧ j.wall ≤ 1000000) ∧ (0 ≤ j.level ∧ j.level ≤ 24) := by
 unfold spec_JobOk
 by_cases h : (1 ≤ j.id ∧ j.id ≤ 999) ∧ (0 ≤ j.prio ∧ j.prio ≤ 999) ∧ (1 ≤ j.nodes ∧ j.nodes ≤ 24)
 ·rw [show ((((((decide (j.id < 1)) || (decide (999 < j.id))) || (decide (j.prio < 0))) || (decide (999 < j.prio))) || (decide (j.nodes < 1))) || (decide (24 < j.nodes))) = false by simp; omega]
  simp only [cond_false, Bool.and_eq_true, decide_eq_true_eq]
  constructor
  ·intro q; exact ⟨h.1, h.2.1, h.2.2, q.1.1.1.1.1, q.1.1.1.1.2, ⟨q.1.1.1.2, q.1.1.2⟩, q.1.2, q.2⟩
  ·intro q; exact ⟨⟨⟨⟨⟨q.2.2.2.1, q.2.2.2.2.1⟩, q.2.2.2.2.2.1.1⟩, q.2.2.2.2.2.1.2⟩, q.2.2.2.2.2.2.1⟩, q.2.2.2.2.2.2.2⟩
 ·rw [show ((((((decide (j.id < 1)) || (decide (999 < j.id))) || (decide (j.prio < 0))) || (decide (999 < j.prio))) || (decide (j.nodes < 1))) || (decide (24 < j.nodes))) = true by
   simp only [Bool.or_eq_true, decide_eq_true_eq]; omega]
  simp only [cond_true]
  exact Zm1 fun q => h ⟨q.1, q.2.1, q.2.2.1⟩
theorem ZU6 (j : Job) : impl_JobOk j = spec_JobOk j := by
 rw [Bool.eq_iff_iff, ZY7]
 unfold impl_JobOk impl_within
 simp only [ZQ2, Bool.and_eq_true, decide_eq_true_eq, and_assoc]
/-- A right room. -/
structure RoomP (r : Room) : Prop where
 topo : TopoP r.topo
 up : r.up.length = r.topo.nodes.length
 profs : r.profs.length = r.topo.nodes.length
 prof : ∀ p ∈ r.profs, ProfP p
 lics : ProfP r.lics
noncomputable def roomOk (r : Room) : Bool := topoOk r.topo && decide (r.up.length = r.topo.nodes.length) && decide (r.profs.length = r.topo.nodes.length) && profOk r.lics && r.profs.all profOk
theorem Z2h {r : Room} : roomOk r = true ↔ RoomP r := by
 unfold roomOk
 simp only [Bool.and_eq_true, decide_eq_true_eq, List.all_eq_true, Zo6, Zr8]
 exact ⟨fun h => ⟨h.1.1.1.1, h.1.1.1.2, h.1.1.2, h.2, h.1.2⟩, fun h => ⟨⟨⟨⟨h.topo, h.up⟩, h.profs⟩, h.lics⟩, h.prof⟩⟩
theorem Zei (a b : Nat) : ((a : Int) != (b : Int)) = !decide (a = b) := by
 by_cases h : a = b
 ·simp [h]
 ·rw [show ((a : Int) != (b : Int)) = true by simp; omega]; simp [h]
theorem Zve (r : Room) : spec_RoomOk r = some (roomOk r) := by
 unfold spec_RoomOk roomOk
 rw [Z42, Option.bind_some]
 simp only [Zei, Z21]
 rw [ZB1 (r := some false) (p := fun p => !profOk p) (fun x _ i k => by unfold ZW4; rw [Z21, Option.bind_some]), ← List.not_all_eq_any_not]
 cases topoOk r.topo <;> cases decide (r.up.length = r.topo.nodes.length) <;> cases decide (r.profs.length = r.topo.nodes.length) <;> cases profOk r.lics <;> cases r.profs.all profOk <;> rfl
theorem Zjg (r : Room) : impl_RoomOk r = some (roomOk r) := by
 unfold impl_RoomOk roomOk
 rw [Za6, Z42, Option.bind_some]
 simp only [Zei]
 rw [ZB1 (r := some false) (p := fun p => !profOk p) (fun x _ i k => by unfold Z85; rw [Zc6, Z21, Option.bind_some]), ← List.not_all_eq_any_not]
 unfold Z75
 rw [Zc6, Z21, Option.bind_some]
 cases topoOk r.topo <;> cases decide (r.up.length = r.topo.nodes.length) <;> cases decide (r.profs.length = r.topo.nodes.length) <;> cases profOk r.lics <;> cases r.profs.all profOk <;> rfl
/-- A room of no great size. -/
structure RoomS (r : Room) : Prop where
 up : r.up.length ≤ 1048576
 par : r.topo.parents.length ≤ 1048576
 nodes : r.topo.nodes.length ≤ 1048576
 profs : r.profs.length ≤ 1048576
 prof : ∀ p ∈ r.profs, p.length ≤ 1048576
 lics : r.lics.length ≤ 1048576
theorem RoomP.small {r : Room} (h : RoomP r) : RoomS r :=
  ⟨by have := h.up; have := h.topo.nodes; omega, by have := h.topo.tree.le; omega, by have := h.topo.nodes; omega, by have := h.profs; have := h.topo.nodes; omega, fun p hp => by have := (h.prof p hp).le; omega, by have := h.lics.le; omega⟩
theorem ZG7 {r : Room} (h : RoomS r) : spec_l04Copy r = some r := by
 unfold spec_l04Copy spec_l04Prof
 have := h.up; have := h.lics; have := h.par; have := h.nodes; have := h.profs
 rw [Zp (by simp; omega), Option.bind_some, Zp (by simp; omega), Option.bind_some, Option.bind_some, Zp (by simp; omega), Option.bind_some, Zp (by simp; omega), Option.bind_some]
 rw [ZA1 (bd := Zd2) (bs := 24) (p := fun _ => true) (f := id) (fun x hx i b k => by
  have := h.prof x hx
  unfold Zd2 spec_l04Prof
  rw [Zp (by simp; omega), Option.bind_some, Option.bind_some]; simp) (by simp; omega)]
 unfold ZV3
 simp [List.filter_eq_self.2]
theorem Zyb {r : Room} (h : RoomS r) : impl_copyRoom r = some r := by
 unfold impl_copyRoom impl_copyTopo impl_copyInts impl_copyProf
 have := h.up; have := h.lics; have := h.par; have := h.nodes; have := h.profs
 rw [Zp (by simp; omega), Option.bind_some, Option.bind_some, Zp (by simp; omega), Option.bind_some, Option.bind_some, Zp (by simp; omega), Option.bind_some, Zp (by simp; omega), Option.bind_some, Option.bind_some]
 rw [ZA1 (bd := ZU1) (bs := 24) (p := fun _ => true) (f := id) (fun x hx i b k => by
  have := h.prof x hx
  unfold ZU1 impl_copyProf
  rw [Zp (by simp; omega), Option.bind_some, Option.bind_some]; simp) (by simp; omega)]
 unfold Zn3
 simp [List.filter_eq_self.2]
theorem Z6j {α : Type} {l : List α} {i : Nat} (h : i ≤ l.length) : cutL l none (some (i : Int)) = some (l.take i) := by
 unfold cutL bhi blo
 simp [h]
theorem Z9h {l : List Int} {i : Nat} {x : Int} (hx : l[i]? = some x) : (l.take (i + 1)).Nodup ↔ (l.take i).Nodup ∧ x ∉ l.take i := by
 obtain ⟨hi, rfl⟩ := List.getElem?_eq_some_iff.1 hx
 rw [List.take_succ_eq_append_getElem hi, List.nodup_append]
 constructor
 ·intro h; exact ⟨h.1, fun hm => h.2.2 _ hm _ (List.mem_singleton.2 rfl) rfl⟩
 ·intro h; exact ⟨h.1, by simp, fun a ha b hb e => by rw [List.mem_singleton.1 hb] at e; subst e; exact h.2 ha⟩
theorem Zah {γ : Type} {bd : Int → Nat → Unit → (Unit → Option γ) → Option γ} {kk : Unit → Option γ} {r : Option γ} {l : List Int}
  (hb : ∀ i x k, i ≤ l.length → bd x i () k = bif (l.take i).contains x then r else k ()) : rgl bd kk l 0 () = bif decide l.Nodup then kk () else r := by
 refine ZC2 (fun i (_ : Unit) => (l.take i).Nodup) (fun o => o = bif decide l.Nodup then kk () else r) (fun i x b k hx hI hk => ?_) (fun b hI => ?_) (by simp)
 ·have hil := (List.getElem?_eq_some_iff.1 hx).1
  rw [hb i x k (by omega)]
  cases hc : (l.take i).contains x with
  | true =>
   have hm := List.contains_iff_mem.1 hc
   have : ¬ l.Nodup := fun q => ((Z9h hx).1 (q.sublist (List.take_sublist _ _))).2 hm
   simp [this]
  | false => exact hk () ((Z9h hx).2 ⟨hI, fun hm => by rw [List.contains_iff_mem.2 hm] at hc; cases hc⟩)
 ·rw [List.take_of_length_le (Nat.le_refl _)] at hI
  simp [hI]
noncomputable def diffOk (r : Room) (j : Job) (nodes : List Int) : Bool := roomOk r && spec_JobOk j && decide ((nodes.length : Int) = j.nodes) && Zj1 r.topo nodes && decide nodes.Nodup
theorem ZE7 (r : Room) (j : Job) (nodes : List Int) : spec_l04Diff r j nodes = some (diffOk r j nodes) := by
 unfold spec_l04Diff diffOk
 rw [Zve, Option.bind_some]
 have e : ((nodes.length : Int) != j.nodes) = !decide ((nodes.length : Int) = j.nodes) := by
  by_cases h : (nodes.length : Int) = j.nodes <;> simp [h]
 simp only [e, ZW3]
 rw [Zah (r := some false) (fun i x k hi => by unfold ZU3; rw [Z6j hi, Option.bind_some, Z06, Option.bind_some])]
 cases roomOk r <;> cases spec_JobOk j <;> cases decide ((nodes.length : Int) = j.nodes) <;> cases Zj1 r.topo nodes <;> cases decide nodes.Nodup <;> rfl
theorem Z59 {t : Topo} (ht : t.nodes.length ≤ 1048576) (j : Job) (nodes : List Int) : impl_areJobNodes t j nodes = some (decide ((nodes.length : Int) = j.nodes) && Zj1 t nodes && decide nodes.Nodup) := by
 unfold impl_areJobNodes
 rw [Zah (r := some false) (fun i x k hi => by unfold Z22; rw [Z6j hi, Option.bind_some, Zp5, Option.bind_some])]
 unfold Z12
 rw [Zw7 t nodes ht, Option.bind_some]
 have e : ((nodes.length : Int) == j.nodes) = decide ((nodes.length : Int) = j.nodes) := by
  by_cases h : (nodes.length : Int) = j.nodes <;> simp [h]
 rw [e]
 cases decide ((nodes.length : Int) = j.nodes) <;> cases Zj1 t nodes <;> cases decide nodes.Nodup <;> rfl
def ZF2 : Room × Bool := (⟨⟨[], []⟩, [], [], []⟩, false)
def Zm8 (r : Room) (need lic : Vec) (from_ to_ : Int) (nodes : List Int) : Option (Room × Bool) :=
 rgl (fun x _ v k => (idx v x).bind fun e => (spec_ProfTake e from_ to_ need).bind fun y => bif !y.2 then some ZF2 else k (v.set x.toNat y.1))
  (fun v => (spec_ProfTake r.lics from_ to_ lic).bind fun y => bif !y.2 then some ZF2 else some (⟨r.topo, r.up, v, y.1⟩, true)) nodes 0 r.profs
theorem Zoh {r : Room} (hr : RoomP r) (need lic : Vec) (from_ to_ : Int) {nodes : List Int} (hn : Zj1 r.topo nodes = true) :
  ∃ q, Zm8 r need lic from_ to_ nodes = some q ∧ (q.2 = true → RoomP q.1 ∧ q.1.topo = r.topo ∧ q.1.up = r.up) := by
 have hn := (Zl3.1 hn).2
 unfold Zm8
 refine ZC2 (fun i (v : List (List Pt)) => v.length = r.topo.nodes.length ∧ ∀ p ∈ v, ProfP p) (fun o => ∃ q : Room × Bool, o = some q ∧ (q.2 = true → RoomP q.1 ∧ q.1.topo = r.topo ∧ q.1.up = r.up)) (fun i x v k hx hI hk => ?_) (fun v hI => ?_) ⟨hr.profs, hr.prof⟩
 ·have hx' := hn x (List.mem_of_getElem? hx)
  obtain ⟨e, q1, q2⟩ := Z0j (l := v) (i := x) hx'.1 (by rw [hI.1]; exact hx'.2)
  obtain ⟨y, h1, h2⟩ := (Z89 e from_ to_ need).2
  rw [q1, Option.bind_some, h1, Option.bind_some]
  cases hy : y.2 with
  | false => exact ⟨ZF2, rfl, fun h => by cases h⟩
  | true =>
   refine hk _ ⟨by simp [hI.1], fun p hp => ?_⟩
   rcases List.mem_or_eq_of_mem_set hp with hp | rfl
   ·exact hI.2 p hp
   ·exact h2 hy
 ·obtain ⟨y, h1, h2⟩ := (Z89 r.lics from_ to_ lic).2
  rw [h1, Option.bind_some]
  cases hy : y.2 with
  | false => exact ⟨ZF2, rfl, fun h => by cases h⟩
  | true => exact ⟨_, rfl, fun _ => ⟨⟨hr.topo, hr.up, hI.1, hI.2, h2 hy⟩, rfl, rfl⟩⟩
theorem Z8c (r : Room) (j : Job) (t : Int) (nodes : List Int) : spec_Reserve r j t nodes = bif diffOk r j nodes && time t then Zm8 r j.need j.lic t (w64 (t + j.wall)) nodes else some ZF2 := by
 unfold spec_Reserve
 rw [ZE7, Option.bind_some, ZF1]
 cases hd : diffOk r j nodes with
 | false => rfl
 | true =>
  cases time t with
  | false => rfl
  | true =>
   have hr : roomOk r = true := by unfold diffOk at hd; simp only [Bool.and_eq_true] at hd; exact hd.1.1.1.1
   simp only [Bool.not_true, Bool.or_self, cond_false, Bool.and_self, cond_true]
   rw [ZG7 (Z2h.1 hr).small, Option.bind_some]
   rfl
def Zkd : L :=
.seq (rE 2 (cB false))
 (.seq (.seq (.reg [mV 6 0,.ln 7 (.t 6),.bi 8 .gtr (.t 7) (kI 60)])
 (.cond (.t 8) (.seq (rE 2 (cB false))
 (.gw (.ret)))
 (.skip)))
 (.seq (.seq (.reg [mV 9 0,.ln 10 (.t 9),.mv 11 (kI 0)])
 (.blk 0 (.loop (.gw (.seq (.reg [bI 12 .lss 11 10])
 (.seq (.cond (.t 12) (.skip)
 (.exit 0))
 (.seq (.blk 1 (.seq (.reg [mV 13 11,iA 14 9 11 11,lD 15 14 11 true,.al 4 [.int .i64 0, .int .i64 0, .int .i64 0, .int .i64 0, .int .i64 0, .int .i64 0, .int .i64 0, .int .i64 0, .int .i64 0, .int .i64 0, .int .i64 0],mV 3 13,.st (.t 4) (.t 15) 11])
 (.seq (.seq (.reg [lD 16 4 11 true,cQ 17 ZN3 [16],.un 18 (.t 17)])
 (.cond (.t 18) (.seq (rE 2 (cB false))
 (.gw (.ret)))
 (.skip)))
 (.seq (rE 5 (kI 0))
 (.blk 2 (.loop (.gw (.seq (.seq (.reg [mV 19 5,mV 20 3,bI 21 .lss 19 20])
 (.cond (.t 21) (.skip)
 (.exit 2)))
 (.seq (.blk 3 (.seq (.rq 8 [mV 24 0,mV 25 5,iA 26 24 25 11,fA 27 26 0,lD 28 27 1 false,fA 29 4 0,lD 30 29 1 false,bI 31 .eql 28 30])
 (.cond (.t 31) (.seq (rE 2 (cB false))
 (.gw (.ret)))
 (.skip))))
 (.reg [mV 22 5,.bi 23 .add (.t 22) (kI 1),mV 5 23]))))))))))
 (.reg [.bi 32 .add (.t 11) (kI 1),mV 11 32]))))))))
 (.seq (rE 2 (cB true))
 (.gw (.ret)))))
def Zrc : List Rv := [.t 2]
theorem Z1e : chkFn Tryz.prog Zg6 1 Zkd Zrc = true := by kernel_rfl
def Zw1 (l1 : List Job) (i4 : Nat) (x4 : Job) (k4 : Unit → Option Bool) (v5 : Int) (k5 : Int → Option Bool) : Option Bool :=
 bif (decide (v5 < (i4 : Int))) then ((idx l1 v5).bind fun e6 => bif (e6.id == x4.id) then (some false) else (k5 (w64 (v5 + 1)))) else (k4 ())
def Z04 (l1 : List Job) (x4 : Job) (i4 : Nat) (_ : Unit) (k4 : Unit → Option Bool) : Option Bool :=
 bif (!(spec_JobOk x4)) then (some false) else (whl (Zw1 l1 i4 x4 k4) 9223372036854775807 0)
def ZZ3 (_ : Unit) : Option Bool :=
 some true
def spec_QueueOk (l1 : List Job) : Option Bool :=
 bif (decide (60 < (l1.length : Int))) then (some false) else (rgl (Z04 l1) ZZ3 l1 0 ())
theorem Z9c {l1 : List Job} {r : Bool} (H : spec_QueueOk l1 = some r) : Snd Tryz.prog Zg6 [.sl .rd 11 (l1.map eJob)] (.bool r) [] := by
 refine snd_g Z1e rfl (by simp) ?_
 unfold spec_QueueOk at H
 refine Wh_go 99 [.u 7 (.ln _ _ fun _ => lm l1 eJob)] (by kernel_rfl) fun q2 => ?_
 refine Wh_iH H (fun H => ?_) fun H => ?_
 ·refine Wh_o fun _ => ?_
  replace H := sI H; subst H
  exact Z0 [(2, .d)] [] [] [] [] [] (by kernel_rfl)
 ·refine Wh_go 99 [.u 10 (.ln _ _ fun _ => lm l1 eJob)] (by kernel_rfl) fun q3 => ?_
  refine Zg (fun (i4 : Nat) (v4 : Unit) => ⟨[(0, .sl .rd 11 (l1.map eJob)), (9, .sl .rd 11 (l1.map eJob)), (10, .int .i64 (l1.length : Int)), (11, .int .i64 (i4 : Int))], [], [], []⟩) [] [] [] [] (by kernel_rfl) (by kernel_rfl) H (fun i4 x4 v4 I m k4 hxv4 hiv4 H N48 => ?_) (fun v4 I m H => ?_)
  ·unfold Z04 at H
   refine Wh_o fun _ => ?_
   refine Zh (ltT hiv4) (by kernel_rfl) ?_
   refine Wh_go 99 [.u 14 (.ix _ _ _ fun _ => Z1 eJob (Z7 hxv4)), .c 17 (Zg9 x4)] (by kernel_rfl) fun _ => ?_
   refine Wh_iH H (fun H => ?_) fun H => ?_
   ·refine Wh_o fun _ => ?_
    replace H := sI H; subst H
    exact Z0 [(2, .d)] [] [] [] [] [] (by kernel_rfl)
   ·refine Wh_o fun _ => ?_
    refine ZM1 (fun (v5 : Int) => ⟨[(0, .sl .rd 11 (l1.map eJob)), (3, .int .i64 (i4 : Int)), (4, .ptr 4 0), (5, .int .i64 v5), (9, .sl .rd 11 (l1.map eJob)), (10, .int .i64 (l1.length : Int)), (11, .int .i64 (i4 : Int))], [], [(4, (eJob x4).cells)], []⟩) [] [] [] [] (by kernel_rfl) (by kernel_rfl) H (fun v5 I m k5 H N38 => ?_)
    unfold Zw1 at H
    refine Wh_o fun _ => ?_
    refine Wh_iH H (fun H => ?_) fun H => ?_
    ·obtain ⟨e6, h6, H⟩ := bB H
     refine Wh_go 99 [.u 26 (.ix _ _ _ fun _ => Z1 eJob h6)] (by kernel_rfl) fun _ => ?_
     refine Wh_iH H (fun H => ?_) fun H => ?_
     ·refine Wh_o fun _ => ?_
      replace H := sI H; subst H
      exact Z0 [(2, .d)] [] [] [] [] [] (by kernel_rfl)
     ·refine Wh_o fun _ => ?_
      exact Wh_to (N38 _ H) [] [] [] [] (by kernel_rfl) (by kernel_rfl)
    ·refine Wh_go 99 [.w 32 (wi .i64 rfl hiv4 q2.1)] (by kernel_rfl) fun _ => ?_
     exact Wh_to (N48 () H) [] [] [] [] (by kernel_rfl) (by kernel_rfl)
  ·unfold ZZ3 at H
   refine Wh_o fun _ => ?_
   refine Zi (ltF l1.length) (by kernel_rfl) ?_
   refine Wh_o fun _ => ?_
   replace H := sI H; subst H
   exact Z0 [(2, .d)] [] [] [] [] [] (by kernel_rfl)
def Z9a : L :=
.seq (.reg [.bx 2 (.t 0),.mv 3 (cB false)])
 (.seq (.reg [fA 4 2 0,lD 5 4 1 false,fA 6 1 0,lD 7 6 1 false,bI 8 .eql 5 7,mV 3 8])
 (.gw (.ret)))
def ZU9 : List Rv := [.t 3]
theorem Zra : chkFn Tryz.prog ZW 2 Z9a ZU9 = true := by kernel_rfl
def Zq2 (k1 : Job) (x2 : Job) : Option Bool :=
 some (k1.id == x2.id)
theorem Z69 {k1 : Job} {x2 : Job} {r : Bool} (H : Zq2 k1 x2 = some r) : Snd Tryz.prog ZW [eJob k1, .ept (eJob x2) 0] (.bool r) [] := by
 refine snd_g Zra rfl (by simp) ?_
 unfold Zq2 at H
 refine Wh_o fun _ => ?_
 replace H := sI H; subst H
 exact Z0 [(3, .d)] [] [] [] [] [] (by kernel_rfl)
def impl_QueueOk_1 (k1 : Job) (x2 : Job) : Bool :=
 (k1.id == x2.id)
theorem ZBb (k1 : Job) (x2 : Job) : Zq2 k1 x2 = some (impl_QueueOk_1 k1 x2) := by
 unfold Zq2 impl_QueueOk_1
 first | rfl | simp only [Za]
theorem Zda (k1 : Job) (x2 : Job) : Snd Tryz.prog ZW [eJob k1, .ept (eJob x2) 0] (.bool (impl_QueueOk_1 k1 x2)) [] := Z69 (ZBb k1 x2)
def Z51 : L :=
.seq (rE 4 (kI 0))
 (.seq (.seq (.reg [mV 6 0,.ln 7 (.t 6),.mv 8 (kI 0)])
 (.blk 0 (.loop (.gw (.seq (.reg [bI 9 .lss 8 7])
 (.seq (.cond (.t 9) (.skip)
 (.exit 0))
 (.seq (.blk 1 (.seq (.reg [mV 10 8,mV 5 10])
 (.seq (.reg [mV 11 1,mV 12 0,mV 13 5,iA 14 12 13 11,lD 15 14 11 true,.cc 16 (.t 11) [(.t 15)]])
 (.cond (.t 16) (.seq (.reg [mV 17 5,mV 4 17])
 (.gw (.ret)))
 (.skip)))))
 (.reg [.bi 18 .add (.t 8) (kI 1),mV 8 18]))))))))
 (.seq (rE 4 (kI (-1)))
 (.gw (.ret))))
def Z41 : List Rv := [.t 4]
theorem Z61 : chkFn Tryz.prog Zw 2 Z51 Z41 = true := by kernel_rfl
def Z3 (c2 : Job) (x4 : Job) (i4 : Nat) (_ : Unit) (k4 : Unit → Option Int) : Option Int :=
 bif (impl_QueueOk_1 x4 c2) then (some (i4 : Int)) else (k4 ())
def Z9 (_ : Unit) : Option Int :=
 some (-1)
def Z6 (s1 : List Job) (c2 : Job) : Option Int :=
 rgl (Z3 c2) Z9 s1 0 ()
theorem Z31 {s1 : List Job} {c2 : Job} {r : Int} (H : Z6 s1 c2 = some r) : Snd Tryz.prog Zw [.sl .rd 11 (s1.map eJob), .fn ZW [.ept (eJob c2) 0]] (.int .i64 r) [] := by
 refine snd_g Z61 rfl (by simp) ?_
 unfold Z6 at H
 refine Wh_go 99 [.u 7 (.ln _ _ fun _ => lm s1 eJob)] (by kernel_rfl) fun q3 => ?_
 refine Zg (fun (i4 : Nat) (v4 : Unit) => ⟨[(0, .sl .rd 11 (s1.map eJob)), (1, .fn ZW [.ept (eJob c2) 0]), (7, .int .i64 (s1.length : Int)), (8, .int .i64 (i4 : Int))], [], [], []⟩) [] [] [] [] (by kernel_rfl) (by kernel_rfl) H (fun i4 x4 v4 I m k4 hxv4 hiv4 H N20 => ?_) (fun v4 I m H => ?_)
 ·unfold Z3 at H
  refine Wh_o fun _ => ?_
  refine Zh (ltT hiv4) (by kernel_rfl) ?_
  refine Wh_go 99 [.u 14 (.ix _ _ _ fun _ => Z1 eJob (Z7 hxv4)), .u 16 (.clsr _ _ _ _ _ (AEs.refl _) (by kernel_rfl) (fun _ => Zda x4 c2))] (by kernel_rfl) fun _ => ?_
  refine Wh_iH H (fun H => ?_) fun H => ?_
  ·refine Wh_o fun _ => ?_
   replace H := sI H; subst H
   exact Z0 [(4, .d)] [] [] [] [] [] (by kernel_rfl)
  ·refine Wh_go 99 [.w 18 (wi .i64 rfl hiv4 q3.1)] (by kernel_rfl) fun _ => ?_
   exact Wh_to (N20 () H) [] [] [] [] (by kernel_rfl) (by kernel_rfl)
 ·unfold Z9 at H
  refine Wh_o fun _ => ?_
  refine Zi (ltF s1.length) (by kernel_rfl) ?_
  refine Wh_o fun _ => ?_
  replace H := sI H; subst H
  exact Z0 [(4, .d)] [] [] [] [] [] (by kernel_rfl)
def ZU : L :=
.seq (rE 4 (cB false))
 (.seq (.reg [mV 5 0,mV 6 1,cQ 7 Zw [5, 6],.bi 8 .geq (.t 7) (kI 0),mV 4 8])
 (.gw (.ret)))
def ZS : List Rv := [.t 4]
theorem ZV : chkFn Tryz.prog Zq 2 ZU ZS = true := by kernel_rfl
def Z2 (s1 : List Job) (c2 : Job) : Option Bool :=
 (Z6 s1 c2).bind fun n3 => some (decide (0 ≤ n3))
theorem ZQ {s1 : List Job} {c2 : Job} {r : Bool} (H : Z2 s1 c2 = some r) : Snd Tryz.prog Zq [.sl .rd 11 (s1.map eJob), .fn ZW [.ept (eJob c2) 0]] (.bool r) [] := by
 refine snd_g ZV rfl (by simp) ?_
 unfold Z2 at H
 obtain ⟨n3, h3, H⟩ := bB H
 refine Wh_go 99 [.c 7 (Z31 h3)] (by kernel_rfl) fun _ => ?_
 replace H := sI H; subst H
 exact Z0 [(4, .d)] [] [] [] [] [] (by kernel_rfl)
def Zzd : L :=
.seq (rE 2 (cB false))
 (.seq (.seq (.reg [mV 5 0,.ln 6 (.t 5),.mv 7 (kI 0)])
 (.blk 0 (.loop (.gw (.seq (.reg [bI 8 .lss 7 6])
 (.seq (.cond (.t 8) (.skip)
 (.exit 0))
 (.seq (.blk 1 (.seq (.reg [mV 9 7,iA 10 5 7 11,lD 11 10 11 true,.al 4 [.int .i64 0, .int .i64 0, .int .i64 0, .int .i64 0, .int .i64 0, .int .i64 0, .int .i64 0, .int .i64 0, .int .i64 0, .int .i64 0, .int .i64 0],mV 3 9,.st (.t 4) (.t 11) 11])
 (.seq (.reg [.fb 4,lD 12 4 11 true,cQ 13 Zx2 [12],.un 14 (.t 13),mV 15 14,.g 15 false (mV 16 0),.g 15 false (mV 17 3),.g 15 false (.sc 18 (.t 16) none (some (.t 17)) 11),.g 15 false (.mf 19 ZW [(.t 4)]),.g 15 false (cQ 20 Zq [18, 19]),.pk 21 (.t 15) (cB true) (.t 20)])
 (.cond (.t 21) (.seq (rE 2 (cB false))
 (.gw (.ret)))
 (.skip)))))
 (.reg [.bi 22 .add (.t 7) (kI 1),mV 7 22]))))))))
 (.seq (.reg [mV 23 0,.ln 24 (.t 23),.bi 25 .leq (.t 24) (kI 60),mV 2 25])
 (.gw (.ret))))
def ZGc : List Rv := [.t 2]
theorem Zge : chkFn Tryz.prog Zn6 1 Zzd ZGc = true := by kernel_rfl
def Z94 (l1 : List Job) (x3 : Job) (i3 : Nat) (_ : Unit) (k3 : Unit → Option Bool) : Option Bool :=
 (bif (!(impl_JobOk x3)) then some default else (cutL l1 none (some (i3 : Int)))).bind fun xs4 => (bif (!(impl_JobOk x3)) then some default else (Z2 xs4 x3)).bind fun b5 => bif ((!(impl_JobOk x3)) || b5) then (some false) else (k3 ())
def Z84 (l1 : List Job) (_ : Unit) : Option Bool :=
 some (decide ((l1.length : Int) ≤ 60))
def impl_QueueOk (l1 : List Job) : Option Bool :=
 rgl (Z94 l1) (Z84 l1) l1 0 ()
theorem ZFd {l1 : List Job} {r : Bool} (H : impl_QueueOk l1 = some r) : Snd Tryz.prog Zn6 [.sl .rd 11 (l1.map eJob)] (.bool r) [] := by
 refine snd_g Zge rfl (by simp) ?_
 unfold impl_QueueOk at H
 refine Wh_go 99 [.u 6 (.ln _ _ fun _ => lm l1 eJob)] (by kernel_rfl) fun q2 => ?_
 refine Zg (fun (i3 : Nat) (v3 : Unit) => ⟨[(0, .sl .rd 11 (l1.map eJob)), (5, .sl .rd 11 (l1.map eJob)), (6, .int .i64 (l1.length : Int)), (7, .int .i64 (i3 : Int))], [], [], []⟩) [] [] [] [] (by kernel_rfl) (by kernel_rfl) H (fun i3 x3 v3 I m k3 hxv3 hiv3 H N20 => ?_) (fun v3 I m H => ?_)
 ·unfold Z94 at H
  refine Wh_o fun _ => ?_
  refine Zh (ltT hiv3) (by kernel_rfl) ?_
  obtain ⟨xs4, h4, H⟩ := bB H
  obtain ⟨b5, h5, H⟩ := bB H
  refine Wh_go 99 [.u 10 (.ix _ _ _ fun _ => Z1 eJob (Z7 hxv3)), .c 13 (ZT6 x3), .g 18 [(_, false)] (.sc _ _ _ _ fun q => Z7j eJob (bF q.1 h4)), .g 20 [(_, false)] (.call _ _ _ _ _ (AEs.refl _) (fun q => ZQ (bF q.1 h5)))] (by kernel_rfl) fun _ => ?_
  refine Wh_iH H (fun H => ?_) fun H => ?_
  ·refine Wh_o fun _ => ?_
   replace H := sI H; subst H
   exact Z0 [(2, .d)] [] [] [] [] [] (by kernel_rfl)
  ·refine Wh_go 99 [.w 22 (wi .i64 rfl hiv3 q2.1)] (by kernel_rfl) fun _ => ?_
   exact Wh_to (N20 () H) [] [] [] [] (by kernel_rfl) (by kernel_rfl)
 ·unfold Z84 at H
  refine Wh_o fun _ => ?_
  refine Zi (ltF l1.length) (by kernel_rfl) ?_
  refine Wh_go 99 [.u 24 (.ln _ _ fun _ => lm l1 eJob)] (by kernel_rfl) fun q6 => ?_
  replace H := sI H; subst H
  exact Z0 [(2, .d)] [] [] [] [] [] (by kernel_rfl)
def Zjb : L :=
.seq (.reg [.bx 1 (.t 0),.al 2 [.nl, .nl, .nl, .nl, .nl],.mv 3 (cB false)])
 (.seq (.reg [fA 9 1 0,lD 10 9 2 true,fA 11 1 2,lD 12 11 1 false,.bd 13 [.nl, .nl, .nl, .nl, .nl] [(0, 2, (.t 10)), (2, 1, (.t 12))],.al 4 [.nl, .nl, .nl, .nl, .nl],.st (.t 4) (.t 13) 5])
 (.seq (.seq (.reg [fA 14 1 0,lD 15 14 2 true,cQ 16 Z23 [15],.un 17 (.t 16),mV 18 17,.g 18 false (fA 19 1 2),.g 18 false (lD 20 19 1 false),.g 18 false (.ln 21 (.t 20)),.g 18 false (fA 22 1 0),.g 18 false (fA 23 22 1),.g 18 false (lD 24 23 1 false),.g 18 false (.ln 25 (.t 24)),.g 18 false (bI 26 .neq 21 25),.pk 27 (.t 18) (cB true) (.t 26),mV 28 27,.g 28 false (fA 29 1 3),.g 28 false (lD 30 29 3 true),.g 28 false (cQ 31 Zj [30]),.g 28 false (.un 32 (.t 31)),.pk 33 (.t 28) (cB true) (.t 32)])
 (.cond (.t 33) (.seq (.reg [.bd 34 [.nl, .nl, .nl, .nl, .nl] [],.st (.t 2) (.t 34) 5,.mv 3 (cB false)])
 (.gw (.ret)))
 (.skip)))
 (.seq (.seq (.reg [fA 35 1 0,fA 36 35 1,lD 37 36 1 false,.ln 38 (.t 37),.mv 39 (kI 0)])
 (.blk 0 (.loop (.gw (.seq (.reg [bI 40 .lss 39 38])
 (.seq (.cond (.t 40) (.skip)
 (.exit 0))
 (.seq (.blk 1 (.seq (.reg [iA 41 37 39 4,lD 42 41 4 true,.al 6 [.int .i64 0, .int .i64 0, .int .i64 0, .int .i64 0],.st (.t 6) (.t 42) 4])
 (.seq (.reg [fA 44 6 1,lD 45 44 3 true,cQ 46 Z92 [45],mV 43 46,eX 47 43 0,eX 48 43 1,.al 7 [.nl],.st (.t 7) (.t 47) 1,mV 8 48])
 (.reg [fA 49 4 3,lD 50 49 1 false,lD 51 7 1 true,.bs 52 1 [(.t 51)] false,.ap 53 (.t 50) (.t 52) 1 24,fA 54 4 3,.st (.t 54) (.t 53) 1]))))
 (.reg [.bi 55 .add (.t 39) (kI 1),mV 39 55]))))))))
 (.seq (.reg [fA 57 1 3,lD 58 57 3 true,cQ 59 Z92 [58],mV 56 59,eX 60 56 0,eX 61 56 1,fA 62 4 4,.st (.t 62) (.t 60) 1])
 (.seq (.reg [lD 63 4 5 true,cQ 64 ZC3 [63],.st (.t 2) (.t 64) 5,.mv 3 (cB true)])
 (.gw (.ret)))))))
def ZVa : List Rv := [.c 2 5 true, .t 3]
theorem ZCb : chkFn Tryz.prog Zc5 1 Zjb ZVa = true := by kernel_rfl
def Zf3 (x4 : Node) (_ : Nat) (v4 : (List (List Pt))) (k4 : (List (List Pt)) → Option (Room × Bool)) : Option (Room × Bool) :=
 (appL 24 v4 [(spec_ProfNew x4.cap).1]).bind fun xs5 => k4 xs5
def Ze3 (s1 : State) (v4 : (List (List Pt))) : Option (Room × Bool) :=
 (spec_l04Copy (Room.mk s1.topo s1.up v4 ((spec_ProfNew s1.lic).1))).bind fun y6 => some (y6, true)
def spec_l06Empty (s1 : State) : Option (Room × Bool) :=
 (spec_TopoOk s1.topo).bind fun b2 => bif (((!b2) || ((s1.up.length : Int) != (s1.topo.nodes.length : Int))) || (!(spec_VecOk s1.lic))) then (some ((Room.mk (Topo.mk [] []) [] [] []), false)) else (rgl Zf3 (Ze3 s1) s1.topo.nodes 0 [])
theorem ZKa {s1 : State} {r : Room × Bool} (H : spec_l06Empty s1 = some r) : Snd Tryz.prog Zc5 [Zb .rd s1] (.tup [ZX2 .nw r.1, .bool r.2]) [] := by
 refine snd_g ZCb rfl (by simp) ?_
 unfold spec_l06Empty at H
 obtain ⟨b2, h2, H⟩ := bB H
 refine Wh_go 99 [.c 16 (Z36 h2), .g 21 [((!b2), false)] (.ln _ _ fun _ => lm s1.up eBo), .g 25 [((!b2), false)] (.ln _ _ fun _ => lm s1.topo.nodes eNode), .g 31 [(((!b2) || ((s1.up.length : Int) != (s1.topo.nodes.length : Int))), false)] (.call _ _ _ _ _ (AEs.refl _) (fun _ => Zr s1.lic))] (by kernel_rfl) fun _ => ?_
 refine Wh_iH H (fun H => ?_) fun H => ?_
 ·refine Wh_o fun _ => ?_
  replace H := sI H; subst H
  exact Z0 [(2, .d), (3, .d)] [(2, [.n 1, .n 4, .n 1, .n 1, .n 4])] [] [] [] [⟨_, nw_I ([] : List Int)⟩, ⟨_, ZT ([] : List Node)⟩, ⟨_, nw_Bo ([] : List Bool)⟩, ⟨_, ZF ([] : List (List Pt))⟩, ⟨_, nw_Pt ([] : List Pt)⟩] (by kernel_rfl)
 ·refine Wh_go 99 [.u 38 (.ln _ _ fun _ => lm s1.topo.nodes eNode)] (by kernel_rfl) fun q3 => ?_
  refine Zg (fun (i4 : Nat) (v4 : (List (List Pt))) => ⟨[(1, .ptr 1 0), (2, .ptr 2 0), (4, .ptr 4 0), (37, .sl .rd 4 (s1.topo.nodes.map eNode)), (38, .int .i64 (s1.topo.nodes.length : Int)), (39, .int .i64 (i4 : Int))], [], [(1, (Zb .rd s1).cells), (2, [.nl, .nl, .nl, .nl, .nl]), (4, [.sl .rd 1 (s1.topo.parents.map eI), .sl .rd 4 (s1.topo.nodes.map eNode), .sl .rd 1 (s1.up.map eBo), .sref 198000, .nl])], [(198000, ⟨1, v4.map (Zf .nw), false⟩)]⟩) [] [(4, [.d, .d, .d, .z 198000, .d])] [(198000, (none, 1))] [] (by kernel_rfl) (by kernel_rfl) H (fun i4 x4 v4 I m k4 hxv4 hiv4 H N24 => ?_) (fun v4 I m H => ?_)
  ·unfold Zf3 at H
   refine Wh_o fun _ => ?_
   refine Zh (ltT hiv4) (by kernel_rfl) ?_
   obtain ⟨xs5, h5, H⟩ := bB H
   refine Wh_go 99 [.u 41 (.ix _ _ _ fun _ => Z1 eNode (Z7 hxv4)), .c 46 (ZP7 x4.cap), .u 53 (.ap _ _ _ _ fun _ => Zm (Zf .nw) h5), .w 55 (wi .i64 rfl hiv4 q3.1)] (by kernel_rfl) fun _ => ?_
   exact Wh_to (N24 _ H) [] [] [] [] (by kernel_rfl) (by kernel_rfl)
  ·unfold Ze3 at H
   refine Wh_o fun _ => ?_
   refine Zi (ltF s1.topo.nodes.length) (by kernel_rfl) ?_
   obtain ⟨y6, h6, H⟩ := bB H
   refine Wh_go 99 [.c 59 (ZP7 s1.lic), .u 64 (.call _ _ _ _ _ (AEs.of (xs := [.agg [.sl .rd 1 (s1.topo.parents.map eI), .sl .rd 4 (s1.topo.nodes.map eNode), .sl .rd 1 (s1.up.map eBo), .sl .rd 1 (v4.map (Zf .nw)), .sl .rd 4 (((spec_ProfNew s1.lic).1).map ePt)]]) (by simp)) (fun _ => ZF7 h6))] (by kernel_rfl) fun _ => ?_
   replace H := sI H; subst H
   exact Z0 [(2, .d), (3, .d)] [(2, [])] [] [] [] [⟨_, nw_I y6.topo.parents⟩, ⟨_, ZT y6.topo.nodes⟩, ⟨_, nw_Bo y6.up⟩, ⟨_, ZF y6.profs⟩, ⟨_, nw_Pt y6.lics⟩] (by kernel_rfl)
def ZIf : L :=
.seq (.reg [.bx 1 (.t 0),.al 2 [.nl, .nl, .nl, .nl, .nl],.mv 3 (cB false)])
 (.seq (.reg [lD 13 1 11 true,cQ 14 Zc5 [13],mV 12 14,eX 15 12 0,eX 16 12 1,.al 4 [.nl, .nl, .nl, .nl, .nl],.st (.t 4) (.t 15) 5,mV 5 16])
 (.seq (.seq (.reg [mV 17 5,.un 18 (.t 17),mV 19 18,.g 19 false (fA 20 1 7),.g 19 false (lD 21 20 1 false),.g 19 false (cQ 22 ZH [21]),.g 19 false (.un 23 (.t 22)),.pk 24 (.t 19) (cB true) (.t 23)])
 (.cond (.t 24) (.seq (.reg [.bd 25 [.nl, .nl, .nl, .nl, .nl] [],.st (.t 2) (.t 25) 5,.mv 3 (cB false)])
 (.gw (.ret)))
 (.skip)))
 (.seq (.seq (.reg [fA 26 1 9,lD 27 26 1 false,.ln 28 (.t 27),.mv 29 (kI 0)])
 (.blk 0 (.loop (.gw (.seq (.reg [bI 30 .lss 29 28])
 (.seq (.cond (.t 30) (.skip)
 (.exit 0))
 (.seq (.blk 1 (.seq (.reg [iA 31 27 29 13,lD 32 31 13 true,.al 7 [.int .i64 0, .int .i64 0, .int .i64 0, .int .i64 0, .int .i64 0, .int .i64 0, .int .i64 0, .int .i64 0, .int .i64 0, .int .i64 0, .int .i64 0, .int .i64 0, .nl],.st (.t 7) (.t 32) 13])
 (.seq (.reg [fA 33 7 11,lD 34 33 1 false,fA 35 7 0,fA 36 35 9,lD 37 36 1 false,bI 38 .add 34 37,mV 8 38])
 (.seq (.seq (.reg [lD 39 4 5 true,fA 40 7 0,lD 41 40 11 true,fA 42 7 12,lD 43 42 1 false,cQ 44 ZB3 [39, 41, 43],.un 45 (.t 44),mV 46 45,.g 46 false (fA 47 7 11),.g 46 false (lD 48 47 1 false),.g 46 false (cQ 49 ZH [48]),.g 46 false (.un 50 (.t 49)),.pk 51 (.t 46) (cB true) (.t 50),mV 52 51,.g 52 false (fA 53 7 11),.g 52 false (lD 54 53 1 false),.g 52 false (fA 55 1 7),.g 52 false (lD 56 55 1 false),.g 52 false (bI 57 .gtr 54 56),.pk 58 (.t 52) (cB true) (.t 57),mV 59 58,.g 59 false (mV 60 8),.g 59 false (fA 61 1 7),.g 59 false (lD 62 61 1 false),.g 59 false (bI 63 .leq 60 62),.pk 64 (.t 59) (cB true) (.t 63),mV 65 64,.g 65 false (mV 66 8),.g 65 false (.bi 67 .gtr (.t 66) (kI 1000000000)),.pk 68 (.t 65) (cB true) (.t 67)])
 (.cond (.t 68) (.seq (.reg [.bd 69 [.nl, .nl, .nl, .nl, .nl] [],.st (.t 2) (.t 69) 5,.mv 3 (cB false)])
 (.gw (.ret)))
 (.skip)))
 (.seq (.reg [fA 70 7 0,lD 71 70 11 true,.al 9 [.int .i64 0, .int .i64 0, .int .i64 0, .int .i64 0, .int .i64 0, .int .i64 0, .int .i64 0, .int .i64 0, .int .i64 0, .int .i64 0, .int .i64 0],.st (.t 9) (.t 71) 11])
 (.seq (.reg [mV 72 8,fA 73 1 7,lD 74 73 1 false,bI 75 .sub 72 74,fA 76 9 9,.st (.t 76) (.t 75) 1])
 (.seq (.reg [lD 78 4 5 true,lD 79 9 11 true,fA 80 1 7,lD 81 80 1 false,fA 82 7 12,lD 83 82 1 false,cQ 84 Zf6 [78, 79, 81, 83],mV 77 84,eX 85 77 0,eX 86 77 1,.al 10 [.nl, .nl, .nl, .nl, .nl],.st (.t 10) (.t 85) 5,mV 11 86])
 (.seq (.seq (.reg [mV 87 11,.un 88 (.t 87)])
 (.cond (.t 88) (.seq (.reg [.bd 89 [.nl, .nl, .nl, .nl, .nl] [],.st (.t 2) (.t 89) 5,.mv 3 (cB false)])
 (.gw (.ret)))
 (.skip)))
 (.reg [lD 90 10 5 true,.st (.t 4) (.t 90) 5])))))))))
 (.reg [.bi 91 .add (.t 29) (kI 1),mV 29 91]))))))))
 (.seq (.reg [lD 92 4 5 true,.st (.t 2) (.t 92) 5,.mv 3 (cB true)])
 (.gw (.ret))))))
def ZIe : List Rv := [.c 2 5 true, .t 3]
theorem Zwg : chkFn Tryz.prog Z27 1 ZIf ZIe = true := by kernel_rfl
def ZA2 (s1 : State) (x4 : Run) (_ : Nat) (v4 : Room) (k4 : Room → Option (Room × Bool)) : Option (Room × Bool) :=
 (spec_l04Diff v4 x4.job x4.nodes).bind fun b5 => bif (((((!b5) || (!(spec_l01Time x4.t))) || (decide (s1.now < x4.t))) || (decide ((w64 (x4.t + x4.job.wall)) ≤ s1.now))) || (decide (1000000000 < (w64 (x4.t + x4.job.wall))))) then (some ((Room.mk (Topo.mk [] []) [] [] []), false)) else ((spec_Reserve v4 (Job.mk x4.job.id x4.job.prio x4.job.nodes x4.job.need x4.job.lic (w64 ((w64 (x4.t + x4.job.wall)) - s1.now)) x4.job.level) s1.now x4.nodes).bind fun y6 => bif (!y6.2) then (some ((Room.mk (Topo.mk [] []) [] [] []), false)) else (k4 y6.1))
def ZM7 (v4 : Room) : Option (Room × Bool) :=
 some (v4, true)
def spec_RoomOf (s1 : State) : Option (Room × Bool) :=
 (spec_l06Empty s1).bind fun y2 => bif ((!y2.2) || (!(spec_l01Time s1.now))) then (some ((Room.mk (Topo.mk [] []) [] [] []), false)) else (rgl (ZA2 s1) ZM7 s1.runs 0 y2.1)
theorem Zwe {s1 : State} {r : Room × Bool} (H : spec_RoomOf s1 = some r) : Snd Tryz.prog Z27 [Zb .rd s1] (.tup [ZX2 .nw r.1, .bool r.2]) [] := by
 refine snd_g Zwg rfl (by simp) ?_
 unfold spec_RoomOf at H
 obtain ⟨y2, h2, H⟩ := bB H
 refine Wh_go 99 [.c 14 (ZKa h2), .g 22 [((!y2.2), false)] (.call _ _ _ _ _ (AEs.refl _) (fun _ => Ze1 s1.now))] (by kernel_rfl) fun _ => ?_
 refine Wh_iH H (fun H => ?_) fun H => ?_
 ·refine Wh_o fun _ => ?_
  replace H := sI H; subst H
  exact Z0 [(2, .d), (3, .d)] [(2, [.n 1, .n 4, .n 1, .n 1, .n 4])] [] [] [] [⟨_, nw_I ([] : List Int)⟩, ⟨_, ZT ([] : List Node)⟩, ⟨_, nw_Bo ([] : List Bool)⟩, ⟨_, ZF ([] : List (List Pt))⟩, ⟨_, nw_Pt ([] : List Pt)⟩] (by kernel_rfl)
 ·refine Wh_go 99 [.u 28 (.ln _ _ fun _ => lm s1.runs (eRunT .rd))] (by kernel_rfl) fun q3 => ?_
  refine Zg (fun (i4 : Nat) (v4 : Room) => ⟨[(1, .ptr 1 0), (2, .ptr 2 0), (4, .ptr 4 0), (27, .sl .rd 13 (s1.runs.map (eRunT .rd))), (28, .int .i64 (s1.runs.length : Int)), (29, .int .i64 (i4 : Int))], [], [(1, (Zb .rd s1).cells), (2, [.nl, .nl, .nl, .nl, .nl]), (4, (ZX2 .nw v4).cells)], []⟩) [] [] [] [] (by kernel_rfl) (by kernel_rfl) H (fun i4 x4 v4 I m k4 hxv4 hiv4 H N46 => ?_) (fun v4 I m H => ?_)
  ·unfold ZA2 at H
   refine Wh_o fun _ => ?_
   refine Zh (ltT hiv4) (by kernel_rfl) ?_
   obtain ⟨b5, h5, H⟩ := bB H
   refine Wh_go 99 [.u 31 (.ix _ _ _ fun _ => Z1 (eRunT .rd) (Z7 hxv4)), .u 44 (.call _ _ _ _ _ (AEs.of (xs := [.agg [.sl .rd 1 (v4.topo.parents.map eI), .sl .rd 4 (v4.topo.nodes.map eNode), .sl .rd 1 (v4.up.map eBo), .sl .rd 1 (v4.profs.map (Zf .nw)), .sl .rd 4 (v4.lics.map ePt)], .agg [.int .i64 x4.job.id, .int .i64 x4.job.prio, .int .i64 x4.job.nodes, .int .i64 x4.job.need.a, .int .i64 x4.job.need.b, .int .i64 x4.job.need.c, .int .i64 x4.job.lic.a, .int .i64 x4.job.lic.b, .int .i64 x4.job.lic.c, .int .i64 x4.job.wall, .int .i64 x4.job.level], .sl .rd 1 (x4.nodes.map eI)]) (by simp)) (fun _ => ZD7 h5)), .g 49 [((!b5), false)] (.call _ _ _ _ _ (AEs.refl _) (fun _ => Ze1 x4.t))] (by kernel_rfl) fun _ => ?_
   refine Wh_iH H (fun H => ?_) fun H => ?_
   ·refine Wh_o fun _ => ?_
    replace H := sI H; subst H
    exact Z0 [(2, .d), (3, .d)] [(2, [.n 1, .n 4, .n 1, .n 1, .n 4])] [] [] [] [⟨_, nw_I ([] : List Int)⟩, ⟨_, ZT ([] : List Node)⟩, ⟨_, nw_Bo ([] : List Bool)⟩, ⟨_, ZF ([] : List (List Pt))⟩, ⟨_, nw_Pt ([] : List Pt)⟩] (by kernel_rfl)
   ·obtain ⟨y6, h6, H⟩ := bB H
    refine Wh_go 99 [.u 84 (.call _ _ _ _ _ (AEs.of (xs := [.agg [.sl .rd 1 (v4.topo.parents.map eI), .sl .rd 4 (v4.topo.nodes.map eNode), .sl .rd 1 (v4.up.map eBo), .sl .rd 1 (v4.profs.map (Zf .nw)), .sl .rd 4 (v4.lics.map ePt)], .agg [.int .i64 x4.job.id, .int .i64 x4.job.prio, .int .i64 x4.job.nodes, .int .i64 x4.job.need.a, .int .i64 x4.job.need.b, .int .i64 x4.job.need.c, .int .i64 x4.job.lic.a, .int .i64 x4.job.lic.b, .int .i64 x4.job.lic.c, .int .i64 (w64 ((w64 (x4.t + x4.job.wall)) - s1.now)), .int .i64 x4.job.level], .int .i64 s1.now, .sl .rd 1 (x4.nodes.map eI)]) (by simp)) (fun _ => Z7c h6))] (by kernel_rfl) fun _ => ?_
    refine Wh_iH H (fun H => ?_) fun H => ?_
    ·refine Wh_o fun _ => ?_
     replace H := sI H; subst H
     exact Z0 [(2, .d), (3, .d)] [(2, [.n 1, .n 4, .n 1, .n 1, .n 4])] [] [] [] [⟨_, nw_I ([] : List Int)⟩, ⟨_, ZT ([] : List Node)⟩, ⟨_, nw_Bo ([] : List Bool)⟩, ⟨_, ZF ([] : List (List Pt))⟩, ⟨_, nw_Pt ([] : List Pt)⟩] (by kernel_rfl)
    ·refine Wh_go 99 [.w 91 (wi .i64 rfl hiv4 q3.1)] (by kernel_rfl) fun _ => ?_
     exact Wh_to (N46 _ H) [] [] [] [] (by kernel_rfl) (by kernel_rfl)
  ·unfold ZM7 at H
   refine Wh_o fun _ => ?_
   refine Zi (ltF s1.runs.length) (by kernel_rfl) ?_
   refine Wh_o fun _ => ?_
   replace H := sI H; subst H
   exact Z0 [(2, .d), (3, .d)] [(2, [])] [] [] [] [⟨_, nw_I v4.topo.parents⟩, ⟨_, ZT v4.topo.nodes⟩, ⟨_, nw_Bo v4.up⟩, ⟨_, ZF v4.profs⟩, ⟨_, nw_Pt v4.lics⟩] (by kernel_rfl)
def Zbd : L :=
.seq (.reg [.bx 1 (.t 0),.mv 2 (.c (.nl))])
 (.seq (.reg [.bs 6 11 [] true,fA 7 1 8,lD 8 7 1 false,.ap 9 (.t 6) (.t 8) 11 88,mV 3 9])
 (.seq (.seq (.reg [fA 10 1 9,lD 11 10 1 false,.ln 12 (.t 11),.mv 13 (kI 0)])
 (.blk 0 (.loop (.gw (.seq (.reg [bI 14 .lss 13 12])
 (.seq (.cond (.t 14) (.skip)
 (.exit 0))
 (.seq (.blk 1 (.seq (.reg [iA 15 11 13 13,lD 16 15 13 true,.al 5 [.int .i64 0, .int .i64 0, .int .i64 0, .int .i64 0, .int .i64 0, .int .i64 0, .int .i64 0, .int .i64 0, .int .i64 0, .int .i64 0, .int .i64 0, .int .i64 0, .nl],.st (.t 5) (.t 16) 13])
 (.reg [mV 17 3,fA 18 5 0,lD 19 18 11 true,.bs 20 11 [(.t 19)] false,.ap 21 (.t 17) (.t 20) 11 88,mV 3 21])))
 (.reg [.bi 22 .add (.t 13) (kI 1),mV 13 22]))))))))
 (.seq (.reg [mV 23 3,mV 2 23])
 (.gw (.ret)))))
def Zic : List Rv := [.t 2]
theorem ZSd : chkFn Tryz.prog Ze6 1 Zbd Zic = true := by kernel_rfl
def ZT3 (x4 : Run) (_ : Nat) (v4 : (List Job)) (k4 : (List Job) → Option (List Job)) : Option (List Job) :=
 (appL 88 v4 [x4.job]).bind fun xs5 => k4 xs5
def ZS3 (v4 : (List Job)) : Option (List Job) :=
 some v4
def spec_l06Jobs (s1 : State) : Option (List Job) :=
 (appL 88 ([] : List Job) s1.queue).bind fun xs2 => rgl ZT3 ZS3 s1.runs 0 xs2
theorem Z3c {s1 : State} {r : (List Job)} (H : spec_l06Jobs s1 = some r) : Snd Tryz.prog Ze6 [Zb .rd s1] (.sl .nw 11 (r.map eJob)) [] := by
 refine snd_g ZSd rfl (by simp) ?_
 unfold spec_l06Jobs at H
 obtain ⟨xs2, h2, H⟩ := bB H
 refine Wh_go 99 [.u 9 (.ap _ _ _ _ fun _ => Zm eJob h2), .u 12 (.ln _ _ fun _ => lm s1.runs (eRunT .rd))] (by kernel_rfl) fun q3 => ?_
 refine Zg (fun (i4 : Nat) (v4 : (List Job)) => ⟨[(3, .sref 6), (11, .sl .rd 13 (s1.runs.map (eRunT .rd))), (12, .int .i64 (s1.runs.length : Int)), (13, .int .i64 (i4 : Int))], [], [], [(6, ⟨11, v4.map eJob, false⟩)]⟩) [] [] [] [] (by kernel_rfl) (by kernel_rfl) H (fun i4 x4 v4 I m k4 hxv4 hiv4 H N15 => ?_) (fun v4 I m H => ?_)
 ·unfold ZT3 at H
  refine Wh_o fun _ => ?_
  refine Zh (ltT hiv4) (by kernel_rfl) ?_
  obtain ⟨xs5, h5, H⟩ := bB H
  refine Wh_go 99 [.u 15 (.ix _ _ _ fun _ => Z1 (eRunT .rd) (Z7 hxv4)), .u 21 (.ap _ _ _ _ fun _ => Zm eJob h5), .w 22 (wi .i64 rfl hiv4 q3.1)] (by kernel_rfl) fun _ => ?_
  exact Wh_to (N15 _ H) [] [] [] [] (by kernel_rfl) (by kernel_rfl)
 ·unfold ZS3 at H
  refine Wh_o fun _ => ?_
  refine Zi (ltF s1.runs.length) (by kernel_rfl) ?_
  refine Wh_o fun _ => ?_
  replace H := sI H; subst H
  exact Z0 [(2, .f)] [] [] [6] [] [⟨_, Z5l v4⟩] (by kernel_rfl)
def Zid : L :=
.seq (.reg [.bx 1 (.t 0),.mv 2 (cB false)])
 (.seq (.reg [lD 12 1 11 true,cQ 13 Z27 [12],mV 11 13,eX 14 11 0,eX 15 11 1,.al 3 [.nl, .nl, .nl, .nl, .nl],.st (.t 3) (.t 14) 5,mV 4 15])
 (.seq (.seq (.reg [mV 16 4,.un 17 (.t 16),mV 18 17,.g 18 false (fA 19 1 6),.g 18 false (lD 20 19 1 false),.g 18 false (.bi 21 .lss (.t 20) (kI 0)),.pk 22 (.t 18) (cB true) (.t 21),mV 23 22,.g 23 false (fA 24 1 6),.g 23 false (lD 25 24 1 false),.g 23 false (.bi 26 .gtr (.t 25) (kI 60)),.pk 27 (.t 23) (cB true) (.t 26),mV 28 27,.g 28 false (lD 29 1 11 true),.g 28 false (cQ 30 Ze6 [29]),.g 28 false (cQ 31 Zg6 [30]),.g 28 false (.un 32 (.t 31)),.pk 33 (.t 28) (cB true) (.t 32),mV 34 33,.g 34 false (fA 35 1 10),.g 34 false (lD 36 35 1 false),.g 34 false (.ln 37 (.t 36)),.g 34 false (.bi 38 .gtr (.t 37) (kI 300)),.pk 39 (.t 34) (cB true) (.t 38)])
 (.cond (.t 39) (.seq (rE 2 (cB false))
 (.gw (.ret)))
 (.skip)))
 (.seq (.seq (.reg [fA 40 1 9,lD 41 40 1 false,.ln 42 (.t 41),.mv 43 (kI 0)])
 (.blk 0 (.loop (.gw (.seq (.reg [bI 44 .lss 43 42])
 (.seq (.cond (.t 44) (.skip)
 (.exit 0))
 (.seq (.blk 1 (.seq (.reg [iA 45 41 43 13,lD 46 45 13 true,.al 6 [.int .i64 0, .int .i64 0, .int .i64 0, .int .i64 0, .int .i64 0, .int .i64 0, .int .i64 0, .int .i64 0, .int .i64 0, .int .i64 0, .int .i64 0, .int .i64 0, .nl],.st (.t 6) (.t 46) 13])
 (.seq (.seq (.reg [fA 47 6 12,lD 48 47 1 false,.ln 49 (.t 48),.mv 50 (kI 0)])
 (.blk 2 (.loop (.gw (.seq (.reg [bI 51 .lss 50 49])
 (.seq (.cond (.t 51) (.skip)
 (.exit 2))
 (.seq (.blk 3 (.seq (.reg [mV 52 50,iA 53 48 50 1,lD 54 53 1 false,mV 7 52,mV 8 54])
 (.seq (.reg [fA 55 1 2,lD 56 55 1 false,mV 57 8,iA 58 56 57 1,lD 59 58 1 false,.un 60 (.t 59),mV 61 60,.g 61 false (mV 62 7),.g 61 false (.bi 63 .gtr (.t 62) (kI 0)),.g 61 false (mV 64 63),.g 64 true (fA 65 6 12),.g 64 true (lD 66 65 1 false),.g 64 true (mV 67 7),.g 64 true (.bi 68 .sub (.t 67) (kI 1)),.g 64 true (iA 69 66 68 1),.g 64 true (lD 70 69 1 false),.g 64 true (mV 71 8),.g 64 true (bI 72 .geq 70 71),.g 61 false (.pk 73 (.t 64) (.t 72) (cB false)),.pk 74 (.t 61) (cB true) (.t 73)])
 (.cond (.t 74) (.seq (rE 2 (cB false))
 (.gw (.ret)))
 (.skip)))))
 (.reg [.bi 75 .add (.t 50) (kI 1),mV 50 75]))))))))
 (.seq (.rq 12 [fA 76 1 0,lD 77 76 2 true,fA 78 1 0,lD 79 78 2 true,fA 80 6 12,lD 81 80 1 false,cQ 82 Z37 [79, 81],cQ 83 ZL [77, 82],fA 84 6 0,fA 85 84 10,lD 86 85 1 false,bI 87 .gtr 83 86])
 (.cond (.t 87) (.seq (rE 2 (cB false))
 (.gw (.ret)))
 (.skip))))))
 (.reg [.bi 88 .add (.t 43) (kI 1),mV 43 88]))))))))
 (.seq (.seq (.reg [fA 89 1 10,lD 90 89 1 false,.ln 91 (.t 90),.mv 92 (kI 0)])
 (.blk 4 (.loop (.gw (.seq (.reg [bI 93 .lss 92 91])
 (.seq (.cond (.t 93) (.skip)
 (.exit 4))
 (.seq (.blk 5 (.seq (.reg [iA 94 90 92 3,lD 95 94 3 true,.al 10 [.int .i64 0, .int .i64 0, .int .i64 0],.st (.t 10) (.t 95) 3])
 (.seq (.reg [fA 96 10 0,lD 97 96 1 false,.bi 98 .lss (.t 97) (kI 1),mV 99 98,.g 99 false (fA 100 10 0),.g 99 false (lD 101 100 1 false),.g 99 false (.bi 102 .gtr (.t 101) (kI 999)),.pk 103 (.t 99) (cB true) (.t 102),mV 104 103,.g 104 false (fA 105 10 1),.g 104 false (lD 106 105 1 false),.g 104 false (.bi 107 .lss (.t 106) (kI 0)),.pk 108 (.t 104) (cB true) (.t 107),mV 109 108,.g 109 false (fA 110 10 1),.g 109 false (lD 111 110 1 false),.g 109 false (fA 112 1 7),.g 109 false (lD 113 112 1 false),.g 109 false (bI 114 .gtr 111 113),.pk 115 (.t 109) (cB true) (.t 114),mV 116 115,.g 116 false (fA 117 10 2),.g 116 false (lD 118 117 1 false),.g 116 false (.bi 119 .lss (.t 118) (kI 1)),.pk 120 (.t 116) (cB true) (.t 119),mV 121 120,.g 121 false (fA 122 10 2),.g 121 false (lD 123 122 1 false),.g 121 false (.bi 124 .gtr (.t 123) (kI 4)),.pk 125 (.t 121) (cB true) (.t 124)])
 (.cond (.t 125) (.seq (rE 2 (cB false))
 (.gw (.ret)))
 (.skip)))))
 (.reg [.bi 126 .add (.t 92) (kI 1),mV 92 126]))))))))
 (.seq (rE 2 (cB true))
 (.gw (.ret)))))))
def Zpc : List Rv := [.t 2]
theorem ZZd : chkFn Tryz.prog ZF3 1 Zid Zpc = true := by kernel_rfl
def Zh2 (s1 : State) (x6 : Run) (x8 : Int) (i8 : Nat) (_ : Unit) (k8 : Unit → Option Bool) : Option Bool :=
 (idx s1.up x8).bind fun e9 => (bif (!e9) then some default else (bif (decide (0 < (i8 : Int))) then (idx x6.nodes (w64 ((i8 : Int) - 1))) else some default)).bind fun e10 => bif ((!e9) || ((decide (0 < (i8 : Int))) && (decide (x8 ≤ e10)))) then (some false) else (k8 ())
def ZP (s1 : State) (x6 : Run) (k6 : Unit → Option Bool) (_ : Unit) : Option Bool :=
 (spec_Lowest s1.topo x6.nodes).bind fun n11 => (spec_l02Level s1.topo n11).bind fun n12 => bif (decide (x6.job.level < n12)) then (some false) else (k6 ())
def Zf2 (s1 : State) (x14 : End) (_ : Nat) (_ : Unit) (k14 : Unit → Option Bool) : Option Bool :=
 bif ((((((decide (x14.id < 1)) || (decide (999 < x14.id))) || (decide (x14.t < 0))) || (decide (s1.now < x14.t))) || (decide (x14.why < 1))) || (decide (4 < x14.why))) then (some false) else (k14 ())
def ZX3 (_ : Unit) : Option Bool :=
 some true
def Zg2 (s1 : State) (x6 : Run) (_ : Nat) (_ : Unit) (k6 : Unit → Option Bool) : Option Bool :=
 rgl (Zh2 s1 x6) (ZP s1 x6 k6) x6.nodes 0 ()
def ZY3 (s1 : State) (_ : Unit) : Option Bool :=
 rgl (Zf2 s1) ZX3 s1.ends 0 ()
def spec_StateOk (s1 : State) : Option Bool :=
 (spec_RoomOf s1).bind fun y2 => (bif (((!y2.2) || (decide (s1.depth < 0))) || (decide (60 < s1.depth))) then some default else (spec_l06Jobs s1)).bind fun y3 => (bif (((!y2.2) || (decide (s1.depth < 0))) || (decide (60 < s1.depth))) then some default else (spec_QueueOk y3)).bind fun b4 => bif (((((!y2.2) || (decide (s1.depth < 0))) || (decide (60 < s1.depth))) || (!b4)) || (decide (300 < (s1.ends.length : Int)))) then (some false) else (rgl (Zg2 s1) (ZY3 s1) s1.runs 0 ())
theorem ZK7 {s1 : State} {r : Bool} (H : spec_StateOk s1 = some r) : Snd Tryz.prog ZF3 [Zb .rd s1] (.bool r) [] := by
 refine snd_g ZZd rfl (by simp) ?_
 unfold spec_StateOk at H
 obtain ⟨y2, h2, H⟩ := bB H
 obtain ⟨y3, h3, H⟩ := bB H
 obtain ⟨b4, h4, H⟩ := bB H
 refine Wh_go 99 [.c 13 (Zwe h2), .g 30 [(_, false)] (.call _ _ _ _ _ (AEs.refl _) (fun q => Z3c (bF q.1 h3))), .g 31 [(_, false)] (.call _ _ _ _ _ (AEs.refl _) (fun q => Z9c (bF q.1 h4))), .g 37 [(((((!y2.2) || (decide (s1.depth < 0))) || (decide (60 < s1.depth))) || (!b4)), false)] (.ln _ _ fun _ => lm s1.ends eEnd)] (by kernel_rfl) fun _ => ?_
 refine Wh_iH H (fun H => ?_) fun H => ?_
 ·refine Wh_o fun _ => ?_
  replace H := sI H; subst H
  exact Z0 [(2, .d)] [] [] [] [] [] (by kernel_rfl)
 ·refine Wh_go 99 [.u 42 (.ln _ _ fun _ => lm s1.runs (eRunT .rd))] (by kernel_rfl) fun q5 => ?_
  refine Zg (fun (i6 : Nat) (v6 : Unit) => ⟨[(1, .ptr 1 0), (41, .sl .rd 13 (s1.runs.map (eRunT .rd))), (42, .int .i64 (s1.runs.length : Int)), (43, .int .i64 (i6 : Int))], [], [(1, (Zb .rd s1).cells)], []⟩) [] [] [] [] (by kernel_rfl) (by kernel_rfl) H (fun i6 x6 v6 I m k6 hxv6 hiv6 H N51 => ?_) (fun v6 I m H => ?_)
  ·unfold Zg2 at H
   refine Wh_o fun _ => ?_
   refine Zh (ltT hiv6) (by kernel_rfl) ?_
   refine Wh_go 99 [.u 45 (.ix _ _ _ fun _ => Z1 (eRunT .rd) (Z7 hxv6)), .u 49 (.ln _ _ fun _ => lm x6.nodes eI)] (by kernel_rfl) fun q7 => ?_
   refine Zg (fun (i8 : Nat) (v8 : Unit) => ⟨[(1, .ptr 1 0), (6, .ptr 6 0), (41, .sl .rd 13 (s1.runs.map (eRunT .rd))), (42, .int .i64 (s1.runs.length : Int)), (43, .int .i64 (i6 : Int)), (48, .sl .rd 1 (x6.nodes.map eI)), (49, .int .i64 (x6.nodes.length : Int)), (50, .int .i64 (i8 : Int))], [], [(1, (Zb .rd s1).cells), (6, (eRunT .rd x6).cells)], []⟩) [] [] [] [] (by kernel_rfl) (by kernel_rfl) H (fun i8 x8 v8 I m k8 hxv8 hiv8 H N34 => ?_) (fun v8 I m H => ?_)
   ·unfold Zh2 at H
    refine Wh_o fun _ => ?_
    refine Zh (ltT hiv8) (by kernel_rfl) ?_
    obtain ⟨e9, h9, H⟩ := bB H
    obtain ⟨e10, h10, H⟩ := bB H
    refine Wh_go 99 [.u 53 (.ix _ _ _ fun _ => Z1 eI (Z7 hxv8)), .u 58 (.ix _ _ _ fun _ => Z1 eBo h9), .g 69 [(_, true), (_, false)] (.ix _ _ _ fun q => Z1 eI (bT q.1 (bF q.2.1 h10)))] (by kernel_rfl) fun _ => ?_
    refine Wh_iH H (fun H => ?_) fun H => ?_
    ·refine Wh_o fun _ => ?_
     replace H := sI H; subst H
     exact Z0 [(2, .d)] [] [] [] [] [] (by kernel_rfl)
    ·refine Wh_go 99 [.w 75 (wi .i64 rfl hiv8 q7.1)] (by kernel_rfl) fun _ => ?_
     exact Wh_to (N34 () H) [] [] [] [] (by kernel_rfl) (by kernel_rfl)
   ·unfold ZP at H
    refine Wh_o fun _ => ?_
    refine Zi (ltF x6.nodes.length) (by kernel_rfl) ?_
    obtain ⟨n11, h11, H⟩ := bB H
    obtain ⟨n12, h12, H⟩ := bB H
    refine Wh_go 99 [.c 82 (Zye h11), .c 83 (Ze2 h12)] (by kernel_rfl) fun _ => ?_
    refine Wh_iH H (fun H => ?_) fun H => ?_
    ·refine Wh_o fun _ => ?_
     replace H := sI H; subst H
     exact Z0 [(2, .d)] [] [] [] [] [] (by kernel_rfl)
    ·refine Wh_go 99 [.w 88 (wi .i64 rfl hiv6 q5.1)] (by kernel_rfl) fun _ => ?_
     exact Wh_to (N51 () H) [] [] [] [] (by kernel_rfl) (by kernel_rfl)
  ·unfold ZY3 at H
   refine Wh_o fun _ => ?_
   refine Zi (ltF s1.runs.length) (by kernel_rfl) ?_
   refine Wh_go 99 [.u 91 (.ln _ _ fun _ => lm s1.ends eEnd)] (by kernel_rfl) fun q13 => ?_
   refine Zg (fun (i14 : Nat) (v14 : Unit) => ⟨[(1, .ptr 1 0), (90, .sl .rd 3 (s1.ends.map eEnd)), (91, .int .i64 (s1.ends.length : Int)), (92, .int .i64 (i14 : Int))], [], [(1, (Zb .rd s1).cells)], []⟩) [] [] [] [] (by kernel_rfl) (by kernel_rfl) H (fun i14 x14 v14 I m k14 hxv14 hiv14 H N73 => ?_) (fun v14 I m H => ?_)
   ·unfold Zf2 at H
    refine Wh_o fun _ => ?_
    refine Zh (ltT hiv14) (by kernel_rfl) ?_
    refine Wh_go 99 [.u 94 (.ix _ _ _ fun _ => Z1 eEnd (Z7 hxv14))] (by kernel_rfl) fun _ => ?_
    refine Wh_iH H (fun H => ?_) fun H => ?_
    ·refine Wh_o fun _ => ?_
     replace H := sI H; subst H
     exact Z0 [(2, .d)] [] [] [] [] [] (by kernel_rfl)
    ·refine Wh_go 99 [.w 126 (wi .i64 rfl hiv14 q13.1)] (by kernel_rfl) fun _ => ?_
     exact Wh_to (N73 () H) [] [] [] [] (by kernel_rfl) (by kernel_rfl)
   ·unfold ZX3 at H
    refine Wh_o fun _ => ?_
    refine Zi (ltF s1.ends.length) (by kernel_rfl) ?_
    refine Wh_o fun _ => ?_
    replace H := sI H; subst H
    exact Z0 [(2, .d)] [] [] [] [] [] (by kernel_rfl)
def ZIi : L :=
.seq (.reg [.bx 3 (.t 0),.bx 5 (.t 2),.al 6 [.nl, .nl, .nl, .nl, .nl]])
 (.seq (.reg [lD 12 3 2 true,cQ 13 Z63 [12],mV 14 1,.ap 15 (.c (.nl)) (.t 14) 1 1,.bd 16 [.nl, .nl, .nl, .nl, .nl] [(0, 2, (.t 13)), (2, 1, (.t 15))],.al 7 [.nl, .nl, .nl, .nl, .nl],.st (.t 7) (.t 16) 5])
 (.seq (.seq (.reg [fA 17 3 1,lD 18 17 1 false,.ln 19 (.t 18),.mv 20 (kI 0)])
 (.blk 0 (.loop (.gw (.seq (.reg [bI 21 .lss 20 19])
 (.seq (.cond (.t 21) (.skip)
 (.exit 0))
 (.seq (.blk 1 (.seq (.reg [iA 22 18 20 4,lD 23 22 4 true,.al 9 [.int .i64 0, .int .i64 0, .int .i64 0, .int .i64 0],.st (.t 9) (.t 23) 4])
 (.seq (.reg [fA 25 9 1,lD 26 25 3 true,cQ 27 Zc2 [26],mV 24 27,eX 28 24 0,eX 29 24 1,.al 10 [.nl],.st (.t 10) (.t 28) 1,mV 11 29])
 (.reg [fA 30 7 3,lD 31 30 1 false,lD 32 10 1 true,.bs 33 1 [(.t 32)] false,.ap 34 (.t 31) (.t 33) 1 24,fA 35 7 3,.st (.t 35) (.t 34) 1]))))
 (.reg [.bi 36 .add (.t 20) (kI 1),mV 20 36]))))))))
 (.seq (.reg [lD 38 5 3 true,cQ 39 Zc2 [38],mV 37 39,eX 40 37 0,eX 41 37 1,fA 42 7 4,.st (.t 42) (.t 40) 1])
 (.seq (.reg [lD 43 7 5 true,.st (.t 6) (.t 43) 5])
 (.gw (.ret))))))
def ZPh : List Rv := [.c 6 5 true]
theorem Znj : chkFn Tryz.prog Zj8 3 ZIi ZPh = true := by kernel_rfl
def Z76 (x7 : Node) (_ : Nat) (v7 : (List (List Pt))) (k7 : (List (List Pt)) → Option Room) : Option Room :=
 (appL 24 v7 [(impl_ProfNew x7.cap).1]).bind fun xs8 => k7 xs8
def Z66 (lic3 : Vec) (y4 : Topo) (xs5 : List Bool) (v7 : (List (List Pt))) : Option Room :=
 some (Room.mk y4 xs5 v7 ((impl_ProfNew lic3).1))
def impl_empty (t1 : Topo) (up2 : List Bool) (lic3 : Vec) : Option Room :=
 (impl_copyTopo t1).bind fun y4 => (appL 1 ([] : List Bool) up2).bind fun xs5 => rgl Z76 (Z66 lic3 y4 xs5) t1.nodes 0 []
theorem ZVi {t1 : Topo} {up2 : List Bool} {lic3 : Vec} {r : Room} (H : impl_empty t1 up2 lic3 = some r) : Snd Tryz.prog Zj8 [Zy .rd t1, .sl .rd 1 (up2.map eBo), eVec lic3] (ZX2 .nw r) [] := by
 refine snd_g Znj rfl (by simp) ?_
 unfold impl_empty at H
 obtain ⟨y4, h4, H⟩ := bB H
 obtain ⟨xs5, h5, H⟩ := bB H
 refine Wh_go 99 [.c 13 (Zt7 h4), .u 15 (.ap _ _ _ _ fun _ => Zm eBo h5), .u 19 (.ln _ _ fun _ => lm t1.nodes eNode)] (by kernel_rfl) fun q6 => ?_
 refine Zg (fun (i7 : Nat) (v7 : (List (List Pt))) => ⟨[(5, .ptr 5 0), (6, .ptr 6 0), (7, .ptr 7 0), (18, .sl .rd 4 (t1.nodes.map eNode)), (19, .int .i64 (t1.nodes.length : Int)), (20, .int .i64 (i7 : Int))], [], [(5, (eVec lic3).cells), (6, [.nl, .nl, .nl, .nl, .nl]), (7, [.sl .nw 1 (y4.parents.map eI), .sl .nw 4 (y4.nodes.map eNode), .sref 15, .sref 450001, .nl])], [(15, ⟨1, xs5.map eBo, false⟩), (450001, ⟨1, v7.map (Zf .nw), false⟩)]⟩) [] [(7, [.d, .d, .d, .z 450001, .d])] [(450001, (none, 1))] [] (by kernel_rfl) (by kernel_rfl) H (fun i7 x7 v7 I m k7 hxv7 hiv7 H N17 => ?_) (fun v7 I m H => ?_)
 ·unfold Z76 at H
  refine Wh_o fun _ => ?_
  refine Zh (ltT hiv7) (by kernel_rfl) ?_
  obtain ⟨xs8, h8, H⟩ := bB H
  refine Wh_go 99 [.u 22 (.ix _ _ _ fun _ => Z1 eNode (Z7 hxv7)), .c 27 (Z48 x7.cap), .u 34 (.ap _ _ _ _ fun _ => Zm (Zf .nw) h8), .w 36 (wi .i64 rfl hiv7 q6.1)] (by kernel_rfl) fun _ => ?_
  exact Wh_to (N17 _ H) [] [] [] [] (by kernel_rfl) (by kernel_rfl)
 ·unfold Z66 at H
  refine Wh_o fun _ => ?_
  refine Zi (ltF t1.nodes.length) (by kernel_rfl) ?_
  refine Wh_go 99 [.c 39 (Z48 lic3)] (by kernel_rfl) fun _ => ?_
  replace H := sI H; subst H
  exact Z0 [(6, .d)] [(6, [.d, .d, .f, .f, .d])] [] [15, 450001] [] [⟨_, nw_I y4.parents⟩, ⟨_, ZT y4.nodes⟩, ⟨_, nw_Bo xs5⟩, ⟨_, ZF v7⟩, ⟨_, nw_Pt ((impl_ProfNew lic3).1)⟩] (by kernel_rfl)
def Z35 : L :=
.seq (.reg [.bx 6 (.t 0),.bx 7 (.t 1),.al 12 [.nl, .nl, .nl, .nl, .nl],.mv 13 (cB false)])
 (.seq (.seq (.reg [lD 21 6 5 true,cQ 22 Ze7 [21],.un 23 (.t 22),mV 24 23,.g 24 false (lD 25 7 11 true),.g 24 false (cQ 26 Zx2 [25]),.g 24 false (.un 27 (.t 26)),.pk 28 (.t 24) (cB true) (.t 27),mV 29 28,.g 29 false (fA 30 6 0),.g 29 false (lD 31 30 2 true),.g 29 false (lD 32 7 11 true),.g 29 false (mV 33 4),.g 29 false (cQ 34 Z93 [31, 32, 33]),.g 29 false (.un 35 (.t 34)),.pk 36 (.t 29) (cB true) (.t 35)])
 (.cond (.t 36) (.seq (.reg [.bd 37 [.nl, .nl, .nl, .nl, .nl] [],.st (.t 12) (.t 37) 5,.mv 13 (cB false)])
 (.gw (.ret)))
 (.skip)))
 (.seq (.reg [lD 38 6 5 true,.cl 39 Zi5 [(.t 38)],.al 14 [.nl, .nl, .nl, .nl, .nl],.st (.t 14) (.t 39) 5])
 (.seq (.seq (.reg [mV 40 4,.ln 41 (.t 40),.mv 42 (kI 0)])
 (.blk 0 (.loop (.gw (.seq (.reg [bI 43 .lss 42 41])
 (.seq (.cond (.t 43) (.skip)
 (.exit 0))
 (.seq (.blk 1 (.seq (.reg [iA 44 40 42 1,lD 45 44 1 false,mV 16 45])
 (.seq (.rz [(14, 17, [.nl])] [(0, false, mV 47 5),
 (3, false, mV 50 16),
 (6, false, mV 53 2),
 (7, false, mV 54 3),
 (8, false, fA 55 7 3),
 (9, false, lD 56 55 3 true),
 (1, true, fA 48 14 3),
 (2, true, lD 49 48 1 false),
 (4, true, iA 51 49 50 1),
 (5, true, lD 52 51 1 true),
 (10, false, .cc 57 (.t 47) [(.t 52), (.t 53), (.t 54), (.t 56)]),
 (11, false, mV 46 57),
 (12, false, eX 58 46 0),
 (13, false, eX 59 46 1)]
 [.st (.t 17) (.t 58) 1,mV 18 59])
 (.seq (.seq (.reg [mV 60 18,.un 61 (.t 60)])
 (.cond (.t 61) (.seq (.reg [.bd 62 [.nl, .nl, .nl, .nl, .nl] [],.st (.t 12) (.t 62) 5,.mv 13 (cB false)])
 (.gw (.ret)))
 (.skip)))
 (.reg [fA 63 14 3,lD 64 63 1 false,mV 65 16,lD 66 17 1 true,iA 67 64 65 1,.st (.t 67) (.t 66) 1])))))
 (.reg [.bi 68 .add (.t 42) (kI 1),mV 42 68]))))))))
 (.seq (.reg [mV 70 5,fA 71 14 4,lD 72 71 1 true,mV 73 2,mV 74 3,fA 75 7 6,lD 76 75 3 true,.cc 77 (.t 70) [(.t 72), (.t 73), (.t 74), (.t 76)],mV 69 77,eX 78 69 0,eX 79 69 1,.al 19 [.nl],.st (.t 19) (.t 78) 1,mV 20 79])
 (.seq (.seq (.reg [mV 80 20,.un 81 (.t 80)])
 (.cond (.t 81) (.seq (.reg [.bd 82 [.nl, .nl, .nl, .nl, .nl] [],.st (.t 12) (.t 82) 5,.mv 13 (cB false)])
 (.gw (.ret)))
 (.skip)))
 (.seq (.reg [lD 83 19 1 true,fA 84 14 4,.st (.t 84) (.t 83) 1])
 (.seq (.reg [lD 85 14 5 true,.st (.t 12) (.t 85) 5,.mv 13 (cB true)])
 (.gw (.ret)))))))))
def ZY4 : List Rv := [.c 12 5 true, .t 13]
theorem Zb5 : chkFn Tryz.prog Zi8 6 Z35 ZY4 = true := by kernel_rfl
def Z11 (j2 : Job) (from3 : Int) (to4 : Int) (x10 : Int) (_ : Nat) (v10 : (List (List Pt))) (k10 : (List (List Pt)) → Option (Room × Bool)) : Option (Room × Bool) :=
 (idx v10 x10).bind fun e11 => (impl_ProfTake e11 from3 to4 j2.need).bind fun y12 => bif (!y12.2) then (some ((Room.mk (Topo.mk [] []) [] [] []), false)) else (k10 (v10.set x10.toNat y12.1))
def Z01 (j2 : Job) (from3 : Int) (to4 : Int) (y8 : Room) (v10 : (List (List Pt))) : Option (Room × Bool) :=
 (impl_ProfTake y8.lics from3 to4 j2.lic).bind fun y13 => bif (!y13.2) then (some ((Room.mk (Topo.mk [] []) [] [] []), false)) else (some ((Room.mk y8.topo y8.up v10 y13.1), true))
def Zz (r1 : Room) (j2 : Job) (from3 : Int) (to4 : Int) (nodes5 : List Int) : Option (Room × Bool) :=
 (impl_RoomOk r1).bind fun b6 => (bif ((!b6) || (!(impl_JobOk j2))) then some default else (impl_areJobNodes r1.topo j2 nodes5)).bind fun b7 => bif (((!b6) || (!(impl_JobOk j2))) || (!b7)) then (some ((Room.mk (Topo.mk [] []) [] [] []), false)) else ((impl_copyRoom r1).bind fun y8 => rgl (Z11 j2 from3 to4) (Z01 j2 from3 to4 y8) nodes5 0 y8.profs)
theorem Z55 {r1 : Room} {j2 : Job} {from3 : Int} {to4 : Int} {nodes5 : List Int} {r : Room × Bool} (H : Zz r1 j2 from3 to4 nodes5 = some r) : Snd Tryz.prog Zi8 [ZX2 .rd r1, eJob j2, .int .i64 from3, .int .i64 to4, .sl .rd 1 (nodes5.map eI), .fn Zo1 []] (.tup [ZX2 .nw r.1, .bool r.2]) [] := by
 refine snd_g Zb5 rfl (by simp) ?_
 unfold Zz at H
 obtain ⟨b6, h6, H⟩ := bB H
 obtain ⟨b7, h7, H⟩ := bB H
 refine Wh_go 99 [.c 22 (Zig h6), .g 26 [((!b6), false)] (.call _ _ _ _ _ (AEs.refl _) (fun _ => ZT6 j2)), .g 34 [(_, false)] (.call _ _ _ _ _ (AEs.refl _) (fun q => Z49 (bF q.1 h7)))] (by kernel_rfl) fun _ => ?_
 refine Wh_iH H (fun H => ?_) fun H => ?_
 ·refine Wh_o fun _ => ?_
  replace H := sI H; subst H
  exact Z0 [(12, .d), (13, .d)] [(12, [.n 1, .n 4, .n 1, .n 1, .n 4])] [] [] [] [⟨_, nw_I ([] : List Int)⟩, ⟨_, ZT ([] : List Node)⟩, ⟨_, nw_Bo ([] : List Bool)⟩, ⟨_, ZF ([] : List (List Pt))⟩, ⟨_, nw_Pt ([] : List Pt)⟩] (by kernel_rfl)
 ·obtain ⟨y8, h8, H⟩ := bB H
  refine Wh_go 99 [.c 39 (Zxb h8), .u 41 (.ln _ _ fun _ => lm nodes5 eI)] (by kernel_rfl) fun q9 => ?_
  refine Zg (fun (i10 : Nat) (v10 : (List (List Pt))) => ⟨[(2, .int .i64 from3), (3, .int .i64 to4), (5, .fn Zo1 []), (7, .ptr 7 0), (12, .ptr 12 0), (14, .ptr 14 0), (40, .sl .rd 1 (nodes5.map eI)), (41, .int .i64 (nodes5.length : Int)), (42, .int .i64 (i10 : Int))], [], [(7, (eJob j2).cells), (12, [.nl, .nl, .nl, .nl, .nl]), (14, [.sl .nw 1 (y8.topo.parents.map eI), .sl .nw 4 (y8.topo.nodes.map eNode), .sl .nw 1 (y8.up.map eBo), .sref 40000, .sl .nw 4 (y8.lics.map ePt)])], [(40000, ⟨1, v10.map (Zf .nw), false⟩)]⟩) [] [] [] [] (by kernel_rfl) (by kernel_rfl) H (fun i10 x10 v10 I m k10 hxv10 hiv10 H N32 => ?_) (fun v10 I m H => ?_)
  ·unfold Z11 at H
   refine Wh_o fun _ => ?_
   refine Zh (ltT hiv10) (by kernel_rfl) ?_
   obtain ⟨e11, h11, H⟩ := bB H
   obtain ⟨y12, h12, H⟩ := bB H
   refine Wh_go 99 [.u 44 (.ix _ _ _ fun _ => Z1 eI (Z7 hxv10)), .u 51 (.ix _ _ _ fun _ => Z1 (Zf .nw) h11), .u 52 (.el _ _ _ fun _ => gm (Zf .nw) (Z32 h11)), .u 57 (.clsr _ _ _ _ _ (AEs.refl _) (by kernel_rfl) (fun _ => Zx7 h12))] (by kernel_rfl) fun _ => ?_
   refine Wh_iH H (fun H => ?_) fun H => ?_
   ·refine Wh_o fun _ => ?_
    replace H := sI H; subst H
    exact Z0 [(12, .d), (13, .d)] [(12, [.n 1, .n 4, .n 1, .n 1, .n 4])] [] [] [] [⟨_, nw_I ([] : List Int)⟩, ⟨_, ZT ([] : List Node)⟩, ⟨_, nw_Bo ([] : List Bool)⟩, ⟨_, ZF ([] : List (List Pt))⟩, ⟨_, nw_Pt ([] : List Pt)⟩] (by kernel_rfl)
   ·refine Wh_go 99 [.u 67 (.ix _ _ _ fun _ => Z1 (Zf .nw) h11), .u 1000000 (.sto _ _ _ (Zf .nw y12.1) _ (fun _ => gm (Zf .nw) (Z32 h11)) (fun _ => ZS7 ..)), .w 68 (wi .i64 rfl hiv10 q9.1)] (by kernel_rfl) fun _ => ?_
    exact Wh_to (N32 _ H) [] [] [] [] (by kernel_rfl) (by kernel_rfl)
  ·unfold Z01 at H
   refine Wh_o fun _ => ?_
   refine Zi (ltF nodes5.length) (by kernel_rfl) ?_
   obtain ⟨y13, h13, H⟩ := bB H
   refine Wh_go 99 [.u 77 (.clsr _ _ _ _ _ (AEs.refl _) (by kernel_rfl) (fun _ => Zx7 h13))] (by kernel_rfl) fun _ => ?_
   refine Wh_iH H (fun H => ?_) fun H => ?_
   ·refine Wh_o fun _ => ?_
    replace H := sI H; subst H
    exact Z0 [(12, .d), (13, .d)] [(12, [.n 1, .n 4, .n 1, .n 1, .n 4])] [] [] [] [⟨_, nw_I ([] : List Int)⟩, ⟨_, ZT ([] : List Node)⟩, ⟨_, nw_Bo ([] : List Bool)⟩, ⟨_, ZF ([] : List (List Pt))⟩, ⟨_, nw_Pt ([] : List Pt)⟩] (by kernel_rfl)
   ·refine Wh_o fun _ => ?_
    replace H := sI H; subst H
    exact Z0 [(12, .d), (13, .d)] [(12, [.d, .d, .d, .f, .d])] [] [40000] [] [⟨_, nw_I y8.topo.parents⟩, ⟨_, ZT y8.topo.nodes⟩, ⟨_, nw_Bo y8.up⟩, ⟨_, ZF v10⟩, ⟨_, nw_Pt y13.1⟩] (by kernel_rfl)
def Zbg : L :=
.seq (.reg [.bx 1 (.t 0),.al 2 [.nl, .nl, .nl, .nl, .nl],.mv 3 (cB false)])
 (.seq (.seq (.reg [fA 9 1 0,lD 10 9 2 true,cQ 11 Za3 [10],.un 12 (.t 11),mV 13 12,.g 13 false (fA 14 1 2),.g 13 false (lD 15 14 1 false),.g 13 false (.ln 16 (.t 15)),.g 13 false (fA 17 1 0),.g 13 false (fA 18 17 1),.g 13 false (lD 19 18 1 false),.g 13 false (.ln 20 (.t 19)),.g 13 false (bI 21 .neq 16 20),.pk 22 (.t 13) (cB true) (.t 21),mV 23 22,.g 23 false (fA 24 1 3),.g 23 false (lD 25 24 3 true),.g 23 false (cQ 26 ZC [25]),.g 23 false (.un 27 (.t 26)),.pk 28 (.t 23) (cB true) (.t 27),mV 29 28,.g 29 false (fA 30 1 7),.g 29 false (lD 31 30 1 false),.g 29 false (cQ 32 Zu1 [31]),.g 29 false (.un 33 (.t 32)),.pk 34 (.t 29) (cB true) (.t 33)])
 (.cond (.t 34) (.seq (.reg [.bd 35 [.nl, .nl, .nl, .nl, .nl] [],.st (.t 2) (.t 35) 5,.mv 3 (cB false)])
 (.gw (.ret)))
 (.skip)))
 (.seq (.reg [fA 36 1 0,lD 37 36 2 true,fA 38 1 2,lD 39 38 1 false,fA 40 1 3,lD 41 40 3 true,cQ 42 Zj8 [37, 39, 41],.al 4 [.nl, .nl, .nl, .nl, .nl],.st (.t 4) (.t 42) 5])
 (.seq (.seq (.reg [fA 43 1 9,lD 44 43 1 false,.ln 45 (.t 44),.mv 46 (kI 0)])
 (.blk 0 (.loop (.gw (.seq (.reg [bI 47 .lss 46 45])
 (.seq (.cond (.t 47) (.skip)
 (.exit 0))
 (.seq (.blk 1 (.seq (.reg [iA 48 44 46 13,lD 49 48 13 true,.al 6 [.int .i64 0, .int .i64 0, .int .i64 0, .int .i64 0, .int .i64 0, .int .i64 0, .int .i64 0, .int .i64 0, .int .i64 0, .int .i64 0, .int .i64 0, .int .i64 0, .nl],.st (.t 6) (.t 49) 13])
 (.seq (.seq (.reg [fA 50 6 0,lD 51 50 11 true,cQ 52 Zx2 [51],.un 53 (.t 52),mV 54 53,.g 54 false (fA 55 6 11),.g 54 false (lD 56 55 1 false),.g 54 false (fA 57 1 7),.g 54 false (lD 58 57 1 false),.g 54 false (.cq 59 Z4 [(.t 56), (kI 0), (.t 58)]),.g 54 false (.un 60 (.t 59)),.pk 61 (.t 54) (cB true) (.t 60),mV 62 61,.g 62 false (fA 63 6 11),.g 62 false (lD 64 63 1 false),.g 62 false (fA 65 6 0),.g 62 false (fA 66 65 9),.g 62 false (lD 67 66 1 false),.g 62 false (bI 68 .add 64 67),.g 62 false (fA 69 1 7),.g 62 false (lD 70 69 1 false),.g 62 false (.bi 71 .add (.t 70) (kI 1)),.g 62 false (.cq 72 Z4 [(.t 68), (.t 71), (kI 1000000000)]),.g 62 false (.un 73 (.t 72)),.pk 74 (.t 62) (cB true) (.t 73)])
 (.cond (.t 74) (.seq (.reg [.bd 75 [.nl, .nl, .nl, .nl, .nl] [],.st (.t 2) (.t 75) 5,.mv 3 (cB false)])
 (.gw (.ret)))
 (.skip)))
 (.seq (.reg [lD 77 4 5 true,fA 78 6 0,lD 79 78 11 true,fA 80 1 7,lD 81 80 1 false,fA 82 6 11,lD 83 82 1 false,fA 84 6 0,fA 85 84 9,lD 86 85 1 false,bI 87 .add 83 86,fA 88 6 12,lD 89 88 1 false,.cq 90 Zi8 [(.t 77), (.t 79), (.t 81), (.t 87), (.t 89), (.c (.fn Zo1 []))],mV 76 90,eX 91 76 0,eX 92 76 1,.al 7 [.nl, .nl, .nl, .nl, .nl],.st (.t 7) (.t 91) 5,mV 8 92])
 (.seq (.seq (.reg [mV 93 8,.un 94 (.t 93)])
 (.cond (.t 94) (.seq (.reg [.bd 95 [.nl, .nl, .nl, .nl, .nl] [],.st (.t 2) (.t 95) 5,.mv 3 (cB false)])
 (.gw (.ret)))
 (.skip)))
 (.reg [lD 96 7 5 true,.st (.t 4) (.t 96) 5]))))))
 (.reg [.bi 97 .add (.t 46) (kI 1),mV 46 97]))))))))
 (.seq (.reg [lD 98 4 5 true,.st (.t 2) (.t 98) 5,.mv 3 (cB true)])
 (.gw (.ret))))))
def Zbf : List Rv := [.c 2 5 true, .t 3]
theorem ZZg : chkFn Tryz.prog Zf7 1 Zbg Zbf = true := by kernel_rfl
def ZU2 (s1 : State) (x5 : Run) (_ : Nat) (v5 : Room) (k5 : Room → Option (Room × Bool)) : Option (Room × Bool) :=
 bif (((!(impl_JobOk x5.job)) || (!(impl_within x5.t 0 s1.now))) || (!(impl_within (w64 (x5.t + x5.job.wall)) (w64 (s1.now + 1)) 1000000000))) then (some ((Room.mk (Topo.mk [] []) [] [] []), false)) else ((Zz v5 x5.job s1.now (w64 (x5.t + x5.job.wall)) x5.nodes).bind fun y6 => bif (!y6.2) then (some ((Room.mk (Topo.mk [] []) [] [] []), false)) else (k5 y6.1))
def Z18 (v5 : Room) : Option (Room × Bool) :=
 some (v5, true)
def impl_RoomOf (s1 : State) : Option (Room × Bool) :=
 (impl_TopoOk s1.topo).bind fun b2 => bif ((((!b2) || ((s1.up.length : Int) != (s1.topo.nodes.length : Int))) || (!(impl_VecOk s1.lic))) || (!(impl_isTime s1.now))) then (some ((Room.mk (Topo.mk [] []) [] [] []), false)) else ((impl_empty s1.topo s1.up s1.lic).bind fun y3 => rgl (ZU2 s1) Z18 s1.runs 0 y3)
theorem Zkg {s1 : State} {r : Room × Bool} (H : impl_RoomOf s1 = some r) : Snd Tryz.prog Zf7 [Zb .rd s1] (.tup [ZX2 .nw r.1, .bool r.2]) [] := by
 refine snd_g ZZg rfl (by simp) ?_
 unfold impl_RoomOf at H
 obtain ⟨b2, h2, H⟩ := bB H
 refine Wh_go 99 [.c 11 (Z96 h2), .g 16 [((!b2), false)] (.ln _ _ fun _ => lm s1.up eBo), .g 20 [((!b2), false)] (.ln _ _ fun _ => lm s1.topo.nodes eNode), .g 26 [(((!b2) || ((s1.up.length : Int) != (s1.topo.nodes.length : Int))), false)] (.call _ _ _ _ _ (AEs.refl _) (fun _ => ZG s1.lic)), .g 32 [((((!b2) || ((s1.up.length : Int) != (s1.topo.nodes.length : Int))) || (!(impl_VecOk s1.lic))), false)] (.call _ _ _ _ _ (AEs.refl _) (fun _ => Zx3 s1.now))] (by kernel_rfl) fun _ => ?_
 refine Wh_iH H (fun H => ?_) fun H => ?_
 ·refine Wh_o fun _ => ?_
  replace H := sI H; subst H
  exact Z0 [(2, .d), (3, .d)] [(2, [.n 1, .n 4, .n 1, .n 1, .n 4])] [] [] [] [⟨_, nw_I ([] : List Int)⟩, ⟨_, ZT ([] : List Node)⟩, ⟨_, nw_Bo ([] : List Bool)⟩, ⟨_, ZF ([] : List (List Pt))⟩, ⟨_, nw_Pt ([] : List Pt)⟩] (by kernel_rfl)
 ·obtain ⟨y3, h3, H⟩ := bB H
  refine Wh_go 99 [.c 42 (ZVi h3), .u 45 (.ln _ _ fun _ => lm s1.runs (eRunT .rd))] (by kernel_rfl) fun q4 => ?_
  refine Zg (fun (i5 : Nat) (v5 : Room) => ⟨[(1, .ptr 1 0), (2, .ptr 2 0), (4, .ptr 4 0), (44, .sl .rd 13 (s1.runs.map (eRunT .rd))), (45, .int .i64 (s1.runs.length : Int)), (46, .int .i64 (i5 : Int))], [], [(1, (Zb .rd s1).cells), (2, [.nl, .nl, .nl, .nl, .nl]), (4, (ZX2 .nw v5).cells)], []⟩) [] [] [] [] (by kernel_rfl) (by kernel_rfl) H (fun i5 x5 v5 I m k5 hxv5 hiv5 H N40 => ?_) (fun v5 I m H => ?_)
  ·unfold ZU2 at H
   refine Wh_o fun _ => ?_
   refine Zh (ltT hiv5) (by kernel_rfl) ?_
   refine Wh_go 99 [.u 48 (.ix _ _ _ fun _ => Z1 (eRunT .rd) (Z7 hxv5)), .c 52 (ZT6 x5.job), .g 59 [((!(impl_JobOk x5.job)), false)] (.call _ _ _ _ _ (AEs.refl _) (fun _ => Z5 x5.t 0 s1.now)), .g 72 [(((!(impl_JobOk x5.job)) || (!(impl_within x5.t 0 s1.now))), false)] (.call _ _ _ _ _ (AEs.refl _) (fun _ => Z5 (w64 (x5.t + x5.job.wall)) (w64 (s1.now + 1)) 1000000000))] (by kernel_rfl) fun _ => ?_
   refine Wh_iH H (fun H => ?_) fun H => ?_
   ·refine Wh_o fun _ => ?_
    replace H := sI H; subst H
    exact Z0 [(2, .d), (3, .d)] [(2, [.n 1, .n 4, .n 1, .n 1, .n 4])] [] [] [] [⟨_, nw_I ([] : List Int)⟩, ⟨_, ZT ([] : List Node)⟩, ⟨_, nw_Bo ([] : List Bool)⟩, ⟨_, ZF ([] : List (List Pt))⟩, ⟨_, nw_Pt ([] : List Pt)⟩] (by kernel_rfl)
   ·obtain ⟨y6, h6, H⟩ := bB H
    refine Wh_go 99 [.u 90 (.call _ _ _ _ _ (AEs.of (xs := [.agg [.sl .rd 1 (v5.topo.parents.map eI), .sl .rd 4 (v5.topo.nodes.map eNode), .sl .rd 1 (v5.up.map eBo), .sl .rd 1 (v5.profs.map (Zf .nw)), .sl .rd 4 (v5.lics.map ePt)], .agg [.int .i64 x5.job.id, .int .i64 x5.job.prio, .int .i64 x5.job.nodes, .int .i64 x5.job.need.a, .int .i64 x5.job.need.b, .int .i64 x5.job.need.c, .int .i64 x5.job.lic.a, .int .i64 x5.job.lic.b, .int .i64 x5.job.lic.c, .int .i64 x5.job.wall, .int .i64 x5.job.level], .int .i64 s1.now, .int .i64 (w64 (x5.t + x5.job.wall)), .sl .rd 1 (x5.nodes.map eI), .fn Zo1 []]) (by simp)) (fun _ => Z55 h6))] (by kernel_rfl) fun _ => ?_
    refine Wh_iH H (fun H => ?_) fun H => ?_
    ·refine Wh_o fun _ => ?_
     replace H := sI H; subst H
     exact Z0 [(2, .d), (3, .d)] [(2, [.n 1, .n 4, .n 1, .n 1, .n 4])] [] [] [] [⟨_, nw_I ([] : List Int)⟩, ⟨_, ZT ([] : List Node)⟩, ⟨_, nw_Bo ([] : List Bool)⟩, ⟨_, ZF ([] : List (List Pt))⟩, ⟨_, nw_Pt ([] : List Pt)⟩] (by kernel_rfl)
    ·refine Wh_go 99 [.w 97 (wi .i64 rfl hiv5 q4.1)] (by kernel_rfl) fun _ => ?_
     exact Wh_to (N40 _ H) [] [] [] [] (by kernel_rfl) (by kernel_rfl)
  ·unfold Z18 at H
   refine Wh_o fun _ => ?_
   refine Zi (ltF s1.runs.length) (by kernel_rfl) ?_
   refine Wh_o fun _ => ?_
   replace H := sI H; subst H
   exact Z0 [(2, .d), (3, .d)] [(2, [])] [] [] [] [⟨_, nw_I v5.topo.parents⟩, ⟨_, ZT v5.topo.nodes⟩, ⟨_, nw_Bo v5.up⟩, ⟨_, ZF v5.profs⟩, ⟨_, nw_Pt v5.lics⟩] (by kernel_rfl)
def Z8a : L :=
.seq (.reg [.bx 1 (.t 0),.mv 2 (.c (.nl))])
 (.seq (.reg [.bs 6 11 [] true,fA 7 1 8,lD 8 7 1 false,.ap 9 (.t 6) (.t 8) 11 88,mV 3 9])
 (.seq (.seq (.reg [fA 10 1 9,lD 11 10 1 false,.ln 12 (.t 11),.mv 13 (kI 0)])
 (.blk 0 (.loop (.gw (.seq (.reg [bI 14 .lss 13 12])
 (.seq (.cond (.t 14) (.skip)
 (.exit 0))
 (.seq (.blk 1 (.seq (.reg [iA 15 11 13 13,lD 16 15 13 true,.al 5 [.int .i64 0, .int .i64 0, .int .i64 0, .int .i64 0, .int .i64 0, .int .i64 0, .int .i64 0, .int .i64 0, .int .i64 0, .int .i64 0, .int .i64 0, .int .i64 0, .nl],.st (.t 5) (.t 16) 13])
 (.reg [mV 17 3,fA 18 5 0,lD 19 18 11 true,.bs 20 11 [(.t 19)] false,.ap 21 (.t 17) (.t 20) 11 88,mV 3 21])))
 (.reg [.bi 22 .add (.t 13) (kI 1),mV 13 22]))))))))
 (.seq (.reg [mV 23 3,mV 2 23])
 (.gw (.ret)))))
def ZT9 : List Rv := [.t 2]
theorem Zqa : chkFn Tryz.prog Zj4 1 Z8a ZT9 = true := by kernel_rfl
def ZN5 (x4 : Run) (_ : Nat) (v4 : (List Job)) (k4 : (List Job) → Option (List Job)) : Option (List Job) :=
 (appL 88 v4 [x4.job]).bind fun xs5 => k4 xs5
def ZM5 (v4 : (List Job)) : Option (List Job) :=
 some v4
def impl_State_all (s1 : State) : Option (List Job) :=
 (appL 88 ([] : List Job) s1.queue).bind fun xs2 => rgl ZN5 ZM5 s1.runs 0 xs2
theorem Zba {s1 : State} {r : (List Job)} (H : impl_State_all s1 = some r) : Snd Tryz.prog Zj4 [Zb .rd s1] (.sl .nw 11 (r.map eJob)) [] := by
 refine snd_g Zqa rfl (by simp) ?_
 unfold impl_State_all at H
 obtain ⟨xs2, h2, H⟩ := bB H
 refine Wh_go 99 [.u 9 (.ap _ _ _ _ fun _ => Zm eJob h2), .u 12 (.ln _ _ fun _ => lm s1.runs (eRunT .rd))] (by kernel_rfl) fun q3 => ?_
 refine Zg (fun (i4 : Nat) (v4 : (List Job)) => ⟨[(3, .sref 6), (11, .sl .rd 13 (s1.runs.map (eRunT .rd))), (12, .int .i64 (s1.runs.length : Int)), (13, .int .i64 (i4 : Int))], [], [], [(6, ⟨11, v4.map eJob, false⟩)]⟩) [] [] [] [] (by kernel_rfl) (by kernel_rfl) H (fun i4 x4 v4 I m k4 hxv4 hiv4 H N15 => ?_) (fun v4 I m H => ?_)
 ·unfold ZN5 at H
  refine Wh_o fun _ => ?_
  refine Zh (ltT hiv4) (by kernel_rfl) ?_
  obtain ⟨xs5, h5, H⟩ := bB H
  refine Wh_go 99 [.u 15 (.ix _ _ _ fun _ => Z1 (eRunT .rd) (Z7 hxv4)), .u 21 (.ap _ _ _ _ fun _ => Zm eJob h5), .w 22 (wi .i64 rfl hiv4 q3.1)] (by kernel_rfl) fun _ => ?_
  exact Wh_to (N15 _ H) [] [] [] [] (by kernel_rfl) (by kernel_rfl)
 ·unfold ZM5 at H
  refine Wh_o fun _ => ?_
  refine Zi (ltF s1.runs.length) (by kernel_rfl) ?_
  refine Wh_o fun _ => ?_
  replace H := sI H; subst H
  exact Z0 [(2, .f)] [] [] [6] [] [⟨_, Z5l v4⟩] (by kernel_rfl)
def Zyd : L :=
.seq (.reg [.bx 1 (.t 0),.mv 2 (cB false)])
 (.seq (.seq (.reg [lD 12 1 11 true,cQ 13 Zf7 [12],mV 11 13,eX 14 11 0,eX 15 11 1,.al 3 [.nl, .nl, .nl, .nl, .nl],.st (.t 3) (.t 14) 5,mV 4 15])
 (.seq (.reg [mV 16 4,.un 17 (.t 16),mV 18 17,.g 18 false (fA 19 1 6),.g 18 false (lD 20 19 1 false),.g 18 false (.cq 21 Z4 [(.t 20), (kI 0), (kI 60)]),.g 18 false (.un 22 (.t 21)),.pk 23 (.t 18) (cB true) (.t 22),mV 24 23,.g 24 false (lD 25 1 11 true),.g 24 false (cQ 26 Zj4 [25]),.g 24 false (cQ 27 Zn6 [26]),.g 24 false (.un 28 (.t 27)),.pk 29 (.t 24) (cB true) (.t 28),mV 30 29,.g 30 false (fA 31 1 10),.g 30 false (lD 32 31 1 false),.g 30 false (.ln 33 (.t 32)),.g 30 false (.bi 34 .gtr (.t 33) (kI 300)),.pk 35 (.t 30) (cB true) (.t 34)])
 (.cond (.t 35) (.seq (rE 2 (cB false))
 (.gw (.ret)))
 (.skip))))
 (.seq (.seq (.reg [fA 36 1 9,lD 37 36 1 false,.ln 38 (.t 37),.mv 39 (kI 0)])
 (.blk 0 (.loop (.gw (.seq (.reg [bI 40 .lss 39 38])
 (.seq (.cond (.t 40) (.skip)
 (.exit 0))
 (.seq (.blk 1 (.seq (.reg [iA 41 37 39 13,lD 42 41 13 true,.al 6 [.int .i64 0, .int .i64 0, .int .i64 0, .int .i64 0, .int .i64 0, .int .i64 0, .int .i64 0, .int .i64 0, .int .i64 0, .int .i64 0, .int .i64 0, .int .i64 0, .nl],.st (.t 6) (.t 42) 13])
 (.seq (.seq (.reg [fA 43 6 12,lD 44 43 1 false,.ln 45 (.t 44),.mv 46 (kI 0)])
 (.blk 2 (.loop (.gw (.seq (.reg [bI 47 .lss 46 45])
 (.seq (.cond (.t 47) (.skip)
 (.exit 2))
 (.seq (.blk 3 (.seq (.reg [iA 48 44 46 1,lD 49 48 1 false,mV 8 49])
 (.seq (.reg [fA 50 1 2,lD 51 50 1 false,mV 52 8,iA 53 51 52 1,lD 54 53 1 false,.un 55 (.t 54)])
 (.cond (.t 55) (.seq (rE 2 (cB false))
 (.gw (.ret)))
 (.skip)))))
 (.reg [.bi 56 .add (.t 46) (kI 1),mV 46 56]))))))))
 (.seq (.rq 18 [fA 57 6 12,lD 58 57 1 false,cQ 59 Zt2 [58],.un 60 (.t 59),mV 61 60,.g 61 false (fA 62 1 0),.g 61 false (lD 63 62 2 true),.g 61 false (fA 64 1 0),.g 61 false (lD 65 64 2 true),.g 61 false (fA 66 6 12),.g 61 false (lD 67 66 1 false),.g 61 false (cQ 68 Zg7 [65, 67]),.g 61 false (cQ 69 ZQ3 [63, 68]),.g 61 false (fA 70 6 0),.g 61 false (fA 71 70 10),.g 61 false (lD 72 71 1 false),.g 61 false (bI 73 .gtr 69 72),.pk 74 (.t 61) (cB true) (.t 73)])
 (.cond (.t 74) (.seq (rE 2 (cB false))
 (.gw (.ret)))
 (.skip))))))
 (.reg [.bi 75 .add (.t 39) (kI 1),mV 39 75]))))))))
 (.seq (.seq (.reg [fA 76 1 10,lD 77 76 1 false,.ln 78 (.t 77),.mv 79 (kI 0)])
 (.blk 4 (.loop (.gw (.seq (.reg [bI 80 .lss 79 78])
 (.seq (.cond (.t 80) (.skip)
 (.exit 4))
 (.seq (.blk 5 (.seq (.reg [iA 81 77 79 3,lD 82 81 3 true,.al 10 [.int .i64 0, .int .i64 0, .int .i64 0],.st (.t 10) (.t 82) 3])
 (.seq (.reg [fA 83 10 0,lD 84 83 1 false,.cq 85 Z4 [(.t 84), (kI 1), (kI 999)],.un 86 (.t 85),mV 87 86,.g 87 false (fA 88 10 1),.g 87 false (lD 89 88 1 false),.g 87 false (fA 90 1 7),.g 87 false (lD 91 90 1 false),.g 87 false (.cq 92 Z4 [(.t 89), (kI 0), (.t 91)]),.g 87 false (.un 93 (.t 92)),.pk 94 (.t 87) (cB true) (.t 93),mV 95 94,.g 95 false (fA 96 10 2),.g 95 false (lD 97 96 1 false),.g 95 false (.cq 98 Z4 [(.t 97), (kI 1), (kI 4)]),.g 95 false (.un 99 (.t 98)),.pk 100 (.t 95) (cB true) (.t 99)])
 (.cond (.t 100) (.seq (rE 2 (cB false))
 (.gw (.ret)))
 (.skip)))))
 (.reg [.bi 101 .add (.t 79) (kI 1),mV 79 101]))))))))
 (.seq (rE 2 (cB true))
 (.gw (.ret))))))
def ZFc : List Rv := [.t 2]
theorem Zfe : chkFn Tryz.prog ZJ3 1 Zyd ZFc = true := by kernel_rfl
def Z74 (s1 : State) (x8 : Int) (_ : Nat) (_ : Unit) (k8 : Unit → Option Bool) : Option Bool :=
 (idx s1.up x8).bind fun e9 => bif (!e9) then (some false) else (k8 ())
def Z64 (s1 : State) (x6 : Run) (k6 : Unit → Option Bool) (_ : Unit) : Option Bool :=
 (impl_areAscending x6.nodes).bind fun b10 => (bif (!b10) then some default else (impl_Lowest s1.topo x6.nodes)).bind fun n11 => (bif (!b10) then some default else (impl_level s1.topo n11)).bind fun n12 => bif ((!b10) || (decide (x6.job.level < n12))) then (some false) else (k6 ())
def Zo2 (s1 : State) (x14 : End) (_ : Nat) (_ : Unit) (k14 : Unit → Option Bool) : Option Bool :=
 bif (((!(impl_within x14.id 1 999)) || (!(impl_within x14.t 0 s1.now))) || (!(impl_within x14.why 1 4))) then (some false) else (k14 ())
def Z44 (_ : Unit) : Option Bool :=
 some true
def Zp2 (s1 : State) (x6 : Run) (_ : Nat) (_ : Unit) (k6 : Unit → Option Bool) : Option Bool :=
 rgl (Z74 s1) (Z64 s1 x6 k6) x6.nodes 0 ()
def Z54 (s1 : State) (_ : Unit) : Option Bool :=
 rgl (Zo2 s1) Z44 s1.ends 0 ()
def impl_StateOk (s1 : State) : Option Bool :=
 (impl_RoomOf s1).bind fun y2 => (bif ((!y2.2) || (!(impl_within s1.depth 0 60))) then some default else (impl_State_all s1)).bind fun y3 => (bif ((!y2.2) || (!(impl_within s1.depth 0 60))) then some default else (impl_QueueOk y3)).bind fun b4 => bif ((((!y2.2) || (!(impl_within s1.depth 0 60))) || (!b4)) || (decide (300 < (s1.ends.length : Int)))) then (some false) else (rgl (Zp2 s1) (Z54 s1) s1.runs 0 ())
theorem Z08 {s1 : State} {r : Bool} (H : impl_StateOk s1 = some r) : Snd Tryz.prog ZJ3 [Zb .rd s1] (.bool r) [] := by
 refine snd_g Zfe rfl (by simp) ?_
 unfold impl_StateOk at H
 obtain ⟨y2, h2, H⟩ := bB H
 obtain ⟨y3, h3, H⟩ := bB H
 obtain ⟨b4, h4, H⟩ := bB H
 refine Wh_go 99 [.c 13 (Zkg h2), .g 21 [((!y2.2), false)] (.call _ _ _ _ _ (AEs.refl _) (fun _ => Z5 s1.depth 0 60)), .g 26 [(_, false)] (.call _ _ _ _ _ (AEs.refl _) (fun q => Zba (bF q.1 h3))), .g 27 [(_, false)] (.call _ _ _ _ _ (AEs.refl _) (fun q => ZFd (bF q.1 h4))), .g 33 [((((!y2.2) || (!(impl_within s1.depth 0 60))) || (!b4)), false)] (.ln _ _ fun _ => lm s1.ends eEnd)] (by kernel_rfl) fun _ => ?_
 refine Wh_iH H (fun H => ?_) fun H => ?_
 ·refine Wh_o fun _ => ?_
  replace H := sI H; subst H
  exact Z0 [(2, .d)] [] [] [] [] [] (by kernel_rfl)
 ·refine Wh_go 99 [.u 38 (.ln _ _ fun _ => lm s1.runs (eRunT .rd))] (by kernel_rfl) fun q5 => ?_
  refine Zg (fun (i6 : Nat) (v6 : Unit) => ⟨[(1, .ptr 1 0), (37, .sl .rd 13 (s1.runs.map (eRunT .rd))), (38, .int .i64 (s1.runs.length : Int)), (39, .int .i64 (i6 : Int))], [], [(1, (Zb .rd s1).cells)], []⟩) [] [] [] [] (by kernel_rfl) (by kernel_rfl) H (fun i6 x6 v6 I m k6 hxv6 hiv6 H N52 => ?_) (fun v6 I m H => ?_)
  ·unfold Zp2 at H
   refine Wh_o fun _ => ?_
   refine Zh (ltT hiv6) (by kernel_rfl) ?_
   refine Wh_go 99 [.u 41 (.ix _ _ _ fun _ => Z1 (eRunT .rd) (Z7 hxv6)), .u 45 (.ln _ _ fun _ => lm x6.nodes eI)] (by kernel_rfl) fun q7 => ?_
   refine Zg (fun (i8 : Nat) (v8 : Unit) => ⟨[(1, .ptr 1 0), (6, .ptr 6 0), (37, .sl .rd 13 (s1.runs.map (eRunT .rd))), (38, .int .i64 (s1.runs.length : Int)), (39, .int .i64 (i6 : Int)), (44, .sl .rd 1 (x6.nodes.map eI)), (45, .int .i64 (x6.nodes.length : Int)), (46, .int .i64 (i8 : Int))], [], [(1, (Zb .rd s1).cells), (6, (eRunT .rd x6).cells)], []⟩) [] [] [] [] (by kernel_rfl) (by kernel_rfl) H (fun i8 x8 v8 I m k8 hxv8 hiv8 H N35 => ?_) (fun v8 I m H => ?_)
   ·unfold Z74 at H
    refine Wh_o fun _ => ?_
    refine Zh (ltT hiv8) (by kernel_rfl) ?_
    obtain ⟨e9, h9, H⟩ := bB H
    refine Wh_go 99 [.u 48 (.ix _ _ _ fun _ => Z1 eI (Z7 hxv8)), .u 53 (.ix _ _ _ fun _ => Z1 eBo h9)] (by kernel_rfl) fun _ => ?_
    refine Wh_iH H (fun H => ?_) fun H => ?_
    ·refine Wh_o fun _ => ?_
     replace H := sI H; subst H
     exact Z0 [(2, .d)] [] [] [] [] [] (by kernel_rfl)
    ·refine Wh_go 99 [.w 56 (wi .i64 rfl hiv8 q7.1)] (by kernel_rfl) fun _ => ?_
     exact Wh_to (N35 () H) [] [] [] [] (by kernel_rfl) (by kernel_rfl)
   ·unfold Z64 at H
    refine Wh_o fun _ => ?_
    refine Zi (ltF x6.nodes.length) (by kernel_rfl) ?_
    obtain ⟨b10, h10, H⟩ := bB H
    obtain ⟨n11, h11, H⟩ := bB H
    obtain ⟨n12, h12, H⟩ := bB H
    refine Wh_go 99 [.c 59 (Zz8 h10), .g 68 [(_, false)] (.call _ _ _ _ _ (AEs.refl _) (fun q => Zng (bF q.1 h11))), .g 69 [(_, false)] (.call _ _ _ _ _ (AEs.refl _) (fun q => ZQ6 (bF q.1 h12)))] (by kernel_rfl) fun _ => ?_
    refine Wh_iH H (fun H => ?_) fun H => ?_
    ·refine Wh_o fun _ => ?_
     replace H := sI H; subst H
     exact Z0 [(2, .d)] [] [] [] [] [] (by kernel_rfl)
    ·refine Wh_go 99 [.w 75 (wi .i64 rfl hiv6 q5.1)] (by kernel_rfl) fun _ => ?_
     exact Wh_to (N52 () H) [] [] [] [] (by kernel_rfl) (by kernel_rfl)
  ·unfold Z54 at H
   refine Wh_o fun _ => ?_
   refine Zi (ltF s1.runs.length) (by kernel_rfl) ?_
   refine Wh_go 99 [.u 78 (.ln _ _ fun _ => lm s1.ends eEnd)] (by kernel_rfl) fun q13 => ?_
   refine Zg (fun (i14 : Nat) (v14 : Unit) => ⟨[(1, .ptr 1 0), (77, .sl .rd 3 (s1.ends.map eEnd)), (78, .int .i64 (s1.ends.length : Int)), (79, .int .i64 (i14 : Int))], [], [(1, (Zb .rd s1).cells)], []⟩) [] [] [] [] (by kernel_rfl) (by kernel_rfl) H (fun i14 x14 v14 I m k14 hxv14 hiv14 H N74 => ?_) (fun v14 I m H => ?_)
   ·unfold Zo2 at H
    refine Wh_o fun _ => ?_
    refine Zh (ltT hiv14) (by kernel_rfl) ?_
    refine Wh_go 99 [.u 81 (.ix _ _ _ fun _ => Z1 eEnd (Z7 hxv14)), .c 85 (Z5 x14.id 1 999), .g 92 [((!(impl_within x14.id 1 999)), false)] (.call _ _ _ _ _ (AEs.refl _) (fun _ => Z5 x14.t 0 s1.now)), .g 98 [(((!(impl_within x14.id 1 999)) || (!(impl_within x14.t 0 s1.now))), false)] (.call _ _ _ _ _ (AEs.refl _) (fun _ => Z5 x14.why 1 4))] (by kernel_rfl) fun _ => ?_
    refine Wh_iH H (fun H => ?_) fun H => ?_
    ·refine Wh_o fun _ => ?_
     replace H := sI H; subst H
     exact Z0 [(2, .d)] [] [] [] [] [] (by kernel_rfl)
    ·refine Wh_go 99 [.w 101 (wi .i64 rfl hiv14 q13.1)] (by kernel_rfl) fun _ => ?_
     exact Wh_to (N74 () H) [] [] [] [] (by kernel_rfl) (by kernel_rfl)
   ·unfold Z44 at H
    refine Wh_o fun _ => ?_
    refine Zi (ltF s1.ends.length) (by kernel_rfl) ?_
    refine Wh_o fun _ => ?_
    replace H := sI H; subst H
    exact Z0 [(2, .d)] [] [] [] [] [] (by kernel_rfl)
theorem ZSi (r : Room) (j : Job) (from_ to_ : Int) (nodes : List Int) : Zz r j from_ to_ nodes = bif diffOk r j nodes then Zm8 r j.need j.lic from_ to_ nodes else some ZF2 := by
 unfold Zz diffOk
 rw [Zjg, Option.bind_some, ZU6]
 cases hr : roomOk r with
 | false => rfl
 | true =>
  have hR := Z2h.1 hr
  rw [Z59 hR.small.nodes]
  cases spec_JobOk j with
  | false => rfl
  | true =>
   simp only [Bool.not_true, Bool.or_self, cond_false, Bool.true_and, Option.bind_some]
   cases (decide ((nodes.length : Int) = j.nodes) && Zj1 r.topo nodes && decide nodes.Nodup) with
   | false => rfl
   | true =>
    simp only [Bool.not_true, Bool.or_self, cond_false, cond_true]
    rw [Zyb hR.small, Option.bind_some]
    unfold Zm8 Z11 Z01
    simp only [fun p f t v => (Z89 p f t v).1]
    rfl
/-- No number stands twice. -/
def idsOk (l : List Job) : Bool := decide (l.map Job.id).Nodup
noncomputable def queueOk (l : List Job) : Bool := decide (l.length ≤ 60) && l.all spec_JobOk && idsOk l
theorem Zel {l : List Job} {i : Nat} {x : Job} (hx : l[i]? = some x) : ((l.take (i + 1)).map Job.id).Nodup ↔ ((l.take i).map Job.id).Nodup ∧ ∀ y ∈ l.take i, y.id ≠ x.id := by
 obtain ⟨hi, rfl⟩ := List.getElem?_eq_some_iff.1 hx
 rw [List.take_succ_eq_append_getElem hi, List.map_append, List.nodup_append]
 constructor
 ·intro h; exact ⟨h.1, fun y hy e => h.2.2 _ (List.mem_map_of_mem hy) _ (List.mem_singleton.2 rfl) e⟩
 ·intro h; exact ⟨h.1, by simp, fun a ha b hb e => by
   obtain ⟨y, hy, rfl⟩ := List.mem_map.1 ha
   rw [show b = l[i].id by simpa using hb] at e
   exact h.2 y hy e⟩
/-- A loop that asks job after job, and each with those ahead. -/
theorem Z5h {γ : Type} {bd : Job → Nat → Unit → (Unit → Option γ) → Option γ} {kk : Unit → Option γ} {r : Option γ} {l : List Job}
  (hb : ∀ i x k, l[i]? = some x → bd x i () k = bif (!spec_JobOk x) || (l.take i).any (fun y => y.id == x.id) then r else k ()) : rgl bd kk l 0 () = bif l.all spec_JobOk && idsOk l then kk () else r := by
 refine ZC2 (fun i (_ : Unit) => (∀ y ∈ l.take i, spec_JobOk y = true) ∧ ((l.take i).map Job.id).Nodup) (fun o => o = bif l.all spec_JobOk && idsOk l then kk () else r) (fun i x b k hx hI hk => ?_) (fun b hI => ?_) (by simp)
 ·have hil := (List.getElem?_eq_some_iff.1 hx).1
  rw [hb i x k hx]
  cases hj : spec_JobOk x with
  | false =>
   have : l.all spec_JobOk = false := List.all_eq_false.2 ⟨x, List.mem_of_getElem? hx, by rw [hj]; simp⟩
   rw [this]; rfl
  | true =>
   cases hc : (l.take i).any (fun y => y.id == x.id) with
   | true =>
    obtain ⟨y, hy, he⟩ := List.any_eq_true.1 hc
    have : idsOk l = false := by
     unfold idsOk
     rw [decide_eq_false_iff_not]
     intro q
     have q2 : ((l.take (i + 1)).map Job.id).Nodup := q.sublist ((List.take_sublist _ _).map _)
     exact ((Zel hx).1 q2).2 y hy (by simpa using he)
    rw [this, Bool.and_false]; rfl
   | false =>
    refine hk () ⟨fun y hy => ?_, (Zel hx).2 ⟨hI.2, fun y hy e => ?_⟩⟩
    ·obtain ⟨hi, rfl⟩ := List.getElem?_eq_some_iff.1 hx
     rw [List.take_succ_eq_append_getElem hi] at hy
     rcases List.mem_append.1 hy with hy | hy
     ·exact hI.1 y hy
     ·rw [List.mem_singleton.1 hy]; exact hj
    ·have := List.any_eq_false.1 hc y hy
     simp [e] at this
 ·rw [List.take_of_length_le (Nat.le_refl _)] at hI
  rw [List.all_eq_true.2 hI.1]
  unfold idsOk
  rw [decide_eq_true hI.2]; rfl
theorem Zac (l : List Job) : spec_QueueOk l = some (queueOk l) := by
 unfold spec_QueueOk queueOk
 by_cases h : 60 < l.length
 ·simp [show (60 : Int) < l.length by omega, show ¬ l.length ≤ 60 by omega]
 ·rw [show decide ((60 : Int) < (l.length : Int)) = false by simp; omega, show decide (l.length ≤ 60) = true by simp; omega]
  simp only [cond_false, Bool.true_and]
  rw [Z5h (r := some false) (fun i x k hx => ?_)]
  ·unfold ZZ3
   cases (l.all spec_JobOk && idsOk l) <;> rfl
  ·have hil := (List.getElem?_eq_some_iff.1 hx).1
   unfold Z04
   cases spec_JobOk x with
   | false => rfl
   | true =>
    simp only [Bool.not_true, cond_false, Bool.false_or]
    have h := ZU8 (bd := Zw1 l i x k) (fun (i : Nat) (_ : Unit) => (i : Int)) (n := i)
     (B := fun m _ _ k => bif (match l[m]? with | some e => e.id == x.id | none => false) then some false else k ()) (kk := fun _ => k ()) (fun m st k hm => by
      obtain ⟨e, he⟩ : ∃ e, l[m]? = some e := ⟨_, List.getElem?_eq_getElem (by omega)⟩
      have hlt : (m : Int) < (i : Int) := by omega
      simp only [Zw1, hlt, decide_true, cond_true, Zc, he, Option.bind_some, Zb1 (n := m) (by omega)])
     (fun m st k hm => by
      have hlt : ¬ (m : Int) < (i : Int) := by omega
      simp only [Zw1, hlt, decide_false, cond_false]) 9223372036854775807 0 () (by omega)
    refine h.trans ?_
    rw [ZB1 (r := some false) (p := fun (m : Nat) => match l[m]? with | some e => e.id == x.id | none => false) (fun m _ i k => rfl)]
    have e : (List.range' 0 (i - 0)).any (fun (m : Nat) => match l[m]? with | some e => e.id == x.id | none => false) = (l.take i).any (fun y => y.id == x.id) := by
     rw [Bool.eq_iff_iff, List.any_eq_true, List.any_eq_true]
     constructor
     ·rintro ⟨m, hm, hq⟩
      obtain ⟨j, hj, rfl⟩ := List.mem_range'.1 hm
      have hlt : 0 + 1 * j < l.length := by omega
      rw [List.getElem?_eq_getElem hlt] at hq
      exact ⟨_, List.mem_take_iff_getElem.2 ⟨0 + 1 * j, by omega, rfl⟩, hq⟩
     ·rintro ⟨y, hy, hq⟩
      obtain ⟨m, hm, rfl⟩ := List.mem_take_iff_getElem.1 hy
      exact ⟨m, List.mem_range'.2 ⟨m, by omega, by omega⟩, by rw [List.getElem?_eq_getElem (by omega)]; exact hq⟩
    rw [e]
theorem ZHk (l : List Job) (c : Job) : Z2 l c = some (l.any fun y => y.id == c.id) := by
 unfold Z2 Z6
 have : ∃ r : Int, rgl (Z3 c) Z9 l 0 () = some r ∧ decide (0 ≤ r) = l.any fun y => y.id == c.id := by
  refine ZC2 (fun i (_ : Unit) => ∀ y ∈ l.take i, (y.id == c.id) = false) (fun o => ∃ r : Int, o = some r ∧ decide (0 ≤ r) = l.any fun y => y.id == c.id) (fun i x b k hx hI hk => ?_) (fun b hI => ?_) (by simp)
  ·unfold Z3 impl_QueueOk_1
   cases h : (x.id == c.id) with
   | true => exact ⟨i, rfl, by rw [List.any_eq_true.2 ⟨x, List.mem_of_getElem? hx, h⟩]; simp⟩
   | false =>
    refine hk () fun y hy => ?_
    obtain ⟨hi, rfl⟩ := List.getElem?_eq_some_iff.1 hx
    rw [List.take_succ_eq_append_getElem hi] at hy
    rcases List.mem_append.1 hy with hy | hy
    ·exact hI y hy
    ·rw [List.mem_singleton.1 hy]; exact h
  ·rw [List.take_of_length_le (Nat.le_refl _)] at hI
   exact ⟨-1, rfl, by rw [List.any_eq_false.2 fun y hy => by rw [hI y hy]; simp]; rfl⟩
 obtain ⟨r, h1, h2⟩ := this
 rw [h1, Option.bind_some, h2]
theorem ZGd (l : List Job) : impl_QueueOk l = some (queueOk l) := by
 unfold impl_QueueOk queueOk
 rw [Z5h (r := some false) (fun i x k hx => ?_)]
 ·unfold Z84
  have e : decide ((l.length : Int) ≤ 60) = decide (l.length ≤ 60) := by rw [Bool.eq_iff_iff]; simp; omega
  rw [e]
  cases l.all spec_JobOk <;> cases idsOk l <;> cases decide (l.length ≤ 60) <;> rfl
 ·have hil := (List.getElem?_eq_some_iff.1 hx).1
  unfold Z94
  rw [ZU6, Z6j (by omega)]
  cases spec_JobOk x with
  | false => rfl
  | true =>
   simp only [Bool.not_true, cond_false, Option.bind_some, ZHk, Bool.false_or]
theorem ZHd (v : Vec) : impl_ProfNew v = spec_ProfNew v := rfl
def Za5 (t : Topo) (up : List Bool) (lic : Vec) : Room := ⟨t, up, t.nodes.map fun x => (spec_ProfNew x.cap).1, (spec_ProfNew lic).1⟩
theorem Zjh {v : Vec} (h : spec_VecOk v = true) : ProfP (spec_ProfNew v).1 := by
 unfold spec_ProfNew
 rw [h]
 simp only [Bool.not_true, cond_false]
 exact ⟨by simp, by simp, fun x hx => by simp at hx; rw [← hx], fun x hx => by simp at hx; subst hx; exact ⟨rfl, h⟩, fun i x y hx hy => by simp at hy⟩
theorem ZHa {t : Topo} (h : TopoP t) {up : List Bool} (hu : up.length = t.nodes.length) {lic : Vec} (hl : spec_VecOk lic = true) : RoomP (Za5 t up lic) :=
  ⟨h, hu, by simp [Za5], fun p hp => by
    obtain ⟨x, hx, rfl⟩ := List.mem_map.1 hp
    exact Zjh (h.node x hx).2.2.2, Zjh hl⟩
theorem ZWi {t : Topo} (h : TopoP t) {up : List Bool} (hu : up.length = t.nodes.length) (lic : Vec) : impl_empty t up lic = some (Za5 t up lic) := by
 have := h.tree.le; have := h.nodes
 unfold impl_empty impl_copyTopo impl_copyInts
 rw [Zp (by simp; omega), Option.bind_some, Option.bind_some, Zp (by simp; omega), Option.bind_some, Option.bind_some, Zp (by simp; omega), Option.bind_some]
 rw [ZA1 (bd := Z76) (bs := 24) (p := fun _ => true) (f := fun x => (spec_ProfNew x.cap).1) (fun x hx i b k => rfl) (by simp; omega)]
 unfold Z66 Za5
 simp [List.filter_eq_self.2, ZHd]
theorem ZLa (s : State) : spec_l06Empty s = some (bif topoOk s.topo && decide (s.up.length = s.topo.nodes.length) && spec_VecOk s.lic then (Za5 s.topo s.up s.lic, true) else ZF2) := by
 unfold spec_l06Empty
 rw [Z42, Option.bind_some, Zei]
 cases ht : topoOk s.topo with
 | false => rfl
 | true =>
 cases hu : decide (s.up.length = s.topo.nodes.length) with
 | false => rfl
 | true =>
 cases hl : spec_VecOk s.lic with
 | false => rfl
 | true =>
  have h := Zo6.1 ht
  have hu := of_decide_eq_true hu
  have := h.nodes
  simp only [Bool.not_true, Bool.or_self, cond_false, Bool.and_self, cond_true]
  rw [ZA1 (bd := Zf3) (bs := 24) (p := fun _ => true) (f := fun x => (spec_ProfNew x.cap).1) (fun x hx i b k => rfl) (by simp; omega)]
  unfold Ze3
  rw [show (s.topo.nodes.filter fun _ => true) = s.topo.nodes from List.filter_eq_self.2 fun _ _ => rfl, List.nil_append]
  have hR := ZHa h hu hl
  unfold Za5 at hR
  rw [ZG7 hR.small, Option.bind_some]
  rfl
/-- What a run may be, beside the room. -/
def runOk (s : State) (x : Run) : Bool := time x.t && decide (x.t ≤ s.now) && decide (s.now < x.t + x.job.wall) && decide (x.t + x.job.wall ≤ 1000000000)
noncomputable def Zo8 (s : State) (x : Run) (v : Room) : Option (Room × Bool) := bif diffOk v x.job x.nodes && runOk s x then Zm8 v x.job.need x.job.lic s.now (x.t + x.job.wall) x.nodes else some ZF2
theorem Zqh {s : State} (hs : time s.now = true) (x : Run) (i : Nat) (v : Room) (k : Room → Option (Room × Bool)) : ZA2 s x i v k = (Zo8 s x v).bind fun y => bif !y.2 then some ZF2 else k y.1 := by
 have hn := Zl8.1 hs
 unfold ZA2 Zo8
 rw [ZE7, Option.bind_some, ZF1]
 cases hd : diffOk v x.job x.nodes with
 | false => rfl
 | true =>
  have hj : spec_JobOk x.job = true := by unfold diffOk at hd; simp only [Bool.and_eq_true] at hd; exact hd.1.1.1.2
  have hj' := ZY7.1 hj
  unfold runOk
  by_cases ht : time x.t = true ∧ x.t ≤ s.now
  ·have ht1 := Zl8.1 ht.1
   rw [ht.1, ZE1 (n := x.t + x.job.wall) (by omega), show decide (s.now < x.t) = false by simp; omega, show decide (x.t ≤ s.now) = true by simpa using ht.2]
   by_cases h3 : s.now < x.t + x.job.wall
   ·rw [show decide (x.t + x.job.wall ≤ s.now) = false by simp; omega, show decide (s.now < x.t + x.job.wall) = true by simpa using h3]
    by_cases h4 : x.t + x.job.wall ≤ 1000000000
    ·rw [show decide (1000000000 < x.t + x.job.wall) = false by simp; omega, show decide (x.t + x.job.wall ≤ 1000000000) = true by simpa using h4]
     simp only [Bool.not_true, Bool.or_self, cond_false, Bool.and_self, cond_true]
     rw [ZE1 (n := x.t + x.job.wall - s.now) (by omega), Z8c]
     have e : diffOk v ⟨x.job.id, x.job.prio, x.job.nodes, x.job.need, x.job.lic, x.t + x.job.wall - s.now, x.job.level⟩ x.nodes = true := by
      have hj2 : spec_JobOk ⟨x.job.id, x.job.prio, x.job.nodes, x.job.need, x.job.lic, x.t + x.job.wall - s.now, x.job.level⟩ = true := by
       rw [ZY7]; simp only; refine ⟨hj'.1, hj'.2.1, hj'.2.2.1, hj'.2.2.2.1, hj'.2.2.2.2.1, by omega, hj'.2.2.2.2.2.2⟩
      unfold diffOk at hd ⊢
      rw [hj] at hd
      rw [hj2]; exact hd
     rw [e, hs]
     simp only [Bool.and_self, cond_true]
     rw [show s.now + (x.t + x.job.wall - s.now) = x.t + x.job.wall by omega, ZE1 (by omega)]
     rfl
    ·rw [show decide (1000000000 < x.t + x.job.wall) = true by simp; omega, show decide (x.t + x.job.wall ≤ 1000000000) = false by simpa using h4]
     simp [ZF2]
   ·rw [show decide (x.t + x.job.wall ≤ s.now) = true by simp; omega, show decide (s.now < x.t + x.job.wall) = false by simpa using h3]
    simp [ZF2]
  ·have : (time x.t && decide (x.t ≤ s.now)) = false := by
    rw [Bool.eq_false_iff]; intro q; simp only [Bool.and_eq_true, decide_eq_true_eq] at q; exact ht q
   rw [this]
   have h2 : (!(time x.t) || decide (s.now < x.t)) = true := by
    cases hx : time x.t with
    | false => rfl
    | true =>
     have : ¬ x.t ≤ s.now := fun q => ht ⟨hx, q⟩
     simp; omega
   simp only [Bool.not_true, Bool.false_or, h2, Bool.true_or, cond_true, Bool.false_and, Bool.and_false, cond_false, Option.bind_some]
   rfl
theorem ZRi {s : State} (hs : time s.now = true) (x : Run) (i : Nat) (v : Room) (k : Room → Option (Room × Bool)) : ZU2 s x i v k = (Zo8 s x v).bind fun y => bif !y.2 then some ZF2 else k y.1 := by
 have hn := Zl8.1 hs
 unfold ZU2 Zo8
 rw [ZU6, ZSi]
 cases hj : spec_JobOk x.job with
 | false =>
  have hd : diffOk v x.job x.nodes = false := by unfold diffOk; rw [hj]; simp
  rw [hd]; rfl
 | true =>
  have hj' := ZY7.1 hj
  by_cases h1 : 0 ≤ x.t ∧ x.t ≤ s.now
  ·rw [ZE1 (n := x.t + x.job.wall) (by omega), ZE1 (n := s.now + 1) (by omega)]
   have e1 : impl_within x.t 0 s.now = true := by simp [impl_within]; exact h1
   have e2 : impl_within (x.t + x.job.wall) (s.now + 1) 1000000000 = (decide (s.now < x.t + x.job.wall) && decide (x.t + x.job.wall ≤ 1000000000)) := by
    unfold impl_within; congr 1
   have e3 : time x.t = true := by rw [Zl8]; omega
   unfold runOk
   rw [e1, e2, e3, show decide (x.t ≤ s.now) = true by simpa using h1.2]
   simp only [Bool.not_true, Bool.false_or, Bool.and_self, Bool.true_and]
   cases (decide (s.now < x.t + x.job.wall) && decide (x.t + x.job.wall ≤ 1000000000)) <;> cases diffOk v x.job x.nodes <;> rfl
  ·have e1 : impl_within x.t 0 s.now = false := by
    unfold impl_within; rw [Bool.eq_false_iff]; intro q; simp only [Bool.and_eq_true, decide_eq_true_eq] at q; exact h1 q
   have e2 : runOk s x = false := by
    unfold runOk; rw [Bool.eq_false_iff]; intro q; simp only [Bool.and_eq_true, decide_eq_true_eq, Zl8] at q; exact h1 ⟨q.1.1.1.1, q.1.1.2⟩
   rw [e1, e2]
   simp [ZF2]
noncomputable def Zk9 (s : State) : Option (Room × Bool) := rgl (fun x _ v k => (Zo8 s x v).bind fun y => bif !y.2 then some ZF2 else k y.1) (fun v => some (v, true)) s.runs 0 (Za5 s.topo s.up s.lic)
noncomputable def ZG6 (s : State) : Bool := topoOk s.topo && decide (s.up.length = s.topo.nodes.length) && spec_VecOk s.lic && time s.now
theorem ZF8 (s : State) : spec_RoomOf s = bif ZG6 s then Zk9 s else some ZF2 := by
 unfold spec_RoomOf ZG6
 rw [ZLa, Option.bind_some, ZF1]
 cases (topoOk s.topo && decide (s.up.length = s.topo.nodes.length) && spec_VecOk s.lic) with
 | false => rfl
 | true =>
  cases hs : time s.now with
  | false => rfl
  | true =>
   simp only [cond_true, Bool.not_true, Bool.or_self, cond_false, Bool.and_self]
   unfold Zk9
   exact ZT7 (fun i x b k _ => Zqh hs x i b k) fun b => rfl
theorem Zlg (s : State) : impl_RoomOf s = spec_RoomOf s := by
 rw [ZF8]
 unfold impl_RoomOf ZG6
 rw [Za6, Z42, Option.bind_some, Zei, ZQ2, ZN8]
 cases ht : topoOk s.topo with
 | false => rfl
 | true =>
 cases hu : decide (s.up.length = s.topo.nodes.length) with
 | false => rfl
 | true =>
 cases hl : spec_VecOk s.lic with
 | false => rfl
 | true =>
 cases hs : time s.now with
 | false => rfl
 | true =>
  simp only [Bool.not_true, Bool.or_self, cond_false, Bool.and_self, cond_true]
  rw [ZWi (Zo6.1 ht) (of_decide_eq_true hu), Option.bind_some]
  unfold Zk9
  exact ZT7 (fun i x b k _ => ZRi hs x i b k) fun b => rfl
/-- The runs' part of a state whose room is there. -/
structure RunsP (s : State) : Prop where
 job : ∀ x ∈ s.runs, spec_JobOk x.job = true ∧ (x.nodes.length : Int) = x.job.nodes ∧ Zj1 s.topo x.nodes = true ∧ x.nodes.Nodup ∧ runOk s x = true
theorem ZXh {s : State} (h : ZG6 s = true) : ∃ q, Zk9 s = some q ∧ (q.2 = true → RoomP q.1 ∧ q.1.topo = s.topo ∧ q.1.up = s.up ∧ RunsP s) := by
 unfold ZG6 at h
 simp only [Bool.and_eq_true, decide_eq_true_eq, Zo6] at h
 unfold Zk9
 refine ZC2 (fun i (v : Room) => RoomP v ∧ v.topo = s.topo ∧ v.up = s.up ∧ ∀ x ∈ s.runs.take i, spec_JobOk x.job = true ∧ (x.nodes.length : Int) = x.job.nodes ∧ Zj1 s.topo x.nodes = true ∧ x.nodes.Nodup ∧ runOk s x = true) (fun o => ∃ q : Room × Bool, o = some q ∧ (q.2 = true → RoomP q.1 ∧ q.1.topo = s.topo ∧ q.1.up = s.up ∧ RunsP s)) (fun i x v k hx hI hk => ?_) (fun v hI => ?_) ⟨ZHa h.1.1.1 h.1.1.2 h.1.2, rfl, rfl, by simp⟩
 ·obtain ⟨h1, h2, h3, h4⟩ := hI
  unfold Zo8
  cases hd : (diffOk v x.job x.nodes && runOk s x) with
  | false => exact ⟨ZF2, rfl, fun h => by cases h⟩
  | true =>
   simp only [Bool.and_eq_true] at hd
   have hd1 := hd.1
   unfold diffOk at hd1
   simp only [Bool.and_eq_true, decide_eq_true_eq] at hd1
   obtain ⟨q, q1, q2⟩ := Zoh h1 x.job.need x.job.lic s.now (x.t + x.job.wall) hd1.1.2
   simp only [cond_true]
   rw [q1, Option.bind_some]
   cases hq : q.2 with
   | false => exact ⟨ZF2, rfl, fun h => by cases h⟩
   | true =>
    obtain ⟨a1, a2, a3⟩ := q2 hq
    refine hk q.1 ⟨a1, a2.trans h2, a3.trans h3, fun y hy => ?_⟩
    obtain ⟨hi, rfl⟩ := List.getElem?_eq_some_iff.1 hx
    rw [List.take_succ_eq_append_getElem hi] at hy
    rcases List.mem_append.1 hy with hy | hy
    ·exact h4 y hy
    ·rw [List.mem_singleton.1 hy]
     exact ⟨hd1.1.1.1.2, hd1.1.1.2, by rw [← h2]; exact hd1.1.2, hd1.2, hd.2⟩
 ·obtain ⟨h1, h2, h3, h4⟩ := hI
  rw [List.take_of_length_le (Nat.le_refl _)] at h4
  exact ⟨_, rfl, fun _ => ⟨h1, h2, h3, ⟨h4⟩⟩⟩
theorem ZTa (s : State) : ∃ q, spec_RoomOf s = some q ∧ (q.2 = true → ZG6 s = true ∧ RoomP q.1 ∧ q.1.topo = s.topo ∧ q.1.up = s.up ∧ RunsP s) := by
 rw [ZF8]
 cases h : ZG6 s with
 | false => exact ⟨ZF2, rfl, fun h => by cases h⟩
 | true =>
  obtain ⟨q, h1, h2⟩ := ZXh h
  exact ⟨q, h1, fun h => ⟨rfl, h2 h⟩⟩
def allJobs (s : State) : List Job := s.queue ++ s.runs.map Run.job
theorem Z4c {s : State} (h : s.queue.length + s.runs.length ≤ 1048576) : spec_l06Jobs s = some (allJobs s) := by
 unfold spec_l06Jobs
 rw [Zp (by simp; omega), Option.bind_some, ZA1 (bd := ZT3) (bs := 88) (p := fun _ => true) (f := Run.job) (fun x hx i b k => rfl) (by simp; omega)]
 unfold ZS3 allJobs
 simp [List.filter_eq_self.2]
theorem Zca (s : State) : impl_State_all s = spec_l06Jobs s := rfl
def AscP (l : List Int) : Prop := ∀ (i : Nat) (x y : Int), l[i]? = some x → l[i + 1]? = some y → x < y
open Classical in
noncomputable def ascB (l : List Int) : Bool := decide (AscP l)
theorem ZZb {l : List Int} : ascB l = true ↔ AscP l := by unfold ascB; simp
theorem ZA8 {l : List Int} (hl : l.length ≤ 1048576) : impl_areAscending l = some (ascB l) := by
 unfold impl_areAscending
 have h := ZU8 (bd := ZK l) (fun (i : Nat) (_ : Unit) => ((i + 1 : Nat) : Int)) (n := l.length - 1)
  (B := fun x _ _ k => bif (match l[x]?, l[x + 1]? with | some a, some b => decide (b ≤ a) | _, _ => true) then some false else k ()) (kk := fun _ => some true) (fun i st k hi => by
   obtain ⟨a, ha⟩ : ∃ e, l[i]? = some e := ⟨_, List.getElem?_eq_getElem (by omega)⟩
   obtain ⟨b, hb⟩ : ∃ e, l[i + 1]? = some e := ⟨_, List.getElem?_eq_getElem (by omega)⟩
   have hlt : ((i + 1 : Nat) : Int) < (l.length : Int) := by omega
   simp only [ZK, hlt, decide_true, cond_true, ZPb (n := i + 1) (by omega) (by omega), Nat.add_sub_cancel, Zc, ha, hb, Option.bind_some, Zb1 (n := i + 1) (by omega)])
  (fun i st k hi => by
   have hlt : ¬ ((i + 1 : Nat) : Int) < (l.length : Int) := by omega
   simp only [ZK, hlt, decide_false, cond_false]) 9223372036854775807 0 () (by omega)
 refine h.trans ?_
 rw [ZB1 (r := some false) (p := fun (x : Nat) => match l[x]?, l[x + 1]? with | some a, some b => decide (b ≤ a) | _, _ => true) (fun x _ i k => rfl)]
 cases hany : (List.range' 0 (l.length - 1 - 0)).any (fun (x : Nat) => match l[x]?, l[x + 1]? with | some a, some b => decide (b ≤ a) | _, _ => true) with
 | true =>
  obtain ⟨x, hx, hq⟩ := List.any_eq_true.1 hany
  obtain ⟨j, hj, rfl⟩ := List.mem_range'.1 hx
  obtain ⟨a, ha⟩ : ∃ e, l[0 + 1 * j]? = some e := ⟨_, List.getElem?_eq_getElem (by omega)⟩
  obtain ⟨b, hb⟩ : ∃ e, l[0 + 1 * j + 1]? = some e := ⟨_, List.getElem?_eq_getElem (by omega)⟩
  rw [ha, hb] at hq
  have : ascB l = false := by
   rw [Bool.eq_false_iff]
   intro q
   have := ZZb.1 q _ a b ha hb
   simp at hq; omega
  rw [this]; rfl
 | false =>
  have : ascB l = true := ZZb.2 fun i x y hx hy => by
   have hlt := (List.getElem?_eq_some_iff.1 hy).1
   have := List.any_eq_false.1 hany i (List.mem_range'.2 ⟨i, by omega, by omega⟩)
   rw [hx, hy] at this
   simpa using this
  rw [this]; rfl
noncomputable def lowN (t : Topo) (l : List Int) : Nat := ((spec_Lowest t l).getD 0).toNat
theorem Zhm {t : Topo} {l : List Int} (h : Zj1 t l = true) (hne : l ≠ []) : lowN t l < t.parents.length ∧ spec_Lowest t l = some (lowN t l : Int) ∧ impl_Lowest t l = some (lowN t l : Int) := by
 obtain ⟨s, h1, h2, h3⟩ := ZKk h hne
 have : lowN t l = s := by unfold lowN; rw [h2]; simp
 rw [this]; exact ⟨h1, h2, h3⟩
def isUp (s : State) (n : Int) : Bool := (idx s.up n).getD false
noncomputable def runFit (s : State) (x : Run) : Bool := x.nodes.all (isUp s) && ascB x.nodes && decide (lev s.topo (lowN s.topo x.nodes) ≤ x.job.level)
def endOk (s : State) (e : End) : Bool := (decide (1 ≤ e.id) && decide (e.id ≤ 999)) && (decide (0 ≤ e.t) && decide (e.t ≤ s.now)) && (decide (1 ≤ e.why) && decide (e.why ≤ 4))
noncomputable def stateOk (s : State) : Bool := ((spec_RoomOf s).getD ZF2).2 && (decide (0 ≤ s.depth) && decide (s.depth ≤ 60)) && queueOk (allJobs s) && decide (s.ends.length ≤ 300) && s.runs.all (runFit s) && s.ends.all (endOk s)
theorem ZWj {a b : Int} : decide (b < a) = !decide (a ≤ b) := by rw [Bool.eq_iff_iff]; simp
theorem ZFj {s : State} (_ : TopoP s.topo) (hu : s.up.length = s.topo.nodes.length) (hR : RunsP s) {x : Run} (hx : x ∈ s.runs) :
  x.nodes ≠ [] ∧ Zj1 s.topo x.nodes = true ∧ x.nodes.length ≤ 24 ∧ ∀ n ∈ x.nodes, ∃ b, idx s.up n = some b := by
 obtain ⟨h1, h2, h3, _, _⟩ := hR.job x hx
 have hj := (ZY7.1 h1).2.2.1
 refine ⟨fun e => by rw [e] at h2; simp at h2; omega, h3, by omega, fun n hn => ?_⟩
 have := (Zl3.1 h3).2 n hn
 obtain ⟨b, q, _⟩ := Z0j (l := s.up) (i := n) this.1 (by rw [hu]; exact this.2)
 exact ⟨b, q⟩
theorem Zph {s : State} (hT : TopoP s.topo) (hu : s.up.length = s.topo.nodes.length) (hR : RunsP s) {x : Run} (hx : x ∈ s.runs) (k : Unit → Option Bool) (i : Nat) : Zg2 s x i () k = bif !runFit s x then some false else k () := by
 obtain ⟨h1, h2, h3, h4⟩ := ZFj hT hu hR hx
 obtain ⟨l1, l2, l3⟩ := Zhm h2 h1
 unfold Zg2
 have hk : ZP s x k () = bif decide (lev s.topo (lowN s.topo x.nodes) ≤ x.job.level) then k () else some false := by
  unfold ZP
  rw [l2, Option.bind_some, Zy2 hT l1, Option.bind_some, ZWj]
  cases decide (lev s.topo (lowN s.topo x.nodes) ≤ x.job.level) <;> rfl
 have : rgl (Zh2 s x) (ZP s x k) x.nodes 0 () = bif x.nodes.all (isUp s) && ascB x.nodes then ZP s x k () else some false := by
  refine ZC2 (fun i (_ : Unit) => (∀ j n, j < i → x.nodes[j]? = some n → isUp s n = true) ∧ ∀ j a b, j + 1 < i → x.nodes[j]? = some a → x.nodes[j + 1]? = some b → a < b) (fun o => o = bif x.nodes.all (isUp s) && ascB x.nodes then ZP s x k () else some false) (fun i n b kc hi hI hkc => ?_) (fun b hI => ?_) ⟨fun j n h => by omega, fun j a b h => by omega⟩
  ·have hil := (List.getElem?_eq_some_iff.1 hi).1
   obtain ⟨u, hu'⟩ := h4 n (List.mem_of_getElem? hi)
   have hup : isUp s n = u := by unfold isUp; rw [hu']; rfl
   unfold Zh2
   rw [hu', Option.bind_some]
   cases u with
   | false =>
    have : x.nodes.all (isUp s) = false := List.all_eq_false.2 ⟨n, List.mem_of_getElem? hi, by rw [hup]; simp⟩
    rw [this]; rfl
   | true =>
    have new : ∀ j m, j < i + 1 → x.nodes[j]? = some m → isUp s m = true := by
     intro j m hj hm
     by_cases e : j = i
     ·subst e; rw [hi] at hm; cases hm; exact hup
     ·exact hI.1 j m (by omega) hm
    by_cases h0 : i = 0
    ·subst h0
     exact hkc () ⟨new, fun j a b hj => by omega⟩
    ·have hgt : decide ((0 : Int) < (i : Int)) = true := by simp; omega
     obtain ⟨q, hq⟩ : ∃ q, x.nodes[i - 1]? = some q := ⟨_, List.getElem?_eq_getElem (by omega)⟩
     rw [hgt, ZPb (by omega) (by omega)]
     simp only [Bool.not_true, cond_false, cond_true, Bool.false_or, Bool.true_and, Zc, hq, Option.bind_some]
     by_cases h5 : n ≤ q
     ·have : ascB x.nodes = false := by
       rw [Bool.eq_false_iff]
       intro w
       have := ZZb.1 w (i - 1) q n hq (by rw [show i - 1 + 1 = i by omega]; exact hi)
       omega
      rw [this, Bool.and_false]; simp [h5]
     ·simp only [h5, decide_false, cond_false]
      refine hkc () ⟨new, fun j a b hj ha hb => ?_⟩
      by_cases e : j + 1 = i
      ·have : j = i - 1 := by omega
       subst this
       rw [hq] at ha; cases ha
       rw [show i - 1 + 1 = i by omega, hi] at hb; cases hb
       omega
      ·exact hI.2 j a b (by omega) ha hb
  ·have e1 : x.nodes.all (isUp s) = true := List.all_eq_true.2 fun n hn => by
    obtain ⟨j, hj⟩ := List.getElem?_of_mem hn
    exact hI.1 j n (List.getElem?_eq_some_iff.1 hj).1 hj
   have e2 : ascB x.nodes = true := ZZb.2 fun j a b ha hb => hI.2 j a b (List.getElem?_eq_some_iff.1 hb).1 ha hb
   rw [e1, e2]; rfl
 rw [this, hk]
 unfold runFit
 cases x.nodes.all (isUp s) <;> cases ascB x.nodes <;> cases decide (lev s.topo (lowN s.topo x.nodes) ≤ x.job.level) <;> rfl
theorem impl_run {s : State} (hT : TopoP s.topo) (hu : s.up.length = s.topo.nodes.length) (hR : RunsP s) {x : Run} (hx : x ∈ s.runs) (k : Unit → Option Bool) (i : Nat) : Zp2 s x i () k = bif !runFit s x then some false else k () := by
 obtain ⟨h1, h2, h3, h4⟩ := ZFj hT hu hR hx
 obtain ⟨l1, l2, l3⟩ := Zhm h2 h1
 unfold Zp2
 rw [ZB1 (r := some false) (p := fun n => !isUp s n) (fun n hn i k => by
  obtain ⟨u, hu'⟩ := h4 n hn
  unfold Z74 isUp
  rw [hu', Option.bind_some]; rfl), ← List.not_all_eq_any_not]
 unfold Z64
 rw [ZA8 (by omega), Option.bind_some]
 unfold runFit
 cases x.nodes.all (isUp s) with
 | false => rfl
 | true =>
 cases ascB x.nodes with
 | false => rfl
 | true =>
  simp only [Bool.not_true, cond_false, l3, Option.bind_some, Z65 hT l1, Bool.false_or, Bool.true_and, ZWj]
theorem Zw8 {s : State} (hs : s.queue.length + s.runs.length ≤ 1048576) : spec_StateOk s = some (stateOk s) ∧ impl_StateOk s = some (stateOk s) := by
 obtain ⟨q, h1, h2⟩ := ZTa s
 unfold spec_StateOk impl_StateOk stateOk
 rw [Zlg, h1, Option.bind_some, Option.bind_some, Zca, Z4c hs, Option.getD_some]
 have e1 : (decide (s.depth < 0) || decide (60 < s.depth)) = !(decide (0 ≤ s.depth) && decide (s.depth ≤ 60)) := by rw [Bool.eq_iff_iff]; simp
 have e2 : impl_within s.depth 0 60 = (decide (0 ≤ s.depth) && decide (s.depth ≤ 60)) := rfl
 have e3 : decide ((300 : Int) < (s.ends.length : Int)) = !decide (s.ends.length ≤ 300) := by rw [Bool.eq_iff_iff]; simp; omega
 rw [Bool.or_assoc, e1, e2, e3]
 cases hq : q.2 with
 | false => exact ⟨rfl, rfl⟩
 | true =>
 obtain ⟨a1, a2, a3, a4, a5⟩ := h2 hq
 have hT : TopoP s.topo := by rw [← a3]; exact a2.topo
 have hu : s.up.length = s.topo.nodes.length := by rw [← a3, ← a4]; exact a2.up
 cases (decide (0 ≤ s.depth) && decide (s.depth ≤ 60)) with
 | false => exact ⟨rfl, rfl⟩
 | true =>
 simp only [Bool.not_true, Bool.or_self, cond_false, Option.bind_some, Zac, ZGd, Bool.false_or, Bool.true_and]
 cases queueOk (allJobs s) with
 | false => exact ⟨rfl, rfl⟩
 | true =>
 cases decide (s.ends.length ≤ 300) with
 | false => exact ⟨rfl, rfl⟩
 | true =>
 simp only [Bool.not_true, Bool.or_self, cond_false, Bool.true_and]
 rw [ZB1 (r := some false) (p := fun x => !runFit s x) (fun x hx i k => Zph hT hu a5 hx k i), ZB1 (r := some false) (p := fun x => !runFit s x) (fun x hx i k => impl_run hT hu a5 hx k i), ← List.not_all_eq_any_not]
 unfold ZY3 Z54
 have f1 : ∀ e : End, ((((((decide (e.id < 1)) || (decide (999 < e.id))) || (decide (e.t < 0))) || (decide (s.now < e.t))) || (decide (e.why < 1))) || (decide (4 < e.why))) = !endOk s e := by
  intro e; unfold endOk; rw [Bool.eq_iff_iff]; simp; omega
 have f2 : ∀ e : End, (((!(impl_within e.id 1 999)) || (!(impl_within e.t 0 s.now))) || (!(impl_within e.why 1 4))) = !endOk s e := by
  intro e; unfold endOk impl_within
  cases (decide (1 ≤ e.id) && decide (e.id ≤ 999)) <;> cases (decide (0 ≤ e.t) && decide (e.t ≤ s.now)) <;> cases (decide (1 ≤ e.why) && decide (e.why ≤ 4)) <;> rfl
 rw [ZB1 (bd := Zf2 s) (r := some false) (p := fun e => !endOk s e) (fun e he i k => by unfold Zf2; rw [f1]), ZB1 (bd := Zo2 s) (r := some false) (p := fun e => !endOk s e) (fun e he i k => by unfold Zo2; rw [f2]), ← List.not_all_eq_any_not]
 unfold ZX3 Z44
 cases s.runs.all (runFit s) <;> cases s.ends.all (endOk s) <;> exact ⟨rfl, rfl⟩
def Zad : L :=
.seq (.reg [.bx 2 (.t 0),.bx 3 (.t 1),.mv 4 (cB false)])
 (.seq (.seq (.reg [fA 7 2 9,lD 8 7 1 false,.ln 9 (.t 8),.mv 10 (kI 0)])
 (.blk 0 (.loop (.gw (.seq (.reg [bI 11 .lss 10 9])
 (.seq (.cond (.t 11) (.skip)
 (.exit 0))
 (.seq (.blk 1 (.seq (.reg [iA 12 8 10 13,lD 13 12 13 true,.al 6 [.int .i64 0, .int .i64 0, .int .i64 0, .int .i64 0, .int .i64 0, .int .i64 0, .int .i64 0, .int .i64 0, .int .i64 0, .int .i64 0, .int .i64 0, .int .i64 0, .nl],.st (.t 6) (.t 13) 13])
 (.seq (.reg [fA 14 6 0,fA 15 14 0,lD 16 15 1 false,fA 17 3 0,fA 18 17 0,lD 19 18 1 false,bI 20 .eql 16 19,mV 21 20,.g 21 true (fA 22 6 11),.g 21 true (lD 23 22 1 false),.g 21 true (fA 24 3 11),.g 21 true (lD 25 24 1 false),.g 21 true (bI 26 .eql 23 25),.pk 27 (.t 21) (.t 26) (cB false)])
 (.cond (.t 27) (.seq (rE 4 (cB true))
 (.gw (.ret)))
 (.skip)))))
 (.reg [.bi 28 .add (.t 10) (kI 1),mV 10 28]))))))))
 (.seq (rE 4 (cB false))
 (.gw (.ret))))
def Zhc : List Rv := [.t 4]
theorem ZRd : chkFn Tryz.prog Zd6 2 Zad Zhc = true := by kernel_rfl
def Zi7 (x2 : Run) (x4 : Run) (_ : Nat) (_ : Unit) (k4 : Unit → Option Bool) : Option Bool :=
 bif ((x4.job.id == x2.job.id) && (x4.t == x2.t)) then (some true) else (k4 ())
def Zh7 (_ : Unit) : Option Bool :=
 some false
def spec_l17Runs (s1 : State) (x2 : Run) : Option Bool :=
 rgl (Zi7 x2) Zh7 s1.runs 0 ()
theorem Z2c {s1 : State} {x2 : Run} {r : Bool} (H : spec_l17Runs s1 x2 = some r) : Snd Tryz.prog Zd6 [Zb .rd s1, eRunT .rd x2] (.bool r) [] := by
 refine snd_g ZRd rfl (by simp) ?_
 unfold spec_l17Runs at H
 refine Wh_go 99 [.u 9 (.ln _ _ fun _ => lm s1.runs (eRunT .rd))] (by kernel_rfl) fun q3 => ?_
 refine Zg (fun (i4 : Nat) (v4 : Unit) => ⟨[(3, .ptr 3 0), (8, .sl .rd 13 (s1.runs.map (eRunT .rd))), (9, .int .i64 (s1.runs.length : Int)), (10, .int .i64 (i4 : Int))], [], [(3, (eRunT .rd x2).cells)], []⟩) [] [] [] [] (by kernel_rfl) (by kernel_rfl) H (fun i4 x4 v4 I m k4 hxv4 hiv4 H N20 => ?_) (fun v4 I m H => ?_)
 ·unfold Zi7 at H
  refine Wh_o fun _ => ?_
  refine Zh (ltT hiv4) (by kernel_rfl) ?_
  refine Wh_go 99 [.u 12 (.ix _ _ _ fun _ => Z1 (eRunT .rd) (Z7 hxv4))] (by kernel_rfl) fun _ => ?_
  refine Wh_iH H (fun H => ?_) fun H => ?_
  ·refine Wh_o fun _ => ?_
   replace H := sI H; subst H
   exact Z0 [(4, .d)] [] [] [] [] [] (by kernel_rfl)
  ·refine Wh_go 99 [.w 28 (wi .i64 rfl hiv4 q3.1)] (by kernel_rfl) fun _ => ?_
   exact Wh_to (N20 () H) [] [] [] [] (by kernel_rfl) (by kernel_rfl)
 ·unfold Zh7 at H
  refine Wh_o fun _ => ?_
  refine Zi (ltF s1.runs.length) (by kernel_rfl) ?_
  refine Wh_o fun _ => ?_
  replace H := sI H; subst H
  exact Z0 [(4, .d)] [] [] [] [] [] (by kernel_rfl)
def Znd : L :=
.seq (.reg [.bx 2 (.t 0),.bx 3 (.t 1),.mv 4 (.c (.nl))])
 (.seq (.reg [.bs 11 7 [] true,mV 5 11])
 (.seq (.seq (.reg [lD 12 2 11 true,cQ 13 ZF3 [12],.un 14 (.t 13),mV 15 14,.g 15 false (lD 16 3 11 true),.g 15 false (cQ 17 ZF3 [16]),.g 15 false (.un 18 (.t 17)),.pk 19 (.t 15) (cB true) (.t 18),mV 20 19,.g 20 false (fA 21 3 7),.g 20 false (lD 22 21 1 false),.g 20 false (fA 23 2 7),.g 20 false (lD 24 23 1 false),.g 20 false (bI 25 .lss 22 24),.pk 26 (.t 20) (cB true) (.t 25)])
 (.cond (.t 26) (.seq (.reg [mV 27 5,mV 4 27])
 (.gw (.ret)))
 (.skip)))
 (.seq (.seq (.reg [fA 28 2 9,lD 29 28 1 false,.ln 30 (.t 29),.mv 31 (kI 0)])
 (.blk 0 (.loop (.gw (.seq (.reg [bI 32 .lss 31 30])
 (.seq (.cond (.t 32) (.skip)
 (.exit 0))
 (.seq (.blk 1 (.seq (.reg [iA 33 29 31 13,lD 34 33 13 true,.al 7 [.int .i64 0, .int .i64 0, .int .i64 0, .int .i64 0, .int .i64 0, .int .i64 0, .int .i64 0, .int .i64 0, .int .i64 0, .int .i64 0, .int .i64 0, .int .i64 0, .nl],.st (.t 7) (.t 34) 13])
 (.seq (.seq (.reg [lD 35 3 11 true,lD 36 7 13 true,cQ 37 Zd6 [35, 36]])
 (.cond (.t 37) (.exit 1)
 (.skip)))
 (.seq (.reg [fA 38 3 7,lD 39 38 1 false,mV 8 39])
 (.seq (.seq (.reg [fA 40 3 10,lD 41 40 1 false,.ln 42 (.t 41),.mv 43 (kI 0)])
 (.blk 2 (.loop (.gw (.seq (.reg [bI 44 .lss 43 42])
 (.seq (.cond (.t 44) (.skip)
 (.exit 2))
 (.seq (.blk 3 (.seq (.reg [iA 45 41 43 3,lD 46 45 3 true,.al 10 [.int .i64 0, .int .i64 0, .int .i64 0],.st (.t 10) (.t 46) 3])
 (.seq (.reg [fA 47 10 0,lD 48 47 1 false,fA 49 7 0,fA 50 49 0,lD 51 50 1 false,bI 52 .eql 48 51])
 (.cond (.t 52) (.reg [fA 53 10 1,lD 54 53 1 false,mV 8 54])
 (.skip)))))
 (.reg [.bi 55 .add (.t 43) (kI 1),mV 43 55]))))))))
 (.reg [mV 56 5,fA 57 7 0,fA 58 57 0,lD 59 58 1 false,fA 60 7 11,lD 61 60 1 false,mV 62 8,fA 63 7 0,fA 64 63 2,lD 65 64 1 false,fA 66 7 0,fA 67 66 3,lD 68 67 3 true,.bd 69 [.int .i64 0, .int .i64 0, .int .i64 0, .int .i64 0, .int .i64 0, .int .i64 0, .int .i64 0] [(0, 1, (.t 59)), (1, 1, (.t 61)), (2, 1, (.t 62)), (3, 1, (.t 65)), (4, 3, (.t 68))],.bs 70 7 [(.t 69)] false,.ap 71 (.t 56) (.t 70) 7 56,mV 5 71]))))))
 (.reg [.bi 72 .add (.t 31) (kI 1),mV 31 72]))))))))
 (.seq (.reg [mV 73 5,mV 4 73])
 (.gw (.ret))))))
def Zuc : List Rv := [.t 4]
theorem Z4e : chkFn Tryz.prog Zi6 2 Znd Zuc = true := by kernel_rfl
def Zi2 (x6 : Run) (x9 : End) (_ : Nat) (v9 : Int) (k9 : Int → Option (List Bill)) : Option (List Bill) :=
 bif (x9.id == x6.job.id) then (k9 x9.t) else (k9 v9)
def Z34 (v6 : (List Bill)) (x6 : Run) (k6 : (List Bill) → Option (List Bill)) (v9 : Int) : Option (List Bill) :=
 (appL 56 v6 [(Bill.mk x6.job.id x6.t v9 x6.job.nodes x6.job.need)]).bind fun xs10 => k6 xs10
def Zx1 (b2 : State) (x6 : Run) (_ : Nat) (v6 : (List Bill)) (k6 : (List Bill) → Option (List Bill)) : Option (List Bill) :=
 (spec_l17Runs b2 x6).bind fun b7 => bif b7 then (k6 v6) else (rgl (Zi2 x6) (Z34 v6 x6 k6) b2.ends 0 b2.now)
def Z24 (v6 : (List Bill)) : Option (List Bill) :=
 some v6
def spec_BillsOf (a1 : State) (b2 : State) : Option (List Bill) :=
 (spec_StateOk a1).bind fun b3 => (bif (!b3) then some default else (spec_StateOk b2)).bind fun b4 => bif (((!b3) || (!b4)) || (decide (b2.now < a1.now))) then (some []) else (rgl (Zx1 b2) Z24 a1.runs 0 [])
theorem Zec {a1 : State} {b2 : State} {r : (List Bill)} (H : spec_BillsOf a1 b2 = some r) : Snd Tryz.prog Zi6 [Zb .rd a1, Zb .rd b2] (.sl .nw 7 (r.map eBill)) [] := by
 refine snd_g Z4e rfl (by simp) ?_
 unfold spec_BillsOf at H
 obtain ⟨b3, h3, H⟩ := bB H
 obtain ⟨b4, h4, H⟩ := bB H
 refine Wh_go 99 [.c 13 (ZK7 h3), .g 17 [(_, false)] (.call _ _ _ _ _ (AEs.refl _) (fun q => ZK7 (bF q.1 h4)))] (by kernel_rfl) fun _ => ?_
 refine Wh_iH H (fun H => ?_) fun H => ?_
 ·refine Wh_o fun _ => ?_
  replace H := sI H; subst H
  exact Z0 [(4, .f)] [] [] [11] [] [⟨_, ZCk ([] : List Bill)⟩] (by kernel_rfl)
 ·refine Wh_go 99 [.u 30 (.ln _ _ fun _ => lm a1.runs (eRunT .rd))] (by kernel_rfl) fun q5 => ?_
  refine Zg (fun (i6 : Nat) (v6 : (List Bill)) => ⟨[(3, .ptr 3 0), (5, .sref 11), (29, .sl .rd 13 (a1.runs.map (eRunT .rd))), (30, .int .i64 (a1.runs.length : Int)), (31, .int .i64 (i6 : Int))], [], [(3, (Zb .rd b2).cells)], [(11, ⟨7, v6.map eBill, false⟩)]⟩) [] [] [] [] (by kernel_rfl) (by kernel_rfl) H (fun i6 x6 v6 I m k6 hxv6 hiv6 H N51 => ?_) (fun v6 I m H => ?_)
  ·unfold Zx1 at H
   refine Wh_o fun _ => ?_
   refine Zh (ltT hiv6) (by kernel_rfl) ?_
   obtain ⟨b7, h7, H⟩ := bB H
   refine Wh_go 99 [.u 33 (.ix _ _ _ fun _ => Z1 (eRunT .rd) (Z7 hxv6)), .c 37 (Z2c h7)] (by kernel_rfl) fun _ => ?_
   refine Wh_iH H (fun H => ?_) fun H => ?_
   ·refine Wh_go 99 [.w 72 (wi .i64 rfl hiv6 q5.1)] (by kernel_rfl) fun _ => ?_
    exact Wh_to (N51 _ H) [] [] [] [] (by kernel_rfl) (by kernel_rfl)
   ·refine Wh_go 99 [.u 42 (.ln _ _ fun _ => lm b2.ends eEnd)] (by kernel_rfl) fun q8 => ?_
    refine Zg (fun (i9 : Nat) (v9 : Int) => ⟨[(3, .ptr 3 0), (5, .sref 11), (7, .ptr 7 0), (8, .int .i64 v9), (29, .sl .rd 13 (a1.runs.map (eRunT .rd))), (30, .int .i64 (a1.runs.length : Int)), (31, .int .i64 (i6 : Int)), (41, .sl .rd 3 (b2.ends.map eEnd)), (42, .int .i64 (b2.ends.length : Int)), (43, .int .i64 (i9 : Int))], [], [(3, (Zb .rd b2).cells), (7, (eRunT .rd x6).cells)], [(11, ⟨7, v6.map eBill, false⟩)]⟩) [] [] [] [] (by kernel_rfl) (by kernel_rfl) H (fun i9 x9 v9 I m k9 hxv9 hiv9 H N38 => ?_) (fun v9 I m H => ?_)
    ·unfold Zi2 at H
     refine Wh_o fun _ => ?_
     refine Zh (ltT hiv9) (by kernel_rfl) ?_
     refine Wh_go 99 [.u 45 (.ix _ _ _ fun _ => Z1 eEnd (Z7 hxv9))] (by kernel_rfl) fun _ => ?_
     refine Wh_iH H (fun H => ?_) fun H => ?_
     ·refine Wh_go 99 [.w 55 (wi .i64 rfl hiv9 q8.1)] (by kernel_rfl) fun _ => ?_
      exact Wh_to (N38 _ H) [] [] [] [] (by kernel_rfl) (by kernel_rfl)
     ·refine Wh_go 99 [.w 55 (wi .i64 rfl hiv9 q8.1)] (by kernel_rfl) fun _ => ?_
      exact Wh_to (N38 _ H) [] [] [] [] (by kernel_rfl) (by kernel_rfl)
    ·unfold Z34 at H
     refine Wh_o fun _ => ?_
     refine Zi (ltF b2.ends.length) (by kernel_rfl) ?_
     obtain ⟨xs10, h10, H⟩ := bB H
     refine Wh_go 99 [.u 71 (.ap _ _ _ _ fun _ => Zm eBill h10), .w 72 (wi .i64 rfl hiv6 q5.1)] (by kernel_rfl) fun _ => ?_
     exact Wh_to (N51 _ H) [] [] [] [] (by kernel_rfl) (by kernel_rfl)
  ·unfold Z24 at H
   refine Wh_o fun _ => ?_
   refine Zi (ltF a1.runs.length) (by kernel_rfl) ?_
   refine Wh_o fun _ => ?_
   replace H := sI H; subst H
   exact Z0 [(4, .f)] [] [] [11] [] [⟨_, ZCk v6⟩] (by kernel_rfl)
def ZBd : L :=
.seq (.reg [.bx 2 (.t 0),.bx 3 (.t 1),.mv 4 (.c (.nl))])
 (.seq (.seq (.reg [lD 14 2 11 true,cQ 15 ZJ3 [14],.un 16 (.t 15),mV 17 16,.g 17 false (lD 18 3 11 true),.g 17 false (cQ 19 ZJ3 [18]),.g 17 false (.un 20 (.t 19)),.pk 21 (.t 17) (cB true) (.t 20),mV 22 21,.g 22 false (fA 23 3 7),.g 22 false (lD 24 23 1 false),.g 22 false (fA 25 2 7),.g 22 false (lD 26 25 1 false),.g 22 false (bI 27 .lss 24 26),.pk 28 (.t 22) (cB true) (.t 27)])
 (.cond (.t 28) (.seq (.reg [.mv 4 (.c (.nl))])
 (.gw (.ret)))
 (.skip)))
 (.seq (.reg [.bs 29 7 [] true,mV 5 29])
 (.seq (.seq (.reg [fA 30 2 9,lD 31 30 1 false,.ln 32 (.t 31),.mv 33 (kI 0)])
 (.blk 0 (.loop (.gw (.seq (.reg [bI 34 .lss 33 32])
 (.seq (.cond (.t 34) (.skip)
 (.exit 0))
 (.seq (.blk 1 (.seq (.reg [iA 35 31 33 13,lD 36 35 13 true,.al 7 [.int .i64 0, .int .i64 0, .int .i64 0, .int .i64 0, .int .i64 0, .int .i64 0, .int .i64 0, .int .i64 0, .int .i64 0, .int .i64 0, .int .i64 0, .int .i64 0, .nl],.st (.t 7) (.t 36) 13])
 (.seq (rE 8 (cB false))
 (.seq (.seq (.reg [fA 37 3 9,lD 38 37 1 false,.ln 39 (.t 38),.mv 40 (kI 0)])
 (.blk 2 (.loop (.gw (.seq (.reg [bI 41 .lss 40 39])
 (.seq (.cond (.t 41) (.skip)
 (.exit 2))
 (.seq (.blk 3 (.seq (.reg [iA 42 38 40 13,lD 43 42 13 true,.al 10 [.int .i64 0, .int .i64 0, .int .i64 0, .int .i64 0, .int .i64 0, .int .i64 0, .int .i64 0, .int .i64 0, .int .i64 0, .int .i64 0, .int .i64 0, .int .i64 0, .nl],.st (.t 10) (.t 43) 13])
 (.reg [mV 44 8,mV 45 44,.g 45 false (fA 46 10 0),.g 45 false (fA 47 46 0),.g 45 false (lD 48 47 1 false),.g 45 false (fA 49 7 0),.g 45 false (fA 50 49 0),.g 45 false (lD 51 50 1 false),.g 45 false (bI 52 .eql 48 51),.g 45 false (mV 53 52),.g 53 true (fA 54 10 11),.g 53 true (lD 55 54 1 false),.g 53 true (fA 56 7 11),.g 53 true (lD 57 56 1 false),.g 53 true (bI 58 .eql 55 57),.g 45 false (.pk 59 (.t 53) (.t 58) (cB false)),.pk 60 (.t 45) (cB true) (.t 59),mV 8 60])))
 (.reg [.bi 61 .add (.t 40) (kI 1),mV 40 61]))))))))
 (.seq (.seq (.reg [mV 62 8])
 (.cond (.t 62) (.exit 1)
 (.skip)))
 (.seq (.reg [fA 63 3 7,lD 64 63 1 false,mV 11 64])
 (.seq (.seq (.reg [fA 65 3 10,lD 66 65 1 false,.ln 67 (.t 66),.mv 68 (kI 0)])
 (.blk 4 (.loop (.gw (.seq (.reg [bI 69 .lss 68 67])
 (.seq (.cond (.t 69) (.skip)
 (.exit 4))
 (.seq (.blk 5 (.seq (.reg [iA 70 66 68 3,lD 71 70 3 true,.al 13 [.int .i64 0, .int .i64 0, .int .i64 0],.st (.t 13) (.t 71) 3])
 (.seq (.reg [fA 72 13 0,lD 73 72 1 false,fA 74 7 0,fA 75 74 0,lD 76 75 1 false,bI 77 .eql 73 76])
 (.cond (.t 77) (.reg [fA 78 13 1,lD 79 78 1 false,mV 11 79])
 (.skip)))))
 (.reg [.bi 80 .add (.t 68) (kI 1),mV 68 80]))))))))
 (.reg [mV 81 5,fA 82 7 0,fA 83 82 0,lD 84 83 1 false,fA 85 7 11,lD 86 85 1 false,mV 87 11,fA 88 7 0,fA 89 88 2,lD 90 89 1 false,fA 91 7 0,fA 92 91 3,lD 93 92 3 true,.bd 94 [.int .i64 0, .int .i64 0, .int .i64 0, .int .i64 0, .int .i64 0, .int .i64 0, .int .i64 0] [(0, 1, (.t 84)), (1, 1, (.t 86)), (2, 1, (.t 87)), (3, 1, (.t 90)), (4, 3, (.t 93))],.bs 95 7 [(.t 94)] false,.ap 96 (.t 81) (.t 95) 7 56,mV 5 96]))))))))
 (.reg [.bi 97 .add (.t 33) (kI 1),mV 33 97]))))))))
 (.seq (.reg [mV 98 5,mV 4 98])
 (.gw (.ret))))))
def ZIc : List Rv := [.t 4]
theorem Zie : chkFn Tryz.prog ZK3 2 ZBd ZIc = true := by kernel_rfl
def Zz7 (x6 : Run) (x10 : End) (_ : Nat) (v10 : Int) (k10 : Int → Option (List Bill)) : Option (List Bill) :=
 bif (x10.id == x6.job.id) then (k10 x10.t) else (k10 v10)
def Zy7 (v6 : (List Bill)) (x6 : Run) (k6 : (List Bill) → Option (List Bill)) (v10 : Int) : Option (List Bill) :=
 (appL 56 v6 [(Bill.mk x6.job.id x6.t v10 x6.job.nodes x6.job.need)]).bind fun xs11 => k6 xs11
def Zc4 (x6 : Run) (x8 : Run) (_ : Nat) (v8 : Bool) (k8 : Bool → Option (List Bill)) : Option (List Bill) :=
 k8 (v8 || ((x8.job.id == x6.job.id) && (x8.t == x6.t)))
def Zb4 (b2 : State) (v6 : (List Bill)) (x6 : Run) (k6 : (List Bill) → Option (List Bill)) (v8 : Bool) : Option (List Bill) :=
 bif v8 then (k6 v6) else (rgl (Zz7 x6) (Zy7 v6 x6 k6) b2.ends 0 b2.now)
def Zy1 (b2 : State) (x6 : Run) (_ : Nat) (v6 : (List Bill)) (k6 : (List Bill) → Option (List Bill)) : Option (List Bill) :=
 rgl (Zc4 x6) (Zb4 b2 v6 x6 k6) b2.runs 0 false
def Za4 (v6 : (List Bill)) : Option (List Bill) :=
 some v6
def impl_BillsOf (a1 : State) (b2 : State) : Option (List Bill) :=
 (impl_StateOk a1).bind fun b3 => (bif (!b3) then some default else (impl_StateOk b2)).bind fun b4 => bif (((!b3) || (!b4)) || (decide (b2.now < a1.now))) then (some []) else (rgl (Zy1 b2) Za4 a1.runs 0 [])
theorem Z58 {a1 : State} {b2 : State} {r : (List Bill)} (H : impl_BillsOf a1 b2 = some r) : Snd Tryz.prog ZK3 [Zb .rd a1, Zb .rd b2] (.sref 0) [⟨7, r.map eBill, false⟩] := by
 refine snd_g Zie rfl (by simp) ?_
 unfold impl_BillsOf at H
 obtain ⟨b3, h3, H⟩ := bB H
 obtain ⟨b4, h4, H⟩ := bB H
 refine Wh_go 99 [.c 15 (Z08 h3), .g 19 [(_, false)] (.call _ _ _ _ _ (AEs.refl _) (fun q => Z08 (bF q.1 h4)))] (by kernel_rfl) fun _ => ?_
 refine Wh_iH H (fun H => ?_) fun H => ?_
 ·refine Wh_o fun _ => ?_
  replace H := sI H; subst H
  exact Z0 [(4, .d)] [] [] [] [none] [] (by kernel_rfl)
 ·refine Wh_go 99 [.u 32 (.ln _ _ fun _ => lm a1.runs (eRunT .rd))] (by kernel_rfl) fun q5 => ?_
  refine Zg (fun (i6 : Nat) (v6 : (List Bill)) => ⟨[(3, .ptr 3 0), (5, .sref 29), (31, .sl .rd 13 (a1.runs.map (eRunT .rd))), (32, .int .i64 (a1.runs.length : Int)), (33, .int .i64 (i6 : Int))], [], [(3, (Zb .rd b2).cells)], [(29, ⟨7, v6.map eBill, false⟩)]⟩) [] [] [] [] (by kernel_rfl) (by kernel_rfl) H (fun i6 x6 v6 I m k6 hxv6 hiv6 H N70 => ?_) (fun v6 I m H => ?_)
  ·unfold Zy1 at H
   refine Wh_o fun _ => ?_
   refine Zh (ltT hiv6) (by kernel_rfl) ?_
   refine Wh_go 99 [.u 35 (.ix _ _ _ fun _ => Z1 (eRunT .rd) (Z7 hxv6)), .u 39 (.ln _ _ fun _ => lm b2.runs (eRunT .rd))] (by kernel_rfl) fun q7 => ?_
   refine Zg (fun (i8 : Nat) (v8 : Bool) => ⟨[(3, .ptr 3 0), (5, .sref 29), (7, .ptr 7 0), (8, .bool v8), (31, .sl .rd 13 (a1.runs.map (eRunT .rd))), (32, .int .i64 (a1.runs.length : Int)), (33, .int .i64 (i6 : Int)), (38, .sl .rd 13 (b2.runs.map (eRunT .rd))), (39, .int .i64 (b2.runs.length : Int)), (40, .int .i64 (i8 : Int))], [], [(3, (Zb .rd b2).cells), (7, (eRunT .rd x6).cells)], [(29, ⟨7, v6.map eBill, false⟩)]⟩) [] [] [] [] (by kernel_rfl) (by kernel_rfl) H (fun i8 x8 v8 I m k8 hxv8 hiv8 H N29 => ?_) (fun v8 I m H => ?_)
   ·unfold Zc4 at H
    refine Wh_o fun _ => ?_
    refine Zh (ltT hiv8) (by kernel_rfl) ?_
    refine Wh_go 99 [.u 42 (.ix _ _ _ fun _ => Z1 (eRunT .rd) (Z7 hxv8)), .w 61 (wi .i64 rfl hiv8 q7.1)] (by kernel_rfl) fun _ => ?_
    exact Wh_to (N29 _ H) [] [] [] [] (by kernel_rfl) (by kernel_rfl)
   ·unfold Zb4 at H
    refine Wh_o fun _ => ?_
    refine Zi (ltF b2.runs.length) (by kernel_rfl) ?_
    refine Wh_o fun _ => ?_
    refine Wh_iH H (fun H => ?_) fun H => ?_
    ·refine Wh_go 99 [.w 97 (wi .i64 rfl hiv6 q5.1)] (by kernel_rfl) fun _ => ?_
     exact Wh_to (N70 _ H) [] [] [] [] (by kernel_rfl) (by kernel_rfl)
    ·refine Wh_go 99 [.u 67 (.ln _ _ fun _ => lm b2.ends eEnd)] (by kernel_rfl) fun q9 => ?_
     refine Zg (fun (i10 : Nat) (v10 : Int) => ⟨[(3, .ptr 3 0), (5, .sref 29), (7, .ptr 7 0), (11, .int .i64 v10), (31, .sl .rd 13 (a1.runs.map (eRunT .rd))), (32, .int .i64 (a1.runs.length : Int)), (33, .int .i64 (i6 : Int)), (66, .sl .rd 3 (b2.ends.map eEnd)), (67, .int .i64 (b2.ends.length : Int)), (68, .int .i64 (i10 : Int))], [], [(3, (Zb .rd b2).cells), (7, (eRunT .rd x6).cells)], [(29, ⟨7, v6.map eBill, false⟩)]⟩) [] [] [] [] (by kernel_rfl) (by kernel_rfl) H (fun i10 x10 v10 I m k10 hxv10 hiv10 H N55 => ?_) (fun v10 I m H => ?_)
     ·unfold Zz7 at H
      refine Wh_o fun _ => ?_
      refine Zh (ltT hiv10) (by kernel_rfl) ?_
      refine Wh_go 99 [.u 70 (.ix _ _ _ fun _ => Z1 eEnd (Z7 hxv10))] (by kernel_rfl) fun _ => ?_
      refine Wh_iH H (fun H => ?_) fun H => ?_
      ·refine Wh_go 99 [.w 80 (wi .i64 rfl hiv10 q9.1)] (by kernel_rfl) fun _ => ?_
       exact Wh_to (N55 _ H) [] [] [] [] (by kernel_rfl) (by kernel_rfl)
      ·refine Wh_go 99 [.w 80 (wi .i64 rfl hiv10 q9.1)] (by kernel_rfl) fun _ => ?_
       exact Wh_to (N55 _ H) [] [] [] [] (by kernel_rfl) (by kernel_rfl)
     ·unfold Zy7 at H
      refine Wh_o fun _ => ?_
      refine Zi (ltF b2.ends.length) (by kernel_rfl) ?_
      obtain ⟨xs11, h11, H⟩ := bB H
      refine Wh_go 99 [.u 96 (.ap _ _ _ _ fun _ => Zm eBill h11), .w 97 (wi .i64 rfl hiv6 q5.1)] (by kernel_rfl) fun _ => ?_
      exact Wh_to (N70 _ H) [] [] [] [] (by kernel_rfl) (by kernel_rfl)
  ·unfold Za4 at H
   refine Wh_o fun _ => ?_
   refine Zi (ltF a1.runs.length) (by kernel_rfl) ?_
   refine Wh_o fun _ => ?_
   replace H := sI H; subst H
   exact Z0 [(4, .d)] [] [(29, some 29, 0)] [] [some 29] [⟨_, ZCk v6⟩] (by kernel_rfl)
def billHas (b : State) (x : Run) : Bool := b.runs.any fun y => y.job.id == x.job.id && y.t == x.t
theorem ZCl (b : State) (x : Run) : spec_l17Runs b x = some (billHas b x) := by
 unfold spec_l17Runs billHas
 rw [ZB1 (p := fun y => y.job.id == x.job.id && y.t == x.t) (r := some true) (fun y _ i k => rfl)]
 cases b.runs.any _ <;> rfl
def billTo (b : State) (x : Run) : Int := b.ends.foldl (fun v e => bif e.id == x.job.id then e.t else v) b.now
def billB (b : State) (x : Run) (_ : Nat) (v : List Bill) (k : List Bill → Option (List Bill)) : Option (List Bill) := bif billHas b x then k v else (appL 56 v [⟨x.job.id, x.t, billTo b x, x.job.nodes, x.job.need⟩]).bind k
theorem Zrk (b : State) (x : Run) (v : List Bill) (k : List Bill → Option (List Bill)) : rgl (Zi2 x) (Z34 v x k) b.ends 0 b.now = (appL 56 v [⟨x.job.id, x.t, billTo b x, x.job.nodes, x.job.need⟩]).bind k := by
 rw [ZZ4 (f := fun v e => bif e.id == x.job.id then e.t else v) (fun e _ i v k => by unfold Zi2; cases (e.id == x.job.id) <;> rfl)]
 rfl
theorem ZTl (b : State) (x : Run) (i : Nat) (v : List Bill) (k : List Bill → Option (List Bill)) : Zx1 b x i v k = billB b x i v k := by
 unfold Zx1 billB
 rw [ZCl, Option.bind_some, Zrk]
theorem Zll {α : Type} (p : α → Bool) : ∀ (l : List α) (b : Bool), l.foldl (fun v y => v || p y) b = (b || l.any p)
 | [], b => by simp
 | y :: l, b => by rw [List.foldl_cons, Zll p l, List.any_cons, Bool.or_assoc]
theorem Zrm (b : State) (x : Run) (i : Nat) (v : List Bill) (k : List Bill → Option (List Bill)) : Zy1 b x i v k = billB b x i v k := by
 unfold Zy1 billB
 rw [ZZ4 (bd := Zc4 x) (kk := Zb4 b v x k) (f := fun v (y : Run) => v || (y.job.id == x.job.id && y.t == x.t)) (fun y _ i v k => rfl), Zll]
 exact congrArg (fun o => bif billHas b x then k v else o) (Zrk b x v k)
theorem ZKl {a b : State} (ha : a.queue.length + a.runs.length ≤ 1048576) (hb : b.queue.length + b.runs.length ≤ 1048576) : ∃ l, spec_BillsOf a b = some l ∧ impl_BillsOf a b = some l ∧ l.length ≤ 1048576 := by
 have es : rgl (Zx1 b) Z24 a.runs 0 [] = rgl (billB b) some a.runs 0 [] := ZT7 (fun i x v k _ => ZTl b x i v k) fun _ => rfl
 have ei : rgl (Zy1 b) Za4 a.runs 0 [] = rgl (billB b) some a.runs 0 [] := ZT7 (fun i x v k _ => Zrm b x i v k) fun _ => rfl
 obtain ⟨l, hl, hn⟩ : ∃ l, rgl (billB b) some a.runs 0 [] = some l ∧ l.length ≤ 1048576 := by
  refine ZC2 (l0 := a.runs) (b := ([] : List Bill)) (fun i (v : List Bill) => v.length ≤ i) (fun o => ∃ l, o = some l ∧ l.length ≤ 1048576) (fun i x v k hx hI hk => ?_) (fun v hI => ⟨v, rfl, by omega⟩) (Nat.le_refl 0)
  have hi := (List.getElem?_eq_some_iff.1 hx).1
  unfold billB
  cases billHas b x with
  | true => exact hk v (by omega)
  | false =>
   rw [cond_false, Zp (by simp; omega), Option.bind_some]
   exact hk _ (by simp; omega)
 unfold spec_BillsOf impl_BillsOf
 rw [(Zw8 ha).1, (Zw8 ha).2, (Zw8 hb).1, (Zw8 hb).2, es, ei, hl]
 cases stateOk a with
 | false => exact ⟨[], rfl, rfl, by simp⟩
 | true => cases stateOk b with
  | false => exact ⟨[], rfl, rfl, by simp⟩
  | true =>
   simp only [Option.bind_some, Bool.not_true, cond_false, Bool.false_or]
   cases decide (b.now < a.now) with
   | true => exact ⟨[], rfl, rfl, by simp⟩
   | false => exact ⟨l, rfl, rfl, hn⟩
end Go.Proofs.YtndemhaoilhbbaaGreat
