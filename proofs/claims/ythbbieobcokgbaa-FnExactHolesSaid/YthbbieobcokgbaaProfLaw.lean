/-
  Plain laws of profiles: what is free at a time; the times.
-/
import Derived.Test.YthbbieobcokgbaaProf2
namespace Go.Proofs.Ythbbieobcokgbaa
open Go Go.RowKit Eng
def ptUp (x y : Pt) : Prop := x.t < y.t
theorem adj_pairwise {α : Type} {R : α → α → Prop} (ht : ∀ {x y z}, R x y → R y z → R x z) {l : List α} (h : ∀ i (hi : i + 1 < l.length), R (l[i]'(by omega)) l[i + 1]) : l.Pairwise R := by
  refine List.pairwise_iff_getElem.2 fun i j hi hj hij => ?_
  induction j with
  | zero => omega
  | succ j ih =>
    by_cases e : i = j
    · subst e; exact h i hj
    · exact ht (ih (by omega) (by omega)) (h j hj)
theorem profOk_iff {l : List Pt} : profOk l = true ↔ l.length ≤ 200 ∧ (∃ x r, l = x :: r ∧ x.t = 0) ∧ (∀ x ∈ l, time x.t = true ∧ vecOk x.free = true) ∧ l.Pairwise ptUp ∧ ∀ i (hi : i + 1 < l.length), ¬ (l[i]'(by omega)).free = l[i + 1].free := by
  constructor
  · intro h
    unfold profOk at h
    cases l with
    | nil => simp at h
    | cons x r =>
      simp only [Bool.and_eq_true, decide_eq_true_eq, List.getElem?_cons_zero] at h
      obtain ⟨⟨⟨_, h2⟩, h3⟩, h4⟩ := h
      have hg : ∀ i (hi : i < (x :: r).length), _ := fun i hi => by have := upto_iff.1 h4 i hi; rw [ptGood_eq hi] at this; exact this
      refine ⟨h2, ⟨x, r, rfl, h3⟩, fun y hy => ?_, ?_, fun i hi => ?_⟩
      · obtain ⟨i, hi, rfl⟩ := List.getElem_of_mem hy
        have := hg i hi
        simp only [Bool.and_eq_true] at this
        exact ⟨this.1.1, this.1.2⟩
      · refine adj_pairwise (R := ptUp) (fun {x y z} (h : x.t < y.t) (h' : y.t < z.t) => Int.lt_trans h h') fun i hi => ?_
        have := hg (i + 1) hi
        rw [Nat.add_sub_cancel, List.getElem?_eq_getElem (show i < (x :: r).length by omega)] at this
        simp only [Bool.and_eq_true, Bool.or_eq_true, decide_eq_true_eq, Bool.not_eq_true', decide_eq_false_iff_not] at this
        exact (this.2.resolve_left (by simp)).1
      · have := hg (i + 1) hi
        rw [Nat.add_sub_cancel, List.getElem?_eq_getElem (show i < (x :: r).length by omega)] at this
        simp only [Bool.and_eq_true, Bool.or_eq_true, decide_eq_true_eq, Bool.not_eq_true', decide_eq_false_iff_not] at this
        exact (this.2.resolve_left (by simp)).2
  · rintro ⟨h1, ⟨x, r, rfl, h2⟩, h3, h4, h5⟩
    unfold profOk
    simp only [Bool.and_eq_true, decide_eq_true_eq, List.getElem?_cons_zero]
    refine ⟨⟨⟨by simp, h1⟩, h2⟩, upto_iff.2 fun i hi => ?_⟩
    rw [ptGood_eq hi]
    obtain ⟨q1, q2⟩ := h3 _ (List.getElem_mem hi)
    rw [q1, q2]
    cases i with
    | zero => simp
    | succ i =>
      have hi' : i < (x :: r).length := by omega
      have e1 : (x :: r)[i].t < (x :: r)[i + 1].t := List.pairwise_iff_getElem.1 h4 i (i + 1) hi' hi (by omega)
      have e2 := h5 i hi
      simp only [Nat.add_sub_cancel, List.getElem?_eq_getElem hi', e1, e2, decide_true, decide_false, Bool.not_false, Bool.and_true, Bool.or_true]
theorem foldl_skip {α β : Type} (f : β → α → β) (z : β) : ∀ (l : List α), (∀ x ∈ l, ∀ v, f v x = v) → l.foldl f z = z
  | [], _ => rfl
  | x :: l, h => by rw [List.foldl_cons, h x (by simp), foldl_skip f z l fun y hy => h y (by simp [hy])]
theorem profAt_at {l pre r : List Pt} {x : Pt} {t : Int} (hl : l = pre ++ x :: r) (hx : x.t ≤ t) (hr : ∀ y ∈ r, t < y.t) : profAt l t = x.free := by
  subst hl
  unfold profAt
  rw [List.foldl_append, List.foldl_cons, if_pos hx]
  refine foldl_skip _ _ _ fun y hy v => if_neg ?_
  have := hr y hy; omega
abbrev up (x y : Int) : Prop := x < y
theorem ins_eq {t : Int} {l : List Int} (h : l.Pairwise up) : ins t l = l.filter (fun x => decide (x < t)) ++ t :: l.filter (fun x => decide (t < x)) := by
  unfold ins
  induction l with
  | nil => rfl
  | cons x l ih =>
    rw [List.pairwise_cons] at h
    rw [insGo_cons]
    by_cases hx : t ≤ x
    · have e1 : ∀ y ∈ l, t < y := fun y hy => by have := h.1 y hy; unfold up at this; omega
      have f1 : l.filter (fun x => decide (x < t)) = [] := List.filter_eq_nil_iff.2 fun y hy => by have := e1 y hy; simp; omega
      have f2 : l.filter (fun x => decide (t < x)) = l := List.filter_eq_self.2 fun y hy => by simpa using e1 y hy
      have f3 : l.filter (fun x => decide (x ≠ t)) = l := List.filter_eq_self.2 fun y hy => by have := e1 y hy; simp; omega
      rw [show (false || decide (t ≤ x)) = true by simp [hx], insGo_true, if_pos ⟨rfl, hx⟩, List.filter_cons, List.filter_cons, f1, f2, f3]
      by_cases e : x = t
      · simp [e]
      · have : t < x := by omega
        have : ¬ x < t := by omega
        simp [*]
    · have hx' : x < t := by omega
      have hx2 : ¬ t < x := by omega
      have hx3 : x ≠ t := by omega
      rw [if_neg (fun q => hx q.2), if_pos hx3, show (false || decide (t ≤ x)) = false by simp [hx], ih h.2, List.filter_cons, List.filter_cons]
      simp [hx', hx2]
theorem mem_ins {t x : Int} {l : List Int} (h : l.Pairwise up) : x ∈ ins t l ↔ x = t ∨ x ∈ l := by
  rw [ins_eq h]
  simp only [List.mem_append, List.mem_filter, decide_eq_true_eq, List.mem_cons]
  constructor
  · rintro (h | h | h)
    · exact .inr h.1
    · exact .inl h
    · exact .inr h.1
  · rintro (h | h)
    · exact .inr (.inl h)
    · rcases Int.lt_trichotomy x t with q | q | q
      · exact .inl ⟨h, q⟩
      · exact .inr (.inl q)
      · exact .inr (.inr ⟨h, q⟩)
theorem ins_up {t : Int} {l : List Int} (h : l.Pairwise up) : (ins t l).Pairwise up := by
  rw [ins_eq h, List.pairwise_append]
  refine ⟨h.filter _, List.pairwise_cons.2 ⟨fun y hy => ?_, h.filter _⟩, fun x hx y hy => ?_⟩
  · simpa using (List.mem_filter.1 hy).2
  · have h1 : x < t := by simpa using (List.mem_filter.1 hx).2
    rcases List.mem_cons.1 hy with rfl | hy
    · exact h1
    · have : t < y := by simpa using (List.mem_filter.1 hy).2
      show x < y
      omega
theorem ats_up {l : List Pt} (h : l.Pairwise ptUp) : (l.map Pt.t).Pairwise up := by
  rw [List.pairwise_map]; exact h
theorem profTimes_eq {l : List Pt} {a b : Int} (h : l.Pairwise ptUp) (hab : a < b) : profTimes l a b =
    (l.map Pt.t).filter (fun x => decide (x < a)) ++ a :: ((l.map Pt.t).filter (fun x => decide (a < x) && decide (x < b)) ++ b :: (l.map Pt.t).filter (fun x => decide (b < x))) := by
  have hs := ats_up h
  unfold profTimes
  generalize l.map Pt.t = L at hs ⊢
  rw [ins_eq (ins_up hs), ins_eq hs]
  simp only [List.filter_append, List.filter_cons, List.filter_filter]
  have e1 : decide (a < b) = true := by simpa using hab
  have e2 : decide (b < a) = false := by simp; omega
  rw [e1, e2]
  have g1 : L.filter (fun x => decide (x < b) && decide (x < a)) = L.filter (fun x => decide (x < a)) := List.filter_congr fun x _ => by
    by_cases q : x < a
    · have : x < b := by omega
      simp [*]
    · simp [q]
  have g2 : L.filter (fun x => decide (b < x) && decide (x < a)) = [] := List.filter_eq_nil_iff.2 fun x _ => by simp; omega
  have g3 : L.filter (fun x => decide (b < x) && decide (a < x)) = L.filter (fun x => decide (b < x)) := List.filter_congr fun x _ => by
    by_cases q : b < x
    · have : a < x := by omega
      simp [*]
    · simp [q]
  have g4 : L.filter (fun x => decide (x < b) && decide (a < x)) = L.filter (fun x => decide (a < x) && decide (x < b)) := List.filter_congr fun x _ => Bool.and_comm _ _
  rw [g1, g2, g3, g4]
  simp
theorem profTimes_up {l : List Pt} {a b : Int} (h : l.Pairwise ptUp) : (profTimes l a b).Pairwise up := ins_up (ins_up (ats_up h))
theorem mem_profTimes {l : List Pt} {a b x : Int} (h : l.Pairwise ptUp) : x ∈ profTimes l a b ↔ x = b ∨ x = a ∨ x ∈ l.map Pt.t := by
  unfold profTimes
  rw [mem_ins (ins_up (ats_up h)), mem_ins (ats_up h)]
theorem profTimes_len (l : List Pt) (a b : Int) : (profTimes l a b).length ≤ l.length + 2 := by
  have := ins_len b (ins a (l.map Pt.t)); have := ins_len a (l.map Pt.t)
  unfold profTimes
  simp at *; omega
end Go.Proofs.Ythbbieobcokgbaa
