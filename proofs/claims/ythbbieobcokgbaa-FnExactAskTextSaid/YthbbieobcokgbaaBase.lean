/-
  Plain data of the program's types, and how the engine writes them.
-/
import Derived.Test.YthbbieobcokgbaaNum
namespace Go.Proofs.Ythbbieobcokgbaa
open Go Go.RowKit Eng
abbrev Str := List UInt8

namespace Eng
theorem rdtL_enc {α : Type} (e : α → AV) (h : ∀ x, (e x).rdt = e x) (l : List α) : rdtL (l.map e) = l.map e := by
  rw [rdtL_map, List.map_map]
  exact List.map_congr_left fun x _ => h x
theorem NwL_enc {α : Type} (e : α → AV) (h : ∀ x, Nw (e x)) (l : List α) : NwL (l.map e) := by
  rw [NwL_iff]
  intro a ha
  obtain ⟨x, _, rfl⟩ := List.mem_map.1 ha
  exact h x
theorem fill_facts {α β : Type} (f : α → β) (z : β) (xs : List α) (i : Nat) (h : i < xs.length) {es : List β} (he : es = (xs.map f).take i ++ List.replicate (xs.length - i) z) :
    es.length = xs.length ∧ (∀ h, es[i]'h = z) ∧ es.set i (f xs[i]) = (xs.map f).take (i + 1) ++ List.replicate (xs.length - (i + 1)) z := by
  subst he
  have e1 : ((xs.map f).take i).length = i := by simp; omega
  refine ⟨by rw [List.length_append, e1, List.length_replicate]; omega, ?_, ?_⟩
  · intro h'
    rw [List.getElem_append_right (by omega)]
    simp
  · rw [List.set_append_right _ _ (by omega), e1, Nat.sub_self]
    have e2 : xs.length - i = (xs.length - (i + 1)) + 1 := by omega
    rw [e2, List.replicate_succ, List.set_cons_zero]
    rw [List.take_succ_eq_append_getElem (by simpa using h), List.append_assoc]
    simp
theorem mix_facts {β : Type} (xs ys : List β) (hl : xs.length = ys.length) (i : Nat) (h : i < ys.length) {es : List β} (he : es = xs.take i ++ ys.drop i) :
    es.length = ys.length ∧ (∀ h', es[i]'h' = ys[i]) ∧ es[i]? = some ys[i] ∧ es.set i (xs[i]'(by omega)) = xs.take (i + 1) ++ ys.drop (i + 1) := by
  subst he
  have e1 : (xs.take i).length = i := by simp; omega
  have e2 : ∀ h', (xs.take i ++ ys.drop i)[i]'h' = ys[i] := by
    intro h'
    rw [List.getElem_append_right (by omega)]
    simp [e1]
  have hlen : (xs.take i ++ ys.drop i).length = ys.length := by rw [List.length_append, e1, List.length_drop]; omega
  refine ⟨hlen, e2, by rw [List.getElem?_eq_getElem (by omega), e2], ?_⟩
  rw [List.set_append_right _ _ (by omega), e1, Nat.sub_self, List.drop_eq_getElem_cons h, List.set_cons_zero, List.take_succ_eq_append_getElem (by omega), List.append_assoc]
  rfl
/-- What a marking call leaves. -/
def ret1 (r : AV) (es : List AV) : AV → List (List AV) → List (Option (List AV)) → List Row → Prop := fun res bout upd new => res = r ∧ bout = [] ∧ upd = [some es] ∧ new = []
theorem list_of {α : Type} (e : α → AV) {es : List AV} (h : ∀ x ∈ es, ∃ y, x = e y) : ∃ l : List α, es = l.map e := by
  induction es with
  | nil => exact ⟨[], rfl⟩
  | cons a es ih =>
    obtain ⟨y, hy⟩ := h a (by simp)
    obtain ⟨l, hl⟩ := ih fun x hx => h x (by simp [hx])
    exact ⟨y :: l, by simp [hy, hl]⟩
end Eng

def szr (n : Int) (c : Nat) : Int := if n < c then -1 else n - c
theorem szr_ok {n : Int} {c : Nat} (_ : 0 ≤ n) : (szr n c < 0 ↔ n < c) ∧ (¬ n < c → szr n c = n - c) := by
  unfold szr
  constructor
  · split <;> omega
  · intro h'; rw [if_neg h']
end Go.Proofs.Ythbbieobcokgbaa
