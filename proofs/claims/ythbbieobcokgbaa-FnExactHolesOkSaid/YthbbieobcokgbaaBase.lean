/-
  Plain data of the program's types, and how the engine writes them.
-/
import Derived.Test.YthbbieobcokgbaaNum
namespace Go.Proofs.Ythbbieobcokgbaa
open Go Go.RowKit Eng
abbrev Str := List UInt8

namespace Eng
theorem rdtL_enc {α : Type} (e : α → AV) (h : ∀ x, (e x).rdt = e x) (l : List α) : rdtL (l.map e) = l.map e := by
  rw [rdtL_map, List.map_map]
  exact List.map_congr_left fun x _ => h x
theorem NwL_enc {α : Type} (e : α → AV) (h : ∀ x, Nw (e x)) (l : List α) : NwL (l.map e) := by
  rw [NwL_iff]
  intro a ha
  obtain ⟨x, _, rfl⟩ := List.mem_map.1 ha
  exact h x
theorem fill_facts {α β : Type} (f : α → β) (z : β) (xs : List α) (i : Nat) (h : i < xs.length) {es : List β} (he : es = (xs.map f).take i ++ List.replicate (xs.length - i) z) :
    es.length = xs.length ∧ (∀ h, es[i]'h = z) ∧ es.set i (f xs[i]) = (xs.map f).take (i + 1) ++ List.replicate (xs.length - (i + 1)) z := by
  subst he
  have e1 : ((xs.map f).take i).length = i := by simp; omega
  refine ⟨by rw [List.length_append, e1, List.length_replicate]; omega, ?_, ?_⟩
  · intro h'
    rw [List.getElem_append_right (by omega)]
    simp
  · rw [List.set_append_right _ _ (by omega), e1, Nat.sub_self]
    have e2 : xs.length - i = (xs.length - (i + 1)) + 1 := by omega
    rw [e2, List.replicate_succ, List.set_cons_zero]
    rw [List.take_succ_eq_append_getElem (by simpa using h), List.append_assoc]
    simp
theorem list_of {α : Type} (e : α → AV) {es : List AV} (h : ∀ x ∈ es, ∃ y, x = e y) : ∃ l : List α, es = l.map e := by
  induction es with
  | nil => exact ⟨[], rfl⟩
  | cons a es ih =>
    obtain ⟨y, hy⟩ := h a (by simp)
    obtain ⟨l, hl⟩ := ih fun x hx => h x (by simp [hx])
    exact ⟨y :: l, by simp [hy, hl]⟩
end Eng

structure Hole where
  a : Int
  b : Int
  deriving DecidableEq
def eHole (h : Hole) : AV := .agg [.int .i64 h.a, .int .i64 h.b]
@[simp] theorem rdt_Holes (l : List Hole) : rdtL (l.map eHole) = l.map eHole := rdtL_enc _ (fun _ => rfl) l
@[simp] theorem nw_Holes (l : List Hole) : NwL (l.map eHole) := NwL_enc _ (fun _ => by simp [eHole]) l

def tyHole : Ty := .st [.int .i64, .int .i64]
theorem hole_of {x : AV} (h : x.cells.length = tyHole.size ∧ (if tyHole.isSt then ∃ cs, x = .agg cs else True) ∧ tyHole.ok x.cells) : ∃ y, x = eHole y := by
  obtain ⟨_, h2, h3⟩ := h
  simp only [tyHole, Ty.isSt, if_true] at h2
  obtain ⟨cs, rfl⟩ := h2
  simp only [tyHole, Ty.ok, okL, AV.cells] at h3
  obtain ⟨l1, l2, rfl, ⟨n, rfl, _⟩, l3, l4, rfl, ⟨m, rfl, _⟩, rfl⟩ := h3
  exact ⟨⟨n, m⟩, rfl⟩
theorem holes_of {a : AV} (h : (Ty.sl tyHole).okV a) : ∃ l : List Hole, a = .sl .rd 2 (l.map eHole) ∨ (a = .nl ∧ l = []) := by
  simp only [Ty.okV, Ty.ok] at h
  rcases h with h | ⟨es, h, _, h2⟩
  · exact ⟨[], .inr ⟨(List.cons.inj h).1, rfl⟩⟩
  · obtain ⟨l, rfl⟩ := list_of eHole fun x hx => hole_of (h2 x hx)
    exact ⟨l, .inl (List.cons.inj h).1⟩
end Go.Proofs.Ythbbieobcokgbaa
