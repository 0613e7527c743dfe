/-
  Branches as 'if'.
-/
import Derived.Test.YthbbieobcokgbaaBase
namespace Go.Proofs.Ythbbieobcokgbaa
open Go Go.RowKit Eng
@[simp high] theorem W_ite {P : Program} {R : Ex → St → Prop} {k : List It} {s : St} {c : X} {x y : L} : W P R (.l (.cond c x y) :: k) s = match s.get c with
    | .bool t => if t = true then W P R (.l x :: k) s else W P R (.l y :: k) s
    | _ => False := by
  rw [W_cond]
  cases s.get c with
  | bool t => cases t <;> simp
  | _ => rfl
/-- A LOOP by a measure; 'simp' leaves the invariant as it stands. -/
def ms (I : Nat → St → Prop) (_ : Tok I) (m : Nat) (s : St) : Prop := I m s
theorem W_ms {P : Program} {R : Ex → St → Prop} {k : List It} {s : St} {x : L} (I : Nat → St → Prop) (n : Nat) (h0 : I n s)
    (h : ∀ m s', I m s' → W P R (.l x :: .lp (ms I ⟨⟩) m :: k) s') : W P R (.l (.loop x) :: k) s := W_loop (ms I ⟨⟩) n h0 h
theorem ms_next {I : Nat → St → Prop} {t : Tok I} {m : Nat} {s : St} (m' : Nat) (h : m' < m) (hI : I m' s) : ∃ m', m' < m ∧ ms I t m' s := ⟨m', h, hI⟩
theorem do_zmw {P : Program} {s : St} {d f : Nat} {xs : List X} {K : St → Prop} {aa : List AV} (bks : List Nat) {bin : List (List AV)} {Φ : AV → List (List AV) → List (Option (List AV)) → List Row → Prop}
    (hC : Con P f aa bin [] Φ) (h1 : ∀ k ∈ bks, 1000000000 ≤ k) (h2 : nodupB bks = true) (h3 : atBoxes s (ix bks) (ix []) bks bin) (ha : wkLs (AV.wkA fun _ => False) (xs.map fun x => ((s.get x).mp (ix bks) (ix [])).rdt) aa)
    (h : ∀ res bout us new, bout.map List.length = bin.map List.length → Φ res bout us new → new = [] ∧ K (afterM s d bks [] res bout [] [])) : zw P (.cm d f xs) K s :=
  do_zm bks h1 h2 h3 (hC.wk ha) h
end Go.Proofs.Ythbbieobcokgbaa
