/-
  The statement FnExactLargest holds: the law returns true at every input, and its input reads as it did. Conditions: none.
-/
import Derived.Test.YtndemhaoilhbbaaGreatLst10
namespace Go.Proofs.YtndemhaoilhbbaaGreat
open Go Go.RowKit Eng
open Go.ChangeShapes Go.WideShapes Go.ChangeAt in
set_option maxRecDepth 100000 in
theorem FnExactLargest_lifted (os : Os) (started : os.Started) (H : Type) (enc : TypeId × Value → H) :
  ReturnsInHanded {} Tryz.checked os F.laws_FnExactLargest .any (Rows.fnExactLargestSpec.pre6 enc Tryz.prog Tryz.f3 Rows.fnExactLargestRow.domain false) (Rows.fnExactLargestSpec.post enc Tryz.prog Tryz.f3 false true false false) := by
 refine returnsInHanded_of_change (C := Tryz.checked) Tryz.own started (by kernel_rfl) Tryz.func3
  (ChangeSpec.witness6 (enc := enc) (C := Tryz.checked) false ⟨#[], #[.agg #[.slice none 0 0, .slice none 0 0, .slice none 0 0, .int .i64 0, .int .i64 0, .int .i64 0, .int .i64 0, .int .i64 0, .slice none 0 0, .slice none 0 0, .slice none 0 0], .agg #[.int .i64 0, .int .i64 0, .int .i64 0], .int .i64 0], []⟩ 8 (by kernel_rfl) (by kernel_rfl) (by kernel_rfl) (by kernel_rfl)) ?_
 intro W base args ds gs before hval hW _ _
 exact law_goal2 (τs := [tyState, tyVec, .int .i64]) Tryz.laidOut (by kernel_rfl) (by kernel_rfl) rfl (fun ds h => by match ds, h with | [d0, d1, d2], _ => rfl) FnExactLargest_ok W base args ds gs before hval hW
theorem FnExactLargest_closed : joinedFacts Tryz.prog 3 Tryz.f3 Rows.fnExactLargestSpec Rows.fnExactLargestRow = true := by
 unfold joinedFacts
 rw [Tryz.head1, Tryz.head2, Tryz.head3, Tryz.laidOut, Tryz.mapsRowed]
 kernel_rfl
theorem FnExactLargest_holds : Rows.FnExactLargestSaid :=
 OpenClaim.holds_of_wide 3 Tryz.f3 rfl rfl rfl rfl rfl rfl rfl ⟨rfl, rfl, rfl, rfl, rfl⟩ rfl rfl rfl rfl rfl (by kernel_rfl) Tryz.func3 FnExactLargest_closed
  (of_decide_eq_true (by kernel_rfl)) (by unfold Func.isWrapper; first | (rw [if_pos (by decide +kernel)]; kernel_rfl) | (rw [if_neg (by decide +kernel)]; exact ⟨rfl, rfl⟩))
  (fun os started H enc _ => FnExactLargest_lifted os started H enc)
end Go.Proofs.YtndemhaoilhbbaaGreat
