/-
  The statement FnExactWeaker holds: the law returns true at every input, and its input reads as it did. Conditions: none.
-/
import Derived.Test.YthbbieobcokgbaaRuns
import Derived.Test.YthbbieobcokgbaaFacts
namespace Go.Proofs.Ythbbieobcokgbaa
open Go Go.RowKit Eng
open Go.ChangeShapes Go.WideShapes Go.ChangeAt in
set_option maxRecDepth 100000 in
theorem FnExactWeaker_lifted (os : Os) (started : os.Started) (H : Type) (enc : TypeId × Value → H) :
    ReturnsInHanded {} Try.checked os F.laws_FnExactWeaker .any (Rows.fnExactWeakerSpec.pre6 enc Try.prog Try.f6 Rows.fnExactWeakerRow.domain false) (Rows.fnExactWeakerSpec.post enc Try.prog Try.f6 false true false false) := by
  refine returnsInHanded_of_change (C := Try.checked) Try.own started (by kernel_rfl) Try.func6
    (ChangeSpec.witness6 (enc := enc) (C := Try.checked) false ⟨#[], #[.agg #[.int .i64 0, .int .i64 0, .int .i64 0, .int .i64 0, .int .i64 0, .int .i64 0, .int .i64 0, .int .i64 0, .int .i64 0, .int .i64 0, .int .i64 0, .int .i64 0, .slice none 0 0], .agg #[.int .i64 0, .int .i64 0, .int .i64 0, .int .i64 0, .int .i64 0, .int .i64 0, .int .i64 0, .int .i64 0, .int .i64 0, .int .i64 0, .int .i64 0, .int .i64 0, .slice none 0 0]], []⟩ 8 (by kernel_rfl) (by kernel_rfl) (by kernel_rfl) (by kernel_rfl)) ?_
  intro W base args ds gs before hval hW _ _
  exact law_goal2 (τs := [tyRun, tyRun]) Try.laidOut (by kernel_rfl) (by kernel_rfl) rfl (fun ds h => by match ds, h with | [d0, d1], _ => rfl) FnExactWeaker_ok W base args ds gs before hval hW
theorem FnExactWeaker_closed : joinedFacts Try.prog 6 Try.f6 Rows.fnExactWeakerSpec Rows.fnExactWeakerRow = true := by
  unfold joinedFacts
  rw [Try.head1, Try.head2, Try.head3, Try.laidOut, Try.mapsRowed]
  kernel_rfl
theorem FnExactWeaker_holds : Rows.FnExactWeakerSaid :=
  OpenClaim.holds_of_wide 6 Try.f6 rfl rfl rfl rfl rfl rfl rfl ⟨rfl, rfl, rfl, rfl, rfl⟩ rfl rfl rfl rfl rfl (by kernel_rfl) Try.func6 FnExactWeaker_closed
    (of_decide_eq_true (by kernel_rfl)) (by unfold Func.isWrapper; first | (rw [if_pos (by decide +kernel)]; kernel_rfl) | (rw [if_neg (by decide +kernel)]; exact ⟨rfl, rfl⟩))
    (fun os started H enc _ => FnExactWeaker_lifted os started H enc)
end Go.Proofs.Ythbbieobcokgbaa
