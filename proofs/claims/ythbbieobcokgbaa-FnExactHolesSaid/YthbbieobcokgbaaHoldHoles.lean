/-
  The statement FnExactHoles holds: the law returns true at every input, and its input reads as it did. Conditions: none.
-/
import Derived.Test.YthbbieobcokgbaaLawHoles
import Derived.Test.YthbbieobcokgbaaFacts
namespace Go.Proofs.Ythbbieobcokgbaa
open Go Go.RowKit Eng
open Go.ChangeShapes Go.WideShapes Go.ChangeAt in
set_option maxRecDepth 100000 in
theorem FnExactHoles_lifted (os : Os) (started : os.Started) (H : Type) (enc : TypeId × Value → H) :
    ReturnsInHanded {} Try.checked os F.laws_FnExactHoles .any (Rows.fnExactHolesSpec.pre6 enc Try.prog Try.f14 Rows.fnExactHolesRow.domain false) (Rows.fnExactHolesSpec.post enc Try.prog Try.f14 false true false false) := by
  refine returnsInHanded_of_change (C := Try.checked) Try.own started (by kernel_rfl) Try.func14
    (ChangeSpec.witness6 (enc := enc) (C := Try.checked) false ⟨#[], #[.agg #[.slice none 0 0], .agg #[.int .i64 0, .int .i64 0, .int .i64 0], .int .i64 0, .int .i64 0], []⟩ 8 (by kernel_rfl) (by kernel_rfl) (by kernel_rfl) (by kernel_rfl)) ?_
  intro W base args ds gs before hval hW _ _
  exact law_goal2 (τs := [tyProf, tyVec, .int .i64, .int .i64]) Try.laidOut (by kernel_rfl) (by kernel_rfl) rfl (fun ds h => by match ds, h with | [d0, d1, d2, d3], _ => rfl) FnExactHoles_ok W base args ds gs before hval hW
theorem FnExactHoles_closed : joinedFacts Try.prog 14 Try.f14 Rows.fnExactHolesSpec Rows.fnExactHolesRow = true := by
  unfold joinedFacts
  rw [Try.head1, Try.head2, Try.head3, Try.laidOut, Try.mapsRowed]
  kernel_rfl
theorem FnExactHoles_holds : Rows.FnExactHolesSaid :=
  OpenClaim.holds_of_wide 14 Try.f14 rfl rfl rfl rfl rfl rfl rfl ⟨rfl, rfl, rfl, rfl, rfl⟩ rfl rfl rfl rfl rfl (by kernel_rfl) Try.func14 FnExactHoles_closed
    (of_decide_eq_true (by kernel_rfl)) (by unfold Func.isWrapper; first | (rw [if_pos (by decide +kernel)]; kernel_rfl) | (rw [if_neg (by decide +kernel)]; exact ⟨rfl, rfl⟩))
    (fun os started H enc _ => FnExactHoles_lifted os started H enc)
end Go.Proofs.Ythbbieobcokgbaa
