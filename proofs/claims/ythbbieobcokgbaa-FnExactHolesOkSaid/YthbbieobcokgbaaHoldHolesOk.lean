/-
  The statement FnExactHolesOk holds: the law returns true at every input, and its input reads as it did. Conditions: none.
-/
import Derived.Test.YthbbieobcokgbaaLawHolesOk
import Derived.Test.YthbbieobcokgbaaChecked
namespace Go.Proofs.Ythbbieobcokgbaa
open Go Go.RowKit Eng
open Go.ChangeShapes Go.WideShapes Go.ChangeAt in
set_option maxRecDepth 100000 in
theorem FnExactHolesOk_lifted (os : Os) (started : os.Started) (H : Type) (enc : TypeId × Value → H) :
    ReturnsInHanded {} Try.checked os F.laws_FnExactHolesOk .any (Rows.fnExactHolesOkSpec.pre6 enc Try.prog Try.f3 Rows.fnExactHolesOkRow.domain false) (Rows.fnExactHolesOkSpec.post enc Try.prog Try.f3 false true false false) := by
  refine returnsInHanded_of_change (C := Try.checked) Try.own started (by kernel_rfl) Try.func3
    (ChangeSpec.witness6 (enc := enc) (C := Try.checked) false ⟨#[], #[.slice none 0 0], []⟩ 8 (by kernel_rfl) (by kernel_rfl) (by kernel_rfl) (by kernel_rfl)) ?_
  intro W base args ds gs before hval hW _ _
  exact law_goal2 (τs := [.sl tyHole]) Try.laidOut (by kernel_rfl) (by kernel_rfl) rfl (fun ds h => by match ds, h with | [d0], _ => rfl) FnExactHolesOk_ok W base args ds gs before hval hW
theorem FnExactHolesOk_holds : Rows.FnExactHolesOkSaid :=
  OpenClaim.holds_of_wide 3 Try.f3 rfl rfl rfl rfl rfl rfl rfl ⟨rfl, rfl, rfl, rfl, rfl⟩ rfl rfl rfl rfl rfl (by kernel_rfl) Try.func3 (by kernel_rfl)
    (of_decide_eq_true (by kernel_rfl)) (by unfold Func.isWrapper; first | (rw [if_pos (by decide +kernel)]; kernel_rfl) | (rw [if_neg (by decide +kernel)]; exact ⟨rfl, rfl⟩))
    (fun os started H enc _ => FnExactHolesOk_lifted os started H enc)
end Go.Proofs.Ythbbieobcokgbaa
