/-
  The statement FnMeet holds: the law returns true at every input, and its input reads as it did. Conditions: none.
-/
import Derived.Test.YthbbieobcokgbaaFnMeet
import Derived.Test.YthbbieobcokgbaaFacts
namespace Go.Proofs.Ythbbieobcokgbaa
open Go Go.RowKit Eng
open Go.ChangeShapes Go.WideShapes Go.ChangeAt in
set_option maxRecDepth 100000 in
theorem FnMeet_lifted (os : Os) (started : os.Started) (H : Type) (enc : TypeId × Value → H) :
    ReturnsInHanded {} Try.checked os F.laws_FnMeet .any (Rows.fnMeetSpec.pre6 enc Try.prog Try.f10 Rows.fnMeetRow.domain false) (Rows.fnMeetSpec.post enc Try.prog Try.f10 false true false false) := by
  refine returnsInHanded_of_change (C := Try.checked) Try.own started (by kernel_rfl) Try.func10
    (ChangeSpec.witness6 (enc := enc) (C := Try.checked) false ⟨#[], #[.slice none 0 0], []⟩ 8 (by kernel_rfl) (by kernel_rfl) (by kernel_rfl) (by kernel_rfl)) ?_
  intro W base args ds gs before hval hW _ _
  exact law_goal2 (τs := [.sl (.int .u8)]) Try.laidOut (by kernel_rfl) (by kernel_rfl) rfl (fun ds h => by match ds, h with | [d0], _ => rfl) FnMeet_ok W base args ds gs before hval hW
theorem FnMeet_closed : joinedFacts Try.prog 10 Try.f10 Rows.fnMeetSpec Rows.fnMeetRow = true := by
  unfold joinedFacts
  rw [Try.head1, Try.head2, Try.head3, Try.laidOut, Try.mapsRowed]
  kernel_rfl
theorem FnMeet_holds : Rows.FnMeetSaid :=
  OpenClaim.holds_of_wide 10 Try.f10 rfl rfl rfl rfl rfl rfl rfl ⟨rfl, rfl, rfl, rfl, rfl⟩ rfl rfl rfl rfl rfl (by kernel_rfl) Try.func10 FnMeet_closed
    (of_decide_eq_true (by kernel_rfl)) (by unfold Func.isWrapper; first | (rw [if_pos (by decide +kernel)]; kernel_rfl) | (rw [if_neg (by decide +kernel)]; exact ⟨rfl, rfl⟩))
    (fun os started H enc _ => FnMeet_lifted os started H enc)
end Go.Proofs.Ythbbieobcokgbaa
