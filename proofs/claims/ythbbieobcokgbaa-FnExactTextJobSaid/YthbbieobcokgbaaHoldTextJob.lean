/-
  The statement FnExactTextJob holds: the law returns true at every input, and its input reads as it did. Conditions: none.
-/
import Derived.Test.YthbbieobcokgbaaTextCmd
import Derived.Test.YthbbieobcokgbaaFacts
namespace Go.Proofs.Ythbbieobcokgbaa
open Go Go.RowKit Eng
open Go.ChangeShapes Go.WideShapes Go.ChangeAt in
set_option maxRecDepth 100000 in
theorem FnExactTextJob_lifted (os : Os) (started : os.Started) (H : Type) (enc : TypeId × Value → H) :
    ReturnsInHanded {} Try.checked os F.laws_FnExactTextJob .any (Rows.fnExactTextJobSpec.pre6 enc Try.prog Try.f15 Rows.fnExactTextJobRow.domain false) (Rows.fnExactTextJobSpec.post enc Try.prog Try.f15 false true false false) := by
  refine returnsInHanded_of_change (C := Try.checked) Try.own started (by kernel_rfl) Try.func15
    (ChangeSpec.witness6 (enc := enc) (C := Try.checked) false ⟨#[], #[.string ⟨#[]⟩], []⟩ 8 (by kernel_rfl) (by kernel_rfl) (by kernel_rfl) (by kernel_rfl)) ?_
  intro W base args ds gs before hval hW _ _
  exact law_goal2 (τs := [.str]) Try.laidOut (by kernel_rfl) (by kernel_rfl) rfl (fun ds h => by match ds, h with | [d0], _ => rfl) FnExactTextJob_ok W base args ds gs before hval hW
theorem FnExactTextJob_closed : joinedFacts Try.prog 15 Try.f15 Rows.fnExactTextJobSpec Rows.fnExactTextJobRow = true := by
  unfold joinedFacts
  rw [Try.head1, Try.head2, Try.head3, Try.laidOut, Try.mapsRowed]
  kernel_rfl
theorem FnExactTextJob_holds : Rows.FnExactTextJobSaid :=
  OpenClaim.holds_of_wide 15 Try.f15 rfl rfl rfl rfl rfl rfl rfl ⟨rfl, rfl, rfl, rfl, rfl⟩ rfl rfl rfl rfl rfl (by kernel_rfl) Try.func15 FnExactTextJob_closed
    (of_decide_eq_true (by kernel_rfl)) (by unfold Func.isWrapper; first | (rw [if_pos (by decide +kernel)]; kernel_rfl) | (rw [if_neg (by decide +kernel)]; exact ⟨rfl, rfl⟩))
    (fun os started H enc _ => FnExactTextJob_lifted os started H enc)
end Go.Proofs.Ythbbieobcokgbaa
