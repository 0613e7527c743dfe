/-
  The statement FnExactGoes holds: the law returns true at every input, and its input reads as it did. Conditions: none.
-/
import Derived.Test.YthbbieobcokgbaaGoes
import Derived.Test.YthbbieobcokgbaaFacts
namespace Go.Proofs.Ythbbieobcokgbaa
open Go Go.RowKit Eng
open Go.ChangeShapes Go.WideShapes Go.ChangeAt in
set_option maxRecDepth 100000 in
theorem FnExactGoes_lifted (os : Os) (started : os.Started) (H : Type) (enc : TypeId × Value → H) :
    ReturnsInHanded {} Try.checked os F.laws_FnExactGoes .any (Rows.fnExactGoesSpec.pre6 enc Try.prog Try.f9 Rows.fnExactGoesRow.domain false) (Rows.fnExactGoesSpec.post enc Try.prog Try.f9 false true false false) := by
  refine returnsInHanded_of_change (C := Try.checked) Try.own started (by kernel_rfl) Try.func9
    (ChangeSpec.witness6 (enc := enc) (C := Try.checked) false ⟨#[], #[.agg #[.string ⟨#[]⟩, .string ⟨#[]⟩, .int .i64 0], .agg #[.int .i64 0, .int .i64 0, .int .i64 0, .int .i64 0, .int .i64 0, .int .i64 0, .int .i64 0, .int .i64 0, .int .i64 0, .int .i64 0, .int .i64 0]], []⟩ 8 (by kernel_rfl) (by kernel_rfl) (by kernel_rfl) (by kernel_rfl)) ?_
  intro W base args ds gs before hval hW _ _
  exact law_goal2 (τs := [tyTerm, tyJob]) Try.laidOut (by kernel_rfl) (by kernel_rfl) rfl (fun ds h => by match ds, h with | [d0, d1], _ => rfl) FnExactGoes_ok W base args ds gs before hval hW
theorem FnExactGoes_closed : joinedFacts Try.prog 9 Try.f9 Rows.fnExactGoesSpec Rows.fnExactGoesRow = true := by
  unfold joinedFacts
  rw [Try.head1, Try.head2, Try.head3, Try.laidOut, Try.mapsRowed]
  kernel_rfl
theorem FnExactGoes_holds : Rows.FnExactGoesSaid :=
  OpenClaim.holds_of_wide 9 Try.f9 rfl rfl rfl rfl rfl rfl rfl ⟨rfl, rfl, rfl, rfl, rfl⟩ rfl rfl rfl rfl rfl (by kernel_rfl) Try.func9 FnExactGoes_closed
    (of_decide_eq_true (by kernel_rfl)) (by unfold Func.isWrapper; first | (rw [if_pos (by decide +kernel)]; kernel_rfl) | (rw [if_neg (by decide +kernel)]; exact ⟨rfl, rfl⟩))
    (fun os started H enc _ => FnExactGoes_lifted os started H enc)
end Go.Proofs.Ythbbieobcokgbaa
