/-
  The statement FnHoles holds: the law returns true at every input, and its input reads as it did. Conditions: none.
-/
import Derived.Test.YtjphbnaepdcikaaH8
namespace Go.Proofs.Ytjphbnaepdcikaa
open Go Go.RowKit Eng
open Go.ChangeShapes Go.WideShapes Go.ChangeAt in
set_option maxRecDepth 100000 in
theorem Z6s (os : Os) (started : os.Started) (H : Type) (enc : TypeId × Value -> H) :
  ReturnsInHanded {} Try.checked os Z27 .any (Rows.fnHolesSpec.pre6 enc Try.prog Try.f3 Rows.fnHolesRow.domain false) (Rows.fnHolesSpec.post enc Try.prog Try.f3 false true false false) := by
 refine returnsInHanded_of_change (C := Try.checked) Try.own started (by kernel_rfl) Try.func3
  (ChangeSpec.witness6 (enc := enc) (C := Try.checked) false ⟨#[], #[.slice none 0 0], []⟩ 8 (by kernel_rfl) (by kernel_rfl) (by kernel_rfl) (by kernel_rfl)) ?_
 intro W base args ds gs before hval hW _ _
 exact ZaT (τs := [.sl (.int .u8)]) Try.laidOut (by kernel_rfl) (by kernel_rfl) rfl (fun ds h => by match ds, h with | [d0], _ => rfl) Zad W base args ds gs before hval hW
theorem Z6t : joinedFacts Try.prog 3 Try.f3 Rows.fnHolesSpec Rows.fnHolesRow = true := by
 unfold joinedFacts
 rw [Try.head1, Try.head2, Try.head3, Try.laidOut, Try.mapsRowed]
 kernel_rfl
theorem FnHoles_holds : Rows.FnHolesSaid :=
 OpenClaim.holds_of_wide 3 Try.f3 rfl rfl rfl rfl rfl rfl rfl ⟨rfl, rfl, rfl, rfl, rfl⟩ rfl rfl rfl rfl rfl (by kernel_rfl) Try.func3 Z6t
  (of_decide_eq_true (by kernel_rfl)) (by unfold Func.isWrapper; first | (rw [if_pos (by decide +kernel)]; kernel_rfl) | (rw [if_neg (by decide +kernel)]; exact ⟨rfl, rfl⟩))
  (fun os started H enc _ => Z6s os started H enc)
end Go.Proofs.Ytjphbnaepdcikaa
