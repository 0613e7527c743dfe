/-
  The statement FnExactHoldsOf holds: the law returns true at every input, and its input reads as it did. Conditions: none.
-/
import Derived.Test.YtndemhaoilhbbaaHA9
namespace Go.Proofs.Ytndemhaoilhbbaa
open Go Go.RowKit Eng
open Go.ChangeShapes Go.WideShapes Go.ChangeAt in
set_option maxRecDepth 100000 in
theorem Z64 (os : Os) (started : os.Started) (H : Type) (enc : TypeId × Value -> H) :
  ReturnsInHanded {} Try.checked os Zm .any (Rows.fnExactHoldsOfSpec.pre6 enc Try.prog Try.f6 Rows.fnExactHoldsOfRow.domain false) (Rows.fnExactHoldsOfSpec.post enc Try.prog Try.f6 false true false false) := by
 refine returnsInHanded_of_change (C := Try.checked) Try.own started (by kernel_rfl) Try.func6
  (ChangeSpec.witness6 (enc := enc) (C := Try.checked) false ⟨#[], #[.agg #[.slice none 0 0, .slice none 0 0, .slice none 0 0, .int .i64 0, .int .i64 0, .int .i64 0, .int .i64 0, .int .i64 0, .slice none 0 0, .slice none 0 0, .slice none 0 0, .slice none 0 0, .slice none 0 0, .slice none 0 0, .slice none 0 0]], []⟩ 8 (by kernel_rfl) (by kernel_rfl) (by kernel_rfl) (by kernel_rfl)) ?_
 intro W base args ds gs before hval hW _ _
 exact Zwd (τs := [Z1c]) Try.laidOut (by kernel_rfl) (by kernel_rfl) rfl (fun ds h => by match ds, h with | [d0], _ => rfl) Zq6 W base args ds gs before hval hW
theorem Z74 : joinedFacts Try.prog 6 Try.f6 Rows.fnExactHoldsOfSpec Rows.fnExactHoldsOfRow = true := by
 unfold joinedFacts
 rw [Try.head1, Try.head2, Try.head3, Try.laidOut, Try.mapsRowed]
 kernel_rfl
theorem FnExactHoldsOf_holds : Rows.FnExactHoldsOfSaid :=
 OpenClaim.holds_of_wide 6 Try.f6 rfl rfl rfl rfl rfl rfl rfl ⟨rfl, rfl, rfl, rfl, rfl⟩ rfl rfl rfl rfl rfl (by kernel_rfl) Try.func6 Z74
  (of_decide_eq_true (by kernel_rfl)) (by unfold Func.isWrapper; first | (rw [if_pos (by decide +kernel)]; kernel_rfl) | (rw [if_neg (by decide +kernel)]; exact ⟨rfl, rfl⟩))
  (fun os started H enc _ => Z64 os started H enc)
end Go.Proofs.Ytndemhaoilhbbaa
