/-
  The statement FnAsk holds: the law returns true at every input, and its input reads as it did. Conditions: none.
-/
import Derived.Test.YtjphbnaepdcikaaA8
namespace Go.Proofs.Ytjphbnaepdcikaa
open Go Go.RowKit Eng
open Go.ChangeShapes Go.WideShapes Go.ChangeAt in
set_option maxRecDepth 100000 in
theorem Z6L (os : Os) (started : os.Started) (H : Type) (enc : TypeId × Value -> H) :
  ReturnsInHanded {} Try.checked os Z0y .any (Rows.fnAskSpec.pre6 enc Try.prog Try.f4 Rows.fnAskRow.domain false) (Rows.fnAskSpec.post enc Try.prog Try.f4 false true false false) := by
 refine returnsInHanded_of_change (C := Try.checked) Try.own started (by kernel_rfl) Try.func4
  (ChangeSpec.witness6 (enc := enc) (C := Try.checked) false ⟨#[], #[.slice none 0 0], []⟩ 8 (by kernel_rfl) (by kernel_rfl) (by kernel_rfl) (by kernel_rfl)) ?_
 intro W base args ds gs before hval hW _ _
 exact Z88 (τs := [.sl (.int .u8)]) Try.laidOut (by kernel_rfl) (by kernel_rfl) rfl (fun ds h => by match ds, h with | [d0], _ => rfl) FnAsk_ok W base args ds gs before hval hW
theorem Z6M : joinedFacts Try.prog 4 Try.f4 Rows.fnAskSpec Rows.fnAskRow = true := by
 unfold joinedFacts
 rw [Try.head1, Try.head2, Try.head3, Try.laidOut, Try.mapsRowed]
 kernel_rfl
theorem FnAsk_holds : Rows.FnAskSaid :=
 OpenClaim.holds_of_wide 4 Try.f4 rfl rfl rfl rfl rfl rfl rfl ⟨rfl, rfl, rfl, rfl, rfl⟩ rfl rfl rfl rfl rfl (by kernel_rfl) Try.func4 Z6M
  (of_decide_eq_true (by kernel_rfl)) (by unfold Func.isWrapper; first | (rw [if_pos (by decide +kernel)]; kernel_rfl) | (rw [if_neg (by decide +kernel)]; exact ⟨rfl, rfl⟩))
  (fun os started H enc _ => Z6L os started H enc)
end Go.Proofs.Ytjphbnaepdcikaa
