/-
  The statement FnExactPackCut holds: the law returns true at every input, and its input reads as it did. Conditions: none.
-/
import Derived.Test.YtehomnafaoplgaaGreatX15
namespace Go.Proofs.YtehomnafaoplgaaGreat
open Go Go.RowKit Eng
open Go.ChangeShapes Go.WideShapes Go.ChangeAt in
set_option maxRecDepth 100000 in
theorem M0x (os : Os) (started : os.Started) (H : Type) (enc : TypeId × Value -> H) :
  ReturnsInHanded {} Tryz.checked os Un .any (Rows.fnExactPackCutSpec.pre6 enc Tryz.prog Tryz.f6 Rows.fnExactPackCutRow.domain false) (Rows.fnExactPackCutSpec.post enc Tryz.prog Tryz.f6 false true false false) := by
 refine returnsInHanded_of_change (C := Tryz.checked) Tryz.own started (by kernel_rfl) Tryz.func6
  (ChangeSpec.witness6 (enc := enc) (C := Tryz.checked) false ⟨#[], #[.agg #[.string ⟨#[]⟩, .slice none 0 0, .int .i64 0, .int .i64 0]], []⟩ 8 (by kernel_rfl) (by kernel_rfl) (by kernel_rfl) (by kernel_rfl)) ?_
 intro W base args ds gs before hval hW _ _
 exact Z2b (τs := [Y1W]) Tryz.laidOut (by kernel_rfl) (by kernel_rfl) rfl (fun ds h => by match ds, h with | [d0], _ => rfl) Z10 W base args ds gs before hval hW
theorem L0x : joinedFacts Tryz.prog 6 Tryz.f6 Rows.fnExactPackCutSpec Rows.fnExactPackCutRow = true := by
 unfold joinedFacts
 rw [Tryz.head1, Tryz.head2, Tryz.head3, Tryz.laidOut, Tryz.mapsRowed]
 kernel_rfl
theorem FnExactPackCut_holds : Rows.FnExactPackCutSaid :=
 OpenClaim.holds_of_wide 6 Tryz.f6 rfl rfl rfl rfl rfl rfl rfl ⟨rfl, rfl, rfl, rfl, rfl⟩ rfl rfl rfl rfl rfl (by kernel_rfl) Tryz.func6 L0x
  (of_decide_eq_true (by kernel_rfl)) (by unfold Func.isWrapper; first | (rw [yd (by decide +kernel)]; kernel_rfl) | (rw [ye (by decide +kernel)]; exact ⟨rfl, rfl⟩))
  (fun os started H enc _ => M0x os started H enc)
end Go.Proofs.YtehomnafaoplgaaGreat
