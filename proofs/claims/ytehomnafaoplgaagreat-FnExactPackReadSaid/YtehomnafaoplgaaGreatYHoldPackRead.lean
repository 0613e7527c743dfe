/-
  The statement FnExactPackRead holds: the law returns true at every input, and its input reads as it did. Conditions: none.
-/
import Derived.Test.YtehomnafaoplgaaGreatY15
namespace Go.Proofs.YtehomnafaoplgaaGreat
open Go Go.RowKit Eng
open Go.ChangeShapes Go.WideShapes Go.ChangeAt in
set_option maxRecDepth 100000 in
theorem U2I (os : Os) (started : os.Started) (H : Type) (enc : TypeId × Value -> H) :
  ReturnsInHanded {} Tryz.checked os W2 .any (Rows.fnExactPackReadSpec.pre6 enc Tryz.prog Tryz.f5 Rows.fnExactPackReadRow.domain false) (Rows.fnExactPackReadSpec.post enc Tryz.prog Tryz.f5 false true false false) := by
 refine returnsInHanded_of_change (C := Tryz.checked) Tryz.own started (by kernel_rfl) Tryz.func5
  (ChangeSpec.witness6 (enc := enc) (C := Tryz.checked) false ⟨#[], #[.slice none 0 0], []⟩ 8 (by kernel_rfl) (by kernel_rfl) (by kernel_rfl) (by kernel_rfl)) ?_
 intro W base args ds gs before hval hW _ _
 exact Z2b (τs := [.sl (.int .u8)]) Tryz.laidOut (by kernel_rfl) (by kernel_rfl) rfl (fun ds h => by match ds, h with | [d0], _ => rfl) Y2J W base args ds gs before hval hW
theorem Q2I : joinedFacts Tryz.prog 5 Tryz.f5 Rows.fnExactPackReadSpec Rows.fnExactPackReadRow = true := by
 unfold joinedFacts
 rw [Tryz.head1, Tryz.head2, Tryz.head3, Tryz.laidOut, Tryz.mapsRowed]
 kernel_rfl
theorem FnExactPackRead_holds : Rows.FnExactPackReadSaid :=
 OpenClaim.holds_of_wide 5 Tryz.f5 rfl rfl rfl rfl rfl rfl rfl ⟨rfl, rfl, rfl, rfl, rfl⟩ rfl rfl rfl rfl rfl (by kernel_rfl) Tryz.func5 Q2I
  (of_decide_eq_true (by kernel_rfl)) (by unfold Func.isWrapper; first | (rw [yd (by decide +kernel)]; kernel_rfl) | (rw [ye (by decide +kernel)]; exact ⟨rfl, rfl⟩))
  (fun os started H enc _ => U2I os started H enc)
end Go.Proofs.YtehomnafaoplgaaGreat
