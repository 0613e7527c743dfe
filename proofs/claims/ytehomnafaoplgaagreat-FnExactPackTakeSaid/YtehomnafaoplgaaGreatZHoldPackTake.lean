/-
  The statement FnExactPackTake holds: the law returns true at every input, and its input reads as it did. Conditions: none.
-/
import Derived.Test.YtehomnafaoplgaaGreatZ15
namespace Go.Proofs.YtehomnafaoplgaaGreat
open Go Go.RowKit Eng
open Go.ChangeShapes Go.WideShapes Go.ChangeAt in
set_option maxRecDepth 100000 in
theorem U2J (os : Os) (started : os.Started) (H : Type) (enc : TypeId × Value -> H) :
  ReturnsInHanded {} Tryz.checked os J2G .any (Rows.fnExactPackTakeSpec.pre6 enc Tryz.prog Tryz.f7 Rows.fnExactPackTakeRow.domain false) (Rows.fnExactPackTakeSpec.post enc Tryz.prog Tryz.f7 false true false false) := by
 refine returnsInHanded_of_change (C := Tryz.checked) Tryz.own started (by kernel_rfl) Tryz.func7
  (ChangeSpec.witness6 (enc := enc) (C := Tryz.checked) false ⟨#[], #[.agg #[.string ⟨#[]⟩, .slice none 0 0, .int .i64 0, .int .i64 0], .agg #[.int .i64 0, .int .i64 0, .int .i64 0, .int .i64 0, .int .i64 0, .int .i64 0, .int .i64 0, .int .i64 0, .int .i64 0, .int .i64 0, .int .i64 0, .int .i64 0, .int .i64 0, .int .i64 0, .int .i64 0, .int .i64 0]], []⟩ 8 (by kernel_rfl) (by kernel_rfl) (by kernel_rfl) (by kernel_rfl)) ?_
 intro W base args ds gs before hval hW _ _
 exact Z2b (τs := [Y1W, U2N]) Tryz.laidOut (by kernel_rfl) (by kernel_rfl) rfl (fun ds h => by match ds, h with | [d0, d1], _ => rfl) Z2L W base args ds gs before hval hW
theorem Q2J : joinedFacts Tryz.prog 7 Tryz.f7 Rows.fnExactPackTakeSpec Rows.fnExactPackTakeRow = true := by
 unfold joinedFacts
 rw [Tryz.head1, Tryz.head2, Tryz.head3, Tryz.laidOut, Tryz.mapsRowed]
 kernel_rfl
theorem FnExactPackTake_holds : Rows.FnExactPackTakeSaid :=
 OpenClaim.holds_of_wide 7 Tryz.f7 rfl rfl rfl rfl rfl rfl rfl ⟨rfl, rfl, rfl, rfl, rfl⟩ rfl rfl rfl rfl rfl (by kernel_rfl) Tryz.func7 Q2J
  (of_decide_eq_true (by kernel_rfl)) (by unfold Func.isWrapper; first | (rw [yd (by decide +kernel)]; kernel_rfl) | (rw [ye (by decide +kernel)]; exact ⟨rfl, rfl⟩))
  (fun os started H enc _ => U2J os started H enc)
end Go.Proofs.YtehomnafaoplgaaGreat
