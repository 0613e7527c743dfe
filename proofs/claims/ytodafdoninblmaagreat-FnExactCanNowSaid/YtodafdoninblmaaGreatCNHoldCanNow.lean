/-
  The statement FnExactCanNow holds: the law returns true at every input, and its input reads as it did. Conditions: none.
-/
import Derived.Test.YtodafdoninblmaaGreatCN11
namespace Go.Proofs.YtodafdoninblmaaGreat
open Go Go.RowKit Eng
open Go.ChangeShapes Go.WideShapes Go.ChangeAt in
set_option maxRecDepth 100000 in
theorem Zl8 (os : Os) (started : os.Started) (H : Type) (enc : TypeId × Value -> H) :
  ReturnsInHanded {} Tryz.checked os Za2 .any (Rows.fnExactCanNowSpec.pre6 enc Tryz.prog Tryz.f4 Rows.fnExactCanNowRow.domain false) (Rows.fnExactCanNowSpec.post enc Tryz.prog Tryz.f4 false true false false) := by
 refine returnsInHanded_of_change (C := Tryz.checked) Tryz.own started (by kernel_rfl) Tryz.func4
  (ChangeSpec.witness6 (enc := enc) (C := Tryz.checked) false ⟨#[], #[.agg #[.slice none 0 0, .slice none 0 0, .slice none 0 0, .int .i64 0, .int .i64 0, .int .i64 0, .int .i64 0, .int .i64 0, .slice none 0 0, .slice none 0 0, .slice none 0 0], .agg #[.int .i64 0, .int .i64 0, .int .i64 0, .int .i64 0, .int .i64 0, .int .i64 0, .int .i64 0, .int .i64 0, .int .i64 0, .int .i64 0, .int .i64 0]], []⟩ 8 (by kernel_rfl) (by kernel_rfl) (by kernel_rfl) (by kernel_rfl)) ?_
 intro W base args ds gs before hval hW _ _
 exact ZTj (τs := [Zwf, tyJob]) Tryz.laidOut (by kernel_rfl) (by kernel_rfl) rfl (fun ds h => by match ds, h with | [d0, d1], _ => rfl) ZOb W base args ds gs before hval hW
theorem Zm8 : joinedFacts Tryz.prog 4 Tryz.f4 Rows.fnExactCanNowSpec Rows.fnExactCanNowRow = true := by
 unfold joinedFacts
 rw [Tryz.head1, Tryz.head2, Tryz.head3, Tryz.laidOut, Tryz.mapsRowed]
 kernel_rfl
theorem FnExactCanNow_holds : Rows.FnExactCanNowSaid :=
 OpenClaim.holds_of_wide 4 Tryz.f4 rfl rfl rfl rfl rfl rfl rfl ⟨rfl, rfl, rfl, rfl, rfl⟩ rfl rfl rfl rfl rfl (by kernel_rfl) Tryz.func4 Zm8
  (of_decide_eq_true (by kernel_rfl)) (by unfold Func.isWrapper; first | (rw [if_pos (by decide +kernel)]; kernel_rfl) | (rw [if_neg (by decide +kernel)]; exact ⟨rfl, rfl⟩))
  (fun os started H enc _ => Zl8 os started H enc)
end Go.Proofs.YtodafdoninblmaaGreat
