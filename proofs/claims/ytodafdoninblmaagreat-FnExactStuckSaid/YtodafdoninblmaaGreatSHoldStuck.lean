/-
  The statement FnExactStuck holds: the law returns true at every input, and its input reads as it did. Conditions: none.
-/
import Derived.Test.YtodafdoninblmaaGreatS14
namespace Go.Proofs.YtodafdoninblmaaGreat
open Go Go.RowKit Eng
open Go.ChangeShapes Go.WideShapes Go.ChangeAt in
set_option maxRecDepth 100000 in
theorem L0k (os : Os) (started : os.Started) (H : Type) (enc : TypeId × Value -> H) :
  ReturnsInHanded {} Tryz.checked os Wf .any (Rows.fnExactStuckSpec.pre6 enc Tryz.prog Tryz.f9 Rows.fnExactStuckRow.domain false) (Rows.fnExactStuckSpec.post enc Tryz.prog Tryz.f9 false true false false) := by
 refine returnsInHanded_of_change (C := Tryz.checked) Tryz.own started (by kernel_rfl) Tryz.func9
  (ChangeSpec.witness6 (enc := enc) (C := Tryz.checked) false ⟨#[], #[.agg #[.slice none 0 0, .slice none 0 0, .slice none 0 0, .int .i64 0, .int .i64 0, .int .i64 0, .int .i64 0, .int .i64 0, .slice none 0 0, .slice none 0 0, .slice none 0 0]], []⟩ 8 (by kernel_rfl) (by kernel_rfl) (by kernel_rfl) (by kernel_rfl)) ?_
 intro W base args ds gs before hval hW _ _
 exact O1B (τs := [L13]) Tryz.laidOut (by kernel_rfl) (by kernel_rfl) rfl (fun ds h => by match ds, h with | [d0], _ => rfl) M0R W base args ds gs before hval hW
theorem J0k : joinedFacts Tryz.prog 9 Tryz.f9 Rows.fnExactStuckSpec Rows.fnExactStuckRow = true := by
 unfold joinedFacts
 rw [Tryz.head1, Tryz.head2, Tryz.head3, Tryz.laidOut, Tryz.mapsRowed]
 kernel_rfl
theorem FnExactStuck_holds : Rows.FnExactStuckSaid :=
 OpenClaim.holds_of_wide 9 Tryz.f9 rfl rfl rfl rfl rfl rfl rfl ⟨rfl, rfl, rfl, rfl, rfl⟩ rfl rfl rfl rfl rfl (by kernel_rfl) Tryz.func9 J0k
  (of_decide_eq_true (by kernel_rfl)) (by unfold Func.isWrapper; first | (rw [yd (by decide +kernel)]; kernel_rfl) | (rw [ye (by decide +kernel)]; exact ⟨rfl, rfl⟩))
  (fun os started H enc _ => L0k os started H enc)
end Go.Proofs.YtodafdoninblmaaGreat
