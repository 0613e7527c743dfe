/-
  The statement FnExactPackOf holds: the law returns true at every input, and its input reads as it did. Conditions: none.
-/
import Derived.Test.YtndemhaoilhbbaaGreatPB10
namespace Go.Proofs.YtndemhaoilhbbaaGreat
open Go Go.RowKit Eng
open Go.ChangeShapes Go.WideShapes Go.ChangeAt in
set_option maxRecDepth 100000 in
theorem Z59 (os : Os) (started : os.Started) (H : Type) (enc : TypeId × Value -> H) :
  ReturnsInHanded {} Tryz.checked os Za1 .any (Rows.fnExactPackOfSpec.pre6 enc Tryz.prog Tryz.f10 Rows.fnExactPackOfRow.domain false) (Rows.fnExactPackOfSpec.post enc Tryz.prog Tryz.f10 false true false false) := by
 refine returnsInHanded_of_change (C := Tryz.checked) Tryz.own started (by kernel_rfl) Tryz.func10
  (ChangeSpec.witness6 (enc := enc) (C := Tryz.checked) false ⟨#[], #[.agg #[.slice none 0 0, .slice none 0 0, .slice none 0 0, .int .i64 0, .int .i64 0, .int .i64 0, .int .i64 0, .int .i64 0, .slice none 0 0, .slice none 0 0, .slice none 0 0]], []⟩ 8 (by kernel_rfl) (by kernel_rfl) (by kernel_rfl) (by kernel_rfl)) ?_
 intro W base args ds gs before hval hW _ _
 exact ZFk (τs := [Zlg]) Tryz.laidOut (by kernel_rfl) (by kernel_rfl) rfl (fun ds h => by match ds, h with | [d0], _ => rfl) Zzc W base args ds gs before hval hW
theorem Z69 : joinedFacts Tryz.prog 10 Tryz.f10 Rows.fnExactPackOfSpec Rows.fnExactPackOfRow = true := by
 unfold joinedFacts
 rw [Tryz.head1, Tryz.head2, Tryz.head3, Tryz.laidOut, Tryz.mapsRowed]
 kernel_rfl
theorem FnExactPackOf_holds : Rows.FnExactPackOfSaid :=
 OpenClaim.holds_of_wide 10 Tryz.f10 rfl rfl rfl rfl rfl rfl rfl ⟨rfl, rfl, rfl, rfl, rfl⟩ rfl rfl rfl rfl rfl (by kernel_rfl) Tryz.func10 Z69
  (of_decide_eq_true (by kernel_rfl)) (by unfold Func.isWrapper; first | (rw [if_pos (by decide +kernel)]; kernel_rfl) | (rw [if_neg (by decide +kernel)]; exact ⟨rfl, rfl⟩))
  (fun os started H enc _ => Z59 os started H enc)
end Go.Proofs.YtndemhaoilhbbaaGreat
