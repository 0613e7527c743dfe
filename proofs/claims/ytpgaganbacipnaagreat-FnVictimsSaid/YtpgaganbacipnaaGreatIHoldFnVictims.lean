/-
  The statement FnVictims holds: the law returns true at every input, and its input reads as it did. Conditions: none.
-/
import Derived.Test.YtpgaganbacipnaaGreatI13
namespace Go.Proofs.YtpgaganbacipnaaGreat
open Go Go.RowKit Eng
open Go.ChangeShapes Go.WideShapes Go.ChangeAt in
set_option maxRecDepth 100000 in
theorem Z0I (os : Os) (started : os.Started) (H : Type) (enc : TypeId × Value -> H) :
  ReturnsInHanded {} Tryz.checked os Mv .any (Rows.fnVictimsSpec.pre6 enc Tryz.prog Tryz.f3 Rows.fnVictimsRow.domain false) (Rows.fnVictimsSpec.post enc Tryz.prog Tryz.f3 false true false false) := by
 refine returnsInHanded_of_change (C := Tryz.checked) Tryz.own started (by kernel_rfl) Tryz.func3
  (ChangeSpec.witness6 (enc := enc) (C := Tryz.checked) false ⟨#[], #[.slice none 0 0], []⟩ 8 (by kernel_rfl) (by kernel_rfl) (by kernel_rfl) (by kernel_rfl)) ?_
 intro W base args ds gs before hval hW _ _
 exact W1B (τs := [.sl (.int .u8)]) Tryz.laidOut (by kernel_rfl) (by kernel_rfl) rfl (fun ds h => by match ds, h with | [d0], _ => rfl) U1h W base args ds gs before hval hW
theorem Y0I : joinedFacts Tryz.prog 3 Tryz.f3 Rows.fnVictimsSpec Rows.fnVictimsRow = true := by
 unfold joinedFacts
 rw [Tryz.head1, Tryz.head2, Tryz.head3, Tryz.laidOut, Tryz.mapsRowed]
 kernel_rfl
theorem FnVictims_holds : Rows.FnVictimsSaid :=
 OpenClaim.holds_of_wide 3 Tryz.f3 rfl rfl rfl rfl rfl rfl rfl ⟨rfl, rfl, rfl, rfl, rfl⟩ rfl rfl rfl rfl rfl (by kernel_rfl) Tryz.func3 Y0I
  (of_decide_eq_true (by kernel_rfl)) (by unfold Func.isWrapper; first | (rw [yd (by decide +kernel)]; kernel_rfl) | (rw [ye (by decide +kernel)]; exact ⟨rfl, rfl⟩))
  (fun os started H enc _ => Z0I os started H enc)
end Go.Proofs.YtpgaganbacipnaaGreat
