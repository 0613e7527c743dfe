/-
  What a law's counting of sizes tells.
-/
import Derived.Test.YthbbieobcokgbaaBase
namespace Go.Proofs.Ythbbieobcokgbaa
open Go Go.RowKit Eng
theorem szr_nn {n : Int} {c : Nat} (h : 0 ≤ szr n c) : (c : Int) ≤ n ∧ szr n c = n - c := by
  unfold szr at h ⊢
  split at h
  · omega
  · rename_i h'; rw [if_neg h']; omega
end Go.Proofs.Ythbbieobcokgbaa
