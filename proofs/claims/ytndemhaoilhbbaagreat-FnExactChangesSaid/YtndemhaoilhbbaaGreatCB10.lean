/-
  Lemmas, part 10: the engine that steps through the code, the walks of functions, and the laws of what they compute.
-/
import Derived.Test.YtndemhaoilhbbaaGreatCB9
import Derived.Test.YtndemhaoilhbbaaGreatChecked
namespace Go.Proofs.YtndemhaoilhbbaaGreat
open Go Go.RowKit Eng
def ZB8 : List Nat := [104, 97, 114, 110, 101, 115, 115, 32, 49, 56, 102, 56, 56, 48, 57, 101, 53, 97, 101, 99, 49, 49, 57, 51, 101, 56, 54, 100, 52, 54, 52, 97, 57, 53, 49, 101, 98, 50, 57, 57, 48, 54, 56, 97, 53, 54, 100, 48, 52, 57, 54, 53, 51, 98, 57, 50, 101, 50, 50, 49, 51, 57, 50, 48, 97, 55, 54, 49, 53, 98, 53, 56, 32, 99, 117, 116, 32, 97, 116, 32, 108, 111, 111, 112, 46, 101, 120, 97, 109, 112, 108, 101, 47, 103, 48, 48, 52, 53, 52, 47, 108, 97, 119, 115, 46, 70, 110, 69, 120, 97, 99, 116, 76, 97, 114, 103, 101, 115, 116, 32, 108, 111, 111, 112, 46, 101, 120, 97, 109, 112, 108, 101, 47, 103, 48, 48, 52, 53, 52, 47, 108, 97, 119, 115, 46, 70, 110, 69, 120, 97, 99, 116, 66, 114, 111, 107, 101, 110, 32, 108, 111, 111, 112, 46, 101, 120, 97, 109, 112, 108, 101, 47, 103, 48, 48, 52, 53, 52, 47, 108, 97, 119, 115, 46, 70, 110, 69, 120, 97, 99, 116, 83, 116, 97, 116, 101, 84, 101, 120, 116, 32, 108, 111, 111, 112, 46, 101, 120, 97, 109, 112, 108, 101, 47, 103, 48, 48, 52, 53, 52, 47, 108, 97, 119, 115, 46, 70, 110, 69, 120, 97, 99, 116, 70, 114, 101, 101, 78, 111, 100, 101, 115, 32, 108, 111, 111, 112, 46, 101, 120, 97, 109, 112, 108, 101, 47, 103, 48, 48, 52, 53, 52, 47, 108, 97, 119, 115, 46, 70, 110, 69, 120, 97, 99, 116, 68, 105, 103, 101, 115, 116, 32, 108, 111, 111, 112, 46, 101, 120, 97, 109, 112, 108, 101, 47, 103, 48, 48, 52, 53, 52, 47, 108, 97, 119, 115, 46, 70, 110, 69, 120, 97, 99, 116, 66, 105, 108, 108, 115, 79, 102, 32, 108, 111, 111, 112, 46, 101, 120, 97, 109, 112, 108, 101, 47, 103, 48, 48, 52, 53, 52, 47, 108, 97, 119, 115, 46, 70, 110, 69, 120, 97, 99, 116, 67, 104, 97, 110, 103, 101, 115, 32, 108, 111, 111, 112, 46, 101, 120, 97, 109, 112, 108, 101, 47, 103, 48, 48, 52, 53, 52, 47, 108, 97, 119, 115, 46, 70, 110, 69, 120, 97, 99, 116, 80, 97, 99, 107, 79, 102, 32, 108, 111, 111, 112, 46, 101, 120, 97, 109, 112, 108, 101, 47, 103, 48, 48, 52, 53, 52, 47, 108, 97, 119, 115, 46, 70, 110, 66, 105, 108, 108, 115, 32, 108, 111, 111, 112, 46, 101, 120, 97, 109, 112, 108, 101, 47, 103, 48, 48, 52, 53, 52, 47, 108, 97, 119, 115, 46, 70, 110, 69, 120, 97, 99, 116, 87, 105, 116, 104, 111, 117, 116]
theorem head_a (p : Program) (h : p.initOrder.toList = ZB8.map Char.ofNat) (h1 : p.laysLater = false) (h2 : p.bearsReflect = false) (h3 : p.doorRows = []) : p.mayEnter = true := by
 unfold Program.mayEnter Program.doorFits
 rw [h, h1, h2, h3]
 kernel_rfl
theorem head_b (p : Program) (h : p.initOrder.toList = ZB8.map Char.ofNat) : p.liftsFinal = false := by
 unfold Program.liftsFinal Program.headLifts
 rw [h]
 kernel_rfl
theorem head_c (p : Program) (h : p.initOrder.toList = ZB8.map Char.ofNat) : p.make = some .cut := by
 unfold Program.make Program.headLifts
 rw [h]
 kernel_rfl
theorem Tryz.head0 : Tryz.prog.initOrder = String.ofList (ZB8.map Char.ofNat) := by kernel_rfl
theorem Tryz.headL : Tryz.prog.initOrder.toList = ZB8.map Char.ofNat := by rw [Tryz.head0, String.toList_ofList]
theorem Tryz.head1 : Tryz.prog.mayEnter = true := head_a _ Tryz.headL (by kernel_rfl) (by kernel_rfl) (by kernel_rfl)
theorem Tryz.head2 : Tryz.prog.liftsFinal = false := head_b _ Tryz.headL
theorem Tryz.head3 : Tryz.prog.make = some .cut := head_c _ Tryz.headL
theorem Tryz.mapsRowed : mapsRowed Tryz.prog = true := by kernel_rfl
end Go.Proofs.YtndemhaoilhbbaaGreat
