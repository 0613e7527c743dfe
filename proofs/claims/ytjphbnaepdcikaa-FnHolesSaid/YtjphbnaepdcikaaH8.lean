/-
  Lemmas, part 8: the engine that steps through the code, the walks of functions, and the laws of what they compute.
-/
import Derived.Test.YtjphbnaepdcikaaH7
import Derived.Test.YtjphbnaepdcikaaChecked
namespace Go.Proofs.Ytjphbnaepdcikaa
open Go Go.RowKit Eng
def Z36 : List Nat := [104, 97, 114, 110, 101, 115, 115, 32, 48, 48, 56, 51, 100, 52, 102, 98, 101, 97, 101, 52, 49, 50, 57, 100, 55, 50, 101, 57, 101, 50, 100, 49, 101, 100, 50, 100, 98, 52, 48, 55, 49, 100, 54, 53, 53, 54, 48, 55, 55, 51, 52, 100, 53, 57, 53, 101, 99, 50, 51, 49, 50, 55, 57, 101, 102, 51, 56, 56, 50, 100, 50, 53, 32, 99, 117, 116, 32, 97, 116, 32, 108, 111, 111, 112, 46, 101, 120, 97, 109, 112, 108, 101, 47, 103, 48, 48, 52, 53, 52, 47, 108, 97, 119, 115, 46, 70, 110, 72, 111, 108, 101, 115, 32, 108, 111, 111, 112, 46, 101, 120, 97, 109, 112, 108, 101, 47, 103, 48, 48, 52, 53, 52, 47, 108, 97, 119, 115, 46, 70, 110, 65, 115, 107]
theorem head_a (p : Program) (h : p.initOrder.toList = Z36.map Char.ofNat) (h1 : p.laysLater = false) (h2 : p.bearsReflect = false) (h3 : p.doorRows = []) : p.mayEnter = true := by
 unfold Program.mayEnter Program.doorFits
 rw [h, h1, h2, h3]
 kernel_rfl
theorem head_b (p : Program) (h : p.initOrder.toList = Z36.map Char.ofNat) : p.liftsFinal = false := by
 unfold Program.liftsFinal Program.headLifts
 rw [h]
 kernel_rfl
theorem head_c (p : Program) (h : p.initOrder.toList = Z36.map Char.ofNat) : p.make = some .cut := by
 unfold Program.make Program.headLifts
 rw [h]
 kernel_rfl
theorem Try.head0 : Try.prog.initOrder = String.ofList (Z36.map Char.ofNat) := by kernel_rfl
theorem Try.headL : Try.prog.initOrder.toList = Z36.map Char.ofNat := by rw [Try.head0, String.toList_ofList]
theorem Try.head1 : Try.prog.mayEnter = true := head_a _ Try.headL (by kernel_rfl) (by kernel_rfl) (by kernel_rfl)
theorem Try.head2 : Try.prog.liftsFinal = false := head_b _ Try.headL
theorem Try.head3 : Try.prog.make = some .cut := head_c _ Try.headL
theorem Try.mapsRowed : mapsRowed Try.prog = true := by kernel_rfl
end Go.Proofs.Ytjphbnaepdcikaa
