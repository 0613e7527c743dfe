/-
  Lemmas, part 11: the engine that steps through the code, the walks of functions, and the laws of what they compute.
-/
import Derived.Test.YtpljbgcghpamjaaGreatRA10
import Derived.Test.YtpljbgcghpamjaaGreatChecked
namespace Go.Proofs.YtpljbgcghpamjaaGreat
open Go Go.RowKit Eng
def Zw9:List Nat:=[104,97,114,110,101,115,115,32,53,51,101,52,55,50,99,98,97,55,98,48,49,57,56,50,97,56,54,52,55,49,98,102,52,52,56,54,57,49,50,50,100,102,57,52,54,98,54,53,55,97,54,55,102,49,98,100,102,100,98,100,98,55,49,50,102,51,98,101,55,49,49,48,32,99,117,116,32,97,116,32,108,111,111,112,46,101,120,97,109,112,108,101,47,103,48,48,52,53,52,47,108,97,119,115,46,70,110,69,120,97,99,116,68,101,115,107,79,107,32,108,111,111,112,46,101,120,97,109,112,108,101,47,103,48,48,52,53,52,47,108,97,119,115,46,70,110,69,120,97,99,116,68,101,115,107,82,101,112,111,114,116]
theorem head_a (p:Program) (h:p.initOrder.toList = Zw9.map Char.ofNat) (h1:p.laysLater = false) (h2:p.bearsReflect = false) (h3:p.doorRows = []):p.mayEnter = true:=by
 unfold Program.mayEnter Program.doorFits
 rw [h,h1,h2,h3]
 kernel_rfl
theorem head_b (p:Program) (h:p.initOrder.toList = Zw9.map Char.ofNat):p.liftsFinal = false:=by
 unfold Program.liftsFinal Program.headLifts
 rw [h]
 kernel_rfl
theorem head_c (p:Program) (h:p.initOrder.toList = Zw9.map Char.ofNat):p.make = some .cut:=by
 unfold Program.make Program.headLifts
 rw [h]
 kernel_rfl
theorem Tryz.head0:Tryz.prog.initOrder = String.ofList (Zw9.map Char.ofNat):=by kernel_rfl
theorem Tryz.headL:Tryz.prog.initOrder.toList = Zw9.map Char.ofNat:=by rw [Tryz.head0,String.toList_ofList]
theorem Tryz.head1:Tryz.prog.mayEnter = true:=head_a _ Tryz.headL (by kernel_rfl) (by kernel_rfl) (by kernel_rfl)
theorem Tryz.head2:Tryz.prog.liftsFinal = false:=head_b _ Tryz.headL
theorem Tryz.head3:Tryz.prog.make = some .cut:=head_c _ Tryz.headL
theorem Tryz.mapsRowed:mapsRowed Tryz.prog = true:=by kernel_rfl
end Go.Proofs.YtpljbgcghpamjaaGreat
