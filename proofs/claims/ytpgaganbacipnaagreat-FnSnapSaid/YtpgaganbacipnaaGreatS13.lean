/-
  Lemmas, part 13.
-/
import Derived.Test.YtpgaganbacipnaaGreatS12
import Derived.Test.YtpgaganbacipnaaGreatChecked
namespace Go.Proofs.YtpgaganbacipnaaGreat
open Go Go.RowKit Eng
def W0d:List Nat:=[104,97,114,110,101,115,115,32,102,50,56,54,52,50,56,98,100,55,99,50,56,48,52,49,51,99,102,50,53,53,97,48,53,49,50,56,98,101,100,97,50,51,50,99,48,56,48,50,101,53,54,100,52,48,55,100,48,97,50,57,55,57,49,98,99,56,97,98,100,54,98,50,32,99,117,116,32,97,116,32,108,111,111,112,46,101,120,97,109,112,108,101,47,103,48,48,52,53,52,47,108,97,119,115,46,70,110,86,105,99,116,105,109,115,32,108,111,111,112,46,101,120,97,109,112,108,101,47,103,48,48,52,53,52,47,108,97,119,115,46,70,110,66,105,108,108,115,32,108,111,111,112,46,101,120,97,109,112,108,101,47,103,48,48,52,53,52,47,108,97,119,115,46,70,110,83,110,97,112,32,108,111,111,112,46,101,120,97,109,112,108,101,47,103,48,48,52,53,52,47,108,97,119,115,46,70,110,65,104,101,97,100,32,108,111,111,112,46,101,120,97,109,112,108,101,47,103,48,48,52,53,52,47,108,97,119,115,46,70,110,71,105,118,101,87,97,121]
theorem Z21(p:Program)(h:p.initOrder.toList=W0d.map Char.ofNat)(h1:p.laysLater=false)(h2:p.bearsReflect=false)(h3:p.doorRows=[]):p.mayEnter=true:=by
 unfold Program.mayEnter Program.doorFits
 rw[h,h1,h2,h3]
 kernel_rfl
theorem L20(p:Program)(h:p.initOrder.toList=W0d.map Char.ofNat):p.liftsFinal=false:=by
 unfold Program.liftsFinal Program.headLifts
 rw[h]
 kernel_rfl
theorem M20(p:Program)(h:p.initOrder.toList=W0d.map Char.ofNat):p.make=some .cut:=by
 unfold Program.make Program.headLifts
 rw[h]
 kernel_rfl
theorem Tryz.head0:Tryz.prog.initOrder=String.ofList (W0d.map Char.ofNat):=by kernel_rfl
theorem Tryz.headL:Tryz.prog.initOrder.toList=W0d.map Char.ofNat:=by rw[Tryz.head0,String.toList_ofList]
theorem Tryz.head1:Tryz.prog.mayEnter=true:=Z21 _ Tryz.headL (by kernel_rfl) (by kernel_rfl) (by kernel_rfl)
theorem Tryz.head2:Tryz.prog.liftsFinal=false:=L20 _ Tryz.headL
theorem Tryz.head3:Tryz.prog.make=some .cut:=M20 _ Tryz.headL
theorem Tryz.mapsRowed:mapsRowed Tryz.prog=true:=by kernel_rfl
end Go.Proofs.YtpgaganbacipnaaGreat
