/-
  Lemmas, part 14.
-/
import Derived.Test.YtodafdoninblmaaGreatV13
import Derived.Test.YtodafdoninblmaaGreatChecked
namespace Go.Proofs.YtodafdoninblmaaGreat
open Go Go.RowKit Eng
def Q06:List Nat:=[104,97,114,110,101,115,115,32,100,52,57,99,50,97,51,56,50,52,51,50,99,52,50,49,101,52,54,98,51,50,48,56,57,54,55,98,52,98,97,101,97,55,56,51,98,49,50,101,98,51,101,100,49,97,102,56,52,50,53,100,101,99,51,102,54,52,51,52,52,97,52,99,32,99,117,116,32,97,116,32,108,111,111,112,46,101,120,97,109,112,108,101,47,103,48,48,52,53,52,47,108,97,119,115,46,70,110,69,120,97,99,116,87,105,116,104,111,117,116,32,108,111,111,112,46,101,120,97,109,112,108,101,47,103,48,48,52,53,52,47,108,97,119,115,46,70,110,69,120,97,99,116,67,97,110,78,111,119,32,108,111,111,112,46,101,120,97,109,112,108,101,47,103,48,48,52,53,52,47,108,97,119,115,46,70,110,69,120,97,99,116,84,101,120,116,83,116,97,116,101,32,108,111,111,112,46,101,120,97,109,112,108,101,47,103,48,48,52,53,52,47,108,97,119,115,46,70,110,69,120,97,99,116,86,105,99,116,105,109,115,32,108,111,111,112,46,101,120,97,109,112,108,101,47,103,48,48,52,53,52,47,108,97,119,115,46,70,110,69,120,97,99,116,87,104,101,110,32,108,111,111,112,46,101,120,97,109,112,108,101,47,103,48,48,52,53,52,47,108,97,119,115,46,70,110,69,120,97,99,116,77,97,107,101,115,112,97,110,32,108,111,111,112,46,101,120,97,109,112,108,101,47,103,48,48,52,53,52,47,108,97,119,115,46,70,110,69,120,97,99,116,83,116,117,99,107,32,108,111,111,112,46,101,120,97,109,112,108,101,47,103,48,48,52,53,52,47,108,97,119,115,46,70,110,69,120,97,99,116,65,104,101,97,100,32,108,111,111,112,46,101,120,97,109,112,108,101,47,103,48,48,52,53,52,47,108,97,119,115,46,70,110,69,120,97,99,116,73,100,108,101,32,108,111,111,112,46,101,120,97,109,112,108,101,47,103,48,48,52,53,52,47,108,97,119,115,46,70,110,69,120,97,99,116,71,105,118,101,87,97,121]
theorem V1V(p:Program)(h:p.initOrder.toList=Q06.map Char.ofNat)(h1:p.laysLater=false)(h2:p.bearsReflect=false)(h3:p.doorRows=[]):p.mayEnter=true:=by
 unfold Program.mayEnter Program.doorFits
 rw[h,h1,h2,h3]
 kernel_rfl
theorem X1V(p:Program)(h:p.initOrder.toList=Q06.map Char.ofNat):p.liftsFinal=false:=by
 unfold Program.liftsFinal Program.headLifts
 rw[h]
 kernel_rfl
theorem Y1V(p:Program)(h:p.initOrder.toList=Q06.map Char.ofNat):p.make=some .cut:=by
 unfold Program.make Program.headLifts
 rw[h]
 kernel_rfl
theorem Tryz.head0:Tryz.prog.initOrder=String.ofList (Q06.map Char.ofNat):=by kernel_rfl
theorem Tryz.headL:Tryz.prog.initOrder.toList=Q06.map Char.ofNat:=by rw[Tryz.head0,String.toList_ofList]
theorem Tryz.head1:Tryz.prog.mayEnter=true:=V1V _ Tryz.headL (by kernel_rfl) (by kernel_rfl) (by kernel_rfl)
theorem Tryz.head2:Tryz.prog.liftsFinal=false:=X1V _ Tryz.headL
theorem Tryz.head3:Tryz.prog.make=some .cut:=Y1V _ Tryz.headL
theorem Tryz.mapsRowed:mapsRowed Tryz.prog=true:=by kernel_rfl
end Go.Proofs.YtodafdoninblmaaGreat
