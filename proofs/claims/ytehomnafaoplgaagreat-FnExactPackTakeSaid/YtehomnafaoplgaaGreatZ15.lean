/-
  Lemmas, part 15.
-/
import Derived.Test.YtehomnafaoplgaaGreatZ14
import Derived.Test.YtehomnafaoplgaaGreatChecked
namespace Go.Proofs.YtehomnafaoplgaaGreat
open Go Go.RowKit Eng
def O0w:List Nat:=[104,97,114,110,101,115,115,32,54,53,102,102,48,98,56,52,50,99,54,48,56,98,55,52,99,48,56,49,57,55,56,56,57,57,52,99,55,97,50,48,53,49,57,99,98,51,101,51,97,53,50,52,56,52,50,98,102,56,49,97,57,98,53,49,97,98,48,57,98,100,100,55,32,99,117,116,32,97,116,32,108,111,111,112,46,101,120,97,109,112,108,101,47,103,48,48,52,53,52,47,108,97,119,115,46,70,110,69,120,97,99,116,84,101,120,116,83,116,97,116,101,32,108,111,111,112,46,101,120,97,109,112,108,101,47,103,48,48,52,53,52,47,108,97,119,115,46,70,110,69,120,97,99,116,80,97,99,107,66,121,116,101,115,32,108,111,111,112,46,101,120,97,109,112,108,101,47,103,48,48,52,53,52,47,108,97,119,115,46,70,110,69,120,97,99,116,80,97,99,107,82,101,97,100,32,108,111,111,112,46,101,120,97,109,112,108,101,47,103,48,48,52,53,52,47,108,97,119,115,46,70,110,69,120,97,99,116,80,97,99,107,67,117,116,32,108,111,111,112,46,101,120,97,109,112,108,101,47,103,48,48,52,53,52,47,108,97,119,115,46,70,110,69,120,97,99,116,80,97,99,107,84,97,107,101,32,108,111,111,112,46,101,120,97,109,112,108,101,47,103,48,48,52,53,52,47,108,97,119,115,46,70,110,80,97,99,107,84,97,107,101,32,108,111,111,112,46,101,120,97,109,112,108,101,47,103,48,48,52,53,52,47,108,97,119,115,46,70,110,80,97,99,107,32,108,111,111,112,46,101,120,97,109,112,108,101,47,103,48,48,52,53,52,47,108,97,119,115,46,70,110,69,120,97,99,116,80,97,99,107,83,116,97,116,101]
theorem O2D(p:Program)(h:p.initOrder.toList=O0w.map Char.ofNat)(h1:p.laysLater=false)(h2:p.bearsReflect=false)(h3:p.doorRows=[]):p.mayEnter=true:=by
 unfold Program.mayEnter Program.doorFits
 rw[h,h1,h2,h3]
 kernel_rfl
theorem W2D(p:Program)(h:p.initOrder.toList=O0w.map Char.ofNat):p.liftsFinal=false:=by
 unfold Program.liftsFinal Program.headLifts
 rw[h]
 kernel_rfl
theorem Q2D(p:Program)(h:p.initOrder.toList=O0w.map Char.ofNat):p.make=some .cut:=by
 unfold Program.make Program.headLifts
 rw[h]
 kernel_rfl
theorem Tryz.head0:Tryz.prog.initOrder=String.ofList (O0w.map Char.ofNat):=by kernel_rfl
theorem Tryz.headL:Tryz.prog.initOrder.toList=O0w.map Char.ofNat:=by rw[Tryz.head0,String.toList_ofList]
theorem Tryz.head1:Tryz.prog.mayEnter=true:=O2D _ Tryz.headL (by kernel_rfl) (by kernel_rfl) (by kernel_rfl)
theorem Tryz.head2:Tryz.prog.liftsFinal=false:=W2D _ Tryz.headL
theorem Tryz.head3:Tryz.prog.make=some .cut:=Q2D _ Tryz.headL
theorem Tryz.mapsRowed:mapsRowed Tryz.prog=true:=by kernel_rfl
end Go.Proofs.YtehomnafaoplgaaGreat
