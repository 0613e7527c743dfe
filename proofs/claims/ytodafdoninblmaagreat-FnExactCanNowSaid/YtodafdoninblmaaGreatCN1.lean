/-
  Lemmas, part 1: the engine that steps through the code, the walks of functions, and the laws of what they compute.
-/
import Derived.Test.YtodafdoninblmaaGreatProg
import Derived.Deep.QuietTactic
import Derived.Deep.Draws
import Derived.WalkKit
import Derived.Below
import Derived.OwnWalk
namespace Go.Proofs.YtodafdoninblmaaGreat
open Go Go.RowKit
set_option maxHeartbeats 1000000 in
theorem ZOh (x y:Nat) (cx cy:Int) (b ob r o:Nat) (n cap:Nat) (W:World) (hn:n <= 24) (hx:x < n) (hy:y < n)
  (hbox:W.cell? ⟨b,ob,none⟩ = some (.slice (some ⟨r,o,none⟩) n cap)) (h1:W.cell? ⟨r,o + x,none⟩ = some (.int .i64 cx)) (h2:W.cell? ⟨r,o + y,none⟩ = some (.int .i64 cy)) :
  Calls Tryz.prog 232 #[.int .i64 x,.int .i64 y,.pointer (some ⟨b,ob,none⟩)] W fun e w'=>e = .returned (.int .i64 (if cx ≠ cy then IntKind.i64.wrap (cy - cx) else IntKind.i64.wrap ((x:Int) - y))) /\ ∃ q,w' = W.drewN q:=by
 go_enter Tryz.func232,Tryz.ntmps232
 have i1:(0:Int) <= (x:Int):=by omega
 have i2:(x:Int) < (n:Int):=by omega
 have i3:(0:Int) <= (y:Int):=by omega
 have i4:(y:Int) < (n:Int):=by omega
 by_cases hc:cx = cy
 .subst hc
  have hb:(cx != cx) = false:=by simp
  go_wp2
  go_quiet (fail)
  go_wp2
  go_ret
  refine ⟨?_,_,rfl⟩
  have e:IntKind.i64.wrap ((x:Int) - y) = (x:Int) - y:=by rw [IntKind.wrap_i64]; omega
  simp [e]
 .have hb:(cx != cy) = true:=by simpa using hc
  go_wp2
  go_quiet (fail)
  go_wp2
  go_quiet (fail)
  go_wp2
  go_ret
  exact ⟨by simp,_,rfl⟩
end Go.Proofs.YtodafdoninblmaaGreat
