/-
  No cell of these rows narrows 'for every input' (looked for: loops, veiled, ifaces, maps, wideKeys, modest, calm, conditions, laid).
  DERIVED. THE GIVEN ROWS OF THIS SEAT. 5 by the template 'for every input the law returns true; each argument reads behind the call as it read before'; 0 by the template 'total and deterministic' (their statements: YtpgaganbacipnaaGreatTotals.lean).
  GIVEN WITH THE SEED: the statements are not yours to turn. If you find one false, say at which input.
  Laid BY PROGRAM, IN A SANDBOX (cutbox-rows.mjs): the forced cells as the released guide's own fill.sh prints them over the translation c1f41d66fb1d3dc1… (all of the seat's roots in one cut). By AI agents, Wed Nov 11 2026. No macro, syntax, notation, axiom, sorry.
-/
import Derived.Test.YtpgaganbacipnaaGreatChecked
import GoSem.Claim
import GoSem.ClaimJoined
import GoSem.ClaimMapViews
import Derived.JoinedTies
import Derived.KernelRfl
namespace Go.Proofs.YtpgaganbacipnaaGreat
/- THE CELL 'sum', in the pinned program and in every row, IS THE sha256 OF THE DUMP (.gsa) THAT YtpgaganbacipnaaGreatProg.lean LOADS. Nothing in Lean hashes anything: it is a label: what it is worth is what the hold of that sum in a sandbox is worth. -/
noncomputable def Tryz.pinned : Pinned := { name := "ytpgaganbacipnaagreat", sum := "c1f41d66fb1d3dc178e56ba7dd8beebf186ac5deaace4305b5ae22a2fa6a31e4", checked := Tryz.checked }
namespace Rows
def none {H : Type} : Left H := { results := [], args := [] }

/-- 'laws.FnVictims': WHATEVER THE INPUT: true; the input reads as it did. -/
def fnVictimsSpec : ChangeSpec := { name := "fnVictims", fn := fun _ => fun
  | [d] => { results := [.lit (.bool true)], args := [d] }
  | _ => none }
def fnVictimsRow : OpenClaim := { program := "ytpgaganbacipnaagreat", sum := "c1f41d66fb1d3dc178e56ba7dd8beebf186ac5deaace4305b5ae22a2fa6a31e4", func := "loop.example/g00454/laws.FnVictims", spec := "fnVictims", unfollowed := true, recurses := true, apart := false }
def FnVictimsSaid : Prop := fnVictimsRow.holds Tryz.pinned (OpenSpec.ofChange fnVictimsSpec)

/-- ITS FALSE NEIGHBOUR: 'it returns false'. Refute it at one input. -/
def fnVictimsWrong : ChangeSpec := { name := "fnVictims", fn := fun _ => fun
  | [d] => { results := [.lit (.bool false)], args := [d] }
  | _ => none }
def FnVictimsWrongFalsely : Prop := fnVictimsRow.holds Tryz.pinned (OpenSpec.ofChange fnVictimsWrong)

/-- 'laws.FnBills': WHATEVER THE INPUT: true; the input reads as it did. -/
def fnBillsSpec : ChangeSpec := { name := "fnBills", fn := fun _ => fun
  | [d] => { results := [.lit (.bool true)], args := [d] }
  | _ => none }
def fnBillsRow : OpenClaim := { program := "ytpgaganbacipnaagreat", sum := "c1f41d66fb1d3dc178e56ba7dd8beebf186ac5deaace4305b5ae22a2fa6a31e4", func := "loop.example/g00454/laws.FnBills", spec := "fnBills", unfollowed := true, recurses := true, apart := false }
def FnBillsSaid : Prop := fnBillsRow.holds Tryz.pinned (OpenSpec.ofChange fnBillsSpec)

/-- ITS FALSE NEIGHBOUR: 'it returns false'. Refute it at one input. -/
def fnBillsWrong : ChangeSpec := { name := "fnBills", fn := fun _ => fun
  | [d] => { results := [.lit (.bool false)], args := [d] }
  | _ => none }
def FnBillsWrongFalsely : Prop := fnBillsRow.holds Tryz.pinned (OpenSpec.ofChange fnBillsWrong)

/-- 'laws.FnSnap': WHATEVER THE INPUT: true; the input reads as it did. -/
def fnSnapSpec : ChangeSpec := { name := "fnSnap", fn := fun _ => fun
  | [d] => { results := [.lit (.bool true)], args := [d] }
  | _ => none }
def fnSnapRow : OpenClaim := { program := "ytpgaganbacipnaagreat", sum := "c1f41d66fb1d3dc178e56ba7dd8beebf186ac5deaace4305b5ae22a2fa6a31e4", func := "loop.example/g00454/laws.FnSnap", spec := "fnSnap", unfollowed := true, recurses := true, apart := false }
def FnSnapSaid : Prop := fnSnapRow.holds Tryz.pinned (OpenSpec.ofChange fnSnapSpec)

/-- ITS FALSE NEIGHBOUR: 'it returns false'. Refute it at one input. -/
def fnSnapWrong : ChangeSpec := { name := "fnSnap", fn := fun _ => fun
  | [d] => { results := [.lit (.bool false)], args := [d] }
  | _ => none }
def FnSnapWrongFalsely : Prop := fnSnapRow.holds Tryz.pinned (OpenSpec.ofChange fnSnapWrong)

/-- 'laws.FnAhead': WHATEVER THE INPUT: true; the input reads as it did. -/
def fnAheadSpec : ChangeSpec := { name := "fnAhead", fn := fun _ => fun
  | [d] => { results := [.lit (.bool true)], args := [d] }
  | _ => none }
def fnAheadRow : OpenClaim := { program := "ytpgaganbacipnaagreat", sum := "c1f41d66fb1d3dc178e56ba7dd8beebf186ac5deaace4305b5ae22a2fa6a31e4", func := "loop.example/g00454/laws.FnAhead", spec := "fnAhead", unfollowed := true, recurses := true, apart := false }
def FnAheadSaid : Prop := fnAheadRow.holds Tryz.pinned (OpenSpec.ofChange fnAheadSpec)

/-- ITS FALSE NEIGHBOUR: 'it returns false'. Refute it at one input. -/
def fnAheadWrong : ChangeSpec := { name := "fnAhead", fn := fun _ => fun
  | [d] => { results := [.lit (.bool false)], args := [d] }
  | _ => none }
def FnAheadWrongFalsely : Prop := fnAheadRow.holds Tryz.pinned (OpenSpec.ofChange fnAheadWrong)

/-- 'laws.FnGiveWay': WHATEVER THE INPUT: true; the input reads as it did. -/
def fnGiveWaySpec : ChangeSpec := { name := "fnGiveWay", fn := fun _ => fun
  | [d] => { results := [.lit (.bool true)], args := [d] }
  | _ => none }
def fnGiveWayRow : OpenClaim := { program := "ytpgaganbacipnaagreat", sum := "c1f41d66fb1d3dc178e56ba7dd8beebf186ac5deaace4305b5ae22a2fa6a31e4", func := "loop.example/g00454/laws.FnGiveWay", spec := "fnGiveWay", unfollowed := true, recurses := true, apart := false }
def FnGiveWaySaid : Prop := fnGiveWayRow.holds Tryz.pinned (OpenSpec.ofChange fnGiveWaySpec)

/-- ITS FALSE NEIGHBOUR: 'it returns false'. Refute it at one input. -/
def fnGiveWayWrong : ChangeSpec := { name := "fnGiveWay", fn := fun _ => fun
  | [d] => { results := [.lit (.bool false)], args := [d] }
  | _ => none }
def FnGiveWayWrongFalsely : Prop := fnGiveWayRow.holds Tryz.pinned (OpenSpec.ofChange fnGiveWayWrong)

/- THE SECOND FORM. 'bulk': how many values and letters a reading holds, each counted each time it is reached (what is shared counts as often as it is met; a slice's spare places count too). A statement '..UptoSaid' is the law's where the arguments, and the package variables that the reading takes, are together of bulk at most 1048576: NARROWER than '..Said'. Prove '..Said' where nothing that the law and all that it calls make is longer than what came in: it says more and counts as full. Else prove '..UptoSaid'. A law counts once. -/
mutual
def uptoBulk {H : Type} : DataW H → Nat
  | .lit (.string bytes) => bytes.length + 1
  | .lit _ => 1
  | .nil => 1
  | .ptr d => uptoBulk d + 1
  | .slice elems spare => uptoBulkAll elems + uptoBulkAll spare + 1
  | .agg parts => uptoBulkAll parts + 1
  | .iface _ d => uptoBulk d + 1
  | .map entries => uptoBulkEntries entries + 1
  | .held _ => 1
def uptoBulkAll {H : Type} : List (DataW H) → Nat
  | [] => 0
  | d :: r => uptoBulk d + uptoBulkAll r
def uptoBulkEntries {H : Type} : List (Lit × DataW H) → Nat
  | [] => 0
  | x :: r => uptoBulkEntry x + uptoBulkEntries r
def uptoBulkEntry {H : Type} : Lit × DataW H → Nat
  | (.string bytes, d) => bytes.length + uptoBulk d + 1
  | (_, d) => uptoBulk d + 1
 end
def uptoSmall : (H : Type) → List (DataW H) → Bool := fun _ ds => decide (uptoBulkAll ds ≤ 1048576)
def OpenSpec.upto (s : _root_.Go.ChangeSpec) : _root_.Go.OpenSpec := { _root_.Go.OpenSpec.ofChange s with cond := some uptoSmall }

/-- 'laws.FnVictims', WHERE WHAT IT READS IS OF BULK AT MOST 1048576: true; the input reads as it did. -/
def fnVictimsUptoRow : OpenClaim := { program := "ytpgaganbacipnaagreat", sum := "c1f41d66fb1d3dc178e56ba7dd8beebf186ac5deaace4305b5ae22a2fa6a31e4", func := "loop.example/g00454/laws.FnVictims", spec := "fnVictims", unfollowed := true, recurses := true, apart := false, narrowed := true }
def FnVictimsUptoSaid : Prop := fnVictimsUptoRow.holds Tryz.pinned (OpenSpec.upto fnVictimsSpec)

/-- 'laws.FnBills', WHERE WHAT IT READS IS OF BULK AT MOST 1048576: true; the input reads as it did. -/
def fnBillsUptoRow : OpenClaim := { program := "ytpgaganbacipnaagreat", sum := "c1f41d66fb1d3dc178e56ba7dd8beebf186ac5deaace4305b5ae22a2fa6a31e4", func := "loop.example/g00454/laws.FnBills", spec := "fnBills", unfollowed := true, recurses := true, apart := false, narrowed := true }
def FnBillsUptoSaid : Prop := fnBillsUptoRow.holds Tryz.pinned (OpenSpec.upto fnBillsSpec)

/-- 'laws.FnSnap', WHERE WHAT IT READS IS OF BULK AT MOST 1048576: true; the input reads as it did. -/
def fnSnapUptoRow : OpenClaim := { program := "ytpgaganbacipnaagreat", sum := "c1f41d66fb1d3dc178e56ba7dd8beebf186ac5deaace4305b5ae22a2fa6a31e4", func := "loop.example/g00454/laws.FnSnap", spec := "fnSnap", unfollowed := true, recurses := true, apart := false, narrowed := true }
def FnSnapUptoSaid : Prop := fnSnapUptoRow.holds Tryz.pinned (OpenSpec.upto fnSnapSpec)

/-- 'laws.FnAhead', WHERE WHAT IT READS IS OF BULK AT MOST 1048576: true; the input reads as it did. -/
def fnAheadUptoRow : OpenClaim := { program := "ytpgaganbacipnaagreat", sum := "c1f41d66fb1d3dc178e56ba7dd8beebf186ac5deaace4305b5ae22a2fa6a31e4", func := "loop.example/g00454/laws.FnAhead", spec := "fnAhead", unfollowed := true, recurses := true, apart := false, narrowed := true }
def FnAheadUptoSaid : Prop := fnAheadUptoRow.holds Tryz.pinned (OpenSpec.upto fnAheadSpec)

/-- 'laws.FnGiveWay', WHERE WHAT IT READS IS OF BULK AT MOST 1048576: true; the input reads as it did. -/
def fnGiveWayUptoRow : OpenClaim := { program := "ytpgaganbacipnaagreat", sum := "c1f41d66fb1d3dc178e56ba7dd8beebf186ac5deaace4305b5ae22a2fa6a31e4", func := "loop.example/g00454/laws.FnGiveWay", spec := "fnGiveWay", unfollowed := true, recurses := true, apart := false, narrowed := true }
def FnGiveWayUptoSaid : Prop := fnGiveWayUptoRow.holds Tryz.pinned (OpenSpec.upto fnGiveWaySpec)

end Rows
end Go.Proofs.YtpgaganbacipnaaGreat
