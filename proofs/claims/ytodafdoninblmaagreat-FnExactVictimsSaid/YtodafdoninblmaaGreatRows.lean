/-
  No cell of these rows narrows 'for every input' (looked for: loops, veiled, ifaces, maps, wideKeys, modest, calm, conditions, laid).
  DERIVED. THE GIVEN ROWS OF THIS SEAT. 10 by the template 'for every input the law returns true; each argument reads behind the call as it read before'; 0 by the template 'total and deterministic' (their statements: YtodafdoninblmaaGreatTotals.lean).
  GIVEN WITH THE SEED: the statements are not yours to turn. If you find one false, say at which input.
  Laid BY PROGRAM, IN A SANDBOX (cutbox-rows.mjs): the forced cells as the released guide's own fill.sh prints them over the translation f9ac048bb45eb5c8… (all of the seat's roots in one cut). By AI agents, Wed Nov 11 2026. No macro, syntax, notation, axiom, sorry.
-/
import Derived.Test.YtodafdoninblmaaGreatChecked
import GoSem.Claim
import GoSem.ClaimJoined
import GoSem.ClaimMapViews
import Derived.JoinedTies
import Derived.KernelRfl
namespace Go.Proofs.YtodafdoninblmaaGreat
/- THE CELL 'sum', in the pinned program and in every row, IS THE sha256 OF THE DUMP (.gsa) THAT YtodafdoninblmaaGreatProg.lean LOADS. Nothing in Lean hashes anything: it is a label: what it is worth is what the hold of that sum in a sandbox is worth. -/
noncomputable def Tryz.pinned : Pinned := { name := "ytodafdoninblmaagreat", sum := "f9ac048bb45eb5c8552bb7feb17a443427ae204c52b6ec99274b326e4638d2e4", checked := Tryz.checked }
namespace Rows
def none {H : Type} : Left H := { results := [], args := [] }

/-- 'laws.FnExactWithout': WHATEVER THE INPUT: true; the input reads as it did. -/
def fnExactWithoutSpec : ChangeSpec := { name := "fnExactWithout", fn := fun _ => fun
  | [d1, d2] => { results := [.lit (.bool true)], args := [d1, d2] }
  | _ => none }
def fnExactWithoutRow : OpenClaim := { program := "ytodafdoninblmaagreat", sum := "f9ac048bb45eb5c8552bb7feb17a443427ae204c52b6ec99274b326e4638d2e4", func := "loop.example/g00454/laws.FnExactWithout", spec := "fnExactWithout", unfollowed := true, recurses := true, apart := false }
def FnExactWithoutSaid : Prop := fnExactWithoutRow.holds Tryz.pinned (OpenSpec.ofChange fnExactWithoutSpec)

/-- ITS FALSE NEIGHBOUR: 'it returns false'. Refute it at one input. -/
def fnExactWithoutWrong : ChangeSpec := { name := "fnExactWithout", fn := fun _ => fun
  | [d1, d2] => { results := [.lit (.bool false)], args := [d1, d2] }
  | _ => none }
def FnExactWithoutWrongFalsely : Prop := fnExactWithoutRow.holds Tryz.pinned (OpenSpec.ofChange fnExactWithoutWrong)

/-- 'laws.FnExactCanNow': WHATEVER THE INPUT: true; the input reads as it did. -/
def fnExactCanNowSpec : ChangeSpec := { name := "fnExactCanNow", fn := fun _ => fun
  | [d1, d2] => { results := [.lit (.bool true)], args := [d1, d2] }
  | _ => none }
def fnExactCanNowRow : OpenClaim := { program := "ytodafdoninblmaagreat", sum := "f9ac048bb45eb5c8552bb7feb17a443427ae204c52b6ec99274b326e4638d2e4", func := "loop.example/g00454/laws.FnExactCanNow", spec := "fnExactCanNow", unfollowed := true, recurses := true, apart := false }
def FnExactCanNowSaid : Prop := fnExactCanNowRow.holds Tryz.pinned (OpenSpec.ofChange fnExactCanNowSpec)

/-- ITS FALSE NEIGHBOUR: 'it returns false'. Refute it at one input. -/
def fnExactCanNowWrong : ChangeSpec := { name := "fnExactCanNow", fn := fun _ => fun
  | [d1, d2] => { results := [.lit (.bool false)], args := [d1, d2] }
  | _ => none }
def FnExactCanNowWrongFalsely : Prop := fnExactCanNowRow.holds Tryz.pinned (OpenSpec.ofChange fnExactCanNowWrong)

/-- 'laws.FnExactTextState': WHATEVER THE INPUT: true; the input reads as it did. -/
def fnExactTextStateSpec : ChangeSpec := { name := "fnExactTextState", fn := fun _ => fun
  | [d] => { results := [.lit (.bool true)], args := [d] }
  | _ => none }
def fnExactTextStateRow : OpenClaim := { program := "ytodafdoninblmaagreat", sum := "f9ac048bb45eb5c8552bb7feb17a443427ae204c52b6ec99274b326e4638d2e4", func := "loop.example/g00454/laws.FnExactTextState", spec := "fnExactTextState", unfollowed := true, recurses := true, apart := false }
def FnExactTextStateSaid : Prop := fnExactTextStateRow.holds Tryz.pinned (OpenSpec.ofChange fnExactTextStateSpec)

/-- ITS FALSE NEIGHBOUR: 'it returns false'. Refute it at one input. -/
def fnExactTextStateWrong : ChangeSpec := { name := "fnExactTextState", fn := fun _ => fun
  | [d] => { results := [.lit (.bool false)], args := [d] }
  | _ => none }
def FnExactTextStateWrongFalsely : Prop := fnExactTextStateRow.holds Tryz.pinned (OpenSpec.ofChange fnExactTextStateWrong)

/-- 'laws.FnExactVictims': WHATEVER THE INPUT: true; the input reads as it did. -/
def fnExactVictimsSpec : ChangeSpec := { name := "fnExactVictims", fn := fun _ => fun
  | [d1, d2] => { results := [.lit (.bool true)], args := [d1, d2] }
  | _ => none }
def fnExactVictimsRow : OpenClaim := { program := "ytodafdoninblmaagreat", sum := "f9ac048bb45eb5c8552bb7feb17a443427ae204c52b6ec99274b326e4638d2e4", func := "loop.example/g00454/laws.FnExactVictims", spec := "fnExactVictims", unfollowed := true, recurses := true, apart := false }
def FnExactVictimsSaid : Prop := fnExactVictimsRow.holds Tryz.pinned (OpenSpec.ofChange fnExactVictimsSpec)

/-- ITS FALSE NEIGHBOUR: 'it returns false'. Refute it at one input. -/
def fnExactVictimsWrong : ChangeSpec := { name := "fnExactVictims", fn := fun _ => fun
  | [d1, d2] => { results := [.lit (.bool false)], args := [d1, d2] }
  | _ => none }
def FnExactVictimsWrongFalsely : Prop := fnExactVictimsRow.holds Tryz.pinned (OpenSpec.ofChange fnExactVictimsWrong)

/-- 'laws.FnExactWhen': WHATEVER THE INPUT: true; the input reads as it did. -/
def fnExactWhenSpec : ChangeSpec := { name := "fnExactWhen", fn := fun _ => fun
  | [d1, d2] => { results := [.lit (.bool true)], args := [d1, d2] }
  | _ => none }
def fnExactWhenRow : OpenClaim := { program := "ytodafdoninblmaagreat", sum := "f9ac048bb45eb5c8552bb7feb17a443427ae204c52b6ec99274b326e4638d2e4", func := "loop.example/g00454/laws.FnExactWhen", spec := "fnExactWhen", unfollowed := true, recurses := true, apart := false }
def FnExactWhenSaid : Prop := fnExactWhenRow.holds Tryz.pinned (OpenSpec.ofChange fnExactWhenSpec)

/-- ITS FALSE NEIGHBOUR: 'it returns false'. Refute it at one input. -/
def fnExactWhenWrong : ChangeSpec := { name := "fnExactWhen", fn := fun _ => fun
  | [d1, d2] => { results := [.lit (.bool false)], args := [d1, d2] }
  | _ => none }
def FnExactWhenWrongFalsely : Prop := fnExactWhenRow.holds Tryz.pinned (OpenSpec.ofChange fnExactWhenWrong)

/-- 'laws.FnExactMakespan': WHATEVER THE INPUT: true; the input reads as it did. -/
def fnExactMakespanSpec : ChangeSpec := { name := "fnExactMakespan", fn := fun _ => fun
  | [d] => { results := [.lit (.bool true)], args := [d] }
  | _ => none }
def fnExactMakespanRow : OpenClaim := { program := "ytodafdoninblmaagreat", sum := "f9ac048bb45eb5c8552bb7feb17a443427ae204c52b6ec99274b326e4638d2e4", func := "loop.example/g00454/laws.FnExactMakespan", spec := "fnExactMakespan", unfollowed := true, recurses := true, apart := false }
def FnExactMakespanSaid : Prop := fnExactMakespanRow.holds Tryz.pinned (OpenSpec.ofChange fnExactMakespanSpec)

/-- ITS FALSE NEIGHBOUR: 'it returns false'. Refute it at one input. -/
def fnExactMakespanWrong : ChangeSpec := { name := "fnExactMakespan", fn := fun _ => fun
  | [d] => { results := [.lit (.bool false)], args := [d] }
  | _ => none }
def FnExactMakespanWrongFalsely : Prop := fnExactMakespanRow.holds Tryz.pinned (OpenSpec.ofChange fnExactMakespanWrong)

/-- 'laws.FnExactStuck': WHATEVER THE INPUT: true; the input reads as it did. -/
def fnExactStuckSpec : ChangeSpec := { name := "fnExactStuck", fn := fun _ => fun
  | [d] => { results := [.lit (.bool true)], args := [d] }
  | _ => none }
def fnExactStuckRow : OpenClaim := { program := "ytodafdoninblmaagreat", sum := "f9ac048bb45eb5c8552bb7feb17a443427ae204c52b6ec99274b326e4638d2e4", func := "loop.example/g00454/laws.FnExactStuck", spec := "fnExactStuck", unfollowed := true, recurses := true, apart := false }
def FnExactStuckSaid : Prop := fnExactStuckRow.holds Tryz.pinned (OpenSpec.ofChange fnExactStuckSpec)

/-- ITS FALSE NEIGHBOUR: 'it returns false'. Refute it at one input. -/
def fnExactStuckWrong : ChangeSpec := { name := "fnExactStuck", fn := fun _ => fun
  | [d] => { results := [.lit (.bool false)], args := [d] }
  | _ => none }
def FnExactStuckWrongFalsely : Prop := fnExactStuckRow.holds Tryz.pinned (OpenSpec.ofChange fnExactStuckWrong)

/-- 'laws.FnExactAhead': WHATEVER THE INPUT: true; the input reads as it did. -/
def fnExactAheadSpec : ChangeSpec := { name := "fnExactAhead", fn := fun _ => fun
  | [d] => { results := [.lit (.bool true)], args := [d] }
  | _ => none }
def fnExactAheadRow : OpenClaim := { program := "ytodafdoninblmaagreat", sum := "f9ac048bb45eb5c8552bb7feb17a443427ae204c52b6ec99274b326e4638d2e4", func := "loop.example/g00454/laws.FnExactAhead", spec := "fnExactAhead", unfollowed := true, recurses := true, apart := false }
def FnExactAheadSaid : Prop := fnExactAheadRow.holds Tryz.pinned (OpenSpec.ofChange fnExactAheadSpec)

/-- ITS FALSE NEIGHBOUR: 'it returns false'. Refute it at one input. -/
def fnExactAheadWrong : ChangeSpec := { name := "fnExactAhead", fn := fun _ => fun
  | [d] => { results := [.lit (.bool false)], args := [d] }
  | _ => none }
def FnExactAheadWrongFalsely : Prop := fnExactAheadRow.holds Tryz.pinned (OpenSpec.ofChange fnExactAheadWrong)

/-- 'laws.FnExactIdle': WHATEVER THE INPUT: true; the input reads as it did. -/
def fnExactIdleSpec : ChangeSpec := { name := "fnExactIdle", fn := fun _ => fun
  | [d] => { results := [.lit (.bool true)], args := [d] }
  | _ => none }
def fnExactIdleRow : OpenClaim := { program := "ytodafdoninblmaagreat", sum := "f9ac048bb45eb5c8552bb7feb17a443427ae204c52b6ec99274b326e4638d2e4", func := "loop.example/g00454/laws.FnExactIdle", spec := "fnExactIdle", unfollowed := true, recurses := true, apart := false }
def FnExactIdleSaid : Prop := fnExactIdleRow.holds Tryz.pinned (OpenSpec.ofChange fnExactIdleSpec)

/-- ITS FALSE NEIGHBOUR: 'it returns false'. Refute it at one input. -/
def fnExactIdleWrong : ChangeSpec := { name := "fnExactIdle", fn := fun _ => fun
  | [d] => { results := [.lit (.bool false)], args := [d] }
  | _ => none }
def FnExactIdleWrongFalsely : Prop := fnExactIdleRow.holds Tryz.pinned (OpenSpec.ofChange fnExactIdleWrong)

/-- 'laws.FnExactGiveWay': WHATEVER THE INPUT: true; the input reads as it did. -/
def fnExactGiveWaySpec : ChangeSpec := { name := "fnExactGiveWay", fn := fun _ => fun
  | [d1, d2] => { results := [.lit (.bool true)], args := [d1, d2] }
  | _ => none }
def fnExactGiveWayRow : OpenClaim := { program := "ytodafdoninblmaagreat", sum := "f9ac048bb45eb5c8552bb7feb17a443427ae204c52b6ec99274b326e4638d2e4", func := "loop.example/g00454/laws.FnExactGiveWay", spec := "fnExactGiveWay", unfollowed := true, recurses := true, apart := false }
def FnExactGiveWaySaid : Prop := fnExactGiveWayRow.holds Tryz.pinned (OpenSpec.ofChange fnExactGiveWaySpec)

/-- ITS FALSE NEIGHBOUR: 'it returns false'. Refute it at one input. -/
def fnExactGiveWayWrong : ChangeSpec := { name := "fnExactGiveWay", fn := fun _ => fun
  | [d1, d2] => { results := [.lit (.bool false)], args := [d1, d2] }
  | _ => none }
def FnExactGiveWayWrongFalsely : Prop := fnExactGiveWayRow.holds Tryz.pinned (OpenSpec.ofChange fnExactGiveWayWrong)

/- THE SECOND FORM. 'bulk': how many values and letters a reading holds, each counted each time it is reached (what is shared counts as often as it is met; a slice's spare places count too). A statement '..UptoSaid' is the law's where the arguments, and the package variables that the reading takes, are together of bulk at most 1048576: NARROWER than '..Said'. Prove '..Said' where nothing that the law and all that it calls make is longer than what came in: it says more and counts as full. Else prove '..UptoSaid'. A law counts once. -/
mutual
def uptoBulk {H : Type} : DataW H → Nat
  | .lit (.string bytes) => bytes.length + 1
  | .lit _ => 1
  | .nil => 1
  | .ptr d => uptoBulk d + 1
  | .slice elems spare => uptoBulkAll elems + uptoBulkAll spare + 1
  | .agg parts => uptoBulkAll parts + 1
  | .iface _ d => uptoBulk d + 1
  | .map entries => uptoBulkEntries entries + 1
  | .held _ => 1
def uptoBulkAll {H : Type} : List (DataW H) → Nat
  | [] => 0
  | d :: r => uptoBulk d + uptoBulkAll r
def uptoBulkEntries {H : Type} : List (Lit × DataW H) → Nat
  | [] => 0
  | x :: r => uptoBulkEntry x + uptoBulkEntries r
def uptoBulkEntry {H : Type} : Lit × DataW H → Nat
  | (.string bytes, d) => bytes.length + uptoBulk d + 1
  | (_, d) => uptoBulk d + 1
 end
def uptoSmall : (H : Type) → List (DataW H) → Bool := fun _ ds => decide (uptoBulkAll ds ≤ 1048576)
def OpenSpec.upto (s : _root_.Go.ChangeSpec) : _root_.Go.OpenSpec := { _root_.Go.OpenSpec.ofChange s with cond := some uptoSmall }

/-- 'laws.FnExactWithout', WHERE WHAT IT READS IS OF BULK AT MOST 1048576: true; the input reads as it did. -/
def fnExactWithoutUptoRow : OpenClaim := { program := "ytodafdoninblmaagreat", sum := "f9ac048bb45eb5c8552bb7feb17a443427ae204c52b6ec99274b326e4638d2e4", func := "loop.example/g00454/laws.FnExactWithout", spec := "fnExactWithout", unfollowed := true, recurses := true, apart := false, narrowed := true }
def FnExactWithoutUptoSaid : Prop := fnExactWithoutUptoRow.holds Tryz.pinned (OpenSpec.upto fnExactWithoutSpec)

/-- 'laws.FnExactCanNow', WHERE WHAT IT READS IS OF BULK AT MOST 1048576: true; the input reads as it did. -/
def fnExactCanNowUptoRow : OpenClaim := { program := "ytodafdoninblmaagreat", sum := "f9ac048bb45eb5c8552bb7feb17a443427ae204c52b6ec99274b326e4638d2e4", func := "loop.example/g00454/laws.FnExactCanNow", spec := "fnExactCanNow", unfollowed := true, recurses := true, apart := false, narrowed := true }
def FnExactCanNowUptoSaid : Prop := fnExactCanNowUptoRow.holds Tryz.pinned (OpenSpec.upto fnExactCanNowSpec)

/-- 'laws.FnExactTextState', WHERE WHAT IT READS IS OF BULK AT MOST 1048576: true; the input reads as it did. -/
def fnExactTextStateUptoRow : OpenClaim := { program := "ytodafdoninblmaagreat", sum := "f9ac048bb45eb5c8552bb7feb17a443427ae204c52b6ec99274b326e4638d2e4", func := "loop.example/g00454/laws.FnExactTextState", spec := "fnExactTextState", unfollowed := true, recurses := true, apart := false, narrowed := true }
def FnExactTextStateUptoSaid : Prop := fnExactTextStateUptoRow.holds Tryz.pinned (OpenSpec.upto fnExactTextStateSpec)

/-- 'laws.FnExactVictims', WHERE WHAT IT READS IS OF BULK AT MOST 1048576: true; the input reads as it did. -/
def fnExactVictimsUptoRow : OpenClaim := { program := "ytodafdoninblmaagreat", sum := "f9ac048bb45eb5c8552bb7feb17a443427ae204c52b6ec99274b326e4638d2e4", func := "loop.example/g00454/laws.FnExactVictims", spec := "fnExactVictims", unfollowed := true, recurses := true, apart := false, narrowed := true }
def FnExactVictimsUptoSaid : Prop := fnExactVictimsUptoRow.holds Tryz.pinned (OpenSpec.upto fnExactVictimsSpec)

/-- 'laws.FnExactWhen', WHERE WHAT IT READS IS OF BULK AT MOST 1048576: true; the input reads as it did. -/
def fnExactWhenUptoRow : OpenClaim := { program := "ytodafdoninblmaagreat", sum := "f9ac048bb45eb5c8552bb7feb17a443427ae204c52b6ec99274b326e4638d2e4", func := "loop.example/g00454/laws.FnExactWhen", spec := "fnExactWhen", unfollowed := true, recurses := true, apart := false, narrowed := true }
def FnExactWhenUptoSaid : Prop := fnExactWhenUptoRow.holds Tryz.pinned (OpenSpec.upto fnExactWhenSpec)

/-- 'laws.FnExactMakespan', WHERE WHAT IT READS IS OF BULK AT MOST 1048576: true; the input reads as it did. -/
def fnExactMakespanUptoRow : OpenClaim := { program := "ytodafdoninblmaagreat", sum := "f9ac048bb45eb5c8552bb7feb17a443427ae204c52b6ec99274b326e4638d2e4", func := "loop.example/g00454/laws.FnExactMakespan", spec := "fnExactMakespan", unfollowed := true, recurses := true, apart := false, narrowed := true }
def FnExactMakespanUptoSaid : Prop := fnExactMakespanUptoRow.holds Tryz.pinned (OpenSpec.upto fnExactMakespanSpec)

/-- 'laws.FnExactStuck', WHERE WHAT IT READS IS OF BULK AT MOST 1048576: true; the input reads as it did. -/
def fnExactStuckUptoRow : OpenClaim := { program := "ytodafdoninblmaagreat", sum := "f9ac048bb45eb5c8552bb7feb17a443427ae204c52b6ec99274b326e4638d2e4", func := "loop.example/g00454/laws.FnExactStuck", spec := "fnExactStuck", unfollowed := true, recurses := true, apart := false, narrowed := true }
def FnExactStuckUptoSaid : Prop := fnExactStuckUptoRow.holds Tryz.pinned (OpenSpec.upto fnExactStuckSpec)

/-- 'laws.FnExactAhead', WHERE WHAT IT READS IS OF BULK AT MOST 1048576: true; the input reads as it did. -/
def fnExactAheadUptoRow : OpenClaim := { program := "ytodafdoninblmaagreat", sum := "f9ac048bb45eb5c8552bb7feb17a443427ae204c52b6ec99274b326e4638d2e4", func := "loop.example/g00454/laws.FnExactAhead", spec := "fnExactAhead", unfollowed := true, recurses := true, apart := false, narrowed := true }
def FnExactAheadUptoSaid : Prop := fnExactAheadUptoRow.holds Tryz.pinned (OpenSpec.upto fnExactAheadSpec)

/-- 'laws.FnExactIdle', WHERE WHAT IT READS IS OF BULK AT MOST 1048576: true; the input reads as it did. -/
def fnExactIdleUptoRow : OpenClaim := { program := "ytodafdoninblmaagreat", sum := "f9ac048bb45eb5c8552bb7feb17a443427ae204c52b6ec99274b326e4638d2e4", func := "loop.example/g00454/laws.FnExactIdle", spec := "fnExactIdle", unfollowed := true, recurses := true, apart := false, narrowed := true }
def FnExactIdleUptoSaid : Prop := fnExactIdleUptoRow.holds Tryz.pinned (OpenSpec.upto fnExactIdleSpec)

/-- 'laws.FnExactGiveWay', WHERE WHAT IT READS IS OF BULK AT MOST 1048576: true; the input reads as it did. -/
def fnExactGiveWayUptoRow : OpenClaim := { program := "ytodafdoninblmaagreat", sum := "f9ac048bb45eb5c8552bb7feb17a443427ae204c52b6ec99274b326e4638d2e4", func := "loop.example/g00454/laws.FnExactGiveWay", spec := "fnExactGiveWay", unfollowed := true, recurses := true, apart := false, narrowed := true }
def FnExactGiveWayUptoSaid : Prop := fnExactGiveWayUptoRow.holds Tryz.pinned (OpenSpec.upto fnExactGiveWaySpec)

end Rows
end Go.Proofs.YtodafdoninblmaaGreat
