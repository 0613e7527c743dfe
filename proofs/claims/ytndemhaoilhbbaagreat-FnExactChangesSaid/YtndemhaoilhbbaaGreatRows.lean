/-
  No cell of these rows narrows 'for every input' (looked for: loops, veiled, ifaces, maps, wideKeys, modest, calm, conditions, laid).
  DERIVED. THE GIVEN ROWS OF THIS SEAT. 10 by the template 'for every input the law returns true; each argument reads behind the call as it read before'; 0 by the template 'total and deterministic' (their statements: YtndemhaoilhbbaaGreatTotals.lean).
  GIVEN WITH THE SEED: the statements are not yours to turn. If you find one false, say at which input.
  Laid BY PROGRAM, IN A SANDBOX (cutbox-rows.mjs): the forced cells as the released guide's own fill.sh prints them over the translation 9433ddb5baac4051… (all of the seat's roots in one cut). By AI agents, Wed Nov 11 2026. No macro, syntax, notation, axiom, sorry.
-/
import Derived.Test.YtndemhaoilhbbaaGreatChecked
import GoSem.Claim
import GoSem.ClaimJoined
import GoSem.ClaimMapViews
import Derived.JoinedTies
import Derived.KernelRfl
namespace Go.Proofs.YtndemhaoilhbbaaGreat
/- THE CELL 'sum', in the pinned program and in every row, IS THE sha256 OF THE DUMP (.gsa) THAT YtndemhaoilhbbaaGreatProg.lean LOADS. Nothing in Lean hashes anything: it is a label: what it is worth is what the hold of that sum in a sandbox is worth. -/
noncomputable def Tryz.pinned : Pinned := { name := "ytndemhaoilhbbaagreat", sum := "9433ddb5baac4051dc2a758c75f9ea2345357b39c914f6a3317bf59004ef401d", checked := Tryz.checked }
namespace Rows
def none {H : Type} : Left H := { results := [], args := [] }

/-- 'laws.FnExactLargest': WHATEVER THE INPUT: true; the input reads as it did. -/
def fnExactLargestSpec : ChangeSpec := { name := "fnExactLargest", fn := fun _ => fun
  | [d1, d2, d3] => { results := [.lit (.bool true)], args := [d1, d2, d3] }
  | _ => none }
def fnExactLargestRow : OpenClaim := { program := "ytndemhaoilhbbaagreat", sum := "9433ddb5baac4051dc2a758c75f9ea2345357b39c914f6a3317bf59004ef401d", func := "loop.example/g00454/laws.FnExactLargest", spec := "fnExactLargest", unfollowed := true, recurses := true, apart := false }
def FnExactLargestSaid : Prop := fnExactLargestRow.holds Tryz.pinned (OpenSpec.ofChange fnExactLargestSpec)

/-- ITS FALSE NEIGHBOUR: 'it returns false'. Refute it at one input. -/
def fnExactLargestWrong : ChangeSpec := { name := "fnExactLargest", fn := fun _ => fun
  | [d1, d2, d3] => { results := [.lit (.bool false)], args := [d1, d2, d3] }
  | _ => none }
def FnExactLargestWrongFalsely : Prop := fnExactLargestRow.holds Tryz.pinned (OpenSpec.ofChange fnExactLargestWrong)

/-- 'laws.FnExactBroken': WHATEVER THE INPUT: true; the input reads as it did. -/
def fnExactBrokenSpec : ChangeSpec := { name := "fnExactBroken", fn := fun _ => fun
  | [d1, d2] => { results := [.lit (.bool true)], args := [d1, d2] }
  | _ => none }
def fnExactBrokenRow : OpenClaim := { program := "ytndemhaoilhbbaagreat", sum := "9433ddb5baac4051dc2a758c75f9ea2345357b39c914f6a3317bf59004ef401d", func := "loop.example/g00454/laws.FnExactBroken", spec := "fnExactBroken", unfollowed := true, recurses := true, apart := false }
def FnExactBrokenSaid : Prop := fnExactBrokenRow.holds Tryz.pinned (OpenSpec.ofChange fnExactBrokenSpec)

/-- ITS FALSE NEIGHBOUR: 'it returns false'. Refute it at one input. -/
def fnExactBrokenWrong : ChangeSpec := { name := "fnExactBroken", fn := fun _ => fun
  | [d1, d2] => { results := [.lit (.bool false)], args := [d1, d2] }
  | _ => none }
def FnExactBrokenWrongFalsely : Prop := fnExactBrokenRow.holds Tryz.pinned (OpenSpec.ofChange fnExactBrokenWrong)

/-- 'laws.FnExactStateText': WHATEVER THE INPUT: true; the input reads as it did. -/
def fnExactStateTextSpec : ChangeSpec := { name := "fnExactStateText", fn := fun _ => fun
  | [d] => { results := [.lit (.bool true)], args := [d] }
  | _ => none }
def fnExactStateTextRow : OpenClaim := { program := "ytndemhaoilhbbaagreat", sum := "9433ddb5baac4051dc2a758c75f9ea2345357b39c914f6a3317bf59004ef401d", func := "loop.example/g00454/laws.FnExactStateText", spec := "fnExactStateText", unfollowed := true, recurses := true, apart := false }
def FnExactStateTextSaid : Prop := fnExactStateTextRow.holds Tryz.pinned (OpenSpec.ofChange fnExactStateTextSpec)

/-- ITS FALSE NEIGHBOUR: 'it returns false'. Refute it at one input. -/
def fnExactStateTextWrong : ChangeSpec := { name := "fnExactStateText", fn := fun _ => fun
  | [d] => { results := [.lit (.bool false)], args := [d] }
  | _ => none }
def FnExactStateTextWrongFalsely : Prop := fnExactStateTextRow.holds Tryz.pinned (OpenSpec.ofChange fnExactStateTextWrong)

/-- 'laws.FnExactFreeNodes': WHATEVER THE INPUT: true; the input reads as it did. -/
def fnExactFreeNodesSpec : ChangeSpec := { name := "fnExactFreeNodes", fn := fun _ => fun
  | [d1, d2] => { results := [.lit (.bool true)], args := [d1, d2] }
  | _ => none }
def fnExactFreeNodesRow : OpenClaim := { program := "ytndemhaoilhbbaagreat", sum := "9433ddb5baac4051dc2a758c75f9ea2345357b39c914f6a3317bf59004ef401d", func := "loop.example/g00454/laws.FnExactFreeNodes", spec := "fnExactFreeNodes", unfollowed := true, recurses := true, apart := false }
def FnExactFreeNodesSaid : Prop := fnExactFreeNodesRow.holds Tryz.pinned (OpenSpec.ofChange fnExactFreeNodesSpec)

/-- ITS FALSE NEIGHBOUR: 'it returns false'. Refute it at one input. -/
def fnExactFreeNodesWrong : ChangeSpec := { name := "fnExactFreeNodes", fn := fun _ => fun
  | [d1, d2] => { results := [.lit (.bool false)], args := [d1, d2] }
  | _ => none }
def FnExactFreeNodesWrongFalsely : Prop := fnExactFreeNodesRow.holds Tryz.pinned (OpenSpec.ofChange fnExactFreeNodesWrong)

/-- 'laws.FnExactDigest': WHATEVER THE INPUT: true; the input reads as it did. -/
def fnExactDigestSpec : ChangeSpec := { name := "fnExactDigest", fn := fun _ => fun
  | [d] => { results := [.lit (.bool true)], args := [d] }
  | _ => none }
def fnExactDigestRow : OpenClaim := { program := "ytndemhaoilhbbaagreat", sum := "9433ddb5baac4051dc2a758c75f9ea2345357b39c914f6a3317bf59004ef401d", func := "loop.example/g00454/laws.FnExactDigest", spec := "fnExactDigest", unfollowed := true, recurses := true, apart := false }
def FnExactDigestSaid : Prop := fnExactDigestRow.holds Tryz.pinned (OpenSpec.ofChange fnExactDigestSpec)

/-- ITS FALSE NEIGHBOUR: 'it returns false'. Refute it at one input. -/
def fnExactDigestWrong : ChangeSpec := { name := "fnExactDigest", fn := fun _ => fun
  | [d] => { results := [.lit (.bool false)], args := [d] }
  | _ => none }
def FnExactDigestWrongFalsely : Prop := fnExactDigestRow.holds Tryz.pinned (OpenSpec.ofChange fnExactDigestWrong)

/-- 'laws.FnExactBillsOf': WHATEVER THE INPUT: true; the input reads as it did. -/
def fnExactBillsOfSpec : ChangeSpec := { name := "fnExactBillsOf", fn := fun _ => fun
  | [d1, d2] => { results := [.lit (.bool true)], args := [d1, d2] }
  | _ => none }
def fnExactBillsOfRow : OpenClaim := { program := "ytndemhaoilhbbaagreat", sum := "9433ddb5baac4051dc2a758c75f9ea2345357b39c914f6a3317bf59004ef401d", func := "loop.example/g00454/laws.FnExactBillsOf", spec := "fnExactBillsOf", unfollowed := true, recurses := true, apart := false }
def FnExactBillsOfSaid : Prop := fnExactBillsOfRow.holds Tryz.pinned (OpenSpec.ofChange fnExactBillsOfSpec)

/-- ITS FALSE NEIGHBOUR: 'it returns false'. Refute it at one input. -/
def fnExactBillsOfWrong : ChangeSpec := { name := "fnExactBillsOf", fn := fun _ => fun
  | [d1, d2] => { results := [.lit (.bool false)], args := [d1, d2] }
  | _ => none }
def FnExactBillsOfWrongFalsely : Prop := fnExactBillsOfRow.holds Tryz.pinned (OpenSpec.ofChange fnExactBillsOfWrong)

/-- 'laws.FnExactChanges': WHATEVER THE INPUT: true; the input reads as it did. -/
def fnExactChangesSpec : ChangeSpec := { name := "fnExactChanges", fn := fun _ => fun
  | [d1, d2] => { results := [.lit (.bool true)], args := [d1, d2] }
  | _ => none }
def fnExactChangesRow : OpenClaim := { program := "ytndemhaoilhbbaagreat", sum := "9433ddb5baac4051dc2a758c75f9ea2345357b39c914f6a3317bf59004ef401d", func := "loop.example/g00454/laws.FnExactChanges", spec := "fnExactChanges", unfollowed := true, recurses := true, apart := false }
def FnExactChangesSaid : Prop := fnExactChangesRow.holds Tryz.pinned (OpenSpec.ofChange fnExactChangesSpec)

/-- ITS FALSE NEIGHBOUR: 'it returns false'. Refute it at one input. -/
def fnExactChangesWrong : ChangeSpec := { name := "fnExactChanges", fn := fun _ => fun
  | [d1, d2] => { results := [.lit (.bool false)], args := [d1, d2] }
  | _ => none }
def FnExactChangesWrongFalsely : Prop := fnExactChangesRow.holds Tryz.pinned (OpenSpec.ofChange fnExactChangesWrong)

/-- 'laws.FnExactPackOf': WHATEVER THE INPUT: true; the input reads as it did. -/
def fnExactPackOfSpec : ChangeSpec := { name := "fnExactPackOf", fn := fun _ => fun
  | [d] => { results := [.lit (.bool true)], args := [d] }
  | _ => none }
def fnExactPackOfRow : OpenClaim := { program := "ytndemhaoilhbbaagreat", sum := "9433ddb5baac4051dc2a758c75f9ea2345357b39c914f6a3317bf59004ef401d", func := "loop.example/g00454/laws.FnExactPackOf", spec := "fnExactPackOf", unfollowed := true, recurses := true, apart := false }
def FnExactPackOfSaid : Prop := fnExactPackOfRow.holds Tryz.pinned (OpenSpec.ofChange fnExactPackOfSpec)

/-- ITS FALSE NEIGHBOUR: 'it returns false'. Refute it at one input. -/
def fnExactPackOfWrong : ChangeSpec := { name := "fnExactPackOf", fn := fun _ => fun
  | [d] => { results := [.lit (.bool false)], args := [d] }
  | _ => none }
def FnExactPackOfWrongFalsely : Prop := fnExactPackOfRow.holds Tryz.pinned (OpenSpec.ofChange fnExactPackOfWrong)

/-- 'laws.FnBills': WHATEVER THE INPUT: true; the input reads as it did. -/
def fnBillsSpec : ChangeSpec := { name := "fnBills", fn := fun _ => fun
  | [d] => { results := [.lit (.bool true)], args := [d] }
  | _ => none }
def fnBillsRow : OpenClaim := { program := "ytndemhaoilhbbaagreat", sum := "9433ddb5baac4051dc2a758c75f9ea2345357b39c914f6a3317bf59004ef401d", func := "loop.example/g00454/laws.FnBills", spec := "fnBills", unfollowed := true, recurses := true, apart := false }
def FnBillsSaid : Prop := fnBillsRow.holds Tryz.pinned (OpenSpec.ofChange fnBillsSpec)

/-- ITS FALSE NEIGHBOUR: 'it returns false'. Refute it at one input. -/
def fnBillsWrong : ChangeSpec := { name := "fnBills", fn := fun _ => fun
  | [d] => { results := [.lit (.bool false)], args := [d] }
  | _ => none }
def FnBillsWrongFalsely : Prop := fnBillsRow.holds Tryz.pinned (OpenSpec.ofChange fnBillsWrong)

/-- 'laws.FnExactWithout': WHATEVER THE INPUT: true; the input reads as it did. -/
def fnExactWithoutSpec : ChangeSpec := { name := "fnExactWithout", fn := fun _ => fun
  | [d1, d2] => { results := [.lit (.bool true)], args := [d1, d2] }
  | _ => none }
def fnExactWithoutRow : OpenClaim := { program := "ytndemhaoilhbbaagreat", sum := "9433ddb5baac4051dc2a758c75f9ea2345357b39c914f6a3317bf59004ef401d", func := "loop.example/g00454/laws.FnExactWithout", spec := "fnExactWithout", unfollowed := true, recurses := true, apart := false }
def FnExactWithoutSaid : Prop := fnExactWithoutRow.holds Tryz.pinned (OpenSpec.ofChange fnExactWithoutSpec)

/-- ITS FALSE NEIGHBOUR: 'it returns false'. Refute it at one input. -/
def fnExactWithoutWrong : ChangeSpec := { name := "fnExactWithout", fn := fun _ => fun
  | [d1, d2] => { results := [.lit (.bool false)], args := [d1, d2] }
  | _ => none }
def FnExactWithoutWrongFalsely : Prop := fnExactWithoutRow.holds Tryz.pinned (OpenSpec.ofChange fnExactWithoutWrong)

/- THE SECOND FORM. 'bulk': how many values and letters a reading holds, each counted each time it is reached (what is shared counts as often as it is met; a slice's spare places count too). A statement '..UptoSaid' is the law's where the arguments, and the package variables that the reading takes, are together of bulk at most 1048576: NARROWER than '..Said'. Prove '..Said' where nothing that the law and all that it calls make is longer than what came in: it says more and counts as full. Else prove '..UptoSaid'. A law counts once. -/
mutual
def uptoBulk {H : Type} : DataW H → Nat
  | .lit (.string bytes) => bytes.length + 1
  | .lit _ => 1
  | .nil => 1
  | .ptr d => uptoBulk d + 1
  | .slice elems spare => uptoBulkAll elems + uptoBulkAll spare + 1
  | .agg parts => uptoBulkAll parts + 1
  | .iface _ d => uptoBulk d + 1
  | .map entries => uptoBulkEntries entries + 1
  | .held _ => 1
def uptoBulkAll {H : Type} : List (DataW H) → Nat
  | [] => 0
  | d :: r => uptoBulk d + uptoBulkAll r
def uptoBulkEntries {H : Type} : List (Lit × DataW H) → Nat
  | [] => 0
  | x :: r => uptoBulkEntry x + uptoBulkEntries r
def uptoBulkEntry {H : Type} : Lit × DataW H → Nat
  | (.string bytes, d) => bytes.length + uptoBulk d + 1
  | (_, d) => uptoBulk d + 1
 end
def uptoSmall : (H : Type) → List (DataW H) → Bool := fun _ ds => decide (uptoBulkAll ds ≤ 1048576)
def OpenSpec.upto (s : _root_.Go.ChangeSpec) : _root_.Go.OpenSpec := { _root_.Go.OpenSpec.ofChange s with cond := some uptoSmall }

/-- 'laws.FnExactLargest', WHERE WHAT IT READS IS OF BULK AT MOST 1048576: true; the input reads as it did. -/
def fnExactLargestUptoRow : OpenClaim := { program := "ytndemhaoilhbbaagreat", sum := "9433ddb5baac4051dc2a758c75f9ea2345357b39c914f6a3317bf59004ef401d", func := "loop.example/g00454/laws.FnExactLargest", spec := "fnExactLargest", unfollowed := true, recurses := true, apart := false, narrowed := true }
def FnExactLargestUptoSaid : Prop := fnExactLargestUptoRow.holds Tryz.pinned (OpenSpec.upto fnExactLargestSpec)

/-- 'laws.FnExactBroken', WHERE WHAT IT READS IS OF BULK AT MOST 1048576: true; the input reads as it did. -/
def fnExactBrokenUptoRow : OpenClaim := { program := "ytndemhaoilhbbaagreat", sum := "9433ddb5baac4051dc2a758c75f9ea2345357b39c914f6a3317bf59004ef401d", func := "loop.example/g00454/laws.FnExactBroken", spec := "fnExactBroken", unfollowed := true, recurses := true, apart := false, narrowed := true }
def FnExactBrokenUptoSaid : Prop := fnExactBrokenUptoRow.holds Tryz.pinned (OpenSpec.upto fnExactBrokenSpec)

/-- 'laws.FnExactStateText', WHERE WHAT IT READS IS OF BULK AT MOST 1048576: true; the input reads as it did. -/
def fnExactStateTextUptoRow : OpenClaim := { program := "ytndemhaoilhbbaagreat", sum := "9433ddb5baac4051dc2a758c75f9ea2345357b39c914f6a3317bf59004ef401d", func := "loop.example/g00454/laws.FnExactStateText", spec := "fnExactStateText", unfollowed := true, recurses := true, apart := false, narrowed := true }
def FnExactStateTextUptoSaid : Prop := fnExactStateTextUptoRow.holds Tryz.pinned (OpenSpec.upto fnExactStateTextSpec)

/-- 'laws.FnExactFreeNodes', WHERE WHAT IT READS IS OF BULK AT MOST 1048576: true; the input reads as it did. -/
def fnExactFreeNodesUptoRow : OpenClaim := { program := "ytndemhaoilhbbaagreat", sum := "9433ddb5baac4051dc2a758c75f9ea2345357b39c914f6a3317bf59004ef401d", func := "loop.example/g00454/laws.FnExactFreeNodes", spec := "fnExactFreeNodes", unfollowed := true, recurses := true, apart := false, narrowed := true }
def FnExactFreeNodesUptoSaid : Prop := fnExactFreeNodesUptoRow.holds Tryz.pinned (OpenSpec.upto fnExactFreeNodesSpec)

/-- 'laws.FnExactDigest', WHERE WHAT IT READS IS OF BULK AT MOST 1048576: true; the input reads as it did. -/
def fnExactDigestUptoRow : OpenClaim := { program := "ytndemhaoilhbbaagreat", sum := "9433ddb5baac4051dc2a758c75f9ea2345357b39c914f6a3317bf59004ef401d", func := "loop.example/g00454/laws.FnExactDigest", spec := "fnExactDigest", unfollowed := true, recurses := true, apart := false, narrowed := true }
def FnExactDigestUptoSaid : Prop := fnExactDigestUptoRow.holds Tryz.pinned (OpenSpec.upto fnExactDigestSpec)

/-- 'laws.FnExactBillsOf', WHERE WHAT IT READS IS OF BULK AT MOST 1048576: true; the input reads as it did. -/
def fnExactBillsOfUptoRow : OpenClaim := { program := "ytndemhaoilhbbaagreat", sum := "9433ddb5baac4051dc2a758c75f9ea2345357b39c914f6a3317bf59004ef401d", func := "loop.example/g00454/laws.FnExactBillsOf", spec := "fnExactBillsOf", unfollowed := true, recurses := true, apart := false, narrowed := true }
def FnExactBillsOfUptoSaid : Prop := fnExactBillsOfUptoRow.holds Tryz.pinned (OpenSpec.upto fnExactBillsOfSpec)

/-- 'laws.FnExactChanges', WHERE WHAT IT READS IS OF BULK AT MOST 1048576: true; the input reads as it did. -/
def fnExactChangesUptoRow : OpenClaim := { program := "ytndemhaoilhbbaagreat", sum := "9433ddb5baac4051dc2a758c75f9ea2345357b39c914f6a3317bf59004ef401d", func := "loop.example/g00454/laws.FnExactChanges", spec := "fnExactChanges", unfollowed := true, recurses := true, apart := false, narrowed := true }
def FnExactChangesUptoSaid : Prop := fnExactChangesUptoRow.holds Tryz.pinned (OpenSpec.upto fnExactChangesSpec)

/-- 'laws.FnExactPackOf', WHERE WHAT IT READS IS OF BULK AT MOST 1048576: true; the input reads as it did. -/
def fnExactPackOfUptoRow : OpenClaim := { program := "ytndemhaoilhbbaagreat", sum := "9433ddb5baac4051dc2a758c75f9ea2345357b39c914f6a3317bf59004ef401d", func := "loop.example/g00454/laws.FnExactPackOf", spec := "fnExactPackOf", unfollowed := true, recurses := true, apart := false, narrowed := true }
def FnExactPackOfUptoSaid : Prop := fnExactPackOfUptoRow.holds Tryz.pinned (OpenSpec.upto fnExactPackOfSpec)

/-- 'laws.FnBills', WHERE WHAT IT READS IS OF BULK AT MOST 1048576: true; the input reads as it did. -/
def fnBillsUptoRow : OpenClaim := { program := "ytndemhaoilhbbaagreat", sum := "9433ddb5baac4051dc2a758c75f9ea2345357b39c914f6a3317bf59004ef401d", func := "loop.example/g00454/laws.FnBills", spec := "fnBills", unfollowed := true, recurses := true, apart := false, narrowed := true }
def FnBillsUptoSaid : Prop := fnBillsUptoRow.holds Tryz.pinned (OpenSpec.upto fnBillsSpec)

/-- 'laws.FnExactWithout', WHERE WHAT IT READS IS OF BULK AT MOST 1048576: true; the input reads as it did. -/
def fnExactWithoutUptoRow : OpenClaim := { program := "ytndemhaoilhbbaagreat", sum := "9433ddb5baac4051dc2a758c75f9ea2345357b39c914f6a3317bf59004ef401d", func := "loop.example/g00454/laws.FnExactWithout", spec := "fnExactWithout", unfollowed := true, recurses := true, apart := false, narrowed := true }
def FnExactWithoutUptoSaid : Prop := fnExactWithoutUptoRow.holds Tryz.pinned (OpenSpec.upto fnExactWithoutSpec)

end Rows
end Go.Proofs.YtndemhaoilhbbaaGreat
