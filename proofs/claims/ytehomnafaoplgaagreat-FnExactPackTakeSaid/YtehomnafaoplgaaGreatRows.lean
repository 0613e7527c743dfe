/-
  No cell of these rows narrows 'for every input' (looked for: loops, veiled, ifaces, maps, wideKeys, modest, calm, conditions, laid).
  DERIVED. THE GIVEN ROWS OF THIS SEAT. 8 by the template 'for every input the law returns true; each argument reads behind the call as it read before'; 0 by the template 'total and deterministic' (their statements: YtehomnafaoplgaaGreatTotals.lean).
  GIVEN WITH THE SEED: the statements are not yours to turn. If you find one false, say at which input.
  Laid BY PROGRAM, IN A SANDBOX (cutbox-rows.mjs): the forced cells as the released guide's own fill.sh prints them over the translation f171ee1793562337… (all of the seat's roots in one cut). By AI agents, Wed Nov 11 2026. No macro, syntax, notation, axiom, sorry.
-/
import Derived.Test.YtehomnafaoplgaaGreatChecked
import GoSem.Claim
import GoSem.ClaimJoined
import GoSem.ClaimMapViews
import Derived.JoinedTies
import Derived.KernelRfl
namespace Go.Proofs.YtehomnafaoplgaaGreat
/- THE CELL 'sum', in the pinned program and in every row, IS THE sha256 OF THE DUMP (.gsa) THAT YtehomnafaoplgaaGreatProg.lean LOADS. Nothing in Lean hashes anything: it is a label: what it is worth is what the hold of that sum in a sandbox is worth. -/
noncomputable def Tryz.pinned : Pinned := { name := "ytehomnafaoplgaagreat", sum := "f171ee1793562337fc286214d7a92be95c7dfdeb943cb1cef5d6da243067002b", checked := Tryz.checked }
namespace Rows
def none {H : Type} : Left H := { results := [], args := [] }

/-- 'laws.FnExactTextState': WHATEVER THE INPUT: true; the input reads as it did. -/
def fnExactTextStateSpec : ChangeSpec := { name := "fnExactTextState", fn := fun _ => fun
  | [d] => { results := [.lit (.bool true)], args := [d] }
  | _ => none }
def fnExactTextStateRow : OpenClaim := { program := "ytehomnafaoplgaagreat", sum := "f171ee1793562337fc286214d7a92be95c7dfdeb943cb1cef5d6da243067002b", func := "loop.example/g00454/laws.FnExactTextState", spec := "fnExactTextState", unfollowed := true, recurses := true, apart := false }
def FnExactTextStateSaid : Prop := fnExactTextStateRow.holds Tryz.pinned (OpenSpec.ofChange fnExactTextStateSpec)

/-- ITS FALSE NEIGHBOUR: 'it returns false'. Refute it at one input. -/
def fnExactTextStateWrong : ChangeSpec := { name := "fnExactTextState", fn := fun _ => fun
  | [d] => { results := [.lit (.bool false)], args := [d] }
  | _ => none }
def FnExactTextStateWrongFalsely : Prop := fnExactTextStateRow.holds Tryz.pinned (OpenSpec.ofChange fnExactTextStateWrong)

/-- 'laws.FnExactPackBytes': WHATEVER THE INPUT: true; the input reads as it did. -/
def fnExactPackBytesSpec : ChangeSpec := { name := "fnExactPackBytes", fn := fun _ => fun
  | [d] => { results := [.lit (.bool true)], args := [d] }
  | _ => none }
def fnExactPackBytesRow : OpenClaim := { program := "ytehomnafaoplgaagreat", sum := "f171ee1793562337fc286214d7a92be95c7dfdeb943cb1cef5d6da243067002b", func := "loop.example/g00454/laws.FnExactPackBytes", spec := "fnExactPackBytes", unfollowed := true, recurses := true, apart := false }
def FnExactPackBytesSaid : Prop := fnExactPackBytesRow.holds Tryz.pinned (OpenSpec.ofChange fnExactPackBytesSpec)

/-- ITS FALSE NEIGHBOUR: 'it returns false'. Refute it at one input. -/
def fnExactPackBytesWrong : ChangeSpec := { name := "fnExactPackBytes", fn := fun _ => fun
  | [d] => { results := [.lit (.bool false)], args := [d] }
  | _ => none }
def FnExactPackBytesWrongFalsely : Prop := fnExactPackBytesRow.holds Tryz.pinned (OpenSpec.ofChange fnExactPackBytesWrong)

/-- 'laws.FnExactPackRead': WHATEVER THE INPUT: true; the input reads as it did. -/
def fnExactPackReadSpec : ChangeSpec := { name := "fnExactPackRead", fn := fun _ => fun
  | [d] => { results := [.lit (.bool true)], args := [d] }
  | _ => none }
def fnExactPackReadRow : OpenClaim := { program := "ytehomnafaoplgaagreat", sum := "f171ee1793562337fc286214d7a92be95c7dfdeb943cb1cef5d6da243067002b", func := "loop.example/g00454/laws.FnExactPackRead", spec := "fnExactPackRead", unfollowed := true, recurses := true, apart := false }
def FnExactPackReadSaid : Prop := fnExactPackReadRow.holds Tryz.pinned (OpenSpec.ofChange fnExactPackReadSpec)

/-- ITS FALSE NEIGHBOUR: 'it returns false'. Refute it at one input. -/
def fnExactPackReadWrong : ChangeSpec := { name := "fnExactPackRead", fn := fun _ => fun
  | [d] => { results := [.lit (.bool false)], args := [d] }
  | _ => none }
def FnExactPackReadWrongFalsely : Prop := fnExactPackReadRow.holds Tryz.pinned (OpenSpec.ofChange fnExactPackReadWrong)

/-- 'laws.FnExactPackCut': WHATEVER THE INPUT: true; the input reads as it did. -/
def fnExactPackCutSpec : ChangeSpec := { name := "fnExactPackCut", fn := fun _ => fun
  | [d] => { results := [.lit (.bool true)], args := [d] }
  | _ => none }
def fnExactPackCutRow : OpenClaim := { program := "ytehomnafaoplgaagreat", sum := "f171ee1793562337fc286214d7a92be95c7dfdeb943cb1cef5d6da243067002b", func := "loop.example/g00454/laws.FnExactPackCut", spec := "fnExactPackCut", unfollowed := true, recurses := true, apart := false }
def FnExactPackCutSaid : Prop := fnExactPackCutRow.holds Tryz.pinned (OpenSpec.ofChange fnExactPackCutSpec)

/-- ITS FALSE NEIGHBOUR: 'it returns false'. Refute it at one input. -/
def fnExactPackCutWrong : ChangeSpec := { name := "fnExactPackCut", fn := fun _ => fun
  | [d] => { results := [.lit (.bool false)], args := [d] }
  | _ => none }
def FnExactPackCutWrongFalsely : Prop := fnExactPackCutRow.holds Tryz.pinned (OpenSpec.ofChange fnExactPackCutWrong)

/-- 'laws.FnExactPackTake': WHATEVER THE INPUT: true; the input reads as it did. -/
def fnExactPackTakeSpec : ChangeSpec := { name := "fnExactPackTake", fn := fun _ => fun
  | [d1, d2] => { results := [.lit (.bool true)], args := [d1, d2] }
  | _ => none }
def fnExactPackTakeRow : OpenClaim := { program := "ytehomnafaoplgaagreat", sum := "f171ee1793562337fc286214d7a92be95c7dfdeb943cb1cef5d6da243067002b", func := "loop.example/g00454/laws.FnExactPackTake", spec := "fnExactPackTake", unfollowed := true, recurses := true, apart := false }
def FnExactPackTakeSaid : Prop := fnExactPackTakeRow.holds Tryz.pinned (OpenSpec.ofChange fnExactPackTakeSpec)

/-- ITS FALSE NEIGHBOUR: 'it returns false'. Refute it at one input. -/
def fnExactPackTakeWrong : ChangeSpec := { name := "fnExactPackTake", fn := fun _ => fun
  | [d1, d2] => { results := [.lit (.bool false)], args := [d1, d2] }
  | _ => none }
def FnExactPackTakeWrongFalsely : Prop := fnExactPackTakeRow.holds Tryz.pinned (OpenSpec.ofChange fnExactPackTakeWrong)

/-- 'laws.FnPackTake': WHATEVER THE INPUT: true; the input reads as it did. -/
def fnPackTakeSpec : ChangeSpec := { name := "fnPackTake", fn := fun _ => fun
  | [d] => { results := [.lit (.bool true)], args := [d] }
  | _ => none }
def fnPackTakeRow : OpenClaim := { program := "ytehomnafaoplgaagreat", sum := "f171ee1793562337fc286214d7a92be95c7dfdeb943cb1cef5d6da243067002b", func := "loop.example/g00454/laws.FnPackTake", spec := "fnPackTake", unfollowed := true, recurses := true, apart := false }
def FnPackTakeSaid : Prop := fnPackTakeRow.holds Tryz.pinned (OpenSpec.ofChange fnPackTakeSpec)

/-- ITS FALSE NEIGHBOUR: 'it returns false'. Refute it at one input. -/
def fnPackTakeWrong : ChangeSpec := { name := "fnPackTake", fn := fun _ => fun
  | [d] => { results := [.lit (.bool false)], args := [d] }
  | _ => none }
def FnPackTakeWrongFalsely : Prop := fnPackTakeRow.holds Tryz.pinned (OpenSpec.ofChange fnPackTakeWrong)

/-- 'laws.FnPack': WHATEVER THE INPUT: true; the input reads as it did. -/
def fnPackSpec : ChangeSpec := { name := "fnPack", fn := fun _ => fun
  | [d] => { results := [.lit (.bool true)], args := [d] }
  | _ => none }
def fnPackRow : OpenClaim := { program := "ytehomnafaoplgaagreat", sum := "f171ee1793562337fc286214d7a92be95c7dfdeb943cb1cef5d6da243067002b", func := "loop.example/g00454/laws.FnPack", spec := "fnPack", unfollowed := true, recurses := true, apart := false }
def FnPackSaid : Prop := fnPackRow.holds Tryz.pinned (OpenSpec.ofChange fnPackSpec)

/-- ITS FALSE NEIGHBOUR: 'it returns false'. Refute it at one input. -/
def fnPackWrong : ChangeSpec := { name := "fnPack", fn := fun _ => fun
  | [d] => { results := [.lit (.bool false)], args := [d] }
  | _ => none }
def FnPackWrongFalsely : Prop := fnPackRow.holds Tryz.pinned (OpenSpec.ofChange fnPackWrong)

/-- 'laws.FnExactPackState': WHATEVER THE INPUT: true; the input reads as it did. -/
def fnExactPackStateSpec : ChangeSpec := { name := "fnExactPackState", fn := fun _ => fun
  | [d] => { results := [.lit (.bool true)], args := [d] }
  | _ => none }
def fnExactPackStateRow : OpenClaim := { program := "ytehomnafaoplgaagreat", sum := "f171ee1793562337fc286214d7a92be95c7dfdeb943cb1cef5d6da243067002b", func := "loop.example/g00454/laws.FnExactPackState", spec := "fnExactPackState", unfollowed := true, recurses := true, apart := false }
def FnExactPackStateSaid : Prop := fnExactPackStateRow.holds Tryz.pinned (OpenSpec.ofChange fnExactPackStateSpec)

/-- ITS FALSE NEIGHBOUR: 'it returns false'. Refute it at one input. -/
def fnExactPackStateWrong : ChangeSpec := { name := "fnExactPackState", fn := fun _ => fun
  | [d] => { results := [.lit (.bool false)], args := [d] }
  | _ => none }
def FnExactPackStateWrongFalsely : Prop := fnExactPackStateRow.holds Tryz.pinned (OpenSpec.ofChange fnExactPackStateWrong)

/- THE SECOND FORM. 'bulk': how many values and letters a reading holds, each counted each time it is reached (what is shared counts as often as it is met; a slice's spare places count too). A statement '..UptoSaid' is the law's where the arguments, and the package variables that the reading takes, are together of bulk at most 1048576: NARROWER than '..Said'. Prove '..Said' where nothing that the law and all that it calls make is longer than what came in: it says more and counts as full. Else prove '..UptoSaid'. A law counts once. -/
mutual
def uptoBulk {H : Type} : DataW H → Nat
  | .lit (.string bytes) => bytes.length + 1
  | .lit _ => 1
  | .nil => 1
  | .ptr d => uptoBulk d + 1
  | .slice elems spare => uptoBulkAll elems + uptoBulkAll spare + 1
  | .agg parts => uptoBulkAll parts + 1
  | .iface _ d => uptoBulk d + 1
  | .map entries => uptoBulkEntries entries + 1
  | .held _ => 1
def uptoBulkAll {H : Type} : List (DataW H) → Nat
  | [] => 0
  | d :: r => uptoBulk d + uptoBulkAll r
def uptoBulkEntries {H : Type} : List (Lit × DataW H) → Nat
  | [] => 0
  | x :: r => uptoBulkEntry x + uptoBulkEntries r
def uptoBulkEntry {H : Type} : Lit × DataW H → Nat
  | (.string bytes, d) => bytes.length + uptoBulk d + 1
  | (_, d) => uptoBulk d + 1
 end
def uptoSmall : (H : Type) → List (DataW H) → Bool := fun _ ds => decide (uptoBulkAll ds ≤ 1048576)
def OpenSpec.upto (s : _root_.Go.ChangeSpec) : _root_.Go.OpenSpec := { _root_.Go.OpenSpec.ofChange s with cond := some uptoSmall }

/-- 'laws.FnExactTextState', WHERE WHAT IT READS IS OF BULK AT MOST 1048576: true; the input reads as it did. -/
def fnExactTextStateUptoRow : OpenClaim := { program := "ytehomnafaoplgaagreat", sum := "f171ee1793562337fc286214d7a92be95c7dfdeb943cb1cef5d6da243067002b", func := "loop.example/g00454/laws.FnExactTextState", spec := "fnExactTextState", unfollowed := true, recurses := true, apart := false, narrowed := true }
def FnExactTextStateUptoSaid : Prop := fnExactTextStateUptoRow.holds Tryz.pinned (OpenSpec.upto fnExactTextStateSpec)

/-- 'laws.FnExactPackBytes', WHERE WHAT IT READS IS OF BULK AT MOST 1048576: true; the input reads as it did. -/
def fnExactPackBytesUptoRow : OpenClaim := { program := "ytehomnafaoplgaagreat", sum := "f171ee1793562337fc286214d7a92be95c7dfdeb943cb1cef5d6da243067002b", func := "loop.example/g00454/laws.FnExactPackBytes", spec := "fnExactPackBytes", unfollowed := true, recurses := true, apart := false, narrowed := true }
def FnExactPackBytesUptoSaid : Prop := fnExactPackBytesUptoRow.holds Tryz.pinned (OpenSpec.upto fnExactPackBytesSpec)

/-- 'laws.FnExactPackRead', WHERE WHAT IT READS IS OF BULK AT MOST 1048576: true; the input reads as it did. -/
def fnExactPackReadUptoRow : OpenClaim := { program := "ytehomnafaoplgaagreat", sum := "f171ee1793562337fc286214d7a92be95c7dfdeb943cb1cef5d6da243067002b", func := "loop.example/g00454/laws.FnExactPackRead", spec := "fnExactPackRead", unfollowed := true, recurses := true, apart := false, narrowed := true }
def FnExactPackReadUptoSaid : Prop := fnExactPackReadUptoRow.holds Tryz.pinned (OpenSpec.upto fnExactPackReadSpec)

/-- 'laws.FnExactPackCut', WHERE WHAT IT READS IS OF BULK AT MOST 1048576: true; the input reads as it did. -/
def fnExactPackCutUptoRow : OpenClaim := { program := "ytehomnafaoplgaagreat", sum := "f171ee1793562337fc286214d7a92be95c7dfdeb943cb1cef5d6da243067002b", func := "loop.example/g00454/laws.FnExactPackCut", spec := "fnExactPackCut", unfollowed := true, recurses := true, apart := false, narrowed := true }
def FnExactPackCutUptoSaid : Prop := fnExactPackCutUptoRow.holds Tryz.pinned (OpenSpec.upto fnExactPackCutSpec)

/-- 'laws.FnExactPackTake', WHERE WHAT IT READS IS OF BULK AT MOST 1048576: true; the input reads as it did. -/
def fnExactPackTakeUptoRow : OpenClaim := { program := "ytehomnafaoplgaagreat", sum := "f171ee1793562337fc286214d7a92be95c7dfdeb943cb1cef5d6da243067002b", func := "loop.example/g00454/laws.FnExactPackTake", spec := "fnExactPackTake", unfollowed := true, recurses := true, apart := false, narrowed := true }
def FnExactPackTakeUptoSaid : Prop := fnExactPackTakeUptoRow.holds Tryz.pinned (OpenSpec.upto fnExactPackTakeSpec)

/-- 'laws.FnPackTake', WHERE WHAT IT READS IS OF BULK AT MOST 1048576: true; the input reads as it did. -/
def fnPackTakeUptoRow : OpenClaim := { program := "ytehomnafaoplgaagreat", sum := "f171ee1793562337fc286214d7a92be95c7dfdeb943cb1cef5d6da243067002b", func := "loop.example/g00454/laws.FnPackTake", spec := "fnPackTake", unfollowed := true, recurses := true, apart := false, narrowed := true }
def FnPackTakeUptoSaid : Prop := fnPackTakeUptoRow.holds Tryz.pinned (OpenSpec.upto fnPackTakeSpec)

/-- 'laws.FnPack', WHERE WHAT IT READS IS OF BULK AT MOST 1048576: true; the input reads as it did. -/
def fnPackUptoRow : OpenClaim := { program := "ytehomnafaoplgaagreat", sum := "f171ee1793562337fc286214d7a92be95c7dfdeb943cb1cef5d6da243067002b", func := "loop.example/g00454/laws.FnPack", spec := "fnPack", unfollowed := true, recurses := true, apart := false, narrowed := true }
def FnPackUptoSaid : Prop := fnPackUptoRow.holds Tryz.pinned (OpenSpec.upto fnPackSpec)

/-- 'laws.FnExactPackState', WHERE WHAT IT READS IS OF BULK AT MOST 1048576: true; the input reads as it did. -/
def fnExactPackStateUptoRow : OpenClaim := { program := "ytehomnafaoplgaagreat", sum := "f171ee1793562337fc286214d7a92be95c7dfdeb943cb1cef5d6da243067002b", func := "loop.example/g00454/laws.FnExactPackState", spec := "fnExactPackState", unfollowed := true, recurses := true, apart := false, narrowed := true }
def FnExactPackStateUptoSaid : Prop := fnExactPackStateUptoRow.holds Tryz.pinned (OpenSpec.upto fnExactPackStateSpec)

end Rows
end Go.Proofs.YtehomnafaoplgaaGreat
