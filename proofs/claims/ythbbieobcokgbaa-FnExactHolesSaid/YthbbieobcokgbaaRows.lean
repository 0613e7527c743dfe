/-
  No cell of these rows narrows 'for every input' (looked for: loops, veiled, ifaces, maps, wideKeys, modest, calm, conditions, laid).
  DERIVED. THE GIVEN ROWS OF THIS SEAT. 16 by the template 'for every input the law returns true; each argument reads behind the call as it read before'; 0 by the template 'total and deterministic' (their statements: YthbbieobcokgbaaTotals.lean).
  GIVEN WITH THE SEED: the statements are not yours to turn. If you find one false, say at which input.
  Laid BY PROGRAM, IN A SANDBOX (cutbox-rows.mjs): the forced cells as the released guide's own fill.sh prints them over the translation f26ff5cb5ff2a8df… (all of the seat's roots in one cut). By AI agents, Wed Nov 11 2026. No macro, syntax, notation, axiom, sorry.
-/
import Derived.Test.YthbbieobcokgbaaChecked
import GoSem.Claim
import GoSem.ClaimJoined
import GoSem.ClaimMapViews
import Derived.JoinedTies
import Derived.KernelRfl
namespace Go.Proofs.Ythbbieobcokgbaa
/- THE CELL 'sum', in the pinned program and in every row, IS THE sha256 OF THE DUMP (.gsa) THAT YthbbieobcokgbaaProg.lean LOADS. Nothing in Lean hashes anything: it is a label: what it is worth is what the hold of that sum in a sandbox is worth. -/
noncomputable def Try.pinned : Pinned := { name := "ythbbieobcokgbaa", sum := "f26ff5cb5ff2a8dfae98ec1aace8c4b6b203d6d519622f91dd70ca86ff7c42aa", checked := Try.checked }
namespace Rows
def none {H : Type} : Left H := { results := [], args := [] }

/-- 'laws.FnExactHolesOk': WHATEVER THE INPUT: true; the input reads as it did. -/
def fnExactHolesOkSpec : ChangeSpec := { name := "fnExactHolesOk", fn := fun _ => fun
  | [d] => { results := [.lit (.bool true)], args := [d] }
  | _ => none }
def fnExactHolesOkRow : OpenClaim := { program := "ythbbieobcokgbaa", sum := "f26ff5cb5ff2a8dfae98ec1aace8c4b6b203d6d519622f91dd70ca86ff7c42aa", func := "loop.example/g00454/laws.FnExactHolesOk", spec := "fnExactHolesOk", apart := false }
def FnExactHolesOkSaid : Prop := fnExactHolesOkRow.holds Try.pinned (OpenSpec.ofChange fnExactHolesOkSpec)

/-- ITS FALSE NEIGHBOUR: 'it returns false'. Refute it at one input. -/
def fnExactHolesOkWrong : ChangeSpec := { name := "fnExactHolesOk", fn := fun _ => fun
  | [d] => { results := [.lit (.bool false)], args := [d] }
  | _ => none }
def FnExactHolesOkWrongFalsely : Prop := fnExactHolesOkRow.holds Try.pinned (OpenSpec.ofChange fnExactHolesOkWrong)

/-- 'laws.FnExactTermOk': WHATEVER THE INPUT: true; the input reads as it did. -/
def fnExactTermOkSpec : ChangeSpec := { name := "fnExactTermOk", fn := fun _ => fun
  | [d] => { results := [.lit (.bool true)], args := [d] }
  | _ => none }
def fnExactTermOkRow : OpenClaim := { program := "ythbbieobcokgbaa", sum := "f26ff5cb5ff2a8dfae98ec1aace8c4b6b203d6d519622f91dd70ca86ff7c42aa", func := "loop.example/g00454/laws.FnExactTermOk", spec := "fnExactTermOk", apart := false }
def FnExactTermOkSaid : Prop := fnExactTermOkRow.holds Try.pinned (OpenSpec.ofChange fnExactTermOkSpec)

/-- ITS FALSE NEIGHBOUR: 'it returns false'. Refute it at one input. -/
def fnExactTermOkWrong : ChangeSpec := { name := "fnExactTermOk", fn := fun _ => fun
  | [d] => { results := [.lit (.bool false)], args := [d] }
  | _ => none }
def FnExactTermOkWrongFalsely : Prop := fnExactTermOkRow.holds Try.pinned (OpenSpec.ofChange fnExactTermOkWrong)

/-- 'laws.FnExactLength': WHATEVER THE INPUT: true; the input reads as it did. -/
def fnExactLengthSpec : ChangeSpec := { name := "fnExactLength", fn := fun _ => fun
  | [d] => { results := [.lit (.bool true)], args := [d] }
  | _ => none }
def fnExactLengthRow : OpenClaim := { program := "ythbbieobcokgbaa", sum := "f26ff5cb5ff2a8dfae98ec1aace8c4b6b203d6d519622f91dd70ca86ff7c42aa", func := "loop.example/g00454/laws.FnExactLength", spec := "fnExactLength", apart := false }
def FnExactLengthSaid : Prop := fnExactLengthRow.holds Try.pinned (OpenSpec.ofChange fnExactLengthSpec)

/-- ITS FALSE NEIGHBOUR: 'it returns false'. Refute it at one input. -/
def fnExactLengthWrong : ChangeSpec := { name := "fnExactLength", fn := fun _ => fun
  | [d] => { results := [.lit (.bool false)], args := [d] }
  | _ => none }
def FnExactLengthWrongFalsely : Prop := fnExactLengthRow.holds Try.pinned (OpenSpec.ofChange fnExactLengthWrong)

/-- 'laws.FnExactWeaker': WHATEVER THE INPUT: true; the input reads as it did. -/
def fnExactWeakerSpec : ChangeSpec := { name := "fnExactWeaker", fn := fun _ => fun
  | [d1, d2] => { results := [.lit (.bool true)], args := [d1, d2] }
  | _ => none }
def fnExactWeakerRow : OpenClaim := { program := "ythbbieobcokgbaa", sum := "f26ff5cb5ff2a8dfae98ec1aace8c4b6b203d6d519622f91dd70ca86ff7c42aa", func := "loop.example/g00454/laws.FnExactWeaker", spec := "fnExactWeaker", apart := false }
def FnExactWeakerSaid : Prop := fnExactWeakerRow.holds Try.pinned (OpenSpec.ofChange fnExactWeakerSpec)

/-- ITS FALSE NEIGHBOUR: 'it returns false'. Refute it at one input. -/
def fnExactWeakerWrong : ChangeSpec := { name := "fnExactWeaker", fn := fun _ => fun
  | [d1, d2] => { results := [.lit (.bool false)], args := [d1, d2] }
  | _ => none }
def FnExactWeakerWrongFalsely : Prop := fnExactWeakerRow.holds Try.pinned (OpenSpec.ofChange fnExactWeakerWrong)

/-- 'laws.FnExactJobText': WHATEVER THE INPUT: true; the input reads as it did. -/
def fnExactJobTextSpec : ChangeSpec := { name := "fnExactJobText", fn := fun _ => fun
  | [d] => { results := [.lit (.bool true)], args := [d] }
  | _ => none }
def fnExactJobTextRow : OpenClaim := { program := "ythbbieobcokgbaa", sum := "f26ff5cb5ff2a8dfae98ec1aace8c4b6b203d6d519622f91dd70ca86ff7c42aa", func := "loop.example/g00454/laws.FnExactJobText", spec := "fnExactJobText", recurses := true, apart := false }
def FnExactJobTextSaid : Prop := fnExactJobTextRow.holds Try.pinned (OpenSpec.ofChange fnExactJobTextSpec)

/-- ITS FALSE NEIGHBOUR: 'it returns false'. Refute it at one input. -/
def fnExactJobTextWrong : ChangeSpec := { name := "fnExactJobText", fn := fun _ => fun
  | [d] => { results := [.lit (.bool false)], args := [d] }
  | _ => none }
def FnExactJobTextWrongFalsely : Prop := fnExactJobTextRow.holds Try.pinned (OpenSpec.ofChange fnExactJobTextWrong)

/-- 'laws.FnExactMeet': WHATEVER THE INPUT: true; the input reads as it did. -/
def fnExactMeetSpec : ChangeSpec := { name := "fnExactMeet", fn := fun _ => fun
  | [d1, d2] => { results := [.lit (.bool true)], args := [d1, d2] }
  | _ => none }
def fnExactMeetRow : OpenClaim := { program := "ythbbieobcokgbaa", sum := "f26ff5cb5ff2a8dfae98ec1aace8c4b6b203d6d519622f91dd70ca86ff7c42aa", func := "loop.example/g00454/laws.FnExactMeet", spec := "fnExactMeet", apart := false }
def FnExactMeetSaid : Prop := fnExactMeetRow.holds Try.pinned (OpenSpec.ofChange fnExactMeetSpec)

/-- ITS FALSE NEIGHBOUR: 'it returns false'. Refute it at one input. -/
def fnExactMeetWrong : ChangeSpec := { name := "fnExactMeet", fn := fun _ => fun
  | [d1, d2] => { results := [.lit (.bool false)], args := [d1, d2] }
  | _ => none }
def FnExactMeetWrongFalsely : Prop := fnExactMeetRow.holds Try.pinned (OpenSpec.ofChange fnExactMeetWrong)

/-- 'laws.FnExactGoes': WHATEVER THE INPUT: true; the input reads as it did. -/
def fnExactGoesSpec : ChangeSpec := { name := "fnExactGoes", fn := fun _ => fun
  | [d1, d2] => { results := [.lit (.bool true)], args := [d1, d2] }
  | _ => none }
def fnExactGoesRow : OpenClaim := { program := "ythbbieobcokgbaa", sum := "f26ff5cb5ff2a8dfae98ec1aace8c4b6b203d6d519622f91dd70ca86ff7c42aa", func := "loop.example/g00454/laws.FnExactGoes", spec := "fnExactGoes", apart := false }
def FnExactGoesSaid : Prop := fnExactGoesRow.holds Try.pinned (OpenSpec.ofChange fnExactGoesSpec)

/-- ITS FALSE NEIGHBOUR: 'it returns false'. Refute it at one input. -/
def fnExactGoesWrong : ChangeSpec := { name := "fnExactGoes", fn := fun _ => fun
  | [d1, d2] => { results := [.lit (.bool false)], args := [d1, d2] }
  | _ => none }
def FnExactGoesWrongFalsely : Prop := fnExactGoesRow.holds Try.pinned (OpenSpec.ofChange fnExactGoesWrong)

/-- 'laws.FnMeet': WHATEVER THE INPUT: true; the input reads as it did. -/
def fnMeetSpec : ChangeSpec := { name := "fnMeet", fn := fun _ => fun
  | [d] => { results := [.lit (.bool true)], args := [d] }
  | _ => none }
def fnMeetRow : OpenClaim := { program := "ythbbieobcokgbaa", sum := "f26ff5cb5ff2a8dfae98ec1aace8c4b6b203d6d519622f91dd70ca86ff7c42aa", func := "loop.example/g00454/laws.FnMeet", spec := "fnMeet", apart := false }
def FnMeetSaid : Prop := fnMeetRow.holds Try.pinned (OpenSpec.ofChange fnMeetSpec)

/-- ITS FALSE NEIGHBOUR: 'it returns false'. Refute it at one input. -/
def fnMeetWrong : ChangeSpec := { name := "fnMeet", fn := fun _ => fun
  | [d] => { results := [.lit (.bool false)], args := [d] }
  | _ => none }
def FnMeetWrongFalsely : Prop := fnMeetRow.holds Try.pinned (OpenSpec.ofChange fnMeetWrong)

/-- 'laws.FnExactAskText': WHATEVER THE INPUT: true; the input reads as it did. -/
def fnExactAskTextSpec : ChangeSpec := { name := "fnExactAskText", fn := fun _ => fun
  | [d] => { results := [.lit (.bool true)], args := [d] }
  | _ => none }
def fnExactAskTextRow : OpenClaim := { program := "ythbbieobcokgbaa", sum := "f26ff5cb5ff2a8dfae98ec1aace8c4b6b203d6d519622f91dd70ca86ff7c42aa", func := "loop.example/g00454/laws.FnExactAskText", spec := "fnExactAskText", recurses := true, apart := false }
def FnExactAskTextSaid : Prop := fnExactAskTextRow.holds Try.pinned (OpenSpec.ofChange fnExactAskTextSpec)

/-- ITS FALSE NEIGHBOUR: 'it returns false'. Refute it at one input. -/
def fnExactAskTextWrong : ChangeSpec := { name := "fnExactAskText", fn := fun _ => fun
  | [d] => { results := [.lit (.bool false)], args := [d] }
  | _ => none }
def FnExactAskTextWrongFalsely : Prop := fnExactAskTextRow.holds Try.pinned (OpenSpec.ofChange fnExactAskTextWrong)

/-- 'laws.FnExactLeast': WHATEVER THE INPUT: true; the input reads as it did. -/
def fnExactLeastSpec : ChangeSpec := { name := "fnExactLeast", fn := fun _ => fun
  | [d1, d2] => { results := [.lit (.bool true)], args := [d1, d2] }
  | _ => none }
def fnExactLeastRow : OpenClaim := { program := "ythbbieobcokgbaa", sum := "f26ff5cb5ff2a8dfae98ec1aace8c4b6b203d6d519622f91dd70ca86ff7c42aa", func := "loop.example/g00454/laws.FnExactLeast", spec := "fnExactLeast", unfollowed := true, recurses := true, apart := false }
def FnExactLeastSaid : Prop := fnExactLeastRow.holds Try.pinned (OpenSpec.ofChange fnExactLeastSpec)

/-- ITS FALSE NEIGHBOUR: 'it returns false'. Refute it at one input. -/
def fnExactLeastWrong : ChangeSpec := { name := "fnExactLeast", fn := fun _ => fun
  | [d1, d2] => { results := [.lit (.bool false)], args := [d1, d2] }
  | _ => none }
def FnExactLeastWrongFalsely : Prop := fnExactLeastRow.holds Try.pinned (OpenSpec.ofChange fnExactLeastWrong)

/-- 'laws.FnExactTextAsk': WHATEVER THE INPUT: true; the input reads as it did. -/
def fnExactTextAskSpec : ChangeSpec := { name := "fnExactTextAsk", fn := fun _ => fun
  | [d] => { results := [.lit (.bool true)], args := [d] }
  | _ => none }
def fnExactTextAskRow : OpenClaim := { program := "ythbbieobcokgbaa", sum := "f26ff5cb5ff2a8dfae98ec1aace8c4b6b203d6d519622f91dd70ca86ff7c42aa", func := "loop.example/g00454/laws.FnExactTextAsk", spec := "fnExactTextAsk", recurses := true, apart := false }
def FnExactTextAskSaid : Prop := fnExactTextAskRow.holds Try.pinned (OpenSpec.ofChange fnExactTextAskSpec)

/-- ITS FALSE NEIGHBOUR: 'it returns false'. Refute it at one input. -/
def fnExactTextAskWrong : ChangeSpec := { name := "fnExactTextAsk", fn := fun _ => fun
  | [d] => { results := [.lit (.bool false)], args := [d] }
  | _ => none }
def FnExactTextAskWrongFalsely : Prop := fnExactTextAskRow.holds Try.pinned (OpenSpec.ofChange fnExactTextAskWrong)

/-- 'laws.FnExactHoles': WHATEVER THE INPUT: true; the input reads as it did. -/
def fnExactHolesSpec : ChangeSpec := { name := "fnExactHoles", fn := fun _ => fun
  | [d1, d2, d3, d4] => { results := [.lit (.bool true)], args := [d1, d2, d3, d4] }
  | _ => none }
def fnExactHolesRow : OpenClaim := { program := "ythbbieobcokgbaa", sum := "f26ff5cb5ff2a8dfae98ec1aace8c4b6b203d6d519622f91dd70ca86ff7c42aa", func := "loop.example/g00454/laws.FnExactHoles", spec := "fnExactHoles", apart := false }
def FnExactHolesSaid : Prop := fnExactHolesRow.holds Try.pinned (OpenSpec.ofChange fnExactHolesSpec)

/-- ITS FALSE NEIGHBOUR: 'it returns false'. Refute it at one input. -/
def fnExactHolesWrong : ChangeSpec := { name := "fnExactHoles", fn := fun _ => fun
  | [d1, d2, d3, d4] => { results := [.lit (.bool false)], args := [d1, d2, d3, d4] }
  | _ => none }
def FnExactHolesWrongFalsely : Prop := fnExactHolesRow.holds Try.pinned (OpenSpec.ofChange fnExactHolesWrong)

/-- 'laws.FnExactTextJob': WHATEVER THE INPUT: true; the input reads as it did. -/
def fnExactTextJobSpec : ChangeSpec := { name := "fnExactTextJob", fn := fun _ => fun
  | [d] => { results := [.lit (.bool true)], args := [d] }
  | _ => none }
def fnExactTextJobRow : OpenClaim := { program := "ythbbieobcokgbaa", sum := "f26ff5cb5ff2a8dfae98ec1aace8c4b6b203d6d519622f91dd70ca86ff7c42aa", func := "loop.example/g00454/laws.FnExactTextJob", spec := "fnExactTextJob", recurses := true, apart := false }
def FnExactTextJobSaid : Prop := fnExactTextJobRow.holds Try.pinned (OpenSpec.ofChange fnExactTextJobSpec)

/-- ITS FALSE NEIGHBOUR: 'it returns false'. Refute it at one input. -/
def fnExactTextJobWrong : ChangeSpec := { name := "fnExactTextJob", fn := fun _ => fun
  | [d] => { results := [.lit (.bool false)], args := [d] }
  | _ => none }
def FnExactTextJobWrongFalsely : Prop := fnExactTextJobRow.holds Try.pinned (OpenSpec.ofChange fnExactTextJobWrong)

/-- 'laws.FnHoles': WHATEVER THE INPUT: true; the input reads as it did. -/
def fnHolesSpec : ChangeSpec := { name := "fnHoles", fn := fun _ => fun
  | [d] => { results := [.lit (.bool true)], args := [d] }
  | _ => none }
def fnHolesRow : OpenClaim := { program := "ythbbieobcokgbaa", sum := "f26ff5cb5ff2a8dfae98ec1aace8c4b6b203d6d519622f91dd70ca86ff7c42aa", func := "loop.example/g00454/laws.FnHoles", spec := "fnHoles", apart := false }
def FnHolesSaid : Prop := fnHolesRow.holds Try.pinned (OpenSpec.ofChange fnHolesSpec)

/-- ITS FALSE NEIGHBOUR: 'it returns false'. Refute it at one input. -/
def fnHolesWrong : ChangeSpec := { name := "fnHoles", fn := fun _ => fun
  | [d] => { results := [.lit (.bool false)], args := [d] }
  | _ => none }
def FnHolesWrongFalsely : Prop := fnHolesRow.holds Try.pinned (OpenSpec.ofChange fnHolesWrong)

/-- 'laws.FnExactSelect': WHATEVER THE INPUT: true; the input reads as it did. -/
def fnExactSelectSpec : ChangeSpec := { name := "fnExactSelect", fn := fun _ => fun
  | [d1, d2] => { results := [.lit (.bool true)], args := [d1, d2] }
  | _ => none }
def fnExactSelectRow : OpenClaim := { program := "ythbbieobcokgbaa", sum := "f26ff5cb5ff2a8dfae98ec1aace8c4b6b203d6d519622f91dd70ca86ff7c42aa", func := "loop.example/g00454/laws.FnExactSelect", spec := "fnExactSelect", unfollowed := true, recurses := true, apart := false }
def FnExactSelectSaid : Prop := fnExactSelectRow.holds Try.pinned (OpenSpec.ofChange fnExactSelectSpec)

/-- ITS FALSE NEIGHBOUR: 'it returns false'. Refute it at one input. -/
def fnExactSelectWrong : ChangeSpec := { name := "fnExactSelect", fn := fun _ => fun
  | [d1, d2] => { results := [.lit (.bool false)], args := [d1, d2] }
  | _ => none }
def FnExactSelectWrongFalsely : Prop := fnExactSelectRow.holds Try.pinned (OpenSpec.ofChange fnExactSelectWrong)

/-- 'laws.FnAsk': WHATEVER THE INPUT: true; the input reads as it did. -/
def fnAskSpec : ChangeSpec := { name := "fnAsk", fn := fun _ => fun
  | [d] => { results := [.lit (.bool true)], args := [d] }
  | _ => none }
def fnAskRow : OpenClaim := { program := "ythbbieobcokgbaa", sum := "f26ff5cb5ff2a8dfae98ec1aace8c4b6b203d6d519622f91dd70ca86ff7c42aa", func := "loop.example/g00454/laws.FnAsk", spec := "fnAsk", unfollowed := true, recurses := true, apart := false }
def FnAskSaid : Prop := fnAskRow.holds Try.pinned (OpenSpec.ofChange fnAskSpec)

/-- ITS FALSE NEIGHBOUR: 'it returns false'. Refute it at one input. -/
def fnAskWrong : ChangeSpec := { name := "fnAsk", fn := fun _ => fun
  | [d] => { results := [.lit (.bool false)], args := [d] }
  | _ => none }
def FnAskWrongFalsely : Prop := fnAskRow.holds Try.pinned (OpenSpec.ofChange fnAskWrong)

/- THE SECOND FORM. 'bulk': how many values and letters a reading holds, each counted each time it is reached (what is shared counts as often as it is met; a slice's spare places count too). A statement '..UptoSaid' is the law's where the arguments, and the package variables that the reading takes, are together of bulk at most 1048576: NARROWER than '..Said'. Prove '..Said' where nothing that the law and all that it calls make is longer than what came in: it says more and counts as full. Else prove '..UptoSaid'. A law counts once. -/
mutual
def uptoBulk {H : Type} : DataW H → Nat
  | .lit (.string bytes) => bytes.length + 1
  | .lit _ => 1
  | .nil => 1
  | .ptr d => uptoBulk d + 1
  | .slice elems spare => uptoBulkAll elems + uptoBulkAll spare + 1
  | .agg parts => uptoBulkAll parts + 1
  | .iface _ d => uptoBulk d + 1
  | .map entries => uptoBulkEntries entries + 1
  | .held _ => 1
def uptoBulkAll {H : Type} : List (DataW H) → Nat
  | [] => 0
  | d :: r => uptoBulk d + uptoBulkAll r
def uptoBulkEntries {H : Type} : List (Lit × DataW H) → Nat
  | [] => 0
  | x :: r => uptoBulkEntry x + uptoBulkEntries r
def uptoBulkEntry {H : Type} : Lit × DataW H → Nat
  | (.string bytes, d) => bytes.length + uptoBulk d + 1
  | (_, d) => uptoBulk d + 1
 end
def uptoSmall : (H : Type) → List (DataW H) → Bool := fun _ ds => decide (uptoBulkAll ds ≤ 1048576)
def OpenSpec.upto (s : _root_.Go.ChangeSpec) : _root_.Go.OpenSpec := { _root_.Go.OpenSpec.ofChange s with cond := some uptoSmall }

/-- 'laws.FnExactHolesOk', WHERE WHAT IT READS IS OF BULK AT MOST 1048576: true; the input reads as it did. -/
def fnExactHolesOkUptoRow : OpenClaim := { program := "ythbbieobcokgbaa", sum := "f26ff5cb5ff2a8dfae98ec1aace8c4b6b203d6d519622f91dd70ca86ff7c42aa", func := "loop.example/g00454/laws.FnExactHolesOk", spec := "fnExactHolesOk", apart := false, narrowed := true }
def FnExactHolesOkUptoSaid : Prop := fnExactHolesOkUptoRow.holds Try.pinned (OpenSpec.upto fnExactHolesOkSpec)

/-- 'laws.FnExactTermOk', WHERE WHAT IT READS IS OF BULK AT MOST 1048576: true; the input reads as it did. -/
def fnExactTermOkUptoRow : OpenClaim := { program := "ythbbieobcokgbaa", sum := "f26ff5cb5ff2a8dfae98ec1aace8c4b6b203d6d519622f91dd70ca86ff7c42aa", func := "loop.example/g00454/laws.FnExactTermOk", spec := "fnExactTermOk", apart := false, narrowed := true }
def FnExactTermOkUptoSaid : Prop := fnExactTermOkUptoRow.holds Try.pinned (OpenSpec.upto fnExactTermOkSpec)

/-- 'laws.FnExactLength', WHERE WHAT IT READS IS OF BULK AT MOST 1048576: true; the input reads as it did. -/
def fnExactLengthUptoRow : OpenClaim := { program := "ythbbieobcokgbaa", sum := "f26ff5cb5ff2a8dfae98ec1aace8c4b6b203d6d519622f91dd70ca86ff7c42aa", func := "loop.example/g00454/laws.FnExactLength", spec := "fnExactLength", apart := false, narrowed := true }
def FnExactLengthUptoSaid : Prop := fnExactLengthUptoRow.holds Try.pinned (OpenSpec.upto fnExactLengthSpec)

/-- 'laws.FnExactWeaker', WHERE WHAT IT READS IS OF BULK AT MOST 1048576: true; the input reads as it did. -/
def fnExactWeakerUptoRow : OpenClaim := { program := "ythbbieobcokgbaa", sum := "f26ff5cb5ff2a8dfae98ec1aace8c4b6b203d6d519622f91dd70ca86ff7c42aa", func := "loop.example/g00454/laws.FnExactWeaker", spec := "fnExactWeaker", apart := false, narrowed := true }
def FnExactWeakerUptoSaid : Prop := fnExactWeakerUptoRow.holds Try.pinned (OpenSpec.upto fnExactWeakerSpec)

/-- 'laws.FnExactJobText', WHERE WHAT IT READS IS OF BULK AT MOST 1048576: true; the input reads as it did. -/
def fnExactJobTextUptoRow : OpenClaim := { program := "ythbbieobcokgbaa", sum := "f26ff5cb5ff2a8dfae98ec1aace8c4b6b203d6d519622f91dd70ca86ff7c42aa", func := "loop.example/g00454/laws.FnExactJobText", spec := "fnExactJobText", recurses := true, apart := false, narrowed := true }
def FnExactJobTextUptoSaid : Prop := fnExactJobTextUptoRow.holds Try.pinned (OpenSpec.upto fnExactJobTextSpec)

/-- 'laws.FnExactMeet', WHERE WHAT IT READS IS OF BULK AT MOST 1048576: true; the input reads as it did. -/
def fnExactMeetUptoRow : OpenClaim := { program := "ythbbieobcokgbaa", sum := "f26ff5cb5ff2a8dfae98ec1aace8c4b6b203d6d519622f91dd70ca86ff7c42aa", func := "loop.example/g00454/laws.FnExactMeet", spec := "fnExactMeet", apart := false, narrowed := true }
def FnExactMeetUptoSaid : Prop := fnExactMeetUptoRow.holds Try.pinned (OpenSpec.upto fnExactMeetSpec)

/-- 'laws.FnExactGoes', WHERE WHAT IT READS IS OF BULK AT MOST 1048576: true; the input reads as it did. -/
def fnExactGoesUptoRow : OpenClaim := { program := "ythbbieobcokgbaa", sum := "f26ff5cb5ff2a8dfae98ec1aace8c4b6b203d6d519622f91dd70ca86ff7c42aa", func := "loop.example/g00454/laws.FnExactGoes", spec := "fnExactGoes", apart := false, narrowed := true }
def FnExactGoesUptoSaid : Prop := fnExactGoesUptoRow.holds Try.pinned (OpenSpec.upto fnExactGoesSpec)

/-- 'laws.FnMeet', WHERE WHAT IT READS IS OF BULK AT MOST 1048576: true; the input reads as it did. -/
def fnMeetUptoRow : OpenClaim := { program := "ythbbieobcokgbaa", sum := "f26ff5cb5ff2a8dfae98ec1aace8c4b6b203d6d519622f91dd70ca86ff7c42aa", func := "loop.example/g00454/laws.FnMeet", spec := "fnMeet", apart := false, narrowed := true }
def FnMeetUptoSaid : Prop := fnMeetUptoRow.holds Try.pinned (OpenSpec.upto fnMeetSpec)

/-- 'laws.FnExactAskText', WHERE WHAT IT READS IS OF BULK AT MOST 1048576: true; the input reads as it did. -/
def fnExactAskTextUptoRow : OpenClaim := { program := "ythbbieobcokgbaa", sum := "f26ff5cb5ff2a8dfae98ec1aace8c4b6b203d6d519622f91dd70ca86ff7c42aa", func := "loop.example/g00454/laws.FnExactAskText", spec := "fnExactAskText", recurses := true, apart := false, narrowed := true }
def FnExactAskTextUptoSaid : Prop := fnExactAskTextUptoRow.holds Try.pinned (OpenSpec.upto fnExactAskTextSpec)

/-- 'laws.FnExactLeast', WHERE WHAT IT READS IS OF BULK AT MOST 1048576: true; the input reads as it did. -/
def fnExactLeastUptoRow : OpenClaim := { program := "ythbbieobcokgbaa", sum := "f26ff5cb5ff2a8dfae98ec1aace8c4b6b203d6d519622f91dd70ca86ff7c42aa", func := "loop.example/g00454/laws.FnExactLeast", spec := "fnExactLeast", unfollowed := true, recurses := true, apart := false, narrowed := true }
def FnExactLeastUptoSaid : Prop := fnExactLeastUptoRow.holds Try.pinned (OpenSpec.upto fnExactLeastSpec)

/-- 'laws.FnExactTextAsk', WHERE WHAT IT READS IS OF BULK AT MOST 1048576: true; the input reads as it did. -/
def fnExactTextAskUptoRow : OpenClaim := { program := "ythbbieobcokgbaa", sum := "f26ff5cb5ff2a8dfae98ec1aace8c4b6b203d6d519622f91dd70ca86ff7c42aa", func := "loop.example/g00454/laws.FnExactTextAsk", spec := "fnExactTextAsk", recurses := true, apart := false, narrowed := true }
def FnExactTextAskUptoSaid : Prop := fnExactTextAskUptoRow.holds Try.pinned (OpenSpec.upto fnExactTextAskSpec)

/-- 'laws.FnExactHoles', WHERE WHAT IT READS IS OF BULK AT MOST 1048576: true; the input reads as it did. -/
def fnExactHolesUptoRow : OpenClaim := { program := "ythbbieobcokgbaa", sum := "f26ff5cb5ff2a8dfae98ec1aace8c4b6b203d6d519622f91dd70ca86ff7c42aa", func := "loop.example/g00454/laws.FnExactHoles", spec := "fnExactHoles", apart := false, narrowed := true }
def FnExactHolesUptoSaid : Prop := fnExactHolesUptoRow.holds Try.pinned (OpenSpec.upto fnExactHolesSpec)

/-- 'laws.FnExactTextJob', WHERE WHAT IT READS IS OF BULK AT MOST 1048576: true; the input reads as it did. -/
def fnExactTextJobUptoRow : OpenClaim := { program := "ythbbieobcokgbaa", sum := "f26ff5cb5ff2a8dfae98ec1aace8c4b6b203d6d519622f91dd70ca86ff7c42aa", func := "loop.example/g00454/laws.FnExactTextJob", spec := "fnExactTextJob", recurses := true, apart := false, narrowed := true }
def FnExactTextJobUptoSaid : Prop := fnExactTextJobUptoRow.holds Try.pinned (OpenSpec.upto fnExactTextJobSpec)

/-- 'laws.FnHoles', WHERE WHAT IT READS IS OF BULK AT MOST 1048576: true; the input reads as it did. -/
def fnHolesUptoRow : OpenClaim := { program := "ythbbieobcokgbaa", sum := "f26ff5cb5ff2a8dfae98ec1aace8c4b6b203d6d519622f91dd70ca86ff7c42aa", func := "loop.example/g00454/laws.FnHoles", spec := "fnHoles", apart := false, narrowed := true }
def FnHolesUptoSaid : Prop := fnHolesUptoRow.holds Try.pinned (OpenSpec.upto fnHolesSpec)

/-- 'laws.FnExactSelect', WHERE WHAT IT READS IS OF BULK AT MOST 1048576: true; the input reads as it did. -/
def fnExactSelectUptoRow : OpenClaim := { program := "ythbbieobcokgbaa", sum := "f26ff5cb5ff2a8dfae98ec1aace8c4b6b203d6d519622f91dd70ca86ff7c42aa", func := "loop.example/g00454/laws.FnExactSelect", spec := "fnExactSelect", unfollowed := true, recurses := true, apart := false, narrowed := true }
def FnExactSelectUptoSaid : Prop := fnExactSelectUptoRow.holds Try.pinned (OpenSpec.upto fnExactSelectSpec)

/-- 'laws.FnAsk', WHERE WHAT IT READS IS OF BULK AT MOST 1048576: true; the input reads as it did. -/
def fnAskUptoRow : OpenClaim := { program := "ythbbieobcokgbaa", sum := "f26ff5cb5ff2a8dfae98ec1aace8c4b6b203d6d519622f91dd70ca86ff7c42aa", func := "loop.example/g00454/laws.FnAsk", spec := "fnAsk", unfollowed := true, recurses := true, apart := false, narrowed := true }
def FnAskUptoSaid : Prop := fnAskUptoRow.holds Try.pinned (OpenSpec.upto fnAskSpec)

end Rows
end Go.Proofs.Ythbbieobcokgbaa
