/-
  The engine, part 3: the small language, what its operations do to an abstract state, and contracts.
-/
import Derived.Test.YthbbieobcokgbaaEng2
namespace Go.Proofs.Ythbbieobcokgbaa.Eng
open Go Go.RowKit

/-- An operand. -/
inductive X | t (i : Nat) | c (a : AV)
def St.get (s : St) : X → AV
  | .t i => s.e i
  | .c a => a

mutual
def AV.rdt : AV → AV
  | .agg cs => .agg (rdtL cs)
  | .fn f cs => .fn f (rdtL cs)
  | .sl _ sz es => .sl .rd sz (rdtL es)
  | .ept e o => .ept (AV.rdt e) o
  | a => a
def rdtL : List AV → List AV
  | [] => []
  | a :: l => AV.rdt a :: rdtL l
end
theorem rdtL_map : ∀ l, rdtL l = l.map AV.rdt
  | [] => rfl
  | a :: l => by rw [rdtL, rdtL_map l]; rfl

-- A value as data: a row's name gives way to what the row holds.
mutual
def St.dt (s : St) : AV → Option AV
  | .bool b => some (.bool b)
  | .int k n => some (.int k n)
  | .str l => some (.str l)
  | .nl => some .nl
  | .sl t sz es => some (.sl t sz es)
  | .ept e o => some (.ept e o)
  | .sref k => (s.rw k).map fun r => .sl .nw r.sz r.es
  | .agg cs => (St.dtL s cs).map .agg
  | .fn f cs => (St.dtL s cs).map (.fn f)
  | _ => none
def St.dtL (s : St) : List AV → Option (List AV)
  | [] => some []
  | a :: l => match St.dt s a, St.dtL s l with
    | some x, some y => some (x :: y)
    | _, _ => none
end

def pickC (cs : List AV) (off n : Nat) (ag : Bool) : Option AV :=
  if ag then (if off + n ≤ cs.length then some (.agg ((cs.drop off).take n)) else none) else cs[off]?

def St.ld (s : St) (p : AV) (n : Nat) (ag : Bool) : Option AV :=
  match p with
  | .ept e off => pickC e.cells off n ag
  | .ptr k off => match s.bx k with | some cs => pickC cs off n ag | none => none
  | .rpt k i off => match s.rw k with
    | some r => match r.es[i]? with | some e => pickC e.cells off n ag | none => none
    | none => none
  | _ => none

def putC (cs : List AV) (off : Nat) (vs : List AV) : List AV := cs.take off ++ vs ++ cs.drop (off + vs.length)

def eqCells : List Nat → List AV → List AV → Option Bool
  | [], [], [] => some true
  | 0 :: ks, .int k x :: l, .int k' y :: m => if k = k' then (eqCells ks l m).map fun r => x == y && r else none
  | 1 :: ks, .str x :: l, .str y :: m => (eqCells ks l m).map fun r => x == y && r
  | 2 :: ks, .bool x :: l, .bool y :: m => (eqCells ks l m).map fun r => x == y && r
  | _, _, _ => none

def bAnd (k : IntKind) (a b : Int) : Int := k.wrap ((BitVec.ofInt k.bits a &&& BitVec.ofInt k.bits b).toNat : Int)
def bXor (k : IntKind) (a b : Int) : Int := k.wrap ((BitVec.ofInt k.bits a ^^^ BitVec.ofInt k.bits b).toNat : Int)
def bShr (k : IntKind) (a b : Int) : Int := a.fdiv (2 ^ (min b.toNat k.bits))
def evB : BinOp → AV → AV → Option AV
  | .and, .int k a, .int k' b => if k = k' then some (.int k (bAnd k a b)) else none
  | .xor, .int k a, .int k' b => if k = k' then some (.int k (bXor k a b)) else none
  | .shr, .int k a, .int _ b => if 0 ≤ b then some (.int k (bShr k a b)) else none
  | .add, .int k a, .int k' b => if k = k' then some (.int k (k.wrap (a + b))) else none
  | .sub, .int k a, .int k' b => if k = k' then some (.int k (k.wrap (a - b))) else none
  | .mul, .int k a, .int k' b => if k = k' then some (.int k (k.wrap (a * b))) else none
  | .quo, .int k a, .int k' b => if k = k' ∧ b ≠ 0 then some (.int k (k.wrap (a.tdiv b))) else none
  | .rem, .int k a, .int k' b => if k = k' ∧ b ≠ 0 then some (.int k (a.tmod b)) else none
  | .eql, .int k a, .int k' b => if k = k' then some (.bool (a == b)) else none
  | .neq, .int k a, .int k' b => if k = k' then some (.bool (a != b)) else none
  | .lss, .int k a, .int k' b => if k = k' then some (.bool (decide (a < b))) else none
  | .leq, .int k a, .int k' b => if k = k' then some (.bool (decide (a ≤ b))) else none
  | .gtr, .int k a, .int k' b => if k = k' then some (.bool (decide (b < a))) else none
  | .geq, .int k a, .int k' b => if k = k' then some (.bool (decide (b ≤ a))) else none
  | .eql, .str a, .str b => some (.bool (a == b))
  | .neq, .str a, .str b => some (.bool (a != b))
  | .lss, .str a, .str b => some (.bool (Op.bytesLess a b))
  | .leq, .str a, .str b => some (.bool (Op.bytesLess a b || a == b))
  | .gtr, .str a, .str b => some (.bool (!(Op.bytesLess a b || a == b)))
  | .geq, .str a, .str b => some (.bool (!(Op.bytesLess a b)))
  | _, _, _ => none

/-- The operations. -/
inductive LOp
  | mv (d : Nat) (x : X)
  | pk (d : Nat) (c a b : X)
  | un (d : Nat) (x : X)
  | bi (d : Nat) (op : BinOp) (x y : X)
  | eb (d : Nat) (ne : Bool) (x y : X)
  | es (d : Nat) (ne : Bool) (ks : List Nat) (x y : X)
  | sa (d : Nat) (x y : X)
  | cv (d : Nat) (k : IntKind) (x : X)
  | fa (d : Nat) (x : X) (off : Nat)
  | ia (d : Nat) (x i : X) (n : Nat)
  | ix (d : Nat) (x i : X)
  | ld (d : Nat) (p : X) (n : Nat) (ag : Bool)
  | st (p x : X) (n : Nat)
  | al (d : Nat) (z : List AV)
  | bx (d : Nat) (x : X)
  | bd (d : Nat) (z : List AV) (ps : List (Nat × Nat × X))
  | bs (d : Nat) (sz : Nat) (ps : List X) (own : Bool)
  | ms (d : Nat) (sz by' : Nat) (z : List AV) (l : X)
  | ln (d : Nat) (x : X)
  | ls (d : Nat) (x : X)
  | ap (d : Nat) (x y : X) (sz by' : Nat)
  | sc (d : Nat) (x : X) (lo hi : Option X) (n : Nat)
  | ss (d : Nat) (x : X) (lo hi : Option X)
  | ex (d : Nat) (x : X) (i : Nat)
  | fd (d : Nat) (x : X) (off n : Nat) (ag : Bool)
  | nc (d : Nat) (x : X)
  | mm (d : Nat) (mx : Bool) (x y : X)
  | b2s (d : Nat) (x : X)
  | s2b (d : Nat) (x : X)
  | mf (d f : Nat) (xs : List X)
  | cl (d f : Nat) (xs : List X)
  | cq (d f : Nat) (xs : List X)
  | cc (d : Nat) (f : X) (xs : List X)
  | cm (d f : Nat) (xs : List X)
  | g (t : Nat) (want : Bool) (o : LOp)
  | cs (t : Nat)
  | fz (t : Nat)
  | fb (t : Nat)
  | cn (d f : Nat) (xs : List X)
  | lq (d : Nat) (x : X)

/-- A state that has rows alone. -/
def rowSt (rows : List Row) : St := { e := fun _ => .und, bx := fun _ => none, rw := fun i => rows[i]? }

/-- What a call hands back, behind world w', all of it in blocks from B on: the value, and rows that nobody else reads. -/
def Ret (B : Nat) (w' : World) (res : AV) (rows : List Row) (v : Value) : Prop :=
  ∃ g : Gh, (∀ b o, g.S b o → B ≤ b ∧ b < w'.heap.size) ∧ (∀ b, g.N b → B ≤ b) ∧ Gv w' g (rowSt rows) res v ∧
    (∀ (i : Nat) (r : Row), rows[i]? = some r → RowOk w' g.S g.N r (g.rv i) ∧ ∀ b, (g.rv i).ownBlock = some b → B ≤ b ∧ ∀ o, ¬ g.S b o) ∧
    (∀ (i j : Nat) (r r' : Row), rows[i]? = some r → rows[j]? = some r' → i ≠ j → ∀ b, (g.rv i).ownBlock = some b → (g.rv j).ownBlock ≠ some b)

/-- A contract: called with data, the function hands back just this. -/
def Snd (P : Program) (f : FuncId) (args : List AV) (res : AV) (rows : List Row) : Prop :=
  ∀ (w : World) (S : Nat → Nat → Prop) (N : Nat → Prop) (vs : List Value), (∀ b o, S b o → b < w.heap.size) → vs.length = args.length →
    (∀ (i : Nat) (a : AV) (v : Value), args[i]? = some a → vs[i]? = some v → Rd w S N a v) →
    Calls P f vs.toArray w fun e w' => ∃ v, e = .returned v ∧ Below w.heap.size w w' ∧ Ret w.heap.size w' res rows v

/-- A contract: called with data, the function hands back a pointer to a new box that holds data. -/
def SndB (P : Program) (f : FuncId) (args : List AV) (Ψ : List AV → Prop) : Prop :=
  ∀ (w : World) (S : Nat → Nat → Prop) (N : Nat → Prop) (vs : List Value), (∀ b o, S b o → b < w.heap.size) → vs.length = args.length →
    (∀ (i : Nat) (a : AV) (v : Value), args[i]? = some a → vs[i]? = some v → Rd w S N a v) →
    Calls P f vs.toArray w fun e w' => ∃ b, e = .returned (.pointer (some ⟨b, 0, none⟩)) ∧ Below w.heap.size w w' ∧ w.heap.size ≤ b ∧ ∃ cs, Ψ cs ∧ ∃ (S2 : Nat → Nat → Prop) (us : List Value) (ty : TypeId),
      (∀ b o, S2 b o → S b o ∨ (w.heap.size ≤ b ∧ b < w'.heap.size)) ∧ (∀ o, ¬ S2 b o) ∧ w'.heap[b]? = some (.cells us.toArray ty (0, 0)) ∧ us.length = cs.length ∧
      ∀ (i : Nat) (a : AV) (u : Value), cs[i]? = some a → us[i]? = some u → a.one = true ∧ u.oneCell' = true ∧ Rd w' S2 (fun _ => False) a u
def ix : List Nat → Nat → Option Nat
  | [], _ => none
  | k :: ks, j => if k = j then some 0 else (ix ks j).map (· + 1)
theorem ix_ok : ∀ {ks : List Nat} {k i : Nat}, ix ks k = some i → ks[i]? = some k
  | [], _, _, h => by simp [ix] at h
  | x :: ks, k, i, h => by
    simp only [ix] at h
    split at h
    · rename_i e; cases h; simp [e]
    · obtain ⟨j, hj, rfl⟩ := Option.map_eq_some_iff.1 h
      simpa using ix_ok hj

/-- What a callee is handed: boxes and rows by their numbers. -/
def hSt (bx : List (List AV)) (rw : List (Option Row)) : St := { e := fun _ => .und, bx := fun i => bx[i]?, rw := fun i => (rw[i]?).join }

/-- The heap's part of the invariant. -/
structure Heap (w : World) (g : Gh) (s : St) : Prop where
  bxs : ∀ k cs, s.bx k = some cs → BoxOk w g s (g.bb k) cs
  bxn : ∀ k cs, s.bx k = some cs → g.N (g.bb k) ∧ ∀ o, ¬ g.S (g.bb k) o
  rws : ∀ k r, s.rw k = some r → RowOk w g.S g.N r (g.rv k)
  rwn : ∀ k r, s.rw k = some r → r.sh = false ∧ ∀ b, (g.rv k).ownBlock = some b → g.N b ∧ ∀ o, ¬ g.S b o
  dbb : ∀ k k' cs cs', s.bx k = some cs → s.bx k' = some cs' → k ≠ k' → g.bb k ≠ g.bb k'
  dbr : ∀ k k' cs r, s.bx k = some cs → s.rw k' = some r → (g.rv k').ownBlock ≠ some (g.bb k)
  drr : ∀ k k' r r', s.rw k = some r → s.rw k' = some r' → k ≠ k' → ∀ b, (g.rv k).ownBlock = some b → (g.rv k').ownBlock ≠ some b
  sw : ∀ b o, g.S b o → b < w.heap.size

def OwnB (g : Gh) (nb nr : Nat) (b : Nat) : Prop := (∃ i, i < nb ∧ g.bb i = b) ∨ (∃ i, i < nr ∧ (g.rv i).ownBlock = some b)

/-- The rows behind a call: those handed over, with what they hold now (none: they are gone), and new ones. -/
def outRows : List Row → List (Option (List AV)) → List Row → List (Option Row)
  | r :: rs, u :: us, new => (u.map fun es => { r with es := es }) :: outRows rs us new
  | _, _, new => new.map some

structure Kept (own : Nat → Prop) (w w' : World) : Prop where
  os : w'.os = w.os
  tape : w'.tape = w.tape
  output : w'.output = w.output
  size : w.heap.size ≤ w'.heap.size
  block : ∀ k, k < w.heap.size → ¬ own k → w'.heap[k]? = w.heap[k]?

/-- A contract with boxes and rows handed over: what it hands back, what the boxes and rows hold then, and new rows, stand in Φ. -/
def Con (P : Program) (f : FuncId) (args : List AV) (bin : List (List AV)) (rin : List Row) (Φ : AV → List (List AV) → List (Option (List AV)) → List Row → Prop) : Prop :=
  ∀ (w : World) (g : Gh) (vs : List Value), Heap w g (hSt bin (rin.map some)) → (∀ b, w.heap.size ≤ b → g.N b) → vs.length = args.length →
    (∀ (i : Nat) (a : AV) (v : Value), args[i]? = some a → vs[i]? = some v → Gv w g (hSt bin (rin.map some)) a v) →
    Calls P f vs.toArray w fun e w' => ∃ v, e = .returned v ∧ Kept (OwnB g bin.length rin.length) w w' ∧ ∃ res bout upd new, Φ res bout upd new ∧
      bout.map List.length = bin.map List.length ∧ upd.length = rin.length ∧ ∃ g' : Gh, (∀ b o, g'.S b o → g.S b o ∨ w.heap.size ≤ b ∨ OwnB g bin.length rin.length b) ∧ (∀ b, g'.N b → g.N b) ∧
      (∀ i, i < bin.length → g'.bb i = g.bb i) ∧ (∀ i es, upd[i]? = some (some es) → g'.rv i = g.rv i) ∧ Heap w' g' (hSt bout (outRows rin upd new)) ∧
      (∀ (j : Nat) (r : Row), new[j]? = some r → ∀ b, (g'.rv (rin.length + j)).ownBlock = some b → w.heap.size ≤ b ∨ OwnB g bin.length rin.length b) ∧
      Gv w' g' (hSt bout (outRows rin upd new)) res v

-- New names for boxes and rows.
mutual
def AV.mp (fb fr : Nat → Option Nat) : AV → AV
  | .sref k => match fr k with | some i => .sref i | none => .bad
  | .ptr k o => match fb k with | some i => .ptr i o | none => .bad
  | .rpt k i o => match fr k with | some j => .rpt j i o | none => .bad
  | .agg cs => .agg (mpL fb fr cs)
  | .tup cs => .tup (mpL fb fr cs)
  | .fn f cs => .fn f (mpL fb fr cs)
  | a => a
def mpL (fb fr : Nat → Option Nat) : List AV → List AV
  | [] => []
  | a :: l => AV.mp fb fr a :: mpL fb fr l
end
theorem mpL_map (fb fr : Nat → Option Nat) : ∀ l, mpL fb fr l = l.map (AV.mp fb fr)
  | [] => rfl
  | a :: l => by rw [mpL, mpL_map fb fr l]; rfl

mutual
def AV.ren (k n : Nat) : AV → AV
  | .sref i => if i < n then .sref (k + i) else .bad
  | .agg cs => .agg (renL k n cs)
  | .tup cs => .tup (renL k n cs)
  | .fn f cs => .fn f (renL k n cs)
  | .ptr _ _ => .bad
  | .rpt _ _ _ => .bad
  | a => a
def renL (k n : Nat) : List AV → List AV
  | [] => []
  | a :: l => AV.ren k n a :: renL k n l
end
mutual
def AV.nwd (rows : List Row) : AV → AV
  | .sref i => match rows[i]? with | some r => .sl .nw r.sz r.es | none => .bad
  | .agg cs => .agg (nwdL rows cs)
  | .tup cs => .tup (nwdL rows cs)
  | .fn f cs => .fn f (nwdL rows cs)
  | .ptr _ _ => .bad
  | .rpt _ _ _ => .bad
  | a => a
def nwdL (rows : List Row) : List AV → List AV
  | [] => []
  | a :: l => AV.nwd rows a :: nwdL rows l
end
theorem renL_map (k n : Nat) : ∀ l, renL k n l = l.map (AV.ren k n)
  | [] => rfl
  | a :: l => by rw [renL, renL_map k n l]; rfl
theorem nwdL_map (rows : List Row) : ∀ l, nwdL rows l = l.map (AV.nwd rows)
  | [] => rfl
  | a :: l => by rw [nwdL, nwdL_map rows l]; rfl

/-- A state with rows added under the keys k, k + 1, .. -/
def St.addrows (s : St) (k : Nat) : List Row → St
  | [] => s
  | r :: rs => St.addrows { s.kill k with rw := fun j => if j = k then some r else (s.kill k).rw j } (k + 1) rs

def St.kill2 (s : St) : List Nat → St
  | [] => s
  | k :: ks => St.kill2 (s.kill k) ks
def drops : List Nat → List (Option (List AV)) → List Nat
  | k :: ks, none :: us => k :: drops ks us
  | _ :: ks, some _ :: us => drops ks us
  | _, _ => []
def upf : List Nat → List (Option (List AV)) → Nat → Option (List AV)
  | k :: ks, u :: us, j => if j = k then u else upf ks us j
  | _, _, _ => none
def bxf : List Nat → List (List AV) → Nat → Option (List AV)
  | k :: ks, c :: cs, j => if j = k then some c else bxf ks cs j
  | _, _, _ => none
/-- Behind a call: the rows that were handed over; the boxes are blank yet. -/
def setRows (s : St) (bks rks : List Nat) (upd : List (Option (List AV))) : St :=
  { e := (s.kill2 (drops rks upd)).e, bx := fun j => if j ∈ bks then ((s.kill2 (drops rks upd)).bx j).map (fun cs => List.replicate cs.length .bad) else (s.kill2 (drops rks upd)).bx j,
    rw := fun j => match upf rks upd j with | some es => ((s.kill2 (drops rks upd)).rw j).map (fun r => { r with es := es }) | none => (s.kill2 (drops rks upd)).rw j }
def setBoxes (s : St) (bks : List Nat) (bs : List (List AV)) : St := { s with bx := fun j => match bxf bks bs j with | some cs => some cs | none => s.bx j }
def frB (rks : List Nat) (upd : List (Option (List AV))) (base n i : Nat) : Option Nat :=
  if i < rks.length then (match upd[i]? with | some (some _) => rks[i]? | _ => none) else if i - rks.length < n then some (base + (i - rks.length)) else none
def fbB (bks : List Nat) (i : Nat) : Option Nat := bks[i]?
def afterM (s : St) (d : Nat) (bks rks : List Nat) (res : AV) (bout : List (List AV)) (upd : List (Option (List AV))) (new : List Row) : St :=
  St.set (setBoxes ((setRows s bks rks upd).addrows (1000 * d + 1000) new) bks (bout.map (mpL (fbB bks) (frB rks upd (1000 * d + 1000) new.length)))) d (res.mp (fbB bks) (frB rks upd (1000 * d + 1000) new.length))
def atBoxes (s : St) (fb fr : Nat → Option Nat) : List Nat → List (List AV) → Prop
  | [], [] => True
  | k :: ks, b :: bs => (∃ cs, s.bx k = some cs ∧ b = mpL fb fr cs) ∧ atBoxes s fb fr ks bs
  | _, _ => False
def atRows (s : St) : List Nat → List Row → Prop
  | [], [] => True
  | k :: ks, r :: rs => s.rw k = some r ∧ r.sh = false ∧ atRows s ks rs
  | _, _ => False
def noclash : List Nat → List (Option (List AV)) → Nat → Nat → Prop
  | k :: ks, some _ :: us, b, n => (k < b ∨ b + n ≤ k) ∧ noclash ks us b n
  | _ :: ks, none :: us, b, n => noclash ks us b n
  | _, _, _, _ => True
def noclashB (b n : Nat) (bks : List Nat) : Prop := ∀ k ∈ bks, k < b ∨ b + n ≤ k

def buildC : List AV → List (Nat × Nat × AV) → Option (List AV)
  | z, [] => some z
  | z, (off, n, v) :: ps => if v.cells.length = n ∧ off + n ≤ z.length ∧ v.cells.all AV.one = true then buildC (putC z off v.cells) ps else none

def isIdx (i : AV) (n : Nat) : Option Nat := match i with
  | .int _ j => if 0 ≤ j ∧ j < n then some j.toNat else none
  | _ => none
def isBnd (i : AV) (n : Nat) : Option Nat := match i with
  | .int _ j => if 0 ≤ j ∧ j ≤ n then some j.toNat else none
  | _ => none
def St.lo (s : St) (o : Option X) (h : Nat) : Option Nat := match o with | none => some 0 | some x => isBnd (s.get x) h
def St.hi (s : St) (o : Option X) (n : Nat) : Option Nat := match o with | none => some n | some x => isBnd (s.get x) n

def plain : AV → Bool
  | .bool _ | .int _ _ | .str _ | .nl | .sl _ _ _ => true
  | _ => false
def nosr : AV → Bool
  | .agg cs => cs.all plain
  | a => plain a
def allOne (l : List AV) : Bool := l.all AV.one
def noBad (l : List AV) : Bool := l.all fun a => match a with | .bad => false | .und => false | .tup _ => false | _ => true

def LOp.dst : LOp → Nat
  | .mv d _ | .pk d _ _ _ | .un d _ | .bi d _ _ _ | .eb d _ _ _ | .es d _ _ _ _ | .sa d _ _ | .cv d _ _ | .fa d _ _ | .ia d _ _ _ | .ix d _ _ | .ld d _ _ _ | .al d _ | .bx d _ | .bd d _ _ | .bs d _ _ _ | .ms d _ _ _ _
  | .ln d _ | .ls d _ | .ap d _ _ _ _ | .sc d _ _ _ _ | .ss d _ _ _ | .ex d _ _ | .fd d _ _ _ _ | .nc d _ | .mm d _ _ _ | .b2s d _ | .s2b d _ | .mf d _ _ | .cl d _ _ | .cq d _ _ | .cc d _ _ | .cm d _ _ | .cn d _ _ | .lq d _ => d
  | .st _ _ _ => 0
  | .g _ _ o => o.dst
  | .cs t | .fz t | .fb t => t

def St.args (s : St) (xs : List X) : Option (List AV) := match s.dtL (xs.map s.get) with | some l => some (rdtL l) | none => none

def isFn (P : Program) (f : FuncId) : Bool := match P.funcs[f]? with | some fn => fn.body.isSome && fn.name != "runtime.NumGoroutine" | none => false

/-- What must hold ahead of an operation so that K holds behind it. -/
def wop (P : Program) : LOp → (St → Prop) → St → Prop
  | .mv d x, K, s => K (s.set d (s.get x))
  | .pk d c a b, K, s => match s.get c with
    | .bool t => K (s.set d (if t then s.get a else s.get b))
    | _ => False
  | .un d x, K, s => match s.get x with
    | .bool b => K (s.set d (.bool !b))
    | _ => False
  | .bi d op x y, K, s => match evB op (s.get x) (s.get y) with
    | some v => K (s.set d v)
    | none => False
  | .eb d ne x y, K, s => match s.get x, s.get y with
    | .bool a, .bool b => K (s.set d (.bool (if ne then !(a == b) else a == b)))
    | _, _ => False
  | .es d ne ks x y, K, s => match s.get x, s.get y with
    | .agg a, .agg b => match eqCells ks a b with
      | some r => K (s.set d (.bool (if ne then !r else r)))
      | none => False
    | _, _ => False
  | .sa d x y, K, s => match s.get x, s.get y with
    | .str a, .str b => a.length + b.length ≤ 9223372036854775807 ∧ K (s.set d (.str (a ++ b)))
    | _, _ => False
  | .cv d k x, K, s => match s.get x with
    | .int _ n => K (s.set d (.int k (k.wrap n)))
    | _ => False
  | .fa d x off, K, s => match s.get x with
    | .ptr k o => (s.bx k).isSome = true ∧ K (s.set d (.ptr k (o + off)))
    | .ept e o => K (s.set d (.ept e (o + off)))
    | .rpt k i o => (s.rw k).isSome = true ∧ K (s.set d (.rpt k i (o + off)))
    | _ => False
  | .ia d x i n, K, s => match s.get x with
    | .sl _ sz es => match isIdx (s.get i) es.length with
      | some j => match es[j]? with
        | some e => sz = n ∧ K (s.set d (.ept e 0))
        | none => False
      | none => False
    | .sref k => match s.rw k with
      | some r => match isIdx (s.get i) r.es.length with
        | some j => r.sz = n ∧ K (s.set d (.rpt k j 0))
        | none => False
      | none => False
    | _ => False
  | .ix d x i, K, s => match s.get x with
    | .str l => match isIdx (s.get i) l.length with
      | some j => match l[j]? with
        | some b => K (s.set d (.int .u8 b.toNat))
        | none => False
      | none => False
    | _ => False
  | .ld d p n ag, K, s => match s.ld (s.get p) n ag with
    | some v => K (s.set d v)
    | none => False
  | .st p x n, K, s => match s.get p with
    | .ptr k off => match s.bx k with
      | some cs => (s.get x).cells.length = n ∧ off + n ≤ cs.length ∧ allOne (s.get x).cells = true ∧ K { s with bx := fun j => if j = k then some (putC cs off (s.get x).cells) else s.bx j }
      | none => False
    | .rpt k i off => match s.rw k with
      | some r => match r.es[i]?, s.dt (s.get x) with
        | some e, some v => r.sh = false ∧ v.cells.length = n ∧ off + n ≤ e.cells.length ∧
            nosr (s.get x) = true ∧ K { s with rw := fun j => if j = k then some { r with es := r.es.set i (if n = e.cells.length then v else .agg (putC e.cells off v.cells)) } else s.rw j }
        | _, _ => False
      | none => False
    | _ => False
  | .al d z, K, s => K (St.set { s.kill d with bx := fun j => if j = d then some (deadL d z) else (s.kill d).bx j } d (.ptr d 0))
  | .bx d x, K, s => allOne (s.get x).cells = true ∧ K (St.set { s.kill d with bx := fun j => if j = d then some (deadL d (s.get x).cells) else (s.kill d).bx j } d (.ptr d 0))
  | .bd d z ps, K, s => match buildC z (ps.map fun (off, n, x) => (off, n, s.get x)) with
    | some cs => allOne cs = true ∧ K (s.set d (.agg cs))
    | none => False
  | .bs d sz ps own, K, s => match s.dtL (ps.map s.get) with
    | some es => (ps.map s.get).all nosr = true ∧ (∀ e ∈ es, e.cells.length = sz) ∧ es.length * sz ≤ 1000000 ∧ es.length ≤ 1000000 ∧ (if own
        then K (St.set { s.kill d with rw := fun j => if j = d then some ⟨sz, es, false⟩ else (s.kill d).rw j } d (.sref d))
        else K (s.set d (.sl .nw sz es)))
    | none => False
  | .ms d sz by' z l, K, s => match s.get l with
    | .int _ n => 0 ≤ n ∧ by' * n ≤ 140737488355328 ∧ n ≤ 9223372036854775807 ∧
        K (St.set { s.kill d with rw := fun j => if j = d then some ⟨sz, List.replicate n.toNat (if sz = 1 then z.getD 0 .bad else .agg z), false⟩ else (s.kill d).rw j } d (.sref d))
    | _ => False
  | .ln d x, K, s => match s.get x with
    | .sl _ _ es => es.length ≤ 9223372036854775807 → K (s.set d (.int .i64 es.length))
    | .sref k => match s.rw k with
      | some r => r.es.length ≤ 9223372036854775807 → K (s.set d (.int .i64 r.es.length))
      | none => False
    | .nl => K (s.set d (.int .i64 0))
    | _ => False
  | .ls d x, K, s => match s.get x with
    | .str l => K (s.set d (.int .i64 l.length))
    | _ => False
  | .ap d x y sz by', K, s => match s.dt (s.get y) with
    | some (.sl _ sy news) => match s.get x with
      | .sref k => match s.rw k with
        | some r => r.sz = sz ∧ k < 1000000000 ∧ (news = [] ∨ sy = sz) ∧ (r.es.length + news.length) * by' ≤ 140737488355328 ∧
            K (St.set { s.kill k with rw := fun j => if j = k then some { r with es := r.es ++ news } else (s.kill k).rw j } d (.sref k))
        | none => False
      | .nl => (news = [] ∨ sy = sz) ∧ news.length * by' ≤ 140737488355328 ∧
          K (St.set { s.kill d with rw := fun j => if j = d then some ⟨sz, news, false⟩ else (s.kill d).rw j } d (.sref d))
      | _ => False
    | some .nl => match s.get x with
      | .sref k => match s.rw k with
        | some _ => K (s.set d (.sref k))
        | none => False
      | .nl => K (St.set { s.kill d with rw := fun j => if j = d then some ⟨sz, [], false⟩ else (s.kill d).rw j } d (.sref d))
      | _ => False
    | _ => False
  | .sc d x lo hi n, K, s => match s.get x with
    | .sl t sz es => match s.hi hi es.length with
      | some h => match s.lo lo h with
        | some l => sz = n ∧ K (s.set d (.sl t sz ((es.take h).drop l)))
        | none => False
      | none => False
    | .sref k => match s.rw k with
      | some r => match s.hi hi r.es.length with
        | some h => match s.lo lo h with
          | some l => r.sz = n ∧ K (St.set { s with rw := fun j => if j = k then some { r with sh := true } else s.rw j } d (.sl .nw r.sz ((r.es.take h).drop l)))
          | none => False
        | none => False
      | none => False
    | .nl => match s.hi hi 0 with
      | some h => match s.lo lo h with
        | some _ => K (s.set d .nl)
        | none => False
      | none => False
    | _ => False
  | .ss d x lo hi, K, s => match s.get x with
    | .str b => match s.hi hi b.length with
      | some h => match s.lo lo h with
        | some l => K (s.set d (.str ((b.take h).drop l)))
        | none => False
      | none => False
    | _ => False
  | .ex d x i, K, s => match s.get x with
    | .tup vs => match vs[i]? with
      | some v => K (s.set d v)
      | none => False
    | _ => False
  | .fd d x off n ag, K, s => match s.get x with
    | .agg cs => match pickC cs off n ag with
      | some v => K (s.set d v)
      | none => False
    | _ => False
  | .nc d x, K, s => match s.get x with
    | .ptr k o => (s.bx k).isSome = true ∧ K (s.set d (.ptr k o))
    | .fn f cs => K (s.set d (.fn f cs))
    | _ => False
  | .mm d mx x y, K, s => match s.get x, s.get y with
    | .int k a, .int k' b => k = k' ∧ K (s.set d (.int k (if mx then max a b else min a b)))
    | _, _ => False
  | .b2s d x, K, s => match s.dt (s.get x) with
    | some (.sl _ _ es) => ∃ l : List UInt8, es = l.map (fun b => AV.int .u8 b.toNat) ∧ K (s.set d (.str l))
    | some .nl => K (s.set d (.str []))
    | _ => False
  | .s2b d x, K, s => match s.get x with
    | .str l => l.length ≤ 140737488355328 ∧ K (s.set d (.sl .nw 1 (l.map fun b => AV.int .u8 b.toNat)))
    | _ => False
  | .mf d f xs, K, s => K (s.set d (.fn f (xs.map s.get)))
  | .cl d f xs, K, s => ∃ as, s.args xs = some as ∧ ∃ res rows, Snd P f as res rows ∧ rows.length ≤ 1000 ∧ K ((s.addrows (1000 * d + 1000) rows).set d (res.ren (1000 * d + 1000) rows.length))
  | .cq d f xs, K, s => ∃ as, s.args xs = some as ∧ ∃ res rows, Snd P f as res rows ∧ K (s.set d (res.nwd rows))
  | .cc d fx xs, K, s => ∃ as, s.args (fx :: xs) = some as ∧ ∃ f cap as', as = .fn f cap :: as' ∧ isFn P f = true ∧ ∃ res rows, Snd P f (as' ++ cap) res rows ∧ K (s.set d (res.nwd rows))
  | .cm d f xs, K, s => ∃ (bks rks : List Nat) (bin : List (List AV)) (rin : List Row), (bks ++ rks).Nodup ∧ atBoxes s (ix bks) (ix rks) bks bin ∧ atRows s rks rin ∧
      ∃ Φ, Con P f (xs.map fun x => ((s.get x).mp (ix bks) (ix rks)).rdt) bin rin Φ ∧ ∀ res bout upd new, bout.map List.length = bin.map List.length → upd.length = rin.length → Φ res bout upd new →
        new.length ≤ 1000 ∧ noclash rks upd (1000 * d + 1000) new.length ∧ noclashB (1000 * d + 1000) new.length bks ∧ K (afterM s d bks rks res bout upd new)
  | .g t want o, K, s => match s.e t with
    | .bool b => if b = want then wop P o K s else K (s.set o.dst .und)
    | .und => K (s.set o.dst .und)
    | _ => False
  | .cs t, K, s => match s.e t with
    | .bool b => (b = true → K (s.set t (.bool true))) ∧ (b = false → K (s.set t (.bool false)))
    | _ => False
  | .fb t, K, s => match s.e t with
    | .ptr k 0 => match s.bx k with
      | some cs => nosr (.agg cs) = true ∧ K (St.set (s.kill k) t (.ept (.agg cs) 0))
      | none => False
    | .ept _ _ => K s
    | _ => False
  | .fz t, K, s => match s.e t with
    | .sref k => match s.rw k with
      | some r => K (St.set { s with rw := fun j => if j = k then some { r with sh := true } else s.rw j } t (.sl .nw r.sz r.es))
      | none => False
    | .sl _ _ _ => K s
    | _ => False
  | .cn d f xs, K, s => ∃ as, s.args xs = some as ∧ (xs.map s.get).all nosr = true ∧ ∃ Ψ, SndB P f as Ψ ∧ ∀ cs, Ψ cs → K (St.set { s.kill d with bx := fun j => if j = d then some (deadL d cs) else (s.kill d).bx j } d (.ptr d 0))
  | .lq d x, K, s => match s.get x with
    | .sl _ _ es => es.length ≤ 9223372036854775807 ∧ K (s.set d (.int .i64 es.length))
    | .nl => K (s.set d (.int .i64 0))
    | _ => False
end Go.Proofs.Ythbbieobcokgbaa.Eng
