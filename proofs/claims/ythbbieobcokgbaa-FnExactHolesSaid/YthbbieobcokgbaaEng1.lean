/-
  The engine, part 1: abstract values, abstract states, and what it means that a world and a frame stand for one. No program in sight.
-/
import Derived.Below
import Derived.Orders
import Derived.Deep.Draws
import Derived.WalkKit
namespace Go.Proofs.Ythbbieobcokgbaa.Eng
open Go Go.RowKit

inductive Tag | rd | nw | own (i : Nat)
  deriving DecidableEq

/-- Abstract values: data are trees. -/
inductive AV
  | bool (b : Bool)
  | int (k : IntKind) (n : Int)
  | str (l : List UInt8)
  | agg (cs : List AV)
  | tup (cs : List AV)
  | sl (t : Tag) (sz : Nat) (es : List AV)
  | nl
  | sref (k : Nat)
  | ptr (k off : Nat)
  | ept (e : AV) (off : Nat)
  | rpt (k i off : Nat)
  | fn (f : Nat) (cap : List AV)
  | und
  | bad

def AV.cells : AV → List AV
  | .agg cs => cs
  | a => [a]
def AV.one : AV → Bool
  | .agg _ | .tup _ | .bad | .und => false
  | _ => true
def flat (es : List AV) : List AV := es.flatMap AV.cells

mutual
def AV.dead (k : Nat) : AV → AV
  | .sref j => if j = k then .bad else .sref j
  | .ptr j o => if j = k then .bad else .ptr j o
  | .rpt j i o => if j = k then .bad else .rpt j i o
  | .agg cs => .agg (deadL k cs)
  | .tup cs => .tup (deadL k cs)
  | .fn f cs => .fn f (deadL k cs)
  | a => a
def deadL (k : Nat) : List AV → List AV
  | [] => []
  | a :: l => AV.dead k a :: deadL k l
end
theorem deadL_map (k : Nat) : ∀ l, deadL k l = l.map (AV.dead k)
  | [] => rfl
  | a :: l => by rw [deadL, deadL_map k l]; rfl

structure Row where
  sz : Nat
  es : List AV
  sh : Bool

structure St where
  e : Nat → AV
  bx : Nat → Option (List AV)
  rw : Nat → Option Row

/-- Ghost: where things lie. -/
structure Gh where
  S : Nat → Nat → Prop
  N : Nat → Prop
  bb : Nat → Nat
  rv : Nat → Value

/-- Data: the value reads as the tree; every cell that is read lies in S; a tree marked 'nw' lies in blocks of N. -/
inductive Rd (w : World) (S : Nat → Nat → Prop) (N : Nat → Prop) : AV → Value → Prop
  | bool (b : Bool) : Rd w S N (.bool b) (.bool b)
  | int (k : IntKind) (n : Int) : Rd w S N (.int k n) (.int k n)
  | str (l : List UInt8) : Rd w S N (.str l) (.string ⟨l.toArray⟩)
  | nl : Rd w S N .nl (.slice none 0 0)
  | agg (cs : List AV) (vs : List Value) (hl : cs.length = vs.length) (h1 : ∀ a ∈ cs, a.one = true)
      (h : ∀ (i : Nat) (a : AV) (v : Value), cs[i]? = some a → vs[i]? = some v → Rd w S N a v) : Rd w S N (.agg cs) (.agg vs.toArray)
  | fn (f : Nat) (cs : List AV) (vs : List Value) (hl : cs.length = vs.length)
      (h : ∀ (i : Nat) (a : AV) (v : Value), cs[i]? = some a → vs[i]? = some v → Rd w S N a v) : Rd w S N (.fn f cs) (.func (.func f) #[] vs.toArray)
  | sl0 (t : Tag) (sz : Nat) (a : Option Addr) (c : Nat) : Rd w S N (.sl t sz []) (.slice a 0 c)
  | sl (t : Tag) (sz : Nat) (es : List AV) (b o c : Nat) (cv : Nat → Value) (hc : es.length ≤ c) (hm : c ≤ maxLen)
      (hs : ∀ e ∈ es, e.cells.length = sz)
      (hw : ∀ (j : Nat) (a : AV), (flat es)[j]? = some a → w.cell? ⟨b, o + j, none⟩ = some (cv j) ∧ S b (o + j) ∧ a.one = true)
      (hn : t = .nw → N b)
      (h : ∀ (j : Nat) (a : AV), (flat es)[j]? = some a → Rd w S N a (cv j)) :
      Rd w S N (.sl t sz es) (.slice (some ⟨b, o, none⟩) es.length c)
  | ept (e : AV) (off b o : Nat) (cv : Nat → Value) (hw : ∀ (j : Nat) (a : AV), e.cells[j]? = some a → w.cell? ⟨b, o + j, none⟩ = some (cv j) ∧ S b (o + j) ∧ a.one = true)
      (h : ∀ (j : Nat) (a : AV), e.cells[j]? = some a → Rd w S N a (cv j)) : Rd w S N (.ept e off) (.pointer (some ⟨b, o + off, none⟩))

theorem Rd.mono {w w' : World} {S S' : Nat → Nat → Prop} {N N' : Nat → Prop} (hS : ∀ b o, S b o → S' b o) (hN : ∀ b, N b → N' b)
    (hc : ∀ b o, S b o → w'.cell? ⟨b, o, none⟩ = w.cell? ⟨b, o, none⟩) {a : AV} {v : Value} (h : Rd w S N a v) : Rd w' S' N' a v := by
  induction h with
  | bool b => exact .bool b
  | int k n => exact .int k n
  | str l => exact .str l
  | nl => exact .nl
  | agg cs vs hl h1 _ ih => exact .agg cs vs hl h1 ih
  | fn f cs vs hl _ ih => exact .fn f cs vs hl ih
  | sl0 t sz a c => exact .sl0 t sz a c
  | sl t sz es b o c cv hcc hm hs hw hn _ ih =>
    exact .sl t sz es b o c cv hcc hm hs (fun j a hj => by obtain ⟨h1, h2, h3⟩ := hw j a hj; exact ⟨by rw [hc _ _ h2]; exact h1, hS _ _ h2, h3⟩) (fun ht => hN _ (hn ht)) ih
  | ept e off b o cv hw _ ih => exact .ept e off b o cv (fun j a hj => by obtain ⟨h1, h2, h3⟩ := hw j a hj; exact ⟨by rw [hc _ _ h2]; exact h1, hS _ _ h2, h3⟩) ih

/-- A frame's value stands for an abstract one. -/
inductive Gv (w : World) (g : Gh) (s : St) : AV → Value → Prop
  | data (a : AV) (v : Value) (h : Rd w g.S g.N a v) : Gv w g s a v
  | bad (v : Value) : Gv w g s .bad v
  | und : Gv w g s .und undef
  | sref (k : Nat) (v : Value) (h1 : v.oneCell' = true) (h : ∀ r, s.rw k = some r → v = g.rv k) : Gv w g s (.sref k) v
  | ptr (k off : Nat) (v : Value) (h1 : v.oneCell' = true) (h : ∀ cs, s.bx k = some cs → v = .pointer (some ⟨g.bb k, off, none⟩)) : Gv w g s (.ptr k off) v
  | rpt (k i off : Nat) (v : Value) (h1 : v.oneCell' = true)
      (h : ∀ r, s.rw k = some r → ∃ b, (g.rv k).ownBlock = some b ∧ v = .pointer (some ⟨b, i * r.sz + off, none⟩)) : Gv w g s (.rpt k i off) v
  | ept (e : AV) (off b o : Nat) (cv : Nat → Value) (hw : ∀ (j : Nat) (a : AV), e.cells[j]? = some a → w.cell? ⟨b, o + j, none⟩ = some (cv j) ∧ g.S b (o + j) ∧ a.one = true)
      (h : ∀ (j : Nat) (a : AV), e.cells[j]? = some a → Rd w g.S g.N a (cv j)) : Gv w g s (.ept e off) (.pointer (some ⟨b, o + off, none⟩))
  | agg (cs : List AV) (vs : List Value) (hl : cs.length = vs.length) (h1 : ∀ a ∈ cs, a.one = true ∨ a = .bad)
      (h : ∀ (i : Nat) (a : AV) (v : Value), cs[i]? = some a → vs[i]? = some v → Gv w g s a v) : Gv w g s (.agg cs) (.agg vs.toArray)
  | tup (cs : List AV) (vs : List Value) (hl : cs.length = vs.length)
      (h : ∀ (i : Nat) (a : AV) (v : Value), cs[i]? = some a → vs[i]? = some v → Gv w g s a v) : Gv w g s (.tup cs) (.tuple vs.toArray)
  | fn (f : Nat) (cs : List AV) (vs : List Value) (hl : cs.length = vs.length)
      (h : ∀ (i : Nat) (a : AV) (v : Value), cs[i]? = some a → vs[i]? = some v → Gv w g s a v) : Gv w g s (.fn f cs) (.func (.func f) #[] vs.toArray)

/-- What may turn between two states so that what does not name key k stays true. -/
structure Turn (p : Nat → Prop) (w w' : World) (g g' : Gh) (s s' : St) : Prop where
  S : ∀ b o, g.S b o → g'.S b o
  N : ∀ b, g.N b → g'.N b
  cell : ∀ b o, g.S b o → w'.cell? ⟨b, o, none⟩ = w.cell? ⟨b, o, none⟩
  rw : ∀ k, p k → ∀ r', s'.rw k = some r' → ∃ r, s.rw k = some r ∧ r'.sz = r.sz ∧ g'.rv k = g.rv k
  bx : ∀ k, p k → ∀ cs', s'.bx k = some cs' → ∃ cs, s.bx k = some cs ∧ g'.bb k = g.bb k

theorem Gv.turn {w w' : World} {g g' : Gh} {s s' : St} (T : Turn (fun _ => True) w w' g g' s s') {a : AV} {v : Value} (h : Gv w g s a v) : Gv w' g' s' a v := by
  induction h with
  | data a v h => exact .data a v (h.mono T.S T.N T.cell)
  | bad v => exact .bad v
  | und => exact .und
  | sref k v h1 h => exact .sref k v h1 fun r' hr' => by obtain ⟨r, hr, _, hg⟩ := T.rw k trivial r' hr'; rw [hg]; exact h r hr
  | ptr k off v h1 h => exact .ptr k off v h1 fun c' hc' => by obtain ⟨c, hc, hg⟩ := T.bx k trivial c' hc'; rw [hg]; exact h c hc
  | rpt k i off v h1 h => exact .rpt k i off v h1 fun r' hr' => by obtain ⟨r, hr, hz, hg⟩ := T.rw k trivial r' hr'; rw [hg, hz]; exact h r hr
  | ept e off b o cv hw h =>
    exact .ept e off b o cv (fun j a hj => by obtain ⟨h1, h2, h3⟩ := hw j a hj; exact ⟨by rw [T.cell _ _ h2]; exact h1, T.S _ _ h2, h3⟩) (fun j a hj => (h j a hj).mono T.S T.N T.cell)
  | agg cs vs hl h1 _ ih => exact .agg cs vs hl h1 ih
  | tup cs vs hl _ ih => exact .tup cs vs hl ih
  | fn f cs vs hl _ ih => exact .fn f cs vs hl ih

theorem Rd.one_dead {w : World} {S : Nat → Nat → Prop} {N : Nat → Prop} (k : Nat) {a : AV} {v : Value} (h : Rd w S N a v) (h1 : a.one = true) : (a.dead k).one = true := by
  cases h <;> simp_all [AV.dead, AV.one]
/-- Data name no key. -/
theorem Rd.dead {w : World} {S : Nat → Nat → Prop} {N : Nat → Prop} {k : Nat} {a : AV} {v : Value} (h : Rd w S N a v) : Rd w S N (a.dead k) v := by
  induction h with
  | bool b => exact .bool b
  | int k n => exact .int k n
  | str l => exact .str l
  | nl => exact .nl
  | sl0 t sz a c => exact .sl0 t sz a c
  | sl t sz es b o c cv hcc hm hs hw hn h _ => exact .sl t sz es b o c cv hcc hm hs hw hn h
  | ept e off b o cv hw h _ => exact .ept e off b o cv hw h
  | agg cs vs hl h1 h ih =>
    rw [AV.dead, deadL_map]
    refine .agg _ vs (by simpa using hl) ?_ ?_
    · intro a ha
      obtain ⟨a0, ha0, rfl⟩ := List.mem_map.1 ha
      obtain ⟨i, hi, rfl⟩ := List.getElem_of_mem ha0
      have hlt : i < vs.length := by omega
      exact (h i _ _ (List.getElem?_eq_getElem hi) (List.getElem?_eq_getElem hlt)).one_dead k (h1 _ ha0)
    · intro i a v ha hv
      rw [List.getElem?_map] at ha
      cases hc : cs[i]? with
      | none => simp [hc] at ha
      | some x => simp [hc] at ha; subst ha; exact ih i x v hc hv
  | fn f cs vs hl h ih =>
    rw [AV.dead, deadL_map]
    refine .fn f _ vs (by simpa using hl) ?_
    intro i a v ha hv
    rw [List.getElem?_map] at ha
    cases hc : cs[i]? with
    | none => simp [hc] at ha
    | some x => simp [hc] at ha; subst ha; exact ih i x v hc hv

theorem one_dead (k : Nat) {a : AV} (h : a.one = true ∨ a = .bad) : (a.dead k).one = true ∨ a.dead k = .bad := by
  rcases h with h | rfl
  · cases a with
    | sref j => rw [AV.dead]; split <;> simp [AV.one]
    | ptr j o => rw [AV.dead]; split <;> simp [AV.one]
    | rpt j i o => rw [AV.dead]; split <;> simp [AV.one]
    | _ => simp [AV.dead, AV.one] at h ⊢
  · right; rfl

theorem Gv.turn_dead {w w' : World} {g g' : Gh} {s s' : St} {k : Nat} (T : Turn (· ≠ k) w w' g g' s s') {a : AV} {v : Value} (h : Gv w g s a v) : Gv w' g' s' (a.dead k) v := by
  have mp : ∀ (cs : List AV) (vs : List Value), (∀ (i : Nat) (a : AV) (v : Value), cs[i]? = some a → vs[i]? = some v → Gv w' g' s' (a.dead k) v) →
      ∀ (i : Nat) (a : AV) (v : Value), (cs.map (AV.dead k))[i]? = some a → vs[i]? = some v → Gv w' g' s' a v := by
    intro cs vs ih i a v ha hv
    rw [List.getElem?_map] at ha
    cases hc : cs[i]? with
    | none => simp [hc] at ha
    | some x => simp [hc] at ha; subst ha; exact ih i x v hc hv
  induction h with
  | data a v h => exact .data _ v ((h.mono T.S T.N T.cell).dead)
  | bad v => exact .bad v
  | und => exact .und
  | sref j v h1 h =>
    rw [AV.dead]; split
    · exact .bad v
    · rename_i hj
      exact .sref j v h1 fun r' hr' => by obtain ⟨r, hr, _, hg⟩ := T.rw j hj r' hr'; rw [hg]; exact h r hr
  | ptr j off v h1 h =>
    rw [AV.dead]; split
    · exact .bad v
    · rename_i hj
      exact .ptr j off v h1 fun c' hc' => by obtain ⟨c, hc, hg⟩ := T.bx j hj c' hc'; rw [hg]; exact h c hc
  | rpt j i off v h1 h =>
    rw [AV.dead]; split
    · exact .bad v
    · rename_i hj
      exact .rpt j i off v h1 fun r' hr' => by obtain ⟨r, hr, hz, hg⟩ := T.rw j hj r' hr'; rw [hg, hz]; exact h r hr
  | ept e off b o cv hw h =>
    exact .ept e off b o cv (fun j a hj => by obtain ⟨h1, h2, h3⟩ := hw j a hj; exact ⟨by rw [T.cell _ _ h2]; exact h1, T.S _ _ h2, h3⟩) (fun j a hj => (h j a hj).mono T.S T.N T.cell)
  | agg cs vs hl h1 _ ih =>
    rw [AV.dead, deadL_map]
    refine .agg _ vs (by simpa using hl) ?_ (mp cs vs ih)
    intro a ha
    obtain ⟨a0, ha0, rfl⟩ := List.mem_map.1 ha
    exact one_dead k (h1 _ ha0)
  | tup cs vs hl _ ih => rw [AV.dead, deadL_map]; exact .tup _ vs (by simpa using hl) (mp cs vs ih)
  | fn f cs vs hl _ ih => rw [AV.dead, deadL_map]; exact .fn f _ vs (by simpa using hl) (mp cs vs ih)

end Go.Proofs.Ythbbieobcokgbaa.Eng
