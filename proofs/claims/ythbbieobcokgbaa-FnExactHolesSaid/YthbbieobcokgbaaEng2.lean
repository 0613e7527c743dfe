/-
  The engine, part 2: the invariant that ties an abstract state to a frame and a world, and how it is kept.
-/
import Derived.Test.YthbbieobcokgbaaEng1
namespace Go.Proofs.Ythbbieobcokgbaa.Eng
open Go Go.RowKit

/-- What stays fixed in a walk: how many temporaries, which old blocks may be written, the world at the start. -/
structure Cx where
  nt : Nat
  X : Nat → Prop
  Y : Nat → Prop
  S0 : Nat → Nat → Prop
  w0 : World
  rv0 : Nat → Value
  bb0 : Nat → Nat
  ntb : nt ≤ 900000

structure Frm (c : Cx) (w : World) : Prop where
  os : w.os = c.w0.os
  tape : w.tape = c.w0.tape
  output : w.output = c.w0.output
  size : c.w0.heap.size ≤ w.heap.size
  block : ∀ k, k < c.w0.heap.size → ¬ c.X k → w.heap[k]? = c.w0.heap[k]?

def BoxOk (w : World) (g : Gh) (s : St) (b : Nat) (cs : List AV) : Prop :=
  ∃ (vs : List Value) (ty : TypeId), w.heap[b]? = some (.cells vs.toArray ty (0, 0)) ∧ vs.length = cs.length ∧
    ∀ (i : Nat) (a : AV) (v : Value), cs[i]? = some a → vs[i]? = some v → (a.one = true ∨ a = .bad) ∧ v.oneCell' = true ∧ Gv w g s a v

def RowOk (w : World) (S : Nat → Nat → Prop) (N : Nat → Prop) (r : Row) (v : Value) : Prop :=
  ∃ (xs : List Value) (ty : TypeId), w.ownsRow 0 ty r.sz v r.es.length xs ∧ (∀ e ∈ r.es, e.cells.length = r.sz) ∧
    (∀ (j : Nat) (a : AV) (u : Value), (flat r.es)[j]? = some a → xs[j]? = some u → a.one = true ∧ u.oneCell' = true ∧ Rd w S N a u)

/-- A block that may be written. -/
def Wr (c : Cx) (g : Gh) (b : Nat) : Prop := g.N b ∧ (b < c.w0.heap.size → c.X b)

structure Inv (c : Cx) (g : Gh) (s : St) (a : Act) (w : World) : Prop where
  defers : a.defers = []
  nt : a.tmps.size = c.nt
  fr : Frm c w
  tm : ∀ i, Gv w g s (s.e i) (a.tmps.getD i undef)
  bxs : ∀ k cs, s.bx k = some cs → BoxOk w g s (g.bb k) cs
  bxn : ∀ k cs, s.bx k = some cs → Wr c g (g.bb k) ∧ ∀ o, ¬ g.S (g.bb k) o
  rws : ∀ k r, s.rw k = some r → RowOk w g.S g.N r (g.rv k)
  rwn : ∀ k r, s.rw k = some r → ∀ b, (g.rv k).ownBlock = some b → Wr c g b ∧ ∀ o, g.S b o → r.sh = true ∧ o < r.es.length * r.sz
  dbb : ∀ k k' cs cs', s.bx k = some cs → s.bx k' = some cs' → k ≠ k' → g.bb k ≠ g.bb k'
  dbr : ∀ k k' cs r, s.bx k = some cs → s.rw k' = some r → (g.rv k').ownBlock ≠ some (g.bb k)
  drr : ∀ k k' r r', s.rw k = some r → s.rw k' = some r' → k ≠ k' → ∀ b, (g.rv k).ownBlock = some b → (g.rv k').ownBlock ≠ some b
  sw : ∀ b o, g.S b o → b < w.heap.size
  nn : ∀ b, c.w0.heap.size ≤ b → g.N b
  nx : ∀ b, g.N b → b < c.w0.heap.size → c.Y b
  fix : ∀ k, 1000000000 ≤ k → g.rv k = c.rv0 k ∧ g.bb k = c.bb0 k
  sm : ∀ b o, c.S0 b o → g.S b o
  sb : ∀ b o, g.S b o → c.S0 b o ∨ c.w0.heap.size ≤ b ∨ c.X b

theorem box_lt {w : World} {g : Gh} {s : St} {b : Nat} {cs : List AV} (h : BoxOk w g s b cs) : b < w.heap.size := by
  obtain ⟨vs, ty, hb, _⟩ := h
  rcases Nat.lt_or_ge b w.heap.size with hl | hl
  · exact hl
  · rw [Array.getElem?_eq_none hl] at hb; cases hb
theorem row_lt {w : World} {S : Nat → Nat → Prop} {N : Nat → Prop} {r : Row} {v : Value} (h : RowOk w S N r v) {b : Nat} (hb : v.ownBlock = some b) : b < w.heap.size := by
  obtain ⟨xs, ty, ho, _⟩ := h
  exact (ho.lt b hb).2

/-- No part of the state lies there. -/
structure Vac (c : Cx) (g : Gh) (s : St) (b : Nat) : Prop where
  S : ∀ o, ¬ g.S b o
  bx : ∀ k cs, s.bx k = some cs → g.bb k ≠ b
  rw : ∀ k r, s.rw k = some r → (g.rv k).ownBlock ≠ some b
  N : Wr c g b

section
variable {c : Cx} {g : Gh} {s : St} {a : Act} {w : World}

theorem Inv.vac (I : Inv c g s a w) {b : Nat} (h : w.heap.size ≤ b) : Vac c g s b where
  S := fun o ho => by have := I.sw b o ho; omega
  bx := fun k cs hk e => by have := box_lt (I.bxs k cs hk); omega
  rw := fun k r hk e => by have := row_lt (I.rws k r hk) e; omega
  N := ⟨I.nn b (Nat.le_trans I.fr.size h), fun hl => by have := I.fr.size; omega⟩

theorem getD_set {t : Array Value} {d i : Nat} {v : Value} (hd : d < t.size) : (t.setIfInBounds d v).getD i undef = if i = d then v else t.getD i undef := by
  simp only [Array.getD_eq_getD_getElem?, Array.getElem?_setIfInBounds]
  by_cases h : d = i
  · subst h; simp [hd]
  · simp [h, Ne.symm h]

def upd (e : Nat → AV) (i : Nat) (v : AV) : Nat → AV := fun j => if j = i then v else e j
def St.set (s : St) (d : Nat) (v : AV) : St := { s with e := upd s.e d v }

theorem turn_same {w' : World} {g : Gh} {s s' : St} (hb : s'.bx = s.bx) (hr : s'.rw = s.rw) (hc : ∀ b o, g.S b o → w'.cell? ⟨b, o, none⟩ = w.cell? ⟨b, o, none⟩) : Turn (fun _ => True) w w' g g s s' where
  S := fun _ _ h => h
  N := fun _ h => h
  cell := hc
  rw := fun k _ r' h => ⟨r', by rw [← hr]; exact h, rfl, rfl⟩
  bx := fun k _ c' h => ⟨c', by rw [← hb]; exact h, rfl⟩

/-- The temporaries alone. -/
theorem Inv.put (I : Inv c g s a w) {d : Nat} (hd : d < c.nt) {x : AV} {v : Value} (hv : Gv w g s x v) : Inv c g (s.set d x) (a.put (some d) v) w := by
  have T : Turn (fun _ => True) w w g g s (s.set d x) := turn_same rfl rfl (fun _ _ _ => rfl)
  refine ⟨I.defers, by simp [Act.put, I.nt], I.fr, ?_, ?_, I.bxn, I.rws, I.rwn, I.dbb, I.dbr, I.drr, I.sw, I.nn, I.nx, I.fix, I.sm, I.sb⟩
  · intro i
    simp only [Act.put, St.set, upd]
    rw [getD_set (by rw [I.nt]; exact hd)]
    split
    · exact hv.turn T
    · exact (I.tm i).turn T
  · intro k cs hk
    obtain ⟨vs, ty, h1, h2, h3⟩ := I.bxs k cs hk
    exact ⟨vs, ty, h1, h2, fun i a v ha hv => ⟨(h3 i a v ha hv).1, (h3 i a v ha hv).2.1, (h3 i a v ha hv).2.2.turn T⟩⟩

/-- The world grows; more may be read, in new blocks. -/
theorem Inv.grow (I : Inv c g s a w) {w' : World} {S' : Nat → Nat → Prop} (hos : w'.os = w.os) (htape : w'.tape = w.tape) (hout : w'.output = w.output)
    (hsz : w.heap.size ≤ w'.heap.size) (hold : ∀ k, k < w.heap.size → w'.heap[k]? = w.heap[k]?)
    (hS1 : ∀ b o, g.S b o → S' b o) (hS2 : ∀ b o, S' b o → g.S b o ∨ (w.heap.size ≤ b ∧ b < w'.heap.size)) : Inv c { g with S := S' } s a w' := by
  have T : Turn (fun _ => True) w w' g { g with S := S' } s s :=
    ⟨hS1, fun _ h => h, fun b o ho => World.cell?_of_block (hold b (I.sw b o ho)), fun k _ r h => ⟨r, h, rfl, rfl⟩, fun k _ r h => ⟨r, h, rfl⟩⟩
  refine ⟨I.defers, I.nt, ⟨hos.trans I.fr.os, htape.trans I.fr.tape, hout.trans I.fr.output, Nat.le_trans I.fr.size hsz, ?_⟩, fun i => (I.tm i).turn T, ?_, ?_, ?_, ?_, I.dbb, I.dbr, I.drr, ?_, I.nn, I.nx, I.fix, fun b o h => hS1 b o (I.sm b o h), fun b o h => (hS2 b o h).elim (I.sb b o) (fun h => .inr (.inl (Nat.le_trans I.fr.size h.1)))⟩
  · intro k hk hx
    rw [hold k (Nat.lt_of_lt_of_le hk I.fr.size)]; exact I.fr.block k hk hx
  · intro k cs hk
    have hlt := box_lt (I.bxs k cs hk)
    obtain ⟨vs, ty, h1, h2, h3⟩ := I.bxs k cs hk
    exact ⟨vs, ty, by rw [hold _ hlt]; exact h1, h2, fun i a v ha hv => ⟨(h3 i a v ha hv).1, (h3 i a v ha hv).2.1, (h3 i a v ha hv).2.2.turn T⟩⟩
  · intro k cs hk
    have hlt := box_lt (I.bxs k cs hk)
    refine ⟨(I.bxn k cs hk).1, fun o ho => ?_⟩
    rcases hS2 _ _ ho with h | h
    · exact (I.bxn k cs hk).2 o h
    · have := h.1; simp only at this; omega
  · intro k r hk
    obtain ⟨xs, ty, h1, h2, h3⟩ := I.rws k r hk
    refine ⟨xs, ty, ⟨h1.1, ?_⟩, h2, fun j a u ha hu => ⟨(h3 j a u ha hu).1, (h3 j a u ha hu).2.1, (h3 j a u ha hu).2.2.mono T.S T.N T.cell⟩⟩
    rcases h1.2 with h | ⟨b, cap, cur, e1, e2, e3, e4⟩
    · exact .inl h
    · exact .inr ⟨b, cap, cur, e1, e2, by rw [hold b ((h1.lt b (by simp only [e1]; rfl)).2)]; exact e3, e4⟩
  · intro k r hk b hb
    have hlt := row_lt (I.rws k r hk) hb
    refine ⟨(I.rwn k r hk b hb).1, fun o ho => ?_⟩
    rcases hS2 _ _ ho with h | h
    · exact (I.rwn k r hk b hb).2 o h
    · omega
  · intro b o ho
    rcases hS2 _ _ ho with h | h
    · exact Nat.lt_of_lt_of_le (I.sw b o h) hsz
    · exact h.2

/-- A draw. -/
theorem Inv.drawn (I : Inv c g s a w) (n : Nat) : Inv c g s a { w with drawn := n } :=
  I.grow (w' := { w with drawn := n }) (S' := g.S) rfl rfl rfl (Nat.le_refl _) (fun _ _ => rfl) (fun _ _ h => h) (fun _ _ h => .inl h)

def St.kill (s : St) (k : Nat) : St :=
  { e := fun i => (s.e i).dead k, bx := fun j => if j = k then none else (s.bx j).map (deadL k), rw := fun j => if j = k then none else s.rw j }

theorem kill_bx {k j : Nat} {cs : List AV} (h : (s.kill k).bx j = some cs) : j ≠ k ∧ ∃ cs0, s.bx j = some cs0 ∧ cs = deadL k cs0 := by
  simp only [St.kill] at h
  split at h
  · cases h
  · rename_i hj
    obtain ⟨c0, h0, rfl⟩ := Option.map_eq_some_iff.1 h
    exact ⟨hj, c0, h0, rfl⟩
theorem kill_rw {k j : Nat} {r : Row} (h : (s.kill k).rw j = some r) : j ≠ k ∧ s.rw j = some r := by
  simp only [St.kill] at h
  split at h
  · cases h
  · rename_i hj; exact ⟨hj, h⟩

theorem boxOk_dead {k b : Nat} {cs : List AV} {g' : Gh} {s' : St} (T : Turn (· ≠ k) w w g g' s s') (h : BoxOk w g s b cs) : BoxOk w g' s' b (deadL k cs) := by
  obtain ⟨vs, ty, h1, h2, h3⟩ := h
  refine ⟨vs, ty, h1, by rw [deadL_map]; simpa using h2, fun i a v ha hv => ?_⟩
  rw [deadL_map, List.getElem?_map] at ha
  obtain ⟨a0, ha0, rfl⟩ := Option.map_eq_some_iff.1 ha
  obtain ⟨q1, q2, q3⟩ := h3 i a0 v ha0 hv
  exact ⟨one_dead k q1, q2, q3.turn_dead T⟩

/-- A new box, under key k. -/
theorem Inv.addbox (I : Inv c g s a w) (k b : Nat) (cs : List AV) (hb : BoxOk w g s b cs) (hv : Vac c g s b) (hkb : k < 1000000000) :
    Inv c { g with bb := fun j => if j = k then b else g.bb j } { s.kill k with bx := fun j => if j = k then some (deadL k cs) else (s.kill k).bx j } a w := by
  have T : Turn (· ≠ k) w w g { g with bb := fun j => if j = k then b else g.bb j } s { s.kill k with bx := fun j => if j = k then some (deadL k cs) else (s.kill k).bx j } := by
    refine ⟨fun _ _ h => h, fun _ h => h, fun _ _ _ => rfl, fun j hj r h => ?_, fun j hj c' h => ?_⟩
    · exact ⟨r, (kill_rw h).2, rfl, rfl⟩
    · simp only [hj, if_false] at h
      obtain ⟨_, c0, h0, _⟩ := kill_bx h
      exact ⟨c0, h0, by simp [hj]⟩
  have hbx : ∀ j cs', (if j = k then some (deadL k cs) else (s.kill k).bx j) = some cs' →
      (j = k ∧ cs' = deadL k cs) ∨ (j ≠ k ∧ ∃ c0, s.bx j = some c0 ∧ cs' = deadL k c0) := by
    intro j cs' h
    by_cases hj : j = k
    · simp only [hj, if_true, Option.some.injEq] at h; exact .inl ⟨hj, h.symm⟩
    · simp only [hj, if_false] at h
      obtain ⟨_, c0, h0, h1⟩ := kill_bx h
      exact .inr ⟨hj, c0, h0, h1⟩
  refine ⟨I.defers, I.nt, I.fr, fun i => (I.tm i).turn_dead T, ?_, ?_, ?_, ?_, ?_, ?_, ?_, I.sw, I.nn, I.nx, fun j hj => ⟨(I.fix j hj).1, by simp only [show j ≠ k by omega, if_false]; exact (I.fix j hj).2⟩, I.sm, I.sb⟩
  · intro j cs' h
    rcases hbx j cs' h with ⟨rfl, rfl⟩ | ⟨hj, c0, h0, rfl⟩
    · simp only [if_true]; exact boxOk_dead T hb
    · simp only [hj, if_false]; exact boxOk_dead T (I.bxs j c0 h0)
  · intro j cs' h
    rcases hbx j cs' h with ⟨rfl, rfl⟩ | ⟨hj, c0, h0, rfl⟩
    · simp only [if_true]; exact ⟨hv.N, hv.S⟩
    · simp only [hj, if_false]; exact I.bxn j c0 h0
  · intro j r h; exact I.rws j r (kill_rw h).2
  · intro j r h; exact I.rwn j r (kill_rw h).2
  · intro j j' c1 c2 h1 h2 hne
    rcases hbx j c1 h1 with ⟨rfl, _⟩ | ⟨hj, c0, h0, _⟩ <;> rcases hbx j' c2 h2 with ⟨rfl, _⟩ | ⟨hj', c0', h0', _⟩
    · exact absurd rfl hne
    · simp only [if_true, hj', if_false]; exact fun e => hv.bx j' c0' h0' e.symm
    · simp only [if_true, hj, if_false]; exact hv.bx j c0 h0
    · simp only [hj, hj', if_false]; exact I.dbb j j' c0 c0' h0 h0' hne
  · intro j j' c1 r h1 h2
    have h2' := (kill_rw h2).2
    rcases hbx j c1 h1 with ⟨rfl, _⟩ | ⟨hj, c0, h0, _⟩
    · simp only [if_true]; exact hv.rw j' r h2'
    · simp only [hj, if_false]; exact I.dbr j j' c0 r h0 h2'
  · intro j j' r r' h1 h2 hne
    exact I.drr j j' r r' (kill_rw h1).2 (kill_rw h2).2 hne

/-- A new row, under key k. -/
theorem Inv.addrow (I : Inv c g s a w) (k : Nat) (r0 : Row) (v0 : Value) (hr : RowOk w g.S g.N r0 v0) (hv : ∀ b, v0.ownBlock = some b → Vac c g s b) (hkb : k < 1000000000) :
    Inv c { g with rv := fun j => if j = k then v0 else g.rv j } { s.kill k with rw := fun j => if j = k then some r0 else (s.kill k).rw j } a w := by
  have T : Turn (· ≠ k) w w g { g with rv := fun j => if j = k then v0 else g.rv j } s { s.kill k with rw := fun j => if j = k then some r0 else (s.kill k).rw j } := by
    refine ⟨fun _ _ h => h, fun _ h => h, fun _ _ _ => rfl, fun j hj r h => ?_, fun j hj c' h => ?_⟩
    · simp only [hj, if_false] at h
      exact ⟨r, (kill_rw h).2, rfl, by simp [hj]⟩
    · obtain ⟨_, c0, h0, _⟩ := kill_bx h
      exact ⟨c0, h0, rfl⟩
  have hrw : ∀ j r, (if j = k then some r0 else (s.kill k).rw j) = some r → (j = k ∧ r = r0) ∨ (j ≠ k ∧ s.rw j = some r) := by
    intro j r h
    by_cases hj : j = k
    · simp only [hj, if_true, Option.some.injEq] at h; exact .inl ⟨hj, h.symm⟩
    · simp only [hj, if_false] at h; exact .inr ⟨hj, (kill_rw h).2⟩
  refine ⟨I.defers, I.nt, I.fr, fun i => (I.tm i).turn_dead T, ?_, ?_, ?_, ?_, ?_, ?_, ?_, I.sw, I.nn, I.nx, fun j hj => ⟨by simp only [show j ≠ k by omega, if_false]; exact (I.fix j hj).1, (I.fix j hj).2⟩, I.sm, I.sb⟩
  · intro j cs' h
    obtain ⟨_, c0, h0, rfl⟩ := kill_bx h
    exact boxOk_dead T (I.bxs j c0 h0)
  · intro j cs' h
    obtain ⟨_, c0, h0, rfl⟩ := kill_bx h
    exact I.bxn j c0 h0
  · intro j r h
    rcases hrw j r h with ⟨rfl, rfl⟩ | ⟨hj, h0⟩
    · simpa using hr
    · simpa [hj] using I.rws j r h0
  · intro j r h b hb
    rcases hrw j r h with ⟨rfl, rfl⟩ | ⟨hj, h0⟩
    · simp only [if_true] at hb
      exact ⟨(hv b hb).N, fun o ho => absurd ho ((hv b hb).S o)⟩
    · simp only [hj, if_false] at hb
      exact I.rwn j r h0 b hb
  · intro j j' c1 c2 h1 h2 hne
    obtain ⟨_, d1, h1', _⟩ := kill_bx h1
    obtain ⟨_, d2, h2', _⟩ := kill_bx h2
    exact I.dbb j j' d1 d2 h1' h2' hne
  · intro j j' c1 r h1 h2
    obtain ⟨_, d1, h1', _⟩ := kill_bx h1
    rcases hrw j' r h2 with ⟨rfl, rfl⟩ | ⟨hj, h0⟩
    · simp only [if_true]; exact fun e => (hv _ e).bx j d1 h1' rfl
    · simp only [hj, if_false]; exact I.dbr j j' d1 r h1' h0
  · intro j j' r r' h1 h2 hne b
    rcases hrw j r h1 with ⟨rfl, rfl⟩ | ⟨hj, h0⟩ <;> rcases hrw j' r' h2 with ⟨rfl, rfl⟩ | ⟨hj', h0'⟩
    · exact absurd rfl hne
    · simp only [if_true, hj', if_false]; exact fun e => (hv b e).rw j' r' h0'
    · simp only [if_true, hj, if_false]; exact fun e e' => (hv b e').rw j r h0 e
    · simp only [hj, hj', if_false]; exact I.drr j j' r r' h0 h0' hne b
end
end Go.Proofs.Ythbbieobcokgbaa.Eng
