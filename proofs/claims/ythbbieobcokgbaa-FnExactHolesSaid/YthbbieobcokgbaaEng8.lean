/-
  The engine, part 8: soundness of stores, new boxes, new rows, append, slices.
-/
import Derived.Test.YthbbieobcokgbaaEng7
namespace Go.Proofs.Ythbbieobcokgbaa.Eng
open Go Go.RowKit

section
variable {P : Program} {c : Cx} {g : Gh} {s : St} {a : Act} {w : World}

theorem RowOk.mono {w' : World} {S S' : Nat → Nat → Prop} {N N' : Nat → Prop} {r : Row} {v : Value} (h : RowOk w S N r v) (hS : ∀ b o, S b o → S' b o) (hN : ∀ b, N b → N' b)
    (hc : ∀ b o, S b o → w'.cell? ⟨b, o, none⟩ = w.cell? ⟨b, o, none⟩) (hb : ∀ b, v.ownBlock = some b → w'.heap[b]? = w.heap[b]?) : RowOk w' S' N' r v := by
  obtain ⟨xs, ty, h1, h2, h3⟩ := h
  refine ⟨xs, ty, ⟨h1.1, ?_⟩, h2, fun j x u hx hu => ⟨(h3 j x u hx hu).1, (h3 j x u hx hu).2.1, (h3 j x u hx hu).2.2.mono hS hN hc⟩⟩
  rcases h1.2 with h | ⟨b, cap, cur, e1, e2, e3, e4⟩
  · exact .inl h
  · exact .inr ⟨b, cap, cur, e1, e2, by rw [hb b (by rw [e1]; rfl)]; exact e3, e4⟩

theorem BoxOk.turn {w' : World} {g' : Gh} {s' : St} {b b' : Nat} {cs : List AV} (T : Turn (fun _ => True) w w' g g' s s') (hb : w'.heap[b']? = w.heap[b]?) (h : BoxOk w g s b cs) : BoxOk w' g' s' b' cs := by
  obtain ⟨vs, ty, h1, h2, h3⟩ := h
  exact ⟨vs, ty, by rw [hb]; exact h1, h2, fun i x v hx hv => ⟨(h3 i x v hx hv).1, (h3 i x v hx hv).2.1, (h3 i x v hx hv).2.2.turn T⟩⟩

/-- One block that nobody reads as data is written; all else in the heap stands. -/
structure Wrote (w w' : World) (b0 : Nat) : Prop where
  os : w'.os = w.os
  tape : w'.tape = w.tape
  output : w'.output = w.output
  size : w'.heap.size = w.heap.size
  block : ∀ k, k ≠ b0 → w'.heap[k]? = w.heap[k]?

theorem wrote_setRow (w : World) (b : Nat) (cs : Array Value) : Wrote w (w.setRow b cs) b := ⟨rfl, rfl, rfl, by simp, fun k hk => setRow_other w b k cs hk⟩

theorem Inv.setbox (I : Inv c g s a w) {w' : World} {k : Nat} {cs cs' : List AV} (hk : s.bx k = some cs) (W : Wrote w w' (g.bb k)) (hb : BoxOk w' g { s with bx := fun j => if j = k then some cs' else s.bx j } (g.bb k) cs') :
    Inv c g { s with bx := fun j => if j = k then some cs' else s.bx j } a w' := by
  have hS : ∀ b o, g.S b o → w'.cell? ⟨b, o, none⟩ = w.cell? ⟨b, o, none⟩ := fun b o ho => World.cell?_of_block (W.block b (fun e => (I.bxn k cs hk).2 o (e ▸ ho)))
  have T : Turn (fun _ => True) w w' g g s { s with bx := fun j => if j = k then some cs' else s.bx j } :=
    ⟨fun _ _ h => h, fun _ h => h, hS, fun j _ r h => ⟨r, h, rfl, rfl⟩, fun j _ c' h => by
      by_cases hj : j = k
      · subst hj; exact ⟨cs, hk, rfl⟩
      · simp only [hj, if_false] at h; exact ⟨c', h, rfl⟩⟩
  refine ⟨I.defers, I.nt, ⟨W.os.trans I.fr.os, W.tape.trans I.fr.tape, W.output.trans I.fr.output, by rw [W.size]; exact I.fr.size, ?_⟩, fun i => (I.tm i).turn T, ?_, ?_, ?_, I.rwn, ?_, ?_, I.drr, ?_, I.nn, I.nx, I.fix, I.sm, I.sb⟩
  · intro b hb' hx
    rw [W.block b (fun e => hx ((show Wr c g b by rw [e]; exact (I.bxn k cs hk).1).2 hb'))]
    exact I.fr.block b hb' hx
  · intro j c1 h
    by_cases hj : j = k
    · subst hj; simp only [if_true, Option.some.injEq] at h; subst h; exact hb
    · simp only [hj, if_false] at h
      exact (I.bxs j c1 h).turn T (W.block _ (I.dbb j k c1 cs h hk hj))
  · intro j c1 h
    by_cases hj : j = k
    · subst hj; exact I.bxn j cs hk
    · simp only [hj, if_false] at h; exact I.bxn j c1 h
  · intro j r h
    exact (I.rws j r h).mono (fun _ _ h => h) (fun _ h => h) hS (fun b hb' => W.block b (fun e => I.dbr k j cs r hk h (e ▸ hb')))
  · intro j j' c1 c2 h1 h2 hne
    have f : ∀ j c1, (if j = k then some cs' else s.bx j) = some c1 → ∃ c0, s.bx j = some c0 := by
      intro j c1 h
      by_cases hj : j = k
      · subst hj; exact ⟨cs, hk⟩
      · simp only [hj, if_false] at h; exact ⟨c1, h⟩
    obtain ⟨d1, e1⟩ := f j c1 h1
    obtain ⟨d2, e2⟩ := f j' c2 h2
    exact I.dbb j j' d1 d2 e1 e2 hne
  · intro j j' c1 r h1 h2
    by_cases hj : j = k
    · subst hj; exact I.dbr j j' cs r hk h2
    · simp only [hj, if_false] at h1; exact I.dbr j j' c1 r h1 h2
  · intro b o ho; rw [W.size]; exact I.sw b o ho

theorem Inv.setrow (I : Inv c g s a w) {w' : World} {k b0 : Nat} {r r' : Row} (hk : s.rw k = some r) (hsh : r.sh = false) (hsz : r'.sz = r.sz) (hb0 : (g.rv k).ownBlock = some b0) (W : Wrote w w' b0)
    (hr : RowOk w' g.S g.N r' (g.rv k)) :
    Inv c g { s with rw := fun j => if j = k then some r' else s.rw j } a w' := by
  have hno : ∀ o, ¬ g.S b0 o := fun o ho => by have := ((I.rwn k r hk b0 hb0).2 o ho).1; rw [hsh] at this; cases this
  have hS : ∀ b o, g.S b o → w'.cell? ⟨b, o, none⟩ = w.cell? ⟨b, o, none⟩ := fun b o ho => World.cell?_of_block (W.block b (fun e => hno o (e ▸ ho)))
  have T : Turn (fun _ => True) w w' g g s { s with rw := fun j => if j = k then some r' else s.rw j } :=
    ⟨fun _ _ h => h, fun _ h => h, hS, fun j _ r1 h => by
      by_cases hj : j = k
      · subst hj; simp only [if_true, Option.some.injEq] at h; subst h; exact ⟨r, hk, hsz, rfl⟩
      · simp only [hj, if_false] at h; exact ⟨r1, h, rfl, rfl⟩, fun j _ c' h => ⟨c', h, rfl⟩⟩
  refine ⟨I.defers, I.nt, ⟨W.os.trans I.fr.os, W.tape.trans I.fr.tape, W.output.trans I.fr.output, by rw [W.size]; exact I.fr.size, ?_⟩, fun i => (I.tm i).turn T, ?_, I.bxn, ?_, ?_, I.dbb, ?_, ?_, ?_, I.nn, I.nx, I.fix, I.sm, I.sb⟩
  · intro b hb' hx
    rw [W.block b (fun e => hx ((show Wr c g b by rw [e]; exact (I.rwn k r hk b0 hb0).1).2 hb'))]
    exact I.fr.block b hb' hx
  · intro j c1 h
    exact (I.bxs j c1 h).turn T (W.block _ (fun e => I.dbr j k c1 r h hk (by rw [e]; exact hb0)))
  · intro j r1 h
    by_cases hj : j = k
    · subst hj; simp only [if_true, Option.some.injEq] at h; subst h; exact hr
    · simp only [hj, if_false] at h
      exact (I.rws j r1 h).mono (fun _ _ h => h) (fun _ h => h) hS (fun b hb' => W.block b (fun e => I.drr j k r1 r h hk hj b hb' (e ▸ hb0)))
  · intro j r1 h b hb'
    by_cases hj : j = k
    · subst hj
      rw [hb0] at hb'; cases hb'
      exact ⟨(I.rwn j r hk b0 hb0).1, fun o ho => absurd ho (hno o)⟩
    · simp only [hj, if_false] at h; exact I.rwn j r1 h b hb'
  · intro j j' c1 r1 h1 h2
    by_cases hj : j' = k
    · subst hj; exact I.dbr j j' c1 r h1 hk
    · simp only [hj, if_false] at h2; exact I.dbr j j' c1 r1 h1 h2
  · intro j j' r1 r2 h1 h2 hne
    have f : ∀ j r1, (if j = k then some r' else s.rw j) = some r1 → ∃ r0, s.rw j = some r0 := by
      intro j r1 h
      by_cases hj : j = k
      · subst hj; exact ⟨r, hk⟩
      · simp only [hj, if_false] at h; exact ⟨r1, h⟩
    obtain ⟨d1, e1⟩ := f j r1 h1
    obtain ⟨d2, e2⟩ := f j' r2 h2
    exact I.drr j j' d1 d2 e1 e2 hne
  · intro b o ho; rw [W.size]; exact I.sw b o ho

/-- More may be read: the cells of a row. -/
theorem Inv.share (I : Inv c g s a w) {k : Nat} {r : Row} (hk : s.rw k = some r) :
    Inv c { g with S := fun b o => g.S b o ∨ ((g.rv k).ownBlock = some b ∧ o < r.es.length * r.sz) } { s with rw := fun j => if j = k then some { r with sh := true } else s.rw j } a w := by
  have T : Turn (fun _ => True) w w g { g with S := fun b o => g.S b o ∨ ((g.rv k).ownBlock = some b ∧ o < r.es.length * r.sz) } s { s with rw := fun j => if j = k then some { r with sh := true } else s.rw j } :=
    ⟨fun _ _ h => .inl h, fun _ h => h, fun _ _ _ => rfl, fun j _ r1 h => by
      by_cases hj : j = k
      · subst hj; simp only [if_true, Option.some.injEq] at h; subst h; exact ⟨r, hk, rfl, rfl⟩
      · simp only [hj, if_false] at h; exact ⟨r1, h, rfl, rfl⟩, fun j _ c' h => ⟨c', h, rfl⟩⟩
  have f : ∀ j r1, (if j = k then some { r with sh := true } else s.rw j) = some r1 → ∃ r0, s.rw j = some r0 ∧ r1.sz = r0.sz ∧ r1.es = r0.es ∧ (r0.sh = true → r1.sh = true) := by
    intro j r1 h
    by_cases hj : j = k
    · subst hj; simp only [if_true, Option.some.injEq] at h; subst h; exact ⟨r, hk, rfl, rfl, fun _ => rfl⟩
    · simp only [hj, if_false] at h; exact ⟨r1, h, rfl, rfl, id⟩
  refine ⟨I.defers, I.nt, I.fr, fun i => (I.tm i).turn T, fun j c1 h => (I.bxs j c1 h).turn T rfl, ?_, ?_, ?_, I.dbb, ?_, ?_, ?_, I.nn, I.nx, I.fix, fun b o h => .inl (I.sm b o h), fun b o h => h.elim (I.sb b o) (fun h => by
    rcases Nat.lt_or_ge b c.w0.heap.size with hl | hl
    · exact .inr (.inr ((I.rwn k r hk b h.1).1.2 hl))
    · exact .inr (.inl hl))⟩
  · intro j c1 h
    refine ⟨(I.bxn j c1 h).1, fun o ho => ?_⟩
    rcases ho with ho | ⟨ho, _⟩
    · exact (I.bxn j c1 h).2 o ho
    · exact I.dbr j k c1 r h hk ho
  · intro j r1 h
    obtain ⟨r0, h0, e1, e2, _⟩ := f j r1 h
    obtain ⟨xs, ty, q1, q2, q3⟩ := (I.rws j r0 h0).mono T.S T.N T.cell (fun _ _ => rfl)
    exact ⟨xs, ty, by rw [e1, e2]; exact q1, by rw [e1, e2]; exact q2, by rw [e2]; exact q3⟩
  · intro j r1 h b hb
    by_cases hj : j = k
    · subst hj
      simp only [if_true, Option.some.injEq] at h; subst h
      refine ⟨(I.rwn j r hk b hb).1, fun o ho => ⟨rfl, ?_⟩⟩
      rcases ho with ho | ⟨_, ho⟩
      · exact ((I.rwn j r hk b hb).2 o ho).2
      · exact ho
    · simp only [hj, if_false] at h
      refine ⟨(I.rwn j r1 h b hb).1, fun o ho => ?_⟩
      rcases ho with ho | ⟨ho, _⟩
      · exact (I.rwn j r1 h b hb).2 o ho
      · exact absurd ho (I.drr j k r1 r h hk hj b hb)
  · intro j j' c1 r1 h1 h2
    obtain ⟨r0, h0, _⟩ := f j' r1 h2
    exact I.dbr j j' c1 r0 h1 h0
  · intro j j' r1 r2 h1 h2 hne
    obtain ⟨d1, e1, _⟩ := f j r1 h1
    obtain ⟨d2, e2, _⟩ := f j' r2 h2
    exact I.drr j j' d1 d2 e1 e2 hne
  · intro b o ho
    rcases ho with ho | ⟨ho, _⟩
    · exact I.sw b o ho
    · exact row_lt (I.rws k r hk) ho

/-- What a row holds, as data, once its cells may be read. -/
theorem row_data {S : Nat → Nat → Prop} {N : Nat → Prop} {r : Row} {v : Value} (h : RowOk w S N r v) (hS : ∀ b o, v.ownBlock = some b → o < r.es.length * r.sz → S b o) (hN : ∀ b, v.ownBlock = some b → N b) (t : Tag) : Rd w S N (.sl t r.sz r.es) v := by
  have hh := h
  obtain ⟨xs, ty, ho, hs, hc⟩ := h
  rcases ho.2 with ⟨rfl, hn⟩ | ⟨b, cap, cur, rfl, _, hb, h1, h2, h3, h4⟩
  · have : r.es = [] := List.eq_nil_of_length_eq_zero hn
    rw [this]; exact .sl0 t r.sz none 0
  · refine .sl t r.sz r.es b 0 cap (fun j => (w.cell? ⟨b, j, none⟩).getD undef) h1 h2 hs (fun j x hx => ?_) (fun _ => hN b rfl) (fun j x hx => ?_)
    · obtain ⟨u, q1, q2, _⟩ := row_cell hh (b := b) rfl hx
      have hj : j < (flat r.es).length := (List.getElem?_eq_some_iff.1 hx).1
      rw [flat_row hs] at hj
      rw [Nat.zero_add, q1]
      exact ⟨rfl, hS b j rfl hj, q2⟩
    · obtain ⟨u, q1, _, _, q3⟩ := row_cell hh (b := b) rfl hx
      rw [q1]; exact q3

section ops
variable {o : Oper} {d : Nat} {K : St → Prop} {K' : Act → World → Prop} {Q' : Exit → Act → World → Prop}

theorem sok_al (I : Inv c g s a w) (hK : ∀ g' s' a' w', Inv c g' s' a' w' → K s' → K' a' w') (hd : o.dst = some d) (hlt : d < c.nt)
    {z : List AV} {t : TypeId} {zv : Value} (ho : o.op = .alloc t) (hz : ((P.info? t).bind (·.zero)) = some zv) (hzm : vmL z zv.cells.toList = true) (hz1 : allOne z = true)
    (h : wop P (.al d z) K s) : o.wp P a w K' Q' := by
  simp only [wop] at h
  have I1 := I.grow (w' := w.alloc (.cells zv.cells t)) (S' := g.S) rfl rfl rfl (by simp) (fun k hk => heap_alloc_old w _ hk) (fun _ _ h => h) (fun _ _ h => .inl h)
  have hnew := heap_alloc_new w (.cells zv.cells t)
  have hal := al_zero (w := w.alloc (.cells zv.cells t)) (g := { g with S := g.S }) (s := s) hzm hz1
  have hbox : BoxOk (w.alloc (.cells zv.cells t)) { g with S := g.S } s w.heap.size z := ⟨zv.cells.toList, t, by simpa using hnew, hal.1.symm, hal.2⟩
  have hvac : Vac c { g with S := g.S } s w.heap.size := I.vac (Nat.le_refl _)
  have I2 := I1.addbox d w.heap.size z hbox hvac (by have := c.ntb; omega)
  refine sok (v := .pointer (some ⟨w.heap.size, 0, none⟩)) hK hd hlt ?_ I2 (.ptr _ _ _ rfl fun cs' h' => by simp) h
  simp [execOp, ho, Instr.alloc, run_zero hz, newVar, newRow]

theorem sok_bx (I : Inv c g s a w) (hK : ∀ g' s' a' w', Inv c g' s' a' w' → K s' → K' a' w') (hd : o.dst = some d) (hlt : d < c.nt)
    {x : X} {p : Operand} {t : TypeId} (ho : o.op = .box t p) (hx : chkX x p = true)
    (h : wop P (.bx d x) K s) : o.wp P a w K' Q' := by
  simp only [wop] at h
  obtain ⟨h1, h⟩ := h
  obtain ⟨vs, hv, hvl, hva⟩ := (I.get hx).cells h1
  have I1 := I.grow (w' := w.alloc (.cells (a.eval p).cells t)) (S' := g.S) rfl rfl rfl (by simp) (fun k hk => heap_alloc_old w _ hk) (fun _ _ h => h) (fun _ _ h => .inl h)
  have T : Turn (fun _ => True) w (w.alloc (.cells (a.eval p).cells t)) g { g with S := g.S } s s :=
    ⟨fun _ _ h => h, fun _ h => h, fun b o ho => World.cell?_of_block (heap_alloc_old w _ (I.sw b o ho)), fun k _ r h => ⟨r, h, rfl, rfl⟩, fun k _ r h => ⟨r, h, rfl⟩⟩
  have hbox : BoxOk (w.alloc (.cells (a.eval p).cells t)) { g with S := g.S } s w.heap.size (s.get x).cells :=
    ⟨vs, t, by rw [← hv]; exact heap_alloc_new w _, hvl.symm, fun i y u hy hu => ⟨.inl (hva i y u hy hu).1, (hva i y u hy hu).2.1, (hva i y u hy hu).2.2.turn T⟩⟩
  have I2 := I1.addbox d w.heap.size _ hbox (I.vac (Nat.le_refl _)) (by have := c.ntb; omega)
  refine sok (v := .pointer (some ⟨w.heap.size, 0, none⟩)) hK hd hlt ?_ I2 (.ptr _ _ _ rfl fun cs' h' => by simp) h
  simp [execOp, ho, Instr.box, newVar, newRow]

theorem dt_rd (I : Inv c g s a w) (S' : Nat → Nat → Prop) (hS : ∀ b o, g.S b o → S' b o) (hR : ∀ k r b o, s.rw k = some r → (g.rv k).ownBlock = some b → o < r.es.length * r.sz → S' b o) :
    ∀ {x y : AV} {v : Value}, s.dt x = some y → Gv w g s x v → Rd w S' g.N y v := by
  have main : ∀ {x : AV} {v : Value}, Gv w g s x v → ∀ y, s.dt x = some y → Rd w S' g.N y v := by
    intro x v h
    have lst : ∀ (cs : List AV) (vs : List Value), cs.length = vs.length → (∀ (i : Nat) (x : AV) (v : Value), cs[i]? = some x → vs[i]? = some v → ∀ y, s.dt x = some y → Rd w S' g.N y v) →
        ∀ ys, s.dtL cs = some ys → ys.length = vs.length ∧ ∀ (i : Nat) (y : AV) (v : Value), ys[i]? = some y → vs[i]? = some v → Rd w S' g.N y v := by
      intro cs
      induction cs with
      | nil => intro vs hl _ ys hy; simp only [St.dtL, Option.some.injEq] at hy; subst hy; exact ⟨hl, by intro i y v h; simp at h⟩
      | cons x l ih =>
        intro vs hl hc ys hy
        match vs, hl with
        | v :: vs, hl =>
          simp only [St.dtL] at hy
          split at hy
          · rename_i x' y' e1 e2
            simp only [Option.some.injEq] at hy; subst hy
            obtain ⟨q1, q2⟩ := ih vs (by simpa using hl) (fun i => hc (i + 1)) y' e2
            refine ⟨by simp [q1], fun i y u hy hu => ?_⟩
            cases i with
            | zero => simp at hy hu; subst hy; subst hu; exact hc 0 x v rfl rfl _ e1
            | succ i => simp at hy hu; exact q2 i y u hy hu
          · cases hy
    have rdl : ∀ {x : AV} {v : Value}, Rd w g.S g.N x v → ∀ y, s.dt x = some y → Rd w S' g.N y v := by
      intro x v h
      induction h with
      | bool b => intro y hy; simp only [St.dt, Option.some.injEq] at hy; subst hy; exact .bool b
      | int k n => intro y hy; simp only [St.dt, Option.some.injEq] at hy; subst hy; exact .int k n
      | str l => intro y hy; simp only [St.dt, Option.some.injEq] at hy; subst hy; exact .str l
      | nl => intro y hy; simp only [St.dt, Option.some.injEq] at hy; subst hy; exact .nl
      | sl0 t sz p q => intro y hy; simp only [St.dt, Option.some.injEq] at hy; subst hy; exact .sl0 t sz p q
      | sl t sz es b o cc cv hcc hm hs hw hn h _ =>
        intro y hy; simp only [St.dt, Option.some.injEq] at hy; subst hy
        exact (Rd.sl t sz es b o cc cv hcc hm hs hw hn h).mono hS (fun _ h => h) (fun _ _ _ => rfl)
      | ept e off b o cv hw h _ =>
        intro y hy; simp only [St.dt, Option.some.injEq] at hy; subst hy
        exact (Rd.ept e off b o cv hw h).mono hS (fun _ h => h) (fun _ _ _ => rfl)
      | agg cs vs hl h1 h ih =>
        intro y hy
        simp only [St.dt] at hy
        obtain ⟨ys, hys, rfl⟩ := Option.map_eq_some_iff.1 hy
        obtain ⟨q1, q2⟩ := lst cs vs hl ih ys hys
        refine .agg ys vs q1 ?_ q2
        have oneL : ∀ (cs ys : List AV), (∀ x ∈ cs, x.one = true) → s.dtL cs = some ys → ∀ y ∈ ys, y.one = true := by
          intro cs
          induction cs with
          | nil => intro ys _ hy y hm; simp only [St.dtL, Option.some.injEq] at hy; subst hy; simp at hm
          | cons x l ih =>
            intro ys h1 hy y hm
            simp only [St.dtL] at hy
            split at hy
            · rename_i x' y' e1 e2
              simp only [Option.some.injEq] at hy; subst hy
              rcases List.mem_cons.1 hm with rfl | hm
              · have h0 := h1 x (by simp)
                cases x <;> simp [St.dt, AV.one] at e1 h0 <;> first | (subst e1; rfl) | (obtain ⟨_, _, rfl⟩ := e1; rfl)
              · exact ih y' (fun z hz => h1 z (by simp [hz])) e2 y hm
            · cases hy
        exact oneL cs ys h1 hys
      | fn f cs vs hl h ih =>
        intro y hy
        simp only [St.dt] at hy
        obtain ⟨ys, hys, rfl⟩ := Option.map_eq_some_iff.1 hy
        obtain ⟨q1, q2⟩ := lst cs vs hl ih ys hys
        exact .fn f ys vs q1 q2
    induction h with
    | data x v h => exact rdl h
    | bad v => intro y hy; simp [St.dt] at hy
    | und => intro y hy; simp [St.dt] at hy
    | sref k v h1 h =>
      intro y hy
      simp only [St.dt] at hy
      obtain ⟨r, hr, rfl⟩ := Option.map_eq_some_iff.1 hy
      rw [h r hr]
      exact row_data ((I.rws k r hr).mono hS (fun _ h => h) (fun _ _ _ => rfl) (fun _ _ => rfl)) (fun b o hb ho => hR k r b o hr hb ho) (fun b hb => (I.rwn k r hr b hb).1.1) .nw
    | ptr => intro y hy; simp [St.dt] at hy
    | rpt => intro y hy; simp [St.dt] at hy
    | ept e off b o cv hw h =>
      intro y hy; simp only [St.dt, Option.some.injEq] at hy; subst hy
      exact (Rd.ept e off b o cv hw h).mono hS (fun _ h => h) (fun _ _ _ => rfl)
    | tup => intro y hy; simp [St.dt] at hy
    | agg cs vs hl h1 h ih =>
      intro y hy
      simp only [St.dt] at hy
      obtain ⟨ys, hys, rfl⟩ := Option.map_eq_some_iff.1 hy
      obtain ⟨q1, q2⟩ := lst cs vs hl ih ys hys
      refine .agg ys vs q1 ?_ q2
      have oneL : ∀ (cs ys : List AV), (∀ x ∈ cs, x.one = true ∨ x = .bad) → s.dtL cs = some ys → ∀ y ∈ ys, y.one = true := by
        intro cs
        induction cs with
        | nil => intro ys _ hy y hm; simp only [St.dtL, Option.some.injEq] at hy; subst hy; simp at hm
        | cons x l ih =>
          intro ys h1 hy y hm
          simp only [St.dtL] at hy
          split at hy
          · rename_i x' y' e1 e2
            simp only [Option.some.injEq] at hy; subst hy
            rcases List.mem_cons.1 hm with rfl | hm
            · have h0 := h1 x (by simp)
              cases x <;> simp [St.dt, AV.one] at e1 h0 <;> first | (subst e1; rfl) | (obtain ⟨_, _, rfl⟩ := e1; rfl)
            · exact ih y' (fun z hz => h1 z (by simp [hz])) e2 y hm
          · cases hy
      exact oneL cs ys h1 hys
    | fn f cs vs hl h ih =>
      intro y hy
      simp only [St.dt] at hy
      obtain ⟨ys, hys, rfl⟩ := Option.map_eq_some_iff.1 hy
      obtain ⟨q1, q2⟩ := lst cs vs hl ih ys hys
      exact .fn f ys vs q1 q2
  intro x y v hy h
  exact main h y hy
end ops
end
end Go.Proofs.Ythbbieobcokgbaa.Eng
