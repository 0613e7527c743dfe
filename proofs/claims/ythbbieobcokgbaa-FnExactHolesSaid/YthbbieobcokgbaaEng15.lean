/-
  The engine, part 15: soundness of calls.
-/
import Derived.Test.YthbbieobcokgbaaEng14
namespace Go.Proofs.Ythbbieobcokgbaa.Eng
open Go Go.RowKit

section
variable {P : Program} {c : Cx} {g : Gh} {s : St} {a : Act} {w : World}

theorem one_rdt {x : AV} (h : x.one = true) : x.rdt.one = true := by cases x <;> first | exact h | simp [AV.one] at h
theorem cells_rdt (x : AV) : x.rdt.cells = x.cells.map AV.rdt := by
  cases x with
  | agg cs => simp [AV.rdt, AV.cells, rdtL_map]
  | _ => simp [AV.rdt, AV.cells]
theorem flat_rdt (es : List AV) : flat (rdtL es) = (flat es).map AV.rdt := by
  induction es with
  | nil => rfl
  | cons e es ih => simp only [rdtL, flat, List.flatMap_cons, List.map_append] at ih ⊢; rw [ih, cells_rdt]

theorem Rd.rdt {S : Nat → Nat → Prop} {N N' : Nat → Prop} {x : AV} {v : Value} (h : Rd w S N x v) : Rd w S N' x.rdt v := by
  induction h with
  | bool b => exact .bool b
  | int k n => exact .int k n
  | str l => exact .str l
  | nl => exact .nl
  | sl0 t sz p q => rw [AV.rdt, rdtL]; exact .sl0 _ _ _ _
  | agg cs vs hl h1 h ih =>
    rw [AV.rdt, rdtL_map]
    refine .agg _ vs (by simpa using hl) (fun y hy => ?_) (fun i y v hy hv => ?_)
    · obtain ⟨y0, h0, rfl⟩ := List.mem_map.1 hy; exact one_rdt (h1 y0 h0)
    · rw [List.getElem?_map] at hy
      obtain ⟨y0, h0, rfl⟩ := Option.map_eq_some_iff.1 hy
      exact ih i y0 v h0 hv
  | fn f cs vs hl h ih =>
    rw [AV.rdt, rdtL_map]
    refine .fn f _ vs (by simpa using hl) (fun i y v hy hv => ?_)
    rw [List.getElem?_map] at hy
    obtain ⟨y0, h0, rfl⟩ := Option.map_eq_some_iff.1 hy
    exact ih i y0 v h0 hv
  | ept e off b o cv hw h ih =>
    rw [AV.rdt]
    have hget : ∀ (j : Nat) (y : AV), e.rdt.cells[j]? = some y → ∃ y0, e.cells[j]? = some y0 ∧ y = y0.rdt := by
      intro j y hy
      rw [cells_rdt, List.getElem?_map] at hy
      obtain ⟨y0, h0, rfl⟩ := Option.map_eq_some_iff.1 hy
      exact ⟨y0, h0, rfl⟩
    refine .ept _ off b o cv (fun j y hy => ?_) (fun j y hy => ?_)
    · obtain ⟨y0, h0, rfl⟩ := hget j y hy
      exact ⟨(hw j y0 h0).1, (hw j y0 h0).2.1, one_rdt (hw j y0 h0).2.2⟩
    · obtain ⟨y0, h0, rfl⟩ := hget j y hy
      exact ih j y0 h0
  | sl t sz es b o cc cv hc hm hs hw hn h ih =>
    rw [AV.rdt]
    have hlen : (rdtL es).length = es.length := by rw [rdtL_map]; simp
    have hget : ∀ (j : Nat) (y : AV), (flat (rdtL es))[j]? = some y → ∃ y0, (flat es)[j]? = some y0 ∧ y = y0.rdt := by
      intro j y hy
      rw [flat_rdt, List.getElem?_map] at hy
      obtain ⟨y0, h0, rfl⟩ := Option.map_eq_some_iff.1 hy
      exact ⟨y0, h0, rfl⟩
    rw [← hlen]
    refine .sl .rd sz _ b o cc cv (by omega) hm (fun e he => ?_) (fun j y hy => ?_) (fun h => by cases h) (fun j y hy => ?_)
    · rw [rdtL_map] at he
      obtain ⟨e0, h0, rfl⟩ := List.mem_map.1 he
      rw [cells_rdt, List.length_map]; exact hs e0 h0
    · obtain ⟨y0, h0, rfl⟩ := hget j y hy
      exact ⟨(hw j y0 h0).1, (hw j y0 h0).2.1, one_rdt (hw j y0 h0).2.2⟩
    · obtain ⟨y0, h0, rfl⟩ := hget j y hy
      exact ih j y0 h0

def rowsS (g : Gh) (s : St) : Nat → Nat → Prop := fun b o => g.S b o ∨ ∃ k r, s.rw k = some r ∧ (g.rv k).ownBlock = some b ∧ o < r.es.length * r.sz

theorem rowsS_lt (I : Inv c g s a w) : ∀ b o, rowsS g s b o → b < w.heap.size := by
  intro b o h
  rcases h with h | ⟨k, r, h1, h2, _⟩
  · exact I.sw b o h
  · exact row_lt (I.rws k r h1) h2

theorem dt_rds (I : Inv c g s a w) {x y : AV} {v : Value} (hy : s.dt x = some y) (h : Gv w g s x v) : Rd w (rowsS g s) g.N y v :=
  dt_rd I (rowsS g s) (fun _ _ h => .inl h) (fun k r _ _ h1 h2 h3 => .inr ⟨k, r, h1, h2, h3⟩) hy h

/-- The arguments of a call, as data. -/
theorem args_rd (I : Inv c g s a w) {xs : List X} {ps : List Operand} (hx : xs.length = ps.length ∧ ∀ (i : Nat) (x : X) (p : Operand), xs[i]? = some x → ps[i]? = some p → chkX x p = true)
    {as : List AV} (h : s.args xs = some as) : (ps.map a.eval).length = as.length ∧ ∀ (i : Nat) (y : AV) (v : Value), as[i]? = some y → (ps.map a.eval)[i]? = some v → Rd w (rowsS g s) (fun _ => False) y v := by
  unfold St.args at h
  split at h
  · rename_i l hl
    cases h
    have hlen := dtL_len hl
    rw [rdtL_map]
    refine ⟨by simp at hlen ⊢; omega, fun i y v hy hv => ?_⟩
    rw [List.getElem?_map] at hy hv
    obtain ⟨y0, h0, rfl⟩ := Option.map_eq_some_iff.1 hy
    obtain ⟨p0, hp0, rfl⟩ := Option.map_eq_some_iff.1 hv
    have hi : i < xs.length := by rw [hx.1]; exact (List.getElem?_eq_some_iff.1 hp0).1
    have hxi : (xs.map s.get)[i]? = some (s.get xs[i]) := by simp [hi]
    exact (dt_rds I (dtL_get hl i _ y0 hxi h0) (I.get (hx.2 i xs[i] p0 (List.getElem?_eq_getElem hi) hp0))).rdt
  · cases h

theorem one_ren (k n : Nat) {x : AV} (h : x.one = true ∨ x = .bad) : (x.ren k n).one = true ∨ x.ren k n = .bad := by
  rcases h with h | rfl
  · cases x with
    | sref j => rw [AV.ren]; split <;> simp [AV.one]
    | ptr j o => right; rfl
    | rpt j i o => right; rfl
    | _ => simp [AV.ren, AV.one] at h ⊢
  · right; rfl
theorem one_nwd (rows : List Row) {x : AV} (h : x.one = true ∨ x = .bad) : (x.nwd rows).one = true ∨ x.nwd rows = .bad := by
  rcases h with h | rfl
  · cases x with
    | sref j => rw [AV.nwd]; split <;> simp [AV.one]
    | ptr j o => right; rfl
    | rpt j i o => right; rfl
    | _ => simp [AV.nwd, AV.one] at h ⊢
  · right; rfl

theorem Rd.ren {S : Nat → Nat → Prop} {N : Nat → Prop} (k n : Nat) {x : AV} {v : Value} (h : Rd w S N x v) : Rd w S N (x.ren k n) v := by
  induction h with
  | bool b => exact .bool b
  | int k n => exact .int k n
  | str l => exact .str l
  | nl => exact .nl
  | sl0 t sz p q => exact .sl0 _ _ _ _
  | sl t sz es b o cc cv hc hm hs hw hn h _ => exact .sl t sz es b o cc cv hc hm hs hw hn h
  | ept e off b o cv hw h _ => exact .ept e off b o cv hw h
  | agg cs vs hl h1 h ih =>
    rw [AV.ren, renL_map]
    refine .agg _ vs (by simpa using hl) (fun y hy => ?_) (fun i y v hy hv => ?_)
    · obtain ⟨y0, h0, rfl⟩ := List.mem_map.1 hy
      obtain ⟨i, hi, rfl⟩ := List.getElem_of_mem h0
      have hlt : i < vs.length := by omega
      have hr := h i _ _ (List.getElem?_eq_getElem hi) (List.getElem?_eq_getElem hlt)
      have h1' := h1 _ h0
      generalize cs[i] = z at *
      generalize vs[i] = u at *
      cases hr <;> simp_all [AV.ren, AV.one]
    · rw [List.getElem?_map] at hy
      obtain ⟨y0, h0, rfl⟩ := Option.map_eq_some_iff.1 hy
      exact ih i y0 v h0 hv
  | fn f cs vs hl h ih =>
    rw [AV.ren, renL_map]
    refine .fn f _ vs (by simpa using hl) (fun i y v hy hv => ?_)
    rw [List.getElem?_map] at hy
    obtain ⟨y0, h0, rfl⟩ := Option.map_eq_some_iff.1 hy
    exact ih i y0 v h0 hv
theorem Rd.nwd {S : Nat → Nat → Prop} {N : Nat → Prop} (rows : List Row) {x : AV} {v : Value} (h : Rd w S N x v) : Rd w S N (x.nwd rows) v := by
  induction h with
  | bool b => exact .bool b
  | int k n => exact .int k n
  | str l => exact .str l
  | nl => exact .nl
  | sl0 t sz p q => exact .sl0 _ _ _ _
  | sl t sz es b o cc cv hc hm hs hw hn h _ => exact .sl t sz es b o cc cv hc hm hs hw hn h
  | ept e off b o cv hw h _ => exact .ept e off b o cv hw h
  | agg cs vs hl h1 h ih =>
    rw [AV.nwd, nwdL_map]
    refine .agg _ vs (by simpa using hl) (fun y hy => ?_) (fun i y v hy hv => ?_)
    · obtain ⟨y0, h0, rfl⟩ := List.mem_map.1 hy
      obtain ⟨i, hi, rfl⟩ := List.getElem_of_mem h0
      have hlt : i < vs.length := by omega
      have hr := h i _ _ (List.getElem?_eq_getElem hi) (List.getElem?_eq_getElem hlt)
      have h1' := h1 _ h0
      generalize cs[i] = z at *
      generalize vs[i] = u at *
      cases hr <;> simp_all [AV.nwd, AV.one]
    · rw [List.getElem?_map] at hy
      obtain ⟨y0, h0, rfl⟩ := Option.map_eq_some_iff.1 hy
      exact ih i y0 v h0 hv
  | fn f cs vs hl h ih =>
    rw [AV.nwd, nwdL_map]
    refine .fn f _ vs (by simpa using hl) (fun i y v hy hv => ?_)
    rw [List.getElem?_map] at hy
    obtain ⟨y0, h0, rfl⟩ := Option.map_eq_some_iff.1 hy
    exact ih i y0 v h0 hv

/-- A call's value, its rows given names. -/
theorem Gv.ren {g' : Gh} {s' : St} {rows : List Row} {k : Nat} (hS : ∀ b o, g.S b o → g'.S b o) (hN : ∀ b, g.N b → g'.N b) (hr : ∀ i, i < rows.length → g'.rv (k + i) = g.rv i)
    {x : AV} {v : Value} (h : Gv w g (rowSt rows) x v) : Gv w g' s' (x.ren k rows.length) v := by
  have mp : ∀ (cs : List AV) (vs : List Value), (∀ (i : Nat) (x : AV) (v : Value), cs[i]? = some x → vs[i]? = some v → Gv w g' s' (x.ren k rows.length) v) →
      ∀ (i : Nat) (x : AV) (v : Value), (cs.map (AV.ren k rows.length))[i]? = some x → vs[i]? = some v → Gv w g' s' x v := by
    intro cs vs ih i x v hx hv
    rw [List.getElem?_map] at hx
    obtain ⟨x0, h0, rfl⟩ := Option.map_eq_some_iff.1 hx
    exact ih i x0 v h0 hv
  induction h with
  | data x v h => exact .data _ v ((h.mono hS hN (fun _ _ _ => rfl)).ren _ _)
  | bad v => exact .bad v
  | und => exact .und
  | sref i v h1 h =>
    rw [AV.ren]; split
    · rename_i hi
      refine .sref _ v h1 fun r' _ => ?_
      rw [hr i hi]
      exact h rows[i] (by simp [rowSt, hi])
    · exact .bad v
  | ptr j off v h1 h => exact .bad v
  | rpt j i off v h1 h => exact .bad v
  | ept e off b o cv hw h => exact .ept e off b o cv (fun j y hj => ⟨(hw j y hj).1, hS _ _ (hw j y hj).2.1, (hw j y hj).2.2⟩) (fun j y hj => (h j y hj).mono hS hN (fun _ _ _ => rfl))
  | agg cs vs hl h1 _ ih =>
    rw [AV.ren, renL_map]
    refine .agg _ vs (by simpa using hl) (fun y hy => ?_) (mp cs vs ih)
    obtain ⟨y0, h0, rfl⟩ := List.mem_map.1 hy
    exact one_ren k _ (h1 _ h0)
  | tup cs vs hl _ ih => rw [AV.ren, renL_map]; exact .tup _ vs (by simpa using hl) (mp cs vs ih)
  | fn f cs vs hl _ ih => rw [AV.ren, renL_map]; exact .fn f _ vs (by simpa using hl) (mp cs vs ih)

/-- A call's value, its rows as data. -/
theorem Gv.nwd {g' : Gh} {s' : St} {rows : List Row} (hS : ∀ b o, g.S b o → g'.S b o) (hN : ∀ b, g.N b → g'.N b) (hr : ∀ (i : Nat) (r : Row), rows[i]? = some r → Rd w g'.S g'.N (.sl .nw r.sz r.es) (g.rv i))
    {x : AV} {v : Value} (h : Gv w g (rowSt rows) x v) : Gv w g' s' (x.nwd rows) v := by
  have mp : ∀ (cs : List AV) (vs : List Value), (∀ (i : Nat) (x : AV) (v : Value), cs[i]? = some x → vs[i]? = some v → Gv w g' s' (x.nwd rows) v) →
      ∀ (i : Nat) (x : AV) (v : Value), (cs.map (AV.nwd rows))[i]? = some x → vs[i]? = some v → Gv w g' s' x v := by
    intro cs vs ih i x v hx hv
    rw [List.getElem?_map] at hx
    obtain ⟨x0, h0, rfl⟩ := Option.map_eq_some_iff.1 hx
    exact ih i x0 v h0 hv
  induction h with
  | data x v h => exact .data _ v ((h.mono hS hN (fun _ _ _ => rfl)).nwd _)
  | bad v => exact .bad v
  | und => exact .und
  | sref i v h1 h =>
    rw [AV.nwd]; split
    · rename_i r hi
      rw [h r (by simpa [rowSt] using hi)]
      exact .data _ _ (hr i r hi)
    · exact .bad v
  | ptr j off v h1 h => exact .bad v
  | rpt j i off v h1 h => exact .bad v
  | ept e off b o cv hw h => exact .ept e off b o cv (fun j y hj => ⟨(hw j y hj).1, hS _ _ (hw j y hj).2.1, (hw j y hj).2.2⟩) (fun j y hj => (h j y hj).mono hS hN (fun _ _ _ => rfl))
  | agg cs vs hl h1 _ ih =>
    rw [AV.nwd, nwdL_map]
    refine .agg _ vs (by simpa using hl) (fun y hy => ?_) (mp cs vs ih)
    obtain ⟨y0, h0, rfl⟩ := List.mem_map.1 hy
    exact one_nwd rows (h1 _ h0)
  | tup cs vs hl _ ih => rw [AV.nwd, nwdL_map]; exact .tup _ vs (by simpa using hl) (mp cs vs ih)
  | fn f cs vs hl _ ih => rw [AV.nwd, nwdL_map]; exact .fn f _ vs (by simpa using hl) (mp cs vs ih)

theorem Inv.addrows : ∀ (rows : List Row) (k : Nat) (val : Nat → Value) (g : Gh) (s : St), Inv c g s a w →
    (∀ (i : Nat) (r : Row), rows[i]? = some r → RowOk w g.S g.N r (val i) ∧ ∀ b, (val i).ownBlock = some b → Vac c g s b) → k + rows.length < 1000000000 →
    (∀ (i j : Nat) (r r' : Row), rows[i]? = some r → rows[j]? = some r' → i ≠ j → ∀ b, (val i).ownBlock = some b → (val j).ownBlock ≠ some b) →
    ∃ g', Inv c g' (s.addrows k rows) a w ∧ g'.S = g.S ∧ g'.N = g.N ∧ (∀ i, i < rows.length → g'.rv (k + i) = val i) ∧ ∀ j, j < k → g'.rv j = g.rv j
  | [], k, val, g, s, I, _, _, _ => ⟨g, I, rfl, rfl, by simp, fun _ _ => rfl⟩
  | r :: rs, k, val, g, s, I, h, hkb, hd => by
    obtain ⟨h0, hv0⟩ := h 0 r rfl
    have I1 := I.addrow k r (val 0) h0 hv0 (by simp at hkb; omega)
    obtain ⟨g', I2, e1, e2, e3, e4⟩ := Inv.addrows rs (k + 1) (fun i => val (i + 1)) _ _ I1 (fun i r' hi => by
      obtain ⟨q1, q2⟩ := h (i + 1) r' hi
      refine ⟨q1, fun b hb => ?_⟩
      have V := q2 b hb
      refine ⟨V.S, fun j cs hj => ?_, fun j r'' hj => ?_, V.N⟩
      · obtain ⟨_, c0, hc0, _⟩ := kill_bx hj; exact V.bx j c0 hc0
      · by_cases hjk : j = k
        · subst hjk
          simp only [if_true]
          exact fun e => hd 0 (i + 1) r r' rfl hi (by omega) b e hb
        · simp only [hjk, if_false] at hj ⊢
          exact V.rw j r'' (kill_rw hj).2) (by simp at hkb; omega) (fun i j r1 r2 hi hj hne => hd (i + 1) (j + 1) r1 r2 hi hj (by omega))
    refine ⟨g', I2, e1, e2, fun i hi => ?_, fun j hj => ?_⟩
    · cases i with
      | zero => rw [Nat.add_zero, e4 k (by omega)]; simp
      | succ i => rw [show k + (i + 1) = k + 1 + i by omega]; exact e3 i (by simpa using hi)
    · rw [e4 j (by omega)]; simp [show j ≠ k by omega]

section ops
variable {o : Oper} {d : Nat} {K : St → Prop} {K' : Act → World → Prop} {Q' : Exit → Act → World → Prop}

theorem run_callFunc {f : FuncId} (hf : isFn P f = true) (as : Array Value) : (callFunc f as).run P w = .ok (.enter f as) w := by
  unfold isFn at hf
  split at hf
  · rename_i fn hfn
    simp only [Bool.and_eq_true, bne_iff_ne] at hf
    obtain ⟨bd, hb⟩ := Option.isSome_iff_exists.1 hf.1
    simp [callFunc, hfn, hf.2, hb]
  · cases hf

/-- What a call leaves. -/
theorem after (I : Inv c g s a w) {w' : World} (hb : Below w.heap.size w w') {S2 : Nat → Nat → Prop} (hS : ∀ b o, S2 b o → w.heap.size ≤ b ∧ b < w'.heap.size) : Inv c { g with S := fun b o => g.S b o ∨ S2 b o } s a w' :=
  I.grow hb.os hb.tape hb.output hb.size (fun k hk => hb.block k hk) (fun _ _ h => .inl h) (fun b o h => by
    rcases h with h | h
    · exact .inl h
    · exact .inr (hS b o h))

theorem call_cl (I : Inv c g s a w) (hK : ∀ g' s' a' w', Inv c g' s' a' w' → K s' → K' a' w') (hd : o.dst = some d) (hlt : d < c.nt)
    {f : FuncId} {as : List AV} {res : AV} {rows : List Row} {vs : List Value} (hrun : (execOp a.eval o).run P w = .ok (.enter f vs.toArray) w)
    (hvs : vs.length = as.length ∧ ∀ (i : Nat) (y : AV) (v : Value), as[i]? = some y → vs[i]? = some v → Rd w (rowsS g s) (fun _ => False) y v)
    (hs : Snd P f as res rows) (hrl : rows.length ≤ 1000) (h : K ((s.addrows (1000 * d + 1000) rows).set d (res.ren (1000 * d + 1000) rows.length))) : o.wp P a w K' Q' := by
  have hc := hs w (rowsS g s) (fun _ => False) vs (rowsS_lt I) hvs.1 hvs.2
  unfold Oper.wp
  rw [hrun, Oper.upon_enter]
  refine hc.mono fun e w' hq => ?_
  obtain ⟨v, rfl, hb, g2, hS2, hN2, hgv, hrows, hdis⟩ := hq
  simp only [hd]
  have I1 := after I hb hS2
  obtain ⟨g3, I2, e1, e2, e3, _⟩ := Inv.addrows rows (1000 * d + 1000) g2.rv _ s I1 (fun i r hi => by
    obtain ⟨q1, q2⟩ := hrows i r hi
    refine ⟨q1.mono (w' := w') (S' := fun b o => g.S b o ∨ g2.S b o) (N' := g.N) (fun _ _ h => .inr h) (fun b hb' => I.nn b (Nat.le_trans I.fr.size (hN2 b hb'))) (fun _ _ _ => rfl) (fun _ _ => rfl), fun b hbk => ?_⟩
    obtain ⟨z1, z2⟩ := q2 b hbk
    have V := I.vac z1
    refine ⟨fun o' ho' => ?_, V.bx, V.rw, V.N⟩
    rcases ho' with ho' | ho'
    · exact V.S o' ho'
    · exact z2 o' ho') (by have := c.ntb; omega) hdis
  refine hK _ _ _ _ (I2.put hlt ?_) h
  refine hgv.ren (fun b o' ho' => by rw [e1]; exact (Or.inr ho' : g.S b o' ∨ g2.S b o')) (fun b hb' => by rw [e2]; exact I.nn b (Nat.le_trans I.fr.size (hN2 b hb'))) e3

theorem call_cq (I : Inv c g s a w) (hK : ∀ g' s' a' w', Inv c g' s' a' w' → K s' → K' a' w') (hd : o.dst = some d) (hlt : d < c.nt)
    {f : FuncId} {as : List AV} {res : AV} {rows : List Row} {vs : List Value} (hrun : (execOp a.eval o).run P w = .ok (.enter f vs.toArray) w)
    (hvs : vs.length = as.length ∧ ∀ (i : Nat) (y : AV) (v : Value), as[i]? = some y → vs[i]? = some v → Rd w (rowsS g s) (fun _ => False) y v)
    (hs : Snd P f as res rows) (h : K (s.set d (res.nwd rows))) : o.wp P a w K' Q' := by
  have hc := hs w (rowsS g s) (fun _ => False) vs (rowsS_lt I) hvs.1 hvs.2
  unfold Oper.wp
  rw [hrun, Oper.upon_enter]
  refine hc.mono fun e w' hq => ?_
  obtain ⟨v, rfl, hb, g2, hS2, hN2, hgv, hrows, hdis⟩ := hq
  simp only [hd]
  have hNg : ∀ b, g2.N b → g.N b := fun b hb' => I.nn b (Nat.le_trans I.fr.size (hN2 b hb'))
  have I1 := after I hb (S2 := rowsS g2 (rowSt rows)) (fun b o' h => by
    rcases h with h | ⟨k, r, h1, h2, _⟩
    · exact hS2 b o' h
    · exact ⟨((hrows k r h1).2 b h2).1, row_lt (hrows k r h1).1 h2⟩)
  refine hK _ _ _ _ (I1.put hlt ?_) h
  refine hgv.nwd (g' := { g with S := fun b o => g.S b o ∨ rowsS g2 (rowSt rows) b o }) (fun b o' ho' => .inr (.inl ho')) hNg (fun i r hi => ?_)
  have q := (hrows i r hi).1.mono (w' := w') (S' := fun b o => g.S b o ∨ rowsS g2 (rowSt rows) b o) (N' := g.N) (fun _ _ h => .inr (.inl h)) hNg (fun _ _ _ => rfl) (fun _ _ => rfl)
  exact row_data q (fun b o' hb' ho' => .inr (.inr ⟨i, r, hi, hb', ho'⟩)) (fun b hb' => I.nn b (Nat.le_trans I.fr.size ((hrows i r hi).2 b hb').1)) .nw

theorem run_static {f : FuncId} {ps : List Operand} {ts : Array TypeId} (ho : o.op = .call { callee := .value (.func f), args := ps.toArray, argTypes := ts }) (hf : isFn P f = true) :
    (execOp a.eval o).run P w = .ok (.enter f (ps.map a.eval).toArray) w := by
  simp [execOp, ho, resolve, Act.eval, Deferred.ofValue, invoke, run_callFunc hf]

theorem sok_cl (I : Inv c g s a w) (hK : ∀ g' s' a' w', Inv c g' s' a' w' → K s' → K' a' w') (hd : o.dst = some d) (hlt : d < c.nt)
    {f : FuncId} {xs : List X} {ps : List Operand} {ts : Array TypeId} (ho : o.op = .call { callee := .value (.func f), args := ps.toArray, argTypes := ts }) (hf : isFn P f = true)
    (hx : xs.length = ps.length ∧ ∀ (i : Nat) (x : X) (p : Operand), xs[i]? = some x → ps[i]? = some p → chkX x p = true) (h : wop P (.cl d f xs) K s) : o.wp P a w K' Q' := by
  simp only [wop] at h
  obtain ⟨as, has, res, rows, hs, hrl, h⟩ := h
  exact call_cl I hK hd hlt (run_static ho hf) (args_rd I hx has) hs hrl h

theorem sok_cq (I : Inv c g s a w) (hK : ∀ g' s' a' w', Inv c g' s' a' w' → K s' → K' a' w') (hd : o.dst = some d) (hlt : d < c.nt)
    {f : FuncId} {xs : List X} {ps : List Operand} {ts : Array TypeId} (ho : o.op = .call { callee := .value (.func f), args := ps.toArray, argTypes := ts }) (hf : isFn P f = true)
    (hx : xs.length = ps.length ∧ ∀ (i : Nat) (x : X) (p : Operand), xs[i]? = some x → ps[i]? = some p → chkX x p = true) (h : wop P (.cq d f xs) K s) : o.wp P a w K' Q' := by
  simp only [wop] at h
  obtain ⟨as, has, res, rows, hs, h⟩ := h
  exact call_cq I hK hd hlt (run_static ho hf) (args_rd I hx has) hs h

theorem sok_cc (I : Inv c g s a w) (hK : ∀ g' s' a' w', Inv c g' s' a' w' → K s' → K' a' w') (hd : o.dst = some d) (hlt : d < c.nt)
    {fx : X} {fp : Operand} {xs : List X} {ps : List Operand} {ts : Array TypeId} (ho : o.op = .call { callee := .value fp, args := ps.toArray, argTypes := ts })
    (hfx : chkX fx fp = true) (hx : xs.length = ps.length ∧ ∀ (i : Nat) (x : X) (p : Operand), xs[i]? = some x → ps[i]? = some p → chkX x p = true) (h : wop P (.cc d fx xs) K s) : o.wp P a w K' Q' := by
  simp only [wop] at h
  obtain ⟨as, has, f, cap, as', rfl, hf, res, rows, hs, h⟩ := h
  have hx' : (fx :: xs).length = (fp :: ps).length ∧ ∀ (i : Nat) (x : X) (p : Operand), (fx :: xs)[i]? = some x → (fp :: ps)[i]? = some p → chkX x p = true := by
    refine ⟨by simp [hx.1], fun i x p h1 h2 => ?_⟩
    cases i with
    | zero => simp at h1 h2; subst h1; subst h2; exact hfx
    | succ i => simp at h1 h2; exact hx.2 i x p h1 h2
  obtain ⟨hl, hr⟩ := args_rd I hx' has
  simp only [List.map_cons, List.length_cons] at hl
  have hfn := hr 0 _ (a.eval fp) rfl rfl
  generalize hv : a.eval fp = v at hfn
  cases hfn with
  | fn _ _ vs hlc hc =>
    have hrun : (execOp a.eval o).run P w = .ok (.enter f (ps.map a.eval ++ vs).toArray) w := by
      simp [execOp, ho, resolve, hv, Deferred.ofValue, invoke, run_callFunc hf]
    refine call_cq I hK hd hlt hrun ⟨by simp at hl ⊢; omega, fun i y u hy hu => ?_⟩ hs h
    have hpl : as'.length = (ps.map a.eval).length := by simp at hl ⊢; omega
    by_cases hi : i < as'.length
    · rw [List.getElem?_append_left hi] at hy
      rw [List.getElem?_append_left (by omega)] at hu
      exact hr (i + 1) y u (by simpa using hy) (by simpa using hu)
    · rw [List.getElem?_append_right (by omega)] at hy
      rw [List.getElem?_append_right (by omega)] at hu
      rw [← hpl] at hu
      exact hc _ y u hy hu
end ops
end
end Go.Proofs.Ythbbieobcokgbaa.Eng
