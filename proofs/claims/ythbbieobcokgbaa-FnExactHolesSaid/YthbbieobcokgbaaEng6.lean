/-
  The engine, part 6: soundness of what reads.
-/
import Derived.Test.YthbbieobcokgbaaEng5
namespace Go.Proofs.Ythbbieobcokgbaa.Eng
open Go Go.RowKit

section
variable {P : Program} {c : Cx} {g : Gh} {s : St} {a : Act} {w : World}
section ops
variable {o : Oper} {d : Nat} {K : St → Prop} {K' : Act → World → Prop} {Q' : Exit → Act → World → Prop}

theorem sok_ix (I : Inv c g s a w) (hK : ∀ g' s' a' w', Inv c g' s' a' w' → K s' → K' a' w') (hd : o.dst = some d) (hlt : d < c.nt)
    {x i : X} {p q : Operand} {t : TypeId} (ho : o.op = .index t p q) (ht : P.underlying t = some .string)
    (hx : chkX x p = true) (hi : chkX i q = true) (h : wop P (.ix d x i) K s) : o.wp P a w K' Q' := by
  simp only [wop] at h
  have gx := I.get hx
  have gi := I.get hi
  split at h
  · rename_i l e
    rw [e] at gx
    split at h
    · rename_i j hj
      obtain ⟨k, z, e2, h0, h1, rfl⟩ := isIdx_some hj
      rw [e2] at gi
      split at h
      · rename_i b hb
        refine sok (g' := g) (s' := s) (w' := w) (v := .int .u8 b.toNat) hK hd hlt ?_ I (.data _ _ (.int _ _)) h
        have hlt' : z.toNat < l.length := (List.getElem?_eq_some_iff.1 hb).1
        have hget : (⟨l.toArray⟩ : ByteArray)[z.toNat]? = some b := by
          have : z.toNat < (⟨l.toArray⟩ : ByteArray).size := by simpa [ByteArray.size] using hlt'
          rw [getElem?_pos (⟨l.toArray⟩ : ByteArray) z.toNat this]
          have hb' : l[z.toNat] = b := (List.getElem?_eq_some_iff.1 hb).2
          have : (⟨l.toArray⟩ : ByteArray)[z.toNat]'this = l.toArray[z.toNat]'(by simpa using hlt') := rfl
          rw [this]; simp [hb']
        simp [execOp, ho, gx.str_inv, gi.int_inv, Instr.index, run_underlying ht, asIntOf, h0, hget]
      · exact h.elim
    · exact h.elim
  · exact h.elim

/-- Cells that lie in a row, read as one value. -/
theorem run_loadVar_cells {t : TypeId} {n : Nat} {ag : Bool} (hs : tsz P t = some n) (ha : tag? P t = some ag) (hn : ag = false → n = 1) (b o : Nat) (vs : List Value) (hl : vs.length = n)
    (hc : ∀ (j : Nat) (v : Value), vs[j]? = some v → w.cell? ⟨b, o + j, none⟩ = some v) :
    (loadVar t ⟨b, o, none⟩).run P w = .ok (if ag then .agg vs.toArray else vs.getD 0 undef) w := by
  cases ag with
  | true =>
    have hr := run_loadCells_list (P := P) (w := w) ⟨b, o, none⟩ vs (fun j v hj => by rw [add_none]; exact hc j v hj)
    rw [hl] at hr
    simp [loadVar, run_isAgg' ha, run_sizeOf' hs, hr]
  | false =>
    have h1 := hn rfl
    subst h1
    match vs, hl with
    | [v], _ =>
      have := hc 0 v rfl
      simp only [Nat.add_zero] at this
      simp [loadVar, run_isAgg' ha, run_load, this]

theorem pickC_gv {cs : List AV} {off n : Nat} {ag : Bool} {v : AV} (hp : pickC cs off n ag = some v) (hn : ag = false → n = 1) (b o : Nat)
    (hc : ∀ (j : Nat) (a : AV), cs[j]? = some a → ∃ u, w.cell? ⟨b, o + j, none⟩ = some u ∧ (a.one = true ∨ a = .bad) ∧ Gv w g s a u) :
    ∃ vs : List Value, vs.length = n ∧ (∀ (j : Nat) (u : Value), vs[j]? = some u → w.cell? ⟨b, o + off + j, none⟩ = some u) ∧ Gv w g s v (if ag then .agg vs.toArray else vs.getD 0 undef) := by
  unfold pickC at hp
  cases ag with
  | true =>
    simp only [if_true] at hp
    split at hp
    · rename_i hle
      cases hp
      refine ⟨(List.range n).map fun j => (w.cell? ⟨b, o + off + j, none⟩).getD undef, by simp, fun j u hj => ?_, ?_⟩
      · rw [List.getElem?_map] at hj
        obtain ⟨j', hj', rfl⟩ := Option.map_eq_some_iff.1 hj
        have hlt := (List.getElem?_eq_some_iff.1 hj').1
        simp at hlt
        have : j' = j := by rw [List.getElem?_range hlt] at hj'; cases hj'; rfl
        subst this
        obtain ⟨u, hu, _⟩ := hc (off + j') cs[off + j'] (List.getElem?_eq_getElem (by omega))
        rw [Nat.add_assoc, hu]; rfl
      · simp only [if_true]
        refine .agg _ _ (by simp; omega) ?_ ?_
        · intro a ha
          obtain ⟨j, hj, rfl⟩ := List.getElem_of_mem ha
          simp at hj
          obtain ⟨u, hu, h1, _⟩ := hc (off + j) cs[off + j] (List.getElem?_eq_getElem (by omega))
          simpa using h1
        · intro j a v ha hv
          have hjn : j < n := by
            have := (List.getElem?_eq_some_iff.1 hv).1; simpa using this
          rw [List.getElem?_take, if_pos hjn, List.getElem?_drop] at ha
          obtain ⟨u, hu, _, hg⟩ := hc (off + j) a ha
          rw [List.getElem?_map, List.getElem?_range hjn] at hv
          simp only [Option.map_some, Option.some.injEq] at hv
          rw [Nat.add_assoc, hu] at hv
          simp at hv; subst hv; exact hg
    · cases hp
  | false =>
    simp only [Bool.false_eq_true, if_false] at hp
    have h1 := hn rfl
    subst h1
    obtain ⟨u, hu, _, hg⟩ := hc off v hp
    refine ⟨[u], rfl, fun j u' hj => ?_, by simpa using hg⟩
    cases j with
    | zero => simp at hj; subst hj; simpa [Nat.add_assoc] using hu
    | succ j => simp at hj

theorem flat_row {es : List AV} {sz : Nat} (hs : ∀ e ∈ es, e.cells.length = sz) : (flat es).length = es.length * sz := by
  induction es with
  | nil => simp [flat]
  | cons x l ih =>
    have := ih (fun e h => hs e (by simp [h]))
    simp only [flat, List.flatMap_cons, List.length_append, List.length_cons] at this ⊢
    rw [this, hs x (by simp), Nat.succ_mul]; omega

/-- The cells of a row, as the world has them. -/
theorem row_cell {S : Nat → Nat → Prop} {N : Nat → Prop} {r : Row} {v : Value} (h : RowOk w S N r v) {b : Nat} (hb : v.ownBlock = some b) {j : Nat} {x : AV} (hx : (flat r.es)[j]? = some x) :
    ∃ u, w.cell? ⟨b, j, none⟩ = some u ∧ x.one = true ∧ u.oneCell' = true ∧ Rd w S N x u := by
  obtain ⟨xs, ty, ho, hs, hc⟩ := h
  have hj : j < (flat r.es).length := (List.getElem?_eq_some_iff.1 hx).1
  rw [flat_row hs, ← ho.1] at hj
  have hu : xs[j]? = some xs[j] := List.getElem?_eq_getElem hj
  have := ho.cells hb j _ hu
  rw [add_none, Nat.zero_add] at this
  obtain ⟨h1, h2, h3⟩ := hc j x _ hx hu
  exact ⟨_, this, h1, h2, h3⟩

theorem ld_gv (I : Inv c g s a w) {p : AV} {vp : Value} (hp : Gv w g s p vp) {t : TypeId} {n : Nat} {ag : Bool} (hs : tsz P t = some n) (ha : tag? P t = some ag) (hn : ag = false → n = 1)
    {v : AV} (h : s.ld p n ag = some v) : ∃ u, (Instr.loadAt t vp).run P w = .ok u w ∧ Gv w g s v u := by
  unfold St.ld at h
  split at h
  · rename_i e off
    obtain ⟨b, o, cv, rfl, h1, h2⟩ := hp.ept_inv
    obtain ⟨vs, hl, hc, hg⟩ := pickC_gv (w := w) (g := g) (s := s) h hn b o (fun j a ha => ⟨cv j, (h1 j a ha).1, .inl (h1 j a ha).2.2, .data _ _ (h2 j a ha)⟩)
    exact ⟨_, by simp [Instr.loadAt, Instr.sureAddr, run_loadVar_cells hs ha hn b (o + off) vs hl hc], hg⟩
  · rename_i k off
    split at h
    · rename_i cs hk
      rw [hp.ptr_inv hk]
      obtain ⟨bs, ty, hb, hbl, hbc⟩ := I.bxs k cs hk
      obtain ⟨vs, hl, hc, hg⟩ := pickC_gv (w := w) (g := g) (s := s) h hn (g.bb k) 0 (fun j a ha => by
        have hj : j < bs.length := by rw [hbl]; exact (List.getElem?_eq_some_iff.1 ha).1
        have hu : bs[j]? = some bs[j] := List.getElem?_eq_getElem hj
        obtain ⟨q1, q2, q3⟩ := hbc j a _ ha hu
        refine ⟨bs[j], ?_, q1, q3⟩
        rw [cell_of_row w _ _ _ _ _ hb, Nat.zero_add]; simp [hj])
      simp only [Nat.zero_add] at hc
      exact ⟨_, by simp [Instr.loadAt, Instr.sureAddr, run_loadVar_cells hs ha hn (g.bb k) off vs hl hc], hg⟩
    · cases h
  · rename_i k i off
    split at h
    · rename_i r hk
      split at h
      · rename_i e he
        obtain ⟨b, hb, rfl⟩ := hp.rpt_inv hk
        have hsz := (I.rws k r hk)
        obtain ⟨xs, ty, _, hs', _⟩ := hsz
        obtain ⟨vs, hl, hc, hg⟩ := pickC_gv (w := w) (g := g) (s := s) h hn b (i * r.sz) (fun j a ha => by
          obtain ⟨u, q1, q2, _, q3⟩ := row_cell (I.rws k r hk) hb (flat_get hs' he ha)
          exact ⟨u, q1, .inl q2, .data _ _ q3⟩)
        exact ⟨_, by simp [Instr.loadAt, Instr.sureAddr, run_loadVar_cells hs ha hn b (i * r.sz + off) vs hl hc], hg⟩
      · cases h
    · cases h
  · cases h

theorem sok_ld (I : Inv c g s a w) (hK : ∀ g' s' a' w', Inv c g' s' a' w' → K s' → K' a' w') (hd : o.dst = some d) (hlt : d < c.nt)
    {x : X} {p : Operand} {t : TypeId} {n : Nat} {ag : Bool} (ho : o.op = .load t p) (hs : tsz P t = some n) (ha : tag? P t = some ag) (hn : ag = false → n = 1)
    (hx : chkX x p = true) (h : wop P (.ld d x n ag) K s) : o.wp P a w K' Q' := by
  simp only [wop] at h
  split at h
  · rename_i v hv
    obtain ⟨u, hr, hg⟩ := ld_gv (P := P) I (I.get hx) hs ha hn hv
    refine sok (g' := g) (s' := s) (w' := w) (v := u) hK hd hlt ?_ I hg h
    simp [execOp, ho, hr]
  · exact h.elim

theorem Rd.sl_len {S : Nat → Nat → Prop} {N : Nat → Prop} {t : Tag} {sz : Nat} {es : List AV} {v : Value} (h : Rd w S N (.sl t sz es) v) : ∃ p cp, v = .slice p es.length cp ∧ es.length ≤ maxLen := by
  cases h with
  | sl0 _ _ p c => exact ⟨p, c, rfl, by simp [maxLen]⟩
  | sl _ _ _ b o c cv hc hm => exact ⟨_, _, rfl, Nat.le_trans hc hm⟩

theorem own_len {base : Nat} {e : TypeId} {size : Nat} {v : Value} {n : Nat} {xs : List Value} (h : w.ownsRow base e size v n xs) : ∃ p cp, v = .slice p n cp ∧ n ≤ maxLen := by
  rcases h.2 with ⟨rfl, rfl⟩ | ⟨b, cap, cur, rfl, _, _, h1, h2, _⟩
  · exact ⟨none, 0, rfl, by simp [maxLen]⟩
  · exact ⟨_, _, rfl, Nat.le_trans h1 h2⟩

theorem sok_ln (I : Inv c g s a w) (hK : ∀ g' s' a' w', Inv c g' s' a' w' → K s' → K' a' w') (hd : o.dst = some d) (hlt : d < c.nt)
    {x : X} {p : Operand} {t el : TypeId} (ho : o.op = .call { callee := .builtin .len, args := #[p], argTypes := #[t] }) (ht : P.underlying t = some (.slice el))
    (hx : chkX x p = true) (h : wop P (.ln d x) K s) : o.wp P a w K' Q' := by
  simp only [wop] at h
  have gx := I.get hx
  have run : ∀ ad n cp, a.eval p = .slice ad n cp → (execOp a.eval o).run P w = .ok (.value (.int .i64 n)) w := by
    intro ad n cp e
    simp [execOp, ho, resolve, invoke, builtin, e, Builtin.len_, run_underlying ht, goInt]
  split at h
  · rename_i t' sz es e
    rw [e] at gx
    obtain ⟨ad, cp, hv, hm⟩ := gx.sl_inv.sl_len
    exact sok (g' := g) (s' := s) (w' := w) hK hd hlt (run _ _ _ hv) I (.data _ _ (.int _ _)) (h (by simpa [maxLen] using hm))
  · rename_i k e
    rw [e] at gx
    split at h
    · rename_i r hr
      obtain ⟨xs, ty, ho', _⟩ := I.rws k r hr
      obtain ⟨ad, cp, hv, hm⟩ := own_len ho'
      exact sok (g' := g) (s' := s) (w' := w) hK hd hlt (run _ _ _ ((gx.sref_inv hr).trans hv)) I (.data _ _ (.int _ _)) (h (by simpa [maxLen] using hm))
    · exact h.elim
  · rename_i e
    rw [e] at gx
    exact sok (g' := g) (s' := s) (w' := w) hK hd hlt (run _ _ _ gx.nl_inv) I (.data _ _ (.int _ _)) h
  · exact h.elim

theorem sok_lq (I : Inv c g s a w) (hK : ∀ g' s' a' w', Inv c g' s' a' w' → K s' → K' a' w') (hd : o.dst = some d) (hlt : d < c.nt)
    {x : X} {p : Operand} {t el : TypeId} (ho : o.op = .call { callee := .builtin .len, args := #[p], argTypes := #[t] }) (ht : P.underlying t = some (.slice el))
    (hx : chkX x p = true) (h : wop P (.lq d x) K s) : o.wp P a w K' Q' := by
  refine sok_ln I hK hd hlt ho ht hx (x := x) ?_
  simp only [wop] at h ⊢
  split at h
  · rename_i e; simp only [e]; exact fun _ => h.2
  · rename_i e; simp only [e]; exact h
  · exact h.elim
theorem sok_ls (I : Inv c g s a w) (hK : ∀ g' s' a' w', Inv c g' s' a' w' → K s' → K' a' w') (hd : o.dst = some d) (hlt : d < c.nt)
    {x : X} {p : Operand} {t : TypeId} (ho : o.op = .call { callee := .builtin .len, args := #[p], argTypes := #[t] }) (ht : P.underlying t = some .string)
    (hx : chkX x p = true) (h : wop P (.ls d x) K s) : o.wp P a w K' Q' := by
  simp only [wop] at h
  have gx := I.get hx
  split at h
  · rename_i l e
    rw [e] at gx
    refine sok (g' := g) (s' := s) (w' := w) (v := .int .i64 l.length) hK hd hlt ?_ I (.data _ _ (.int _ _)) h
    have hsz : (⟨l.toArray⟩ : ByteArray).size = l.length := by show l.toArray.size = _; simp
    simp [execOp, ho, resolve, invoke, builtin, gx.str_inv, Builtin.len_, run_underlying ht, goInt, hsz]
  · exact h.elim

theorem sok_ex (I : Inv c g s a w) (hK : ∀ g' s' a' w', Inv c g' s' a' w' → K s' → K' a' w') (hd : o.dst = some d) (hlt : d < c.nt)
    {x : X} {p : Operand} {i : Nat} (ho : o.op = .extract p i) (hx : chkX x p = true) (h : wop P (.ex d x i) K s) : o.wp P a w K' Q' := by
  simp only [wop] at h
  have gx := I.get hx
  split at h
  · rename_i cs e
    rw [e] at gx
    obtain ⟨vs, hv, hl, hg⟩ := gx.tup_inv
    split at h
    · rename_i v hi
      have hlt' : i < vs.length := by rw [← hl]; exact (List.getElem?_eq_some_iff.1 hi).1
      refine sok (g' := g) (s' := s) (w' := w) (v := vs[i]) hK hd hlt ?_ I (hg i v _ hi (List.getElem?_eq_getElem hlt')) h
      simp [execOp, ho, hv, Instr.extract, hlt']
    · exact h.elim
  · exact h.elim

theorem run_part' {t : TypeId} {n : Nat} {ag : Bool} (hs : tsz P t = some n) (ha : tag? P t = some ag) (vs : List Value) (off : Nat) (u : Value)
    (hu : ag = false → vs[off]? = some u) : (part t vs.toArray off).run P w = .ok (if ag then .agg ((vs.drop off).take n).toArray else u) w := by
  cases ag with
  | true =>
    simp [part, run_isAgg' ha, run_sizeOf' hs, List.extract_eq_take_drop, List.extract_toArray]
  | false => simp [part, run_isAgg' ha, hu rfl]

theorem sok_fd (I : Inv c g s a w) (hK : ∀ g' s' a' w', Inv c g' s' a' w' → K s' → K' a' w') (hd : o.dst = some d) (hlt : d < c.nt)
    {x : X} {p : Operand} {t : TypeId} {f : Nat} {fs : Array Field} {fd : Field} {n : Nat} {ag : Bool} (ho : o.op = .field t p f) (ht : P.underlying t = some (.struct fs)) (hf : fs[f]? = some fd)
    (hs : tsz P fd.type = some n) (ha : tag? P fd.type = some ag)
    (hx : chkX x p = true) (h : wop P (.fd d x fd.offset n ag) K s) : o.wp P a w K' Q' := by
  simp only [wop] at h
  have gx := I.get hx
  split at h
  · rename_i cs e
    rw [e] at gx
    obtain ⟨vs, hv, hl, h1, hg⟩ := gx.agg_inv
    split at h
    · rename_i v hp
      unfold pickC at hp
      cases ag with
      | true =>
        simp only [if_true] at hp
        split at hp
        · rename_i hle
          cases hp
          refine sok (g' := g) (s' := s) (w' := w) (v := .agg ((vs.drop fd.offset).take n).toArray) hK hd hlt ?_ I ?_ h
          · have := run_part' (P := P) (w := w) hs ha vs fd.offset undef (by simp)
            simp only [if_true] at this
            simp [execOp, ho, hv, Instr.field, run_underlying ht, hf, asAgg, this]
          · refine .agg _ _ (by simp; omega) (fun a' ha' => h1 a' (List.mem_of_mem_drop (List.mem_of_mem_take ha'))) (fun j a' v' hj hv' => ?_)
            rw [List.getElem?_take] at hj hv'
            split at hj
            · rename_i hjn
              rw [if_pos hjn, List.getElem?_drop] at hv'
              rw [List.getElem?_drop] at hj
              exact hg _ _ _ hj hv'
            · cases hj
        · cases hp
      | false =>
        simp only [Bool.false_eq_true, if_false] at hp
        have hlt' : fd.offset < vs.length := by rw [← hl]; exact (List.getElem?_eq_some_iff.1 hp).1
        have hu := List.getElem?_eq_getElem hlt'
        refine sok (g' := g) (s' := s) (w' := w) (v := vs[fd.offset]) hK hd hlt ?_ I (hg _ _ _ hp hu) h
        have := run_part' (P := P) (w := w) hs ha vs fd.offset vs[fd.offset] (fun _ => hu)
        simp only [Bool.false_eq_true, if_false] at this
        simp [execOp, ho, hv, Instr.field, run_underlying ht, hf, asAgg, this]
    · exact h.elim
  · exact h.elim

theorem sok_nc (I : Inv c g s a w) (hK : ∀ g' s' a' w', Inv c g' s' a' w' → K s' → K' a' w') (hd : o.dst = some d) (hlt : d < c.nt)
    {x : X} {p : Operand} (ho : o.op = .nilCheck p) (hx : chkX x p = true) (h : wop P (.nc d x) K s) : o.wp P a w K' Q' := by
  simp only [wop] at h
  have gx := I.get hx
  split at h
  · rename_i k off e
    rw [e] at gx
    obtain ⟨h1, h⟩ := h
    obtain ⟨cs, hk⟩ := Option.isSome_iff_exists.1 h1
    refine sok (g' := g) (s' := s) (w' := w) (v := a.eval p) hK hd hlt ?_ I gx h
    simp [execOp, ho, gx.ptr_inv hk]
  · rename_i f cs e
    rw [e] at gx
    obtain ⟨vs, hv, _⟩ := gx.fn_inv
    refine sok (g' := g) (s' := s) (w' := w) (v := a.eval p) hK hd hlt ?_ I gx h
    simp [execOp, ho, hv]
  · exact h.elim

theorem sok_mf (I : Inv c g s a w) (hK : ∀ g' s' a' w', Inv c g' s' a' w' → K s' → K' a' w') (hd : o.dst = some d) (hlt : d < c.nt)
    {f : Nat} {xs : List X} {ps : List Operand} (ho : o.op = .makeFunc (.func f) #[] ps.toArray) (hx : xs.length = ps.length ∧ ∀ (i : Nat) (x : X) (p : Operand), xs[i]? = some x → ps[i]? = some p → chkX x p = true)
    (h : wop P (.mf d f xs) K s) : o.wp P a w K' Q' := by
  simp only [wop] at h
  refine sok (g' := g) (s' := s) (w' := w) (v := .func (.func f) #[] (ps.map a.eval).toArray) hK hd hlt ?_ I (.fn _ _ _ (by simp [hx.1]) (fun i x v hi hv => ?_)) h
  · simp [execOp, ho, Instr.makeFunc]
  · rw [List.getElem?_map] at hi hv
    obtain ⟨x0, hx0, rfl⟩ := Option.map_eq_some_iff.1 hi
    obtain ⟨p0, hp0, rfl⟩ := Option.map_eq_some_iff.1 hv
    exact I.get (hx.2 i x0 p0 hx0 hp0)

theorem sok_mm (I : Inv c g s a w) (hK : ∀ g' s' a' w', Inv c g' s' a' w' → K s' → K' a' w') (hd : o.dst = some d) (hlt : d < c.nt)
    {mx : Bool} {x y : X} {p q : Operand} {ts : Array TypeId} (ho : o.op = .call { callee := .builtin (if mx then .max else .min), args := #[p, q], argTypes := ts })
    (hx : chkX x p = true) (hy : chkX y q = true) (h : wop P (.mm d mx x y) K s) : o.wp P a w K' Q' := by
  simp only [wop] at h
  have gx := I.get hx
  have gy := I.get hy
  split at h
  · rename_i k m k' m' e1 e2
    rw [e1] at gx; rw [e2] at gy
    obtain ⟨rfl, h⟩ := h
    refine sok (g' := g) (s' := s) (w' := w) (v := .int k (if mx then max m m' else min m m')) hK hd hlt ?_ I (.data _ _ (.int _ _)) h
    cases mx
    · have : (if m' < m then m' else m) = min m m' := by split <;> omega
      simp [execOp, ho, resolve, invoke, builtin, gx.int_inv, gy.int_inv, Builtin.min_, Builtin.min2, this]
    · have : (if m < m' then m' else m) = max m m' := by split <;> omega
      simp [execOp, ho, resolve, invoke, builtin, gx.int_inv, gy.int_inv, Builtin.max_, Builtin.max2, this]
  · exact h.elim
end ops
end
end Go.Proofs.Ythbbieobcokgbaa.Eng
