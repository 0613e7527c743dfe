/-
  The engine, part 14: soundness of cuts of slices, bytes and strings, and of calls.
-/
import Derived.Test.YthbbieobcokgbaaEng13
namespace Go.Proofs.Ythbbieobcokgbaa.Eng
open Go Go.RowKit

section
variable {P : Program} {c : Cx} {g : Gh} {s : St} {a : Act} {w : World}

theorem flat_drop {sz : Nat} : ∀ {es : List AV} (_ : ∀ e ∈ es, e.cells.length = sz) (n : Nat), flat (es.drop n) = (flat es).drop (n * sz)
  | [], _, n => by simp [flat]
  | e :: es, hs, 0 => by simp
  | e :: es, hs, n + 1 => by
    have he := hs e (by simp)
    simp only [List.drop_succ_cons]
    rw [flat_drop (fun x hx => hs x (by simp [hx])) n]
    simp only [flat, List.flatMap_cons]
    rw [show (n + 1) * sz = e.cells.length + n * sz by rw [he, Nat.succ_mul]; omega, List.drop_length_add_append]
theorem flat_take_get {es : List AV} (n : Nat) {j : Nat} {x : AV} (h : (flat (es.take n))[j]? = some x) : (flat es)[j]? = some x := by
  have e : flat es = flat (es.take n) ++ flat (es.drop n) := by rw [← flat_append, List.take_append_drop]
  rw [e, List.getElem?_append_left (List.getElem?_eq_some_iff.1 h).1]
  exact h

/-- A cut of a data slice. -/
theorem Rd.cut {S : Nat → Nat → Prop} {N : Nat → Prop} {t : Tag} {sz : Nat} {es : List AV} {v : Value} (h : Rd w S N (.sl t sz es) v) {l hh : Nat} (hl : l ≤ hh) (hle : hh ≤ es.length) :
    ∃ pa n cp, v = .slice pa n cp ∧ es.length = n ∧ n ≤ cp ∧ Rd w S N (.sl t sz ((es.take hh).drop l)) (.slice (if cp = l then pa else pa.map (·.add (l * sz))) (hh - l) (cp - l)) := by
  cases h with
  | sl0 _ _ p q =>
    simp only [List.length_nil, Nat.le_zero_eq] at hle
    subst hle
    have : l = 0 := by omega
    subst this
    exact ⟨p, 0, q, rfl, rfl, Nat.zero_le _, by simpa using Rd.sl0 t sz _ _⟩
  | sl _ _ _ b o cc cv hc hm hs hw hn hrd =>
    refine ⟨_, _, cc, rfl, rfl, hc, ?_⟩
    have hlen : ((es.take hh).drop l).length = hh - l := by simp; omega
    by_cases hcl : cc = l
    · have h0 : (es.take hh).drop l = [] := List.eq_nil_of_length_eq_zero (by omega)
      rw [h0, show hh - l = 0 by omega]
      exact .sl0 t sz _ _
    · rw [if_neg hcl]
      simp only [Option.map_some, add_none]
      rw [← hlen]
      have hs' : ∀ e ∈ es.take hh, e.cells.length = sz := fun e he => hs e (List.mem_of_mem_take he)
      have hget : ∀ (j : Nat) (x : AV), (flat ((es.take hh).drop l))[j]? = some x → (flat es)[l * sz + j]? = some x := by
        intro j x hx
        rw [flat_drop hs', List.getElem?_drop] at hx
        exact flat_take_get hh hx
      refine .sl t sz _ b (o + l * sz) (cc - l) (fun j => cv (l * sz + j)) (by omega) (by omega) (fun e he => hs' e (List.mem_of_mem_drop he)) (fun j x hx => ?_) hn (fun j x hx => hrd _ x (hget j x hx))
      have := hw _ x (hget j x hx)
      rw [Nat.add_assoc]; exact this

theorem Rd.cap_le {S : Nat → Nat → Prop} {N : Nat → Prop} {t : Tag} {sz : Nat} {es : List AV} {p : Option Addr} {n cp : Nat} (h : Rd w S N (.sl t sz es) (.slice p n cp)) : es.length ≤ cp := by
  cases h with
  | sl0 => simp
  | sl _ _ _ _ _ _ _ hc => exact hc

theorem flat_int (l : List UInt8) : flat (l.map fun b => AV.int .u8 b.toNat) = l.map fun b => AV.int .u8 b.toNat := by
  induction l with
  | nil => rfl
  | cons b l ih => simp only [List.map_cons, flat, List.flatMap_cons] at ih ⊢; rw [ih]; rfl

theorem Rd.bytes {S : Nat → Nat → Prop} {N : Nat → Prop} {tg : Tag} {sz : Nat} {es : List AV} {v : Value} (h : Rd w S N (.sl tg sz es) v) {l : List UInt8} (hl : es = l.map fun b => AV.int .u8 b.toNat)
    {t u e : TypeId} (ht : P.underlying t = some (.slice e)) (he : P.underlying e = some (.int .u8)) (hu : P.underlying u = some .string) : (convert t u v).run P w = .ok (.string ⟨l.toArray⟩) w := by
  cases h with
  | sl0 _ _ p q =>
    have : l = [] := by cases l <;> simp at hl ⊢
    subst this
    cases p with
    | none => rw [run_convert_bytes_string w t u e none 0 q ht he hu]; simp [Conv.bytesToString]; rfl
    | some ad => exact run_convert_bytes_back w t u e ad q [] ht he hu (by simp)
  | sl _ _ _ b o cc cv hc hm hs hw hn hrd =>
    have hlen : es.length = l.length := by rw [hl]; simp
    rw [hlen]
    refine run_convert_bytes_back (P := P) w t u e ⟨b, o, none⟩ cc l ht he hu (fun j hj => ?_)
    have hx : (flat es)[j]? = some (.int .u8 (l[j].toNat)) := by rw [hl, flat_int]; simp [hj]
    have h1 := (hw j _ hx).1
    have h2 := hrd j _ hx
    rw [add_none, h1]
    generalize cv j = z at *
    cases h2; rfl

section ops
variable {o : Oper} {d : Nat} {K : St → Prop} {K' : Act → World → Prop} {Q' : Exit → Act → World → Prop}

theorem sok_sc (I : Inv c g s a w) (hK : ∀ g' s' a' w', Inv c g' s' a' w' → K s' → K' a' w') (hd : o.dst = some d) (hlt : d < c.nt)
    {x : X} {p : Operand} {lo hi : Option X} {pl ph : Option Operand} {t e : TypeId} {n : Nat} (ho : o.op = .slice t p pl ph none) (ht : P.underlying t = some (.slice e)) (hs : tsz P e = some n)
    (hx : chkX x p = true) (hl : chkO lo pl = true) (hh : chkO hi ph = true) (h : wop P (.sc d x lo hi n) K s) : o.wp P a w K' Q' := by
  simp only [wop] at h
  have gx := I.get hx
  have run : ∀ pa m cp ll hv, a.eval p = .slice pa m cp → (Instr.sliceBounds true m cp (pl.map a.eval) (ph.map a.eval) none).run P w = .ok (ll, hv, cp) w →
      (execOp a.eval o).run P w = .ok (.value (.slice (if cp = ll then pa else pa.map (·.add (ll * n))) (hv - ll) (cp - ll))) w := by
    intro pa m cp ll hv e1 e2
    simp [execOp, ho, e1, Instr.sliceAt, Instr.slice, run_underlying ht, e2, run_sizeOf' hs]
  split at h
  · rename_i t' sz es e1
    rw [e1] at gx
    split at h
    · rename_i hv h1
      split at h
      · rename_i lv h2
        obtain ⟨rfl, h⟩ := h
        obtain ⟨pa0, cp0, hv0, hm0⟩ := gx.sl_inv.sl_len
        have hrd := gx.sl_inv
        have hcp : es.length ≤ cp0 := by
          rw [hv0] at hrd; exact hrd.cap_le
        have hb := bounds (P := P) (isS := true) I hl hh (n := es.length) (cap := cp0) hcp h1 h2
        obtain ⟨pa, m, cp, hv', hm, _, hr⟩ := hrd.cut hb.2.1 hb.2.2
        rw [hv0] at hv'; cases hv'
        exact sok (g' := g) (s' := s) (w' := w) hK hd hlt (run _ _ _ _ _ hv0 hb.1) I (.data _ _ hr) h
      · exact h.elim
    · exact h.elim
  · rename_i k e1
    rw [e1] at gx
    split at h
    · rename_i r hr
      split at h
      · rename_i hv h1
        split at h
        · rename_i lv h2
          obtain ⟨rfl, h⟩ := h
          have I2 := I.share hr
          have hrow := (I.rws k r hr).mono (w' := w) (S' := fun b o => g.S b o ∨ ((g.rv k).ownBlock = some b ∧ o < r.es.length * r.sz)) (N' := g.N) (fun _ _ h => .inl h) (fun _ h => h) (fun _ _ _ => rfl) (fun _ _ => rfl)
          have hrd := row_data hrow (fun b o hb ho => .inr ⟨hb, ho⟩) (fun b hb => (I.rwn k r hr b hb).1.1) .nw
          obtain ⟨pa0, cp0, hv0, hm0⟩ := hrd.sl_len
          have hcp : r.es.length ≤ cp0 := by
            rw [hv0] at hrd; exact hrd.cap_le
          have hb := bounds (P := P) (isS := true) I hl hh (n := r.es.length) (cap := cp0) hcp h1 h2
          obtain ⟨pa, m, cp, hv', hm, _, hr'⟩ := hrd.cut hb.2.1 hb.2.2
          rw [hv0] at hv'; cases hv'
          exact sok hK hd hlt (run _ _ _ _ _ ((gx.sref_inv hr).trans hv0) hb.1) I2 (.data _ _ hr') h
        · exact h.elim
      · exact h.elim
    · exact h.elim
  · rename_i e1
    rw [e1] at gx
    split at h
    · rename_i hv h1
      split at h
      · rename_i lv h2
        have hb := bounds (P := P) (isS := true) I hl hh (n := 0) (cap := 0) (Nat.le_refl _) h1 h2
        have hv0 : hv = 0 := by omega
        have hl0 : lv = 0 := by omega
        subst hv0; subst hl0
        refine sok (g' := g) (s' := s) (w' := w) (v := .slice none 0 0) hK hd hlt ?_ I (.data _ _ .nl) h
        have := run none 0 0 0 0 gx.nl_inv hb.1
        simpa using this
      · exact h.elim
    · exact h.elim
  · exact h.elim

theorem sok_b2s (I : Inv c g s a w) (hK : ∀ g' s' a' w', Inv c g' s' a' w' → K s' → K' a' w') (hd : o.dst = some d) (hlt : d < c.nt)
    {x : X} {p : Operand} {t u e : TypeId} (ho : o.op = .convert t u p) (ht : P.underlying t = some (.slice e)) (he : P.underlying e = some (.int .u8)) (hu : P.underlying u = some .string)
    (hx : chkX x p = true) (h : wop P (.b2s d x) K s) : o.wp P a w K' Q' := by
  simp only [wop] at h
  have gx := I.get hx
  have run : ∀ str, (convert t u (a.eval p)).run P w = .ok (.string str) w → (execOp a.eval o).run P w = .ok (.value (.string str)) w := by
    intro str e1
    simp [execOp, ho, e1]
  split at h
  · rename_i tt sz es hdt
    obtain ⟨l, hl, h⟩ := h
    have hrd := dt_rd I (fun b o => g.S b o ∨ ∃ k r, s.rw k = some r ∧ (g.rv k).ownBlock = some b ∧ o < r.es.length * r.sz) (fun _ _ h => .inl h) (fun k r b o h1 h2 h3 => .inr ⟨k, r, h1, h2, h3⟩) hdt gx
    exact sok (g' := g) (s' := s) (w' := w) (v := .string ⟨l.toArray⟩) hK hd hlt (run _ (hrd.bytes hl ht he hu)) I (.data _ _ (.str _)) h
  · rename_i hdt
    have hrd := dt_rd I (fun b o => g.S b o ∨ ∃ k r, s.rw k = some r ∧ (g.rv k).ownBlock = some b ∧ o < r.es.length * r.sz) (fun _ _ h => .inl h) (fun k r b o h1 h2 h3 => .inr ⟨k, r, h1, h2, h3⟩) hdt gx
    refine sok (g' := g) (s' := s) (w' := w) (v := .string ⟨([] : List UInt8).toArray⟩) hK hd hlt (run _ ?_) I (.data _ _ (.str _)) h
    generalize a.eval p = v at *
    cases hrd
    rw [run_convert_bytes_string w t u e none 0 0 ht he hu]; simp [Conv.bytesToString]; rfl
  · exact h.elim

theorem sok_s2b (I : Inv c g s a w) (hK : ∀ g' s' a' w', Inv c g' s' a' w' → K s' → K' a' w') (hd : o.dst = some d) (hlt : d < c.nt)
    {x : X} {p : Operand} {t u e : TypeId} (ho : o.op = .convert t u p) (ht : P.underlying t = some .string) (hu : P.underlying u = some (.slice e)) (he : P.underlying e = some (.int .u8))
    (hx : chkX x p = true) (h : wop P (.s2b d x) K s) : o.wp P a w K' Q' := by
  simp only [wop] at h
  have gx := I.get hx
  split at h
  · rename_i l e1
    rw [e1] at gx
    obtain ⟨h1, h⟩ := h
    have hr := run_bytes_of_string (P := P) w t u e ⟨l.toArray⟩ ht hu he
    have hsz : (⟨l.toArray⟩ : ByteArray).size = l.length := by show l.toArray.size = _; simp
    rw [hsz] at hr
    have hcap := grownCap_ge w l.length 0 e
    have hcm : grownCap w l.length 0 e ≤ maxLen := grownCap_le_maxLen w l.length 0 e (by simp only [maxLen]; omega)
    generalize hC : grownCap w l.length 0 e = C at *
    generalize hB : bytesRow ⟨l.toArray⟩ C = B at *
    have I1 := I.grow (w' := w.drew.alloc (.cells B e (B.size, B.size + 1))) (S' := fun b o => g.S b o ∨ b = w.heap.size) rfl rfl rfl (by simp) (fun b hb => heap_alloc_old w.drew _ hb) (fun _ _ h => .inl h) (fun b o h => by
      rcases h with h | h
      · exact .inl h
      · exact .inr ⟨by omega, by subst h; simp⟩)
    refine sok hK hd hlt (v := .slice (some ⟨w.heap.size, 0, none⟩) l.length C) ?_ I1 (.data _ _ ?_) h
    · simp [execOp, ho, gx.str_inv, hr]
    · have hnew := heap_alloc_new w.drew (.cells B e (B.size, B.size + 1))
      have hlen : (l.map fun b => AV.int .u8 b.toNat).length = l.length := by simp
      rw [← hlen]
      refine .sl .nw 1 _ w.heap.size 0 C (fun j => .int .u8 ((l.getD j 0).toNat)) (by simpa using hcap) hcm (fun y hy => ?_) (fun j y hy => ?_) (fun _ => I.nn _ I.fr.size) (fun j y hy => ?_)
      · obtain ⟨b, _, rfl⟩ := List.mem_map.1 hy; rfl
      · rw [flat_int, List.getElem?_map] at hy
        obtain ⟨b, hb, rfl⟩ := Option.map_eq_some_iff.1 hy
        have hj : j < l.length := (List.getElem?_eq_some_iff.1 hb).1
        refine ⟨?_, .inr rfl, rfl⟩
        rw [Nat.zero_add, cell_of_row _ w.heap.size j B e _ hnew, ← hB]
        have hjb : l[j] = b := (List.getElem?_eq_some_iff.1 hb).2
        simp only [bytesRow]
        rw [Array.getElem?_append_left (by simpa using hj)]
        simp [hj, hjb, List.getD]
      · rw [flat_int, List.getElem?_map] at hy
        obtain ⟨b, hb, rfl⟩ := Option.map_eq_some_iff.1 hy
        simp only [List.getD, hb, Option.getD_some]
        exact .int _ _
  · exact h.elim
end ops
end
end Go.Proofs.Ythbbieobcokgbaa.Eng
