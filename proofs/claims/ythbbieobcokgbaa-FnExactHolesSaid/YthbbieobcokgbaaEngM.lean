/-
  The engine, part 15 and a half: soundness of calls that are handed boxes and rows.
-/
import Derived.Test.YthbbieobcokgbaaEng15
namespace Go.Proofs.Ythbbieobcokgbaa.Eng
open Go Go.RowKit

section
variable {P : Program} {c : Cx} {g : Gh} {s : St} {a : Act} {w : World}

theorem Rd.mp {S : Nat → Nat → Prop} {N : Nat → Prop} (fb fr : Nat → Option Nat) {x : AV} {v : Value} (h : Rd w S N x v) : Rd w S N (x.mp fb fr) v := by
  induction h with
  | bool b => exact .bool b
  | int k n => exact .int k n
  | str l => exact .str l
  | nl => exact .nl
  | sl0 t sz p q => exact .sl0 _ _ _ _
  | sl t sz es b o cc cv hc hm hs hw hn h _ => exact .sl t sz es b o cc cv hc hm hs hw hn h
  | ept e off b o cv hw h _ => exact .ept e off b o cv hw h
  | agg cs vs hl h1 h ih =>
    rw [AV.mp, mpL_map]
    refine .agg _ vs (by simpa using hl) (fun y hy => ?_) (fun i y v hy hv => ?_)
    · obtain ⟨y0, h0, rfl⟩ := List.mem_map.1 hy
      obtain ⟨i, hi, rfl⟩ := List.getElem_of_mem h0
      have hlt : i < vs.length := by omega
      have hr := h i _ _ (List.getElem?_eq_getElem hi) (List.getElem?_eq_getElem hlt)
      have h1' := h1 _ h0
      generalize cs[i] = z at *
      generalize vs[i] = u at *
      cases hr <;> simp_all [AV.mp, AV.one]
    · rw [List.getElem?_map] at hy
      obtain ⟨y0, h0, rfl⟩ := Option.map_eq_some_iff.1 hy
      exact ih i y0 v h0 hv
  | fn f cs vs hl h ih =>
    rw [AV.mp, mpL_map]
    refine .fn f _ vs (by simpa using hl) (fun i y v hy hv => ?_)
    rw [List.getElem?_map] at hy
    obtain ⟨y0, h0, rfl⟩ := Option.map_eq_some_iff.1 hy
    exact ih i y0 v h0 hv

theorem one_mp (fb fr : Nat → Option Nat) {x : AV} (h : x.one = true ∨ x = .bad) : (x.mp fb fr).one = true ∨ x.mp fb fr = .bad := by
  rcases h with h | rfl
  · cases x with
    | sref j => rw [AV.mp]; split <;> simp [AV.one]
    | ptr j o => rw [AV.mp]; split <;> simp [AV.one]
    | rpt j i o => rw [AV.mp]; split <;> simp [AV.one]
    | _ => simp [AV.mp, AV.one] at h ⊢
  · right; rfl

/-- The same value under other names. -/
theorem Gv.mp {w' : World} {g' : Gh} {s' : St} {fb fr : Nat → Option Nat} (hS : ∀ b o, g.S b o → g'.S b o) (hN : ∀ b, g.N b → g'.N b) (hc : ∀ b o, g.S b o → w'.cell? ⟨b, o, none⟩ = w.cell? ⟨b, o, none⟩)
    (hr : ∀ i k, fr i = some k → ∀ r', s'.rw k = some r' → ∃ r, s.rw i = some r ∧ r'.sz = r.sz ∧ g'.rv k = g.rv i)
    (hb : ∀ i k, fb i = some k → ∀ c', s'.bx k = some c' → ∃ c, s.bx i = some c ∧ g'.bb k = g.bb i)
    {x : AV} {v : Value} (h : Gv w g s x v) : Gv w' g' s' (x.mp fb fr) v := by
  have mp : ∀ (cs : List AV) (vs : List Value), (∀ (i : Nat) (x : AV) (v : Value), cs[i]? = some x → vs[i]? = some v → Gv w' g' s' (x.mp fb fr) v) →
      ∀ (i : Nat) (x : AV) (v : Value), (cs.map (AV.mp fb fr))[i]? = some x → vs[i]? = some v → Gv w' g' s' x v := by
    intro cs vs ih i x v hx hv
    rw [List.getElem?_map] at hx
    obtain ⟨x0, h0, rfl⟩ := Option.map_eq_some_iff.1 hx
    exact ih i x0 v h0 hv
  induction h with
  | data x v h => exact .data _ v ((h.mono hS hN hc).mp _ _)
  | bad v => exact .bad v
  | und => exact .und
  | sref i v h1 h =>
    rw [AV.mp]; split
    · rename_i k hk
      refine .sref _ v h1 fun r' hr' => ?_
      obtain ⟨r, q1, q2, q3⟩ := hr i k hk r' hr'
      rw [q3]; exact h r q1
    · exact .bad v
  | ptr j off v h1 h =>
    rw [AV.mp]; split
    · rename_i k hk
      refine .ptr _ _ v h1 fun c' hc' => ?_
      obtain ⟨r, q1, q3⟩ := hb j k hk c' hc'
      rw [q3]; exact h r q1
    · exact .bad v
  | rpt j i off v h1 h =>
    rw [AV.mp]; split
    · rename_i k hk
      refine .rpt _ _ _ v h1 fun r' hr' => ?_
      obtain ⟨r, q1, q2, q3⟩ := hr j k hk r' hr'
      rw [q3, q2]; exact h r q1
    · exact .bad v
  | ept e off b o cv hw h => exact .ept e off b o cv (fun j y hj => ⟨by rw [hc _ _ (hw j y hj).2.1]; exact (hw j y hj).1, hS _ _ (hw j y hj).2.1, (hw j y hj).2.2⟩) (fun j y hj => (h j y hj).mono hS hN hc)
  | agg cs vs hl h1 _ ih =>
    rw [AV.mp, mpL_map]
    refine .agg _ vs (by simpa using hl) (fun y hy => ?_) (mp cs vs ih)
    obtain ⟨y0, h0, rfl⟩ := List.mem_map.1 hy
    exact one_mp fb fr (h1 _ h0)
  | tup cs vs hl _ ih => rw [AV.mp, mpL_map]; exact .tup _ vs (by simpa using hl) (mp cs vs ih)
  | fn f cs vs hl _ ih => rw [AV.mp, mpL_map]; exact .fn f _ vs (by simpa using hl) (mp cs vs ih)

theorem BoxOk.mp {w' : World} {g' : Gh} {s' : St} {fb fr : Nat → Option Nat} {b b' : Nat} {cs : List AV} (hS : ∀ b o, g.S b o → g'.S b o) (hN : ∀ b, g.N b → g'.N b) (hc : ∀ b o, g.S b o → w'.cell? ⟨b, o, none⟩ = w.cell? ⟨b, o, none⟩)
    (hr : ∀ i k, fr i = some k → ∀ r', s'.rw k = some r' → ∃ r, s.rw i = some r ∧ r'.sz = r.sz ∧ g'.rv k = g.rv i)
    (hb : ∀ i k, fb i = some k → ∀ c', s'.bx k = some c' → ∃ c, s.bx i = some c ∧ g'.bb k = g.bb i) (hh : w'.heap[b']? = w.heap[b]?)
    (h : BoxOk w g s b cs) : BoxOk w' g' s' b' (mpL fb fr cs) := by
  obtain ⟨vs, ty, h1, h2, h3⟩ := h
  refine ⟨vs, ty, by rw [hh]; exact h1, by rw [mpL_map]; simpa using h2, fun i x v hx hv => ?_⟩
  rw [mpL_map, List.getElem?_map] at hx
  obtain ⟨x0, h0, rfl⟩ := Option.map_eq_some_iff.1 hx
  obtain ⟨q1, q2, q3⟩ := h3 i x0 v h0 hv
  exact ⟨one_mp fb fr q1, q2, q3.mp hS hN hc hr hb⟩

theorem rdt_bad {x : AV} (h : x = .bad) : x.rdt = .bad := by subst h; rfl
theorem Gv.rdt {x : AV} {v : Value} (h : Gv w g s x v) : Gv w g s x.rdt v := by
  have mp : ∀ (cs : List AV) (vs : List Value), (∀ (i : Nat) (x : AV) (v : Value), cs[i]? = some x → vs[i]? = some v → Gv w g s x.rdt v) →
      ∀ (i : Nat) (x : AV) (v : Value), (cs.map AV.rdt)[i]? = some x → vs[i]? = some v → Gv w g s x v := by
    intro cs vs ih i x v hx hv
    rw [List.getElem?_map] at hx
    obtain ⟨x0, h0, rfl⟩ := Option.map_eq_some_iff.1 hx
    exact ih i x0 v h0 hv
  induction h with
  | data x v h => exact .data _ v h.rdt
  | bad v => exact .bad v
  | und => exact .und
  | sref i v h1 h => exact .sref i v h1 h
  | ptr j off v h1 h => exact .ptr j off v h1 h
  | rpt j i off v h1 h => exact .rpt j i off v h1 h
  | ept e off b o cv hw h => exact .data _ _ (Rd.ept e off b o cv hw h).rdt
  | agg cs vs hl h1 _ ih =>
    rw [AV.rdt, rdtL_map]
    refine .agg _ vs (by simpa using hl) (fun y hy => ?_) (mp cs vs ih)
    obtain ⟨y0, h0, rfl⟩ := List.mem_map.1 hy
    rcases h1 _ h0 with h | h
    · exact .inl (one_rdt h)
    · exact .inr (rdt_bad h)
  | tup cs vs hl h ih => exact .tup cs vs hl h
  | fn f cs vs hl _ ih => rw [AV.rdt, rdtL_map]; exact .fn f _ vs (by simpa using hl) (mp cs vs ih)

theorem Inv.kill0 (I : Inv c g s a w) (k : Nat) : Inv c g (s.kill k) a w := by
  have T : Turn (· ≠ k) w w g g s (s.kill k) := by
    refine ⟨fun _ _ h => h, fun _ h => h, fun _ _ _ => rfl, fun j hj r h => ⟨r, (kill_rw h).2, rfl, rfl⟩, fun j hj c' h => ?_⟩
    obtain ⟨_, c0, h0, _⟩ := kill_bx h
    exact ⟨c0, h0, rfl⟩
  refine ⟨I.defers, I.nt, I.fr, fun i => (I.tm i).turn_dead T, ?_, ?_, ?_, ?_, ?_, ?_, ?_, I.sw, I.nn, I.nx, I.fix, I.sm, I.sb⟩
  · intro j cs' h
    obtain ⟨_, c0, h0, rfl⟩ := kill_bx h
    exact boxOk_dead T (I.bxs j c0 h0)
  · intro j cs' h
    obtain ⟨_, c0, h0, rfl⟩ := kill_bx h
    exact I.bxn j c0 h0
  · intro j r h; exact I.rws j r (kill_rw h).2
  · intro j r h; exact I.rwn j r (kill_rw h).2
  · intro j j' c1 c2 h1 h2 hne
    obtain ⟨_, d1, h1', _⟩ := kill_bx h1
    obtain ⟨_, d2, h2', _⟩ := kill_bx h2
    exact I.dbb j j' d1 d2 h1' h2' hne
  · intro j j' c1 r h1 h2
    obtain ⟨_, d1, h1', _⟩ := kill_bx h1
    exact I.dbr j j' d1 r h1' (kill_rw h2).2
  · intro j j' r r' h1 h2 hne
    exact I.drr j j' r r' (kill_rw h1).2 (kill_rw h2).2 hne
theorem Inv.kill2 : ∀ (ks : List Nat) {s : St}, Inv c g s a w → Inv c g (s.kill2 ks) a w
  | [], _, I => I
  | k :: ks, _, I => Inv.kill2 ks (I.kill0 k)

theorem kills_bx : ∀ {ks : List Nat} {s : St} {j : Nat} {cs : List AV}, (s.kill2 ks).bx j = some cs → j ∉ ks ∧ ∃ c0, s.bx j = some c0 ∧ cs.length = c0.length
  | [], s, j, cs, h => ⟨by simp, cs, h, rfl⟩
  | k :: ks, s, j, cs, h => by
    obtain ⟨h1, c0, h2, h3⟩ := kills_bx (ks := ks) (s := s.kill k) h
    obtain ⟨h4, c1, h5, rfl⟩ := kill_bx h2
    exact ⟨by simp [h1, h4], c1, h5, by rw [h3, deadL_map]; simp⟩
theorem kills_rw : ∀ {ks : List Nat} {s : St} {j : Nat} {r : Row}, (s.kill2 ks).rw j = some r → j ∉ ks ∧ s.rw j = some r
  | [], s, j, r, h => ⟨by simp, h⟩
  | k :: ks, s, j, r, h => by
    obtain ⟨h1, h2⟩ := kills_rw (ks := ks) (s := s.kill k) h
    obtain ⟨h4, h5⟩ := kill_rw h2
    exact ⟨by simp [h1, h4], h5⟩
theorem kills_bx_of : ∀ {ks : List Nat} {s : St} {j : Nat} {c0 : List AV}, j ∉ ks → s.bx j = some c0 → ∃ cs, (s.kill2 ks).bx j = some cs ∧ cs.length = c0.length
  | [], s, j, c0, _, h => ⟨c0, h, rfl⟩
  | k :: ks, s, j, c0, hj, h => by
    simp only [List.mem_cons, not_or] at hj
    obtain ⟨cs, h1, h2⟩ := kills_bx_of (ks := ks) (s := s.kill k) (c0 := deadL k c0) hj.2 (by simp [St.kill, hj.1, h])
    exact ⟨cs, h1, by rw [h2, deadL_map]; simp⟩

theorem drops_sub : ∀ {ks : List Nat} {us : List (Option (List AV))} {k : Nat}, k ∈ drops ks us → k ∈ ks
  | [], _, k, h => by simp [drops] at h
  | _ :: _, [], k, h => by simp [drops] at h
  | k0 :: ks, none :: us, k, h => by
    simp only [drops, List.mem_cons] at h ⊢
    rcases h with h | h
    · exact .inl h
    · exact .inr (drops_sub h)
  | k0 :: ks, some _ :: us, k, h => by
    simp only [drops, List.mem_cons] at h ⊢
    exact .inr (drops_sub h)
theorem drops_mem : ∀ {ks : List Nat} {us : List (Option (List AV))} {i k : Nat}, ks[i]? = some k → us[i]? = some none → k ∈ drops ks us
  | [], _, i, k, h, _ => by simp at h
  | _ :: _, [], i, k, _, h => by simp at h
  | k0 :: ks, u :: us, 0, k, h, h2 => by simp at h h2; subst h; subst h2; simp [drops]
  | k0 :: ks, u :: us, i + 1, k, h, h2 => by
    have := drops_mem (ks := ks) (us := us) (i := i) (k := k) (by simpa using h) (by simpa using h2)
    cases u <;> simp [drops, this]
theorem upf_ok : ∀ {ks : List Nat} {us : List (Option (List AV))} {k : Nat} {es : List AV}, upf ks us k = some es → ∃ i : Nat, ks[i]? = some k ∧ us[i]? = some (some es)
  | [], _, k, es, h => by simp [upf] at h
  | _ :: _, [], k, es, h => by simp [upf] at h
  | k0 :: ks, u :: us, k, es, h => by
    simp only [upf] at h
    split at h
    · rename_i e; exact ⟨0, by simp [e], by simp [h]⟩
    · obtain ⟨i, h1, h2⟩ := upf_ok h
      exact ⟨i + 1, by simpa using h1, by simpa using h2⟩
theorem upf_none : ∀ {ks : List Nat} {us : List (Option (List AV))} {i k : Nat}, ks.length = us.length → ks.Nodup → ks[i]? = some k → upf ks us k = none → us[i]? = some none
  | [], _, i, k, _, _, h, _ => by simp at h
  | _ :: _, [], i, k, h, _, _, _ => by simp at h
  | k0 :: ks, u :: us, 0, k, _, _, h, h2 => by simp at h; subst h; simp [upf] at h2; simp [h2]
  | k0 :: ks, u :: us, i + 1, k, hl, hn, h, h2 => by
    simp only [List.nodup_cons] at hn
    have hk : k ∈ ks := List.mem_of_getElem? (by simpa using h)
    have hne : k ≠ k0 := fun e => hn.1 (e ▸ hk)
    simp only [upf, hne, if_false] at h2
    simpa using upf_none (by simpa using hl) hn.2 (by simpa using h) h2
theorem bxf_ok : ∀ {ks : List Nat} {bs : List (List AV)} {k : Nat} {b : List AV}, bxf ks bs k = some b → ∃ i : Nat, ks[i]? = some k ∧ bs[i]? = some b
  | [], _, k, b, h => by simp [bxf] at h
  | _ :: _, [], k, b, h => by simp [bxf] at h
  | k0 :: ks, u :: us, k, b, h => by
    simp only [bxf] at h
    split at h
    · rename_i e; exact ⟨0, by simp [e], by simpa using h⟩
    · obtain ⟨i, h1, h2⟩ := bxf_ok h
      exact ⟨i + 1, by simpa using h1, by simpa using h2⟩
theorem atBoxes_ok {fb fr : Nat → Option Nat} : ∀ {ks : List Nat} {bs : List (List AV)}, atBoxes s fb fr ks bs → ks.length = bs.length ∧ ∀ (i k : Nat) (b : List AV), ks[i]? = some k → bs[i]? = some b → ∃ cs, s.bx k = some cs ∧ b = mpL fb fr cs
  | [], [], _ => ⟨rfl, by intro i k b h; simp at h⟩
  | k0 :: ks, b0 :: bs, h => by
    simp only [atBoxes] at h
    obtain ⟨h1, h2⟩ := atBoxes_ok h.2
    refine ⟨by simp [h1], fun i k b hk hb => ?_⟩
    cases i with
    | zero => simp at hk hb; subst hk; subst hb; exact h.1
    | succ i => exact h2 i k b (by simpa using hk) (by simpa using hb)
  | [], _ :: _, h => h.elim
  | _ :: _, [], h => h.elim
theorem atRows_ok : ∀ {ks : List Nat} {rs : List Row}, atRows s ks rs → ks.length = rs.length ∧ ∀ (i k : Nat) (r : Row), ks[i]? = some k → rs[i]? = some r → s.rw k = some r ∧ r.sh = false
  | [], [], _ => ⟨rfl, by intro i k b h; simp at h⟩
  | k0 :: ks, b0 :: bs, h => by
    simp only [atRows] at h
    obtain ⟨h1, h2⟩ := atRows_ok h.2.2
    refine ⟨by simp [h1], fun i k b hk hb => ?_⟩
    cases i with
    | zero => simp at hk hb; subst hk; subst hb; exact ⟨h.1, h.2.1⟩
    | succ i => exact h2 i k b (by simpa using hk) (by simpa using hb)
  | [], _ :: _, h => h.elim
  | _ :: _, [], h => h.elim
theorem ix_of : ∀ {ks : List Nat} {i k : Nat}, ks.Nodup → ks[i]? = some k → ix ks k = some i
  | [], i, k, _, h => by simp at h
  | k0 :: ks, 0, k, _, h => by simp at h; simp [ix, h]
  | k0 :: ks, i + 1, k, hn, h => by
    simp only [List.nodup_cons] at hn
    have hk : k ∈ ks := List.mem_of_getElem? (by simpa using h)
    have hne : k0 ≠ k := fun e => hn.1 (e ▸ hk)
    simp [ix, hne, ix_of hn.2 (by simpa using h : ks[i]? = some k)]
theorem outRows_len : ∀ {rin : List Row} {upd : List (Option (List AV))} {new : List Row}, upd.length = rin.length → (outRows rin upd new).length = rin.length + new.length
  | [], [], new, _ => by simp [outRows]
  | r :: rs, u :: us, new, h => by simp only [outRows, List.length_cons]; rw [outRows_len (by simpa using h)]; omega
  | [], _ :: _, _, h => by simp at h
  | _ :: _, [], _, h => by simp at h
theorem outRows_old : ∀ {rin : List Row} {upd : List (Option (List AV))} {new : List Row} {i : Nat} {r : Row} {u : Option (List AV)}, rin[i]? = some r → upd[i]? = some u → (outRows rin upd new)[i]? = some (u.map fun es => { r with es := es })
  | [], _, _, i, r, u, h, _ => by simp at h
  | _ :: _, [], _, i, r, u, _, h => by simp at h
  | r0 :: rs, u0 :: us, new, 0, r, u, h1, h2 => by simp at h1 h2; subst h1; subst h2; simp [outRows]
  | r0 :: rs, u0 :: us, new, i + 1, r, u, h1, h2 => by
    simp only [outRows, List.getElem?_cons_succ]
    exact outRows_old (by simpa using h1) (by simpa using h2)
theorem outRows_new : ∀ {rin : List Row} {upd : List (Option (List AV))} {new : List Row} {j : Nat}, upd.length = rin.length → (outRows rin upd new)[rin.length + j]? = (new[j]?).map some
  | [], [], new, j, _ => by simp [outRows]
  | r :: rs, u :: us, new, j, h => by
    rw [List.length_cons, show rs.length + 1 + j = (rs.length + j) + 1 by omega]
    simp only [outRows, List.getElem?_cons_succ]
    exact outRows_new (by simpa using h)
  | [], _ :: _, _, _, h => by simp at h
  | _ :: _, [], _, _, h => by simp at h

/-- Boxes get new contents in name only. -/
theorem Inv.reboxes (I : Inv c g s a w) (f : Nat → Option (List AV)) (h : ∀ k cs', f k = some cs' → (∃ cs, s.bx k = some cs) ∧ BoxOk w g s (g.bb k) cs') :
    Inv c g { s with bx := fun j => match f j with | some cs => some cs | none => s.bx j } a w := by
  have hbx : ∀ k cs', (match f k with | some cs => some cs | none => s.bx k) = some cs' → (∃ cs, s.bx k = some cs) ∧ BoxOk w g s (g.bb k) cs' := by
    intro k cs' hk
    split at hk
    · rename_i cs e; cases hk; exact h k _ e
    · exact ⟨⟨cs', hk⟩, I.bxs k cs' hk⟩
  have T : Turn (fun _ => True) w w g g s { s with bx := fun j => match f j with | some cs => some cs | none => s.bx j } :=
    ⟨fun _ _ h => h, fun _ h => h, fun _ _ _ => rfl, fun j _ r h => ⟨r, h, rfl, rfl⟩, fun j _ c' h => by obtain ⟨⟨c0, h0⟩, _⟩ := hbx j c' h; exact ⟨c0, h0, rfl⟩⟩
  refine ⟨I.defers, I.nt, I.fr, fun i => (I.tm i).turn T, fun k cs hk => (hbx k cs hk).2.turn T rfl, fun k cs hk => ?_, I.rws, I.rwn, fun k k' c1 c2 h1 h2 hne => ?_, fun k k' c1 r h1 h2 => ?_, I.drr, I.sw, I.nn, I.nx, I.fix, I.sm, I.sb⟩
  · obtain ⟨⟨c0, h0⟩, _⟩ := hbx k cs hk; exact I.bxn k c0 h0
  · obtain ⟨⟨d1, e1⟩, _⟩ := hbx k c1 h1
    obtain ⟨⟨d2, e2⟩, _⟩ := hbx k' c2 h2
    exact I.dbb k k' d1 d2 e1 e2 hne
  · obtain ⟨⟨d1, e1⟩, _⟩ := hbx k c1 h1
    exact I.dbr k k' d1 r e1 h2

end
end Go.Proofs.Ythbbieobcokgbaa.Eng
