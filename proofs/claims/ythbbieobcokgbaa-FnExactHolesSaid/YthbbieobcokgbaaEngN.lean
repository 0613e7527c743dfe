/-
  The engine, part 15 and three quarters: what a call leaves that was handed boxes and rows.
-/
import Derived.Test.YthbbieobcokgbaaEngM
namespace Go.Proofs.Ythbbieobcokgbaa.Eng
open Go Go.RowKit

section
variable {P : Program} {c : Cx} {g : Gh} {s : St} {a : Act} {w : World}

/-- A callee's blocks were written; the rest stands. -/
theorem Inv.switch (I : Inv c g s a w) {w' : World} {S' : Nat → Nat → Prop} {D : Nat → Prop} (bks rks : List Nat) (upd : List (Option (List AV)))
    (hK : Kept D w w') (hD : ∀ b, D b → Wr c g b ∧ (∀ o, ¬ g.S b o))
    (hS1 : ∀ b o, g.S b o → S' b o) (hS2 : ∀ b o, S' b o → g.S b o ∨ w.heap.size ≤ b ∨ D b) (hS3 : ∀ b o, S' b o → b < w'.heap.size)
    (hbx : ∀ k cs, k ∈ bks → s.bx k = some cs → BoxOk w' { g with S := S' } s (g.bb k) (List.replicate cs.length .bad))
    (hbn : ∀ k cs, k ∈ bks → s.bx k = some cs → ∀ o, ¬ S' (g.bb k) o)
    (hbo : ∀ k cs, k ∉ bks → s.bx k = some cs → ¬ D (g.bb k))
    (_ : ∀ k r, k ∈ drops rks upd → s.rw k = some r → False)
    (hru : ∀ k r es, upf rks upd k = some es → s.rw k = some r → r.sh = false ∧ RowOk w' S' g.N { r with es := es } (g.rv k) ∧ ∀ b, (g.rv k).ownBlock = some b → ∀ o, ¬ S' b o)
    (hro : ∀ k r, upf rks upd k = none → s.rw k = some r → ∀ b, (g.rv k).ownBlock = some b → ¬ D b) :
    Inv c { g with S := S' } { e := s.e, bx := fun j => if j ∈ bks then (s.bx j).map (fun cs => List.replicate cs.length .bad) else s.bx j, rw := fun j => match upf rks upd j with | some es => (s.rw j).map (fun r => { r with es := es }) | none => s.rw j } a w' := by
  have hcell : ∀ b o, g.S b o → w'.cell? ⟨b, o, none⟩ = w.cell? ⟨b, o, none⟩ := fun b o ho => World.cell?_of_block (hK.block b (I.sw b o ho) (fun hd => (hD b hd).2 o ho))
  have hbx' : ∀ k cs', (if k ∈ bks then (s.bx k).map (fun cs => List.replicate cs.length .bad) else s.bx k) = some cs' → ∃ cs, s.bx k = some cs ∧ ((k ∈ bks ∧ cs' = List.replicate cs.length .bad) ∨ (k ∉ bks ∧ cs' = cs)) := by
    intro k cs' h
    split at h
    · rename_i hk
      obtain ⟨cs, h1, rfl⟩ := Option.map_eq_some_iff.1 h
      exact ⟨cs, h1, .inl ⟨hk, rfl⟩⟩
    · rename_i hk; exact ⟨cs', h, .inr ⟨hk, rfl⟩⟩
  have hrw' : ∀ k r', (match upf rks upd k with | some es => (s.rw k).map (fun r => { r with es := es }) | none => s.rw k) = some r' →
      ∃ r, s.rw k = some r ∧ r'.sz = r.sz ∧ r'.sh = r.sh ∧ ((∃ es, upf rks upd k = some es ∧ r' = { r with es := es }) ∨ (upf rks upd k = none ∧ r' = r)) := by
    intro k r' h
    split at h
    · rename_i es e
      obtain ⟨r, h1, rfl⟩ := Option.map_eq_some_iff.1 h
      exact ⟨r, h1, rfl, rfl, .inl ⟨es, e, rfl⟩⟩
    · rename_i e; exact ⟨r', h, rfl, rfl, .inr ⟨e, rfl⟩⟩
  have T : Turn (fun _ => True) w w' g { g with S := S' } s { e := s.e, bx := fun j => if j ∈ bks then (s.bx j).map (fun cs => List.replicate cs.length .bad) else s.bx j, rw := fun j => match upf rks upd j with | some es => (s.rw j).map (fun r => { r with es := es }) | none => s.rw j } := by
    refine ⟨hS1, fun _ h => h, hcell, fun k _ r' h => ?_, fun k _ c' h => ?_⟩
    · obtain ⟨r, h1, h2, _, _⟩ := hrw' k r' h; exact ⟨r, h1, h2, rfl⟩
    · obtain ⟨cs, h1, _⟩ := hbx' k c' h; exact ⟨cs, h1, rfl⟩
  refine ⟨I.defers, I.nt, ⟨hK.os.trans I.fr.os, hK.tape.trans I.fr.tape, hK.output.trans I.fr.output, Nat.le_trans I.fr.size hK.size, ?_⟩, fun i => (I.tm i).turn T, ?_, ?_, ?_, ?_, ?_, ?_, ?_, hS3, I.nn, I.nx, I.fix, fun b o h => hS1 b o (I.sm b o h), fun b o h => ?_⟩
  · intro b hb hx
    rw [hK.block b (Nat.lt_of_lt_of_le hb I.fr.size) (fun hd => hx ((hD b hd).1.2 hb))]
    exact I.fr.block b hb hx
  · intro k cs' h
    obtain ⟨cs, h1, h2⟩ := hbx' k cs' h
    rcases h2 with ⟨hk, rfl⟩ | ⟨hk, rfl⟩
    · obtain ⟨vs, ty, q1, q2, q3⟩ := hbx k cs hk h1
      refine ⟨vs, ty, q1, q2, fun i x v hx hv => ⟨(q3 i x v hx hv).1, (q3 i x v hx hv).2.1, ?_⟩⟩
      rw [List.getElem?_replicate] at hx
      split at hx
      · cases hx; exact .bad v
      · cases hx
    · exact (I.bxs k cs' h1).turn T (hK.block _ (box_lt (I.bxs k cs' h1)) (hbo k cs' hk h1))
  · intro k cs' h
    obtain ⟨cs, h1, _⟩ := hbx' k cs' h
    refine ⟨(I.bxn k cs h1).1, fun o ho => ?_⟩
    rcases hS2 _ _ ho with h | h | h
    · exact (I.bxn k cs h1).2 o h
    · have := box_lt (I.bxs k cs h1); exact absurd h (Nat.not_le.2 this)
    · by_cases hk : k ∈ bks
      · exact hbn k cs hk h1 o ho
      · exact hbo k cs hk h1 h
  · intro k r' h
    obtain ⟨r, h1, _, _, h2⟩ := hrw' k r' h
    rcases h2 with ⟨es, e, rfl⟩ | ⟨e, rfl⟩
    · exact (hru k r es e h1).2.1
    · exact (I.rws k r' h1).mono hS1 (fun _ h => h) hcell (fun b hb => hK.block b (row_lt (I.rws k r' h1) hb) (hro k r' e h1 b hb))
  · intro k r' h b hb
    obtain ⟨r, h1, _, _, h2⟩ := hrw' k r' h
    refine ⟨(I.rwn k r h1 b hb).1, fun o ho => ?_⟩
    have hg : g.S b o := by
      rcases hS2 _ _ ho with h | h | h
      · exact h
      · have := row_lt (I.rws k r h1) hb; exact absurd h (Nat.not_le.2 this)
      · rcases h2 with ⟨es, e, rfl⟩ | ⟨e, rfl⟩
        · exact absurd ho ((hru k r es e h1).2.2 b hb o)
        · exact absurd h (hro k r' e h1 b hb)
    have := (I.rwn k r h1 b hb).2 o hg
    rcases h2 with ⟨es, e, rfl⟩ | ⟨e, rfl⟩
    · rw [(hru k r es e h1).1] at this; cases this.1
    · exact this
  · intro k k' c1 c2 h1 h2 hne
    obtain ⟨d1, e1, _⟩ := hbx' k c1 h1
    obtain ⟨d2, e2, _⟩ := hbx' k' c2 h2
    exact I.dbb k k' d1 d2 e1 e2 hne
  · intro k k' c1 r h1 h2
    obtain ⟨d1, e1, _⟩ := hbx' k c1 h1
    obtain ⟨r0, e2, _⟩ := hrw' k' r h2
    exact I.dbr k k' d1 r0 e1 e2
  · intro k k' r r' h1 h2 hne
    obtain ⟨r0, e1, _⟩ := hrw' k r h1
    obtain ⟨r1, e2, _⟩ := hrw' k' r' h2
    exact I.drr k k' r0 r1 e1 e2 hne
  · rcases hS2 _ _ h with h | h | h
    · exact I.sb b o h
    · exact .inr (.inl (Nat.le_trans I.fr.size h))
    · rcases Nat.lt_or_ge b c.w0.heap.size with hl | hl
      · exact .inr (.inr ((hD b h).1.2 hl))
      · exact .inr (.inl hl)

theorem Inv.addrowsX : ∀ (rows : List Row) (k : Nat) (val : Nat → Value) (g : Gh) (s : St), Inv c g s a w →
    (∀ (i : Nat) (r : Row), rows[i]? = some r → RowOk w g.S g.N r (val i) ∧ ∀ b, (val i).ownBlock = some b → Vac c g s b) → k + rows.length < 1000000000 →
    (∀ (i j : Nat) (r r' : Row), rows[i]? = some r → rows[j]? = some r' → i ≠ j → ∀ b, (val i).ownBlock = some b → (val j).ownBlock ≠ some b) →
    ∃ g', Inv c g' (s.addrows k rows) a w ∧ g'.S = g.S ∧ (g'.N = g.N ∧ g'.bb = g.bb) ∧ (∀ i, i < rows.length → g'.rv (k + i) = val i) ∧ (∀ j, j < k → g'.rv j = g.rv j) ∧ ∀ j, k + rows.length ≤ j → g'.rv j = g.rv j
  | [], k, val, g, s, I, _, _, _ => ⟨g, I, rfl, ⟨rfl, rfl⟩, by simp, fun _ _ => rfl, fun _ _ => rfl⟩
  | r :: rs, k, val, g, s, I, h, hkb, hd => by
    obtain ⟨h0, hv0⟩ := h 0 r rfl
    have I1 := I.addrow k r (val 0) h0 hv0 (by simp at hkb; omega)
    obtain ⟨g', I2, e1, e2, e3, e4, e5⟩ := Inv.addrowsX rs (k + 1) (fun i => val (i + 1)) _ _ I1 (fun i r' hi => by
      obtain ⟨q1, q2⟩ := h (i + 1) r' hi
      refine ⟨q1, fun b hb => ?_⟩
      have V := q2 b hb
      refine ⟨V.S, fun j cs hj => ?_, fun j r'' hj => ?_, V.N⟩
      · obtain ⟨_, c0, hc0, _⟩ := kill_bx hj; exact V.bx j c0 hc0
      · by_cases hjk : j = k
        · subst hjk
          simp only [if_true]
          exact fun e => hd 0 (i + 1) r r' rfl hi (by omega) b e hb
        · simp only [hjk, if_false] at hj ⊢
          exact V.rw j r'' (kill_rw hj).2) (by simp at hkb; omega) (fun i j r1 r2 hi hj hne => hd (i + 1) (j + 1) r1 r2 hi hj (by omega))
    refine ⟨g', I2, e1, e2, fun i hi => ?_, fun j hj => ?_, fun j hj => ?_⟩
    · cases i with
      | zero => rw [Nat.add_zero, e4 k (by omega)]; simp
      | succ i => rw [show k + (i + 1) = k + 1 + i by omega]; exact e3 i (by simpa using hi)
    · rw [e4 j (by omega)]; simp [show j ≠ k by omega]
    · simp only [List.length_cons] at hj
      rw [e5 j (by omega)]; simp [show j ≠ k by omega]

section ops
variable {o : Oper} {d : Nat} {K : St → Prop} {K' : Act → World → Prop} {Q' : Exit → Act → World → Prop}

theorem noclash_ok : ∀ {ks : List Nat} {us : List (Option (List AV))} {b n i k : Nat} {es : List AV}, noclash ks us b n → ks[i]? = some k → us[i]? = some (some es) → k < b ∨ b + n ≤ k
  | [], _, b, n, i, k, es, _, h, _ => by simp at h
  | _ :: _, [], b, n, i, k, es, _, _, h => by simp at h
  | k0 :: ks, u :: us, b, n, 0, k, es, h, h1, h2 => by simp at h1 h2; subst h1; subst h2; exact h.1
  | k0 :: ks, some _ :: us, b, n, i + 1, k, es, h, h1, h2 => noclash_ok h.2 (by simpa using h1) (by simpa using h2)
  | k0 :: ks, none :: us, b, n, i + 1, k, es, h, h1, h2 => noclash_ok (show noclash ks us b n from h) (by simpa using h1) (by simpa using h2)

theorem addrows_rw_other : ∀ {rows : List Row} {k j : Nat} {s : St}, (j < k ∨ k + rows.length ≤ j) → (s.addrows k rows).rw j = s.rw j
  | [], k, j, s, _ => rfl
  | r :: rs, k, j, s, h => by
    have hne : j ≠ k := by rcases h with h | h; omega; simp at h; omega
    rw [St.addrows, addrows_rw_other (by rcases h with h | h; exact .inl (by omega); simp at h; exact .inr (by omega))]
    simp [St.kill, hne]
theorem addrows_rw_new : ∀ {rows : List Row} {k i : Nat} {s : St} {r : Row}, rows[i]? = some r → (s.addrows k rows).rw (k + i) = some r
  | [], k, i, s, r, h => by simp at h
  | r0 :: rs, k, 0, s, r, h => by
    simp at h; subst h
    rw [St.addrows, Nat.add_zero, addrows_rw_other (.inl (by omega))]
    simp
  | r0 :: rs, k, i + 1, s, r, h => by
    rw [St.addrows, show k + (i + 1) = (k + 1) + i by omega]
    exact addrows_rw_new (by simpa using h)
theorem addrows_bx : ∀ {rows : List Row} {k j : Nat} {s : St} {cs : List AV}, (s.addrows k rows).bx j = some cs → ∃ c0, s.bx j = some c0
  | [], k, j, s, cs, h => ⟨cs, h⟩
  | r :: rs, k, j, s, cs, h => by
    rw [St.addrows] at h
    obtain ⟨c0, h0⟩ := addrows_bx h
    obtain ⟨_, c1, h1, _⟩ := kill_bx h0
    exact ⟨c1, h1⟩
theorem addrows_bx_of : ∀ {rows : List Row} {k j : Nat} {s : St} {cs : List AV}, (j < k ∨ k + rows.length ≤ j) → s.bx j = some cs → ∃ c0, (s.addrows k rows).bx j = some c0
  | [], k, j, s, cs, _, h => ⟨cs, h⟩
  | r :: rs, k, j, s, cs, hj, h => by
    have hne : j ≠ k := by rcases hj with h | h; omega; simp at h; omega
    rw [St.addrows]
    exact addrows_bx_of (cs := deadL k cs) (by rcases hj with h | h; exact .inl (by omega); simp at h; exact .inr (by omega)) (by simp [St.kill, hne, h])

theorem call_cm (I : Inv c g s a w) (hK : ∀ g' s' a' w', Inv c g' s' a' w' → K s' → K' a' w') (hd : o.dst = some d) (hlt : d < c.nt)
    {f : FuncId} {xs : List X} {ps : List Operand} {bks rks : List Nat} {bin : List (List AV)} {rin : List Row} {Φ : AV → List (List AV) → List (Option (List AV)) → List Row → Prop}
    (hrun : (execOp a.eval o).run P w = .ok (.enter f (ps.map a.eval).toArray) w)
    (hx : xs.length = ps.length ∧ ∀ (i : Nat) (x : X) (p : Operand), xs[i]? = some x → ps[i]? = some p → chkX x p = true)
    (hnd : (bks ++ rks).Nodup) (hb : atBoxes s (ix bks) (ix rks) bks bin) (hr : atRows s rks rin) (hC : Con P f (xs.map fun x => ((s.get x).mp (ix bks) (ix rks)).rdt) bin rin Φ)
    (h : ∀ res bout upd new, bout.map List.length = bin.map List.length → upd.length = rin.length → Φ res bout upd new →
        new.length ≤ 1000 ∧ noclash rks upd (1000 * d + 1000) new.length ∧ noclashB (1000 * d + 1000) new.length bks ∧ K (afterM s d bks rks res bout upd new)) : o.wp P a w K' Q' := by
  obtain ⟨hb1, hb2⟩ := atBoxes_ok hb
  obtain ⟨hr1, hr2⟩ := atRows_ok hr
  have hndb : bks.Nodup := (List.nodup_append.1 hnd).1
  have hndr : rks.Nodup := (List.nodup_append.1 hnd).2.1
  have hdis : ∀ k, k ∈ bks → k ∉ rks := fun k h1 h2 => (List.nodup_append.1 hnd).2.2 k h1 k h2 rfl
  let G : Gh := { S := g.S, N := g.N, bb := fun i => g.bb (bks.getD i 0), rv := fun i => g.rv (rks.getD i 0) }
  have eB : ∀ i k, bks[i]? = some k → G.bb i = g.bb k := fun i k h => by simp [G, List.getD_eq_getElem?_getD, h]
  have eR : ∀ i k, rks[i]? = some k → G.rv i = g.rv k := fun i k h => by simp [G, List.getD_eq_getElem?_getD, h]
  have bkey : ∀ i cs, (hSt bin (rin.map some)).bx i = some cs → ∃ k c0, bks[i]? = some k ∧ s.bx k = some c0 ∧ cs = mpL (ix bks) (ix rks) c0 := by
    intro i cs h
    have h' : bin[i]? = some cs := h
    have hi : i < bks.length := by rw [hb1]; exact (List.getElem?_eq_some_iff.1 h').1
    obtain ⟨c0, q1, q2⟩ := hb2 i bks[i] cs (List.getElem?_eq_getElem hi) h'
    exact ⟨bks[i], c0, List.getElem?_eq_getElem hi, q1, q2⟩
  have rkey : ∀ i r, (hSt bin (rin.map some)).rw i = some r → ∃ k, rks[i]? = some k ∧ s.rw k = some r ∧ r.sh = false ∧ rin[i]? = some r := by
    intro i r h
    have h' : rin[i]? = some r := by
      simp only [hSt, List.getElem?_map] at h
      cases hh : rin[i]? with
      | none => simp [hh] at h
      | some r0 => simpa [hh] using h
    have hi : i < rks.length := by rw [hr1]; exact (List.getElem?_eq_some_iff.1 h').1
    obtain ⟨q1, q2⟩ := hr2 i rks[i] r (List.getElem?_eq_getElem hi) h'
    exact ⟨rks[i], List.getElem?_eq_getElem hi, q1, q2, h'⟩
  have toR : ∀ i k, ix rks i = some k → ∀ r', (hSt bin (rin.map some)).rw k = some r' → ∃ r, s.rw i = some r ∧ r'.sz = r.sz ∧ G.rv k = g.rv i := by
    intro i k hik r' hr'
    obtain ⟨k', h1, h2, _⟩ := rkey k r' hr'
    have := ix_ok hik
    rw [this] at h1; cases h1
    exact ⟨r', h2, rfl, eR k i this⟩
  have toB : ∀ i k, ix bks i = some k → ∀ c', (hSt bin (rin.map some)).bx k = some c' → ∃ c, s.bx i = some c ∧ G.bb k = g.bb i := by
    intro i k hik c' hc'
    obtain ⟨k', c0, h1, h2, _⟩ := bkey k c' hc'
    have := ix_ok hik
    rw [this] at h1; cases h1
    exact ⟨c0, h2, eB k i this⟩
  have H : Heap w G (hSt bin (rin.map some)) := by
    refine ⟨fun i cs h => ?_, fun i cs h => ?_, fun i r h => ?_, fun i r h => ?_, fun i i' cs cs' h h' hne => ?_, fun i i' cs r h h' => ?_, fun i i' r r' h h' hne b hb' => ?_, I.sw⟩
    · obtain ⟨k, c0, h1, h2, rfl⟩ := bkey i cs h
      rw [eB i k h1]
      exact (I.bxs k c0 h2).mp (g := g) (s := s) (g' := G) (s' := hSt bin (rin.map some)) (fun _ _ h => h) (fun _ h => h) (fun _ _ _ => rfl) toR toB rfl
    · obtain ⟨k, c0, h1, h2, rfl⟩ := bkey i cs h
      rw [eB i k h1]
      exact ⟨(I.bxn k c0 h2).1.1, (I.bxn k c0 h2).2⟩
    · obtain ⟨k, h1, h2, _⟩ := rkey i r h
      rw [eR i k h1]; exact I.rws k r h2
    · obtain ⟨k, h1, h2, h3, _⟩ := rkey i r h
      rw [eR i k h1]
      refine ⟨h3, fun b hb' => ⟨(I.rwn k r h2 b hb').1.1, fun o ho => ?_⟩⟩
      have := ((I.rwn k r h2 b hb').2 o ho).1
      rw [h3] at this; cases this
    · obtain ⟨k, c0, h1, h2, _⟩ := bkey i cs h
      obtain ⟨k', c1, h1', h2', _⟩ := bkey i' cs' h'
      rw [eB i k h1, eB i' k' h1']
      refine I.dbb k k' c0 c1 h2 h2' (fun e => hne ?_)
      subst e
      exact (List.getElem?_inj (List.getElem?_eq_some_iff.1 h1).1 hndb).1 (by rw [h1, h1'])
    · obtain ⟨k, c0, h1, h2, _⟩ := bkey i cs h
      obtain ⟨k', h1', h2', _⟩ := rkey i' r h'
      rw [eB i k h1, eR i' k' h1']
      exact I.dbr k k' c0 r h2 h2'
    · obtain ⟨k, h1, h2, _⟩ := rkey i r h
      obtain ⟨k', h1', h2', _⟩ := rkey i' r' h'
      rw [eR i k h1] at hb'; rw [eR i' k' h1']
      refine I.drr k k' r r' h2 h2' (fun e => hne ?_) b hb'
      subst e
      exact (List.getElem?_inj (List.getElem?_eq_some_iff.1 h1).1 hndr).1 (by rw [h1, h1'])
  have hargs : ∀ (i : Nat) (y : AV) (v : Value), (xs.map fun x => ((s.get x).mp (ix bks) (ix rks)).rdt)[i]? = some y → (ps.map a.eval)[i]? = some v → Gv w G (hSt bin (rin.map some)) y v := by
    intro i y v hy hv
    rw [List.getElem?_map] at hy hv
    obtain ⟨x0, h0, rfl⟩ := Option.map_eq_some_iff.1 hy
    obtain ⟨p0, hp0, rfl⟩ := Option.map_eq_some_iff.1 hv
    exact ((I.get (hx.2 i x0 p0 h0 hp0)).mp (g := g) (s := s) (g' := G) (s' := hSt bin (rin.map some)) (fun _ _ h => h) (fun _ h => h) (fun _ _ _ => rfl) toR toB).rdt
  have hc := hC w G (ps.map a.eval) H (fun b hb' => I.nn b (Nat.le_trans I.fr.size hb')) (by simp [hx.1]) hargs
  unfold Oper.wp
  rw [hrun, Oper.upon_enter]
  refine hc.mono fun e w' hq => ?_
  obtain ⟨v, rfl, hKp, res, bout, upd, new, hΦ, hbl, hul, g', hS2, hN, hbb, hrv, H', hnb, hgv⟩ := hq
  simp only [hd]
  obtain ⟨hn1, hn2, hn3, hk⟩ := h res bout upd new hbl hul hΦ
  have hbl' : bout.length = bin.length := by simpa using congrArg List.length hbl
  have hulr : rks.length = upd.length := by rw [hr1, hul]
  -- the blocks that the callee may have written
  have ownOf : ∀ b, OwnB G bin.length rin.length b → (∃ k c0, k ∈ bks ∧ s.bx k = some c0 ∧ g.bb k = b) ∨ (∃ k r, k ∈ rks ∧ s.rw k = some r ∧ r.sh = false ∧ (g.rv k).ownBlock = some b) := by
    intro b hb'
    rcases hb' with ⟨i, hi, e⟩ | ⟨i, hi, e⟩
    · obtain ⟨k, c0, h1, h2, _⟩ := bkey i bin[i] (List.getElem?_eq_getElem hi)
      rw [eB i k h1] at e
      exact .inl ⟨k, c0, List.mem_of_getElem? h1, h2, e⟩
    · obtain ⟨k, h1, h2, h3, _⟩ := rkey i rin[i] (by simp [hSt, List.getElem?_map, List.getElem?_eq_getElem hi])
      rw [eR i k h1] at e
      exact .inr ⟨k, rin[i], List.mem_of_getElem? h1, h2, h3, e⟩
  have hD : ∀ b, OwnB G bin.length rin.length b → Wr c g b ∧ ∀ o, ¬ g.S b o := by
    intro b hb'
    rcases ownOf b hb' with ⟨k, c0, _, h2, rfl⟩ | ⟨k, r, _, h2, h3, e⟩
    · exact I.bxn k c0 h2
    · refine ⟨(I.rwn k r h2 b e).1, fun o ho => ?_⟩
      have := ((I.rwn k r h2 b e).2 o ho).1
      rw [h3] at this; cases this
  have I1 := I.kill2 (drops rks upd)
  -- the rows that stay
  have kept : ∀ k r es, upf rks upd k = some es → s.rw k = some r → ∃ i, rks[i]? = some k ∧ upd[i]? = some (some es) ∧ rin[i]? = some r ∧ r.sh = false ∧ (hSt bout (outRows rin upd new)).rw i = some { r with es := es } ∧ g'.rv i = g.rv k := by
    intro k r es he hk'
    obtain ⟨i, h1, h2⟩ := upf_ok he
    have hi : i < rin.length := by rw [← hr1]; exact (List.getElem?_eq_some_iff.1 h1).1
    obtain ⟨q1, q2⟩ := hr2 i k rin[i] h1 (List.getElem?_eq_getElem hi)
    rw [hk'] at q1; cases q1
    refine ⟨i, h1, h2, List.getElem?_eq_getElem hi, q2, ?_, by rw [hrv i es h2, eR i k h1]⟩
    simp only [hSt, outRows_old (List.getElem?_eq_getElem hi) h2]
    rfl
  have boxat : ∀ k, k ∈ bks → ∃ i, bks[i]? = some k ∧ ∃ cs, bout[i]? = some cs ∧ (hSt bout (outRows rin upd new)).bx i = some cs ∧ g'.bb i = g.bb k ∧ ∃ c0, s.bx k = some c0 ∧ cs.length = c0.length := by
    intro k hk'
    obtain ⟨i, hi, e⟩ := List.getElem_of_mem hk'
    have h1 : bks[i]? = some k := by rw [List.getElem?_eq_getElem hi, e]
    have hib : i < bout.length := by omega
    have hii : i < bin.length := by omega
    obtain ⟨c0, q1, q2⟩ := hb2 i k bin[i] h1 (List.getElem?_eq_getElem hii)
    refine ⟨i, h1, bout[i], List.getElem?_eq_getElem hib, List.getElem?_eq_getElem hib, by rw [hbb i hii, eB i k h1], c0, q1, ?_⟩
    have := congrArg (fun l : List Nat => l[i]?) hbl
    simp only [List.getElem?_map, List.getElem?_eq_getElem hib, List.getElem?_eq_getElem hii, Option.map_some, Option.some.injEq] at this
    rw [this, q2, mpL_map]; simp
  have I2 := I1.switch (w' := w') (S' := fun b o => g.S b o ∨ g'.S b o) (D := OwnB G bin.length rin.length) bks rks upd hKp hD (fun _ _ h => .inl h)
    (fun b o h => h.elim .inl (fun h => hS2 b o h)) (fun b o h => h.elim (fun h => Nat.lt_of_lt_of_le (I.sw b o h) hKp.size) (fun h => H'.sw b o h))
    (fun k cs hk' hcs => by
      obtain ⟨_, c0, h0, hl⟩ := kills_bx hcs
      obtain ⟨i, h1, cs', h2, h3, h4, c0', h0', hl'⟩ := boxat k hk'
      rw [h0] at h0'; cases h0'
      obtain ⟨vs, ty, q1, q2, q3⟩ := H'.bxs i cs' h3
      rw [h4] at q1
      refine ⟨vs, ty, q1, by simp; omega, fun j x u hx hu => ?_⟩
      rw [List.getElem?_replicate] at hx
      split at hx
      · cases hx
        have hj : j < cs'.length := by rw [← q2]; exact (List.getElem?_eq_some_iff.1 hu).1
        exact ⟨.inr rfl, (q3 j _ u (List.getElem?_eq_getElem hj) hu).2.1, .bad u⟩
      · cases hx)
    (fun k cs hk' hcs o ho => by
      obtain ⟨_, c0, h0, hl⟩ := kills_bx hcs
      obtain ⟨i, h1, cs', h2, h3, h4, _⟩ := boxat k hk'
      rcases ho with ho | ho
      · exact (I.bxn k c0 h0).2 o ho
      · exact (H'.bxn i cs' h3).2 o (by rw [h4]; exact ho))
    (fun k cs hk' hcs hown => by
      obtain ⟨_, c0, h0, _⟩ := kills_bx hcs
      rcases ownOf _ hown with ⟨k', c1, q1, q2, q3⟩ | ⟨k', r, q1, q2, _, q3⟩
      · exact I.dbb k' k c1 c0 q2 h0 (fun e => hk' (e ▸ q1)) q3
      · exact I.dbr k k' c0 r h0 q2 q3)
    (fun k r hk' hr' => absurd hk' (kills_rw hr').1)
    (fun k r es he hr' => by
      obtain ⟨_, hr0⟩ := kills_rw hr'
      obtain ⟨i, h1, h2, h3, h4, h5, h6⟩ := kept k r es he hr0
      have := H'.rws i _ h5
      rw [h6] at this
      refine ⟨h4, this.mono (fun _ _ h => .inr h) hN (fun _ _ _ => rfl) (fun _ _ => rfl), fun b hb' o ho => ?_⟩
      rcases ho with ho | ho
      · have := ((I.rwn k r hr0 b hb').2 o ho).1
        rw [h4] at this; cases this
      · exact ((H'.rwn i _ h5).2 b (by rw [h6]; exact hb')).2 o ho)
    (fun k r he hr' b hb' hown => by
      obtain ⟨hnd', hr0⟩ := kills_rw hr'
      rcases ownOf _ hown with ⟨k', c1, q1, q2, q3⟩ | ⟨k', r', q1, q2, _, q3⟩
      · exact I.dbr k' k c1 r q2 hr0 (by rw [hb', q3])
      · by_cases e : k = k'
        · subst e
          obtain ⟨i, hi, e⟩ := List.getElem_of_mem q1
          exact hnd' (drops_mem (by rw [List.getElem?_eq_getElem hi, e]) (upf_none hulr hndr (by rw [List.getElem?_eq_getElem hi, e]) he))
        · exact I.drr k k' r r' hr0 q2 e b hb' q3)
  -- what is in state now
  have rw2 : ∀ k r', (setRows s bks rks upd).rw k = some r' → (∃ i es r, rks[i]? = some k ∧ upd[i]? = some (some es) ∧ (hSt bout (outRows rin upd new)).rw i = some r' ∧ g'.rv i = g.rv k ∧ s.rw k = some r) ∨ (k ∉ rks ∧ s.rw k = some r') := by
    intro k r' h'
    simp only [setRows] at h'
    split at h'
    · rename_i es he
      obtain ⟨r, h1, rfl⟩ := Option.map_eq_some_iff.1 h'
      obtain ⟨_, h2⟩ := kills_rw h1
      obtain ⟨i, q1, q2, q3, q4, q5, q6⟩ := kept k r es he h2
      exact .inl ⟨i, es, r, q1, q2, q5, q6, h2⟩
    · rename_i he
      obtain ⟨h1, h2⟩ := kills_rw h'
      refine .inr ⟨fun hm => ?_, h2⟩
      obtain ⟨i, hi, e⟩ := List.getElem_of_mem hm
      exact h1 (drops_mem (by rw [List.getElem?_eq_getElem hi, e]) (upf_none hulr hndr (by rw [List.getElem?_eq_getElem hi, e]) he))
  have newrow : ∀ j r, new[j]? = some r → (hSt bout (outRows rin upd new)).rw (rin.length + j) = some r := by
    intro j r hj
    simp only [hSt, outRows_new hul, hj]
    rfl
  obtain ⟨g3, I3, e1, e2, e3, e4, e5⟩ := Inv.addrowsX new (1000 * d + 1000) (fun j => g'.rv (rin.length + j)) { g with S := fun b o => g.S b o ∨ g'.S b o } (setRows s bks rks upd) I2 (fun j r hj => by
    have hj' := newrow j r hj
    refine ⟨(H'.rws _ _ hj').mono (fun _ _ h => .inr h) hN (fun _ _ _ => rfl) (fun _ _ => rfl), fun b hb' => ?_⟩
    have hsn := (H'.rwn _ _ hj').2 b hb'
    have hbnd := row_lt (H'.rws _ _ hj') hb'
    refine ⟨fun o ho => ?_, fun k cs hk' => ?_, fun k r' hk' => ?_, ?_⟩
    · rcases ho with ho | ho
      · rcases hnb j r hj b hb' with h' | h'
        · have := I.sw b o ho; omega
        · exact (hD b h').2 o ho
      · exact hsn.2 o ho
    · have : ∃ c0, s.bx k = some c0 ∧ (k ∈ bks ∨ k ∉ bks) := by
        simp only [setRows] at hk'
        split at hk'
        · rename_i hm
          obtain ⟨c1, h1, _⟩ := Option.map_eq_some_iff.1 hk'
          obtain ⟨_, c0, h0, _⟩ := kills_bx h1
          exact ⟨c0, h0, .inl hm⟩
        · rename_i hm
          obtain ⟨_, c0, h0, _⟩ := kills_bx hk'
          exact ⟨c0, h0, .inr hm⟩
      obtain ⟨c0, h0, hm⟩ := this
      rcases hm with hm | hm
      · obtain ⟨i, q1, cs', q2, q3, q4, _⟩ := boxat k hm
        show g.bb k ≠ b
        rw [← q4]
        exact fun e => H'.dbr i (rin.length + j) cs' r q3 hj' (by rw [hb', e])
      · rcases hnb j r hj b hb' with h' | h'
        · show g.bb k ≠ b
          have := box_lt (I.bxs k c0 h0)
          omega
        · show g.bb k ≠ b
          intro e
          rcases ownOf _ h' with ⟨k', c1, q1, q2, q3⟩ | ⟨k', r', q1, q2, _, q3⟩
          · exact I.dbb k' k c1 c0 q2 h0 (fun e' => hm (e' ▸ q1)) (by rw [q3, e])
          · exact I.dbr k k' c0 r' h0 q2 (by rw [q3, e])
    · show (g.rv k).ownBlock ≠ some b
      rcases rw2 k r' hk' with ⟨i, es, r0, q1, q2, q3, q4, q5⟩ | ⟨q1, q2⟩
      · rw [← q4]
        exact fun e => H'.drr i (rin.length + j) r' r q3 hj' (by have := (List.getElem?_eq_some_iff.1 q1).1; omega) b e hb'
      · rcases hnb j r hj b hb' with h' | h'
        · intro e
          have := row_lt (I.rws k r' q2) e
          omega
        · intro e
          rcases ownOf _ h' with ⟨k', c1, p1, p2, p3⟩ | ⟨k', r1, p1, p2, _, p3⟩
          · exact I.dbr k' k c1 r' p2 q2 (by rw [e, p3])
          · exact I.drr k k' r' r1 q2 p2 (fun e' => q1 (e' ▸ p1)) b e p3
    · refine ⟨hN b hsn.1, fun hlt' => ?_⟩
      rcases hnb j r hj b hb' with h' | h'
      · have := I.fr.size; omega
      · exact (hD b h').1.2 hlt') (by have := c.ntb; omega) (fun i j r r' hi hj hne b hb' => H'.drr _ _ r r' (newrow i r hi) (newrow j r' hj) (by omega) b hb')
  -- names
  have nR : ∀ i k, frB rks upd (1000 * d + 1000) new.length i = some k → ∀ r', ((setRows s bks rks upd).addrows (1000 * d + 1000) new).rw k = some r' → ∃ r, (hSt bout (outRows rin upd new)).rw i = some r ∧ r'.sz = r.sz ∧ g3.rv k = g'.rv i := by
    intro i k hik r' hr'
    simp only [frB] at hik
    split at hik
    · rename_i hi
      split at hik
      · rename_i es hu
        have hcl := noclash_ok hn2 hik hu
        rw [addrows_rw_other hcl] at hr'
        have hkr := List.mem_of_getElem? hik
        rcases rw2 k r' hr' with ⟨i', es', r0, q1, q2, q3, q4, q5⟩ | ⟨q1, q2⟩
        · have : i' = i := (List.getElem?_inj (List.getElem?_eq_some_iff.1 q1).1 hndr).1 (by rw [q1, hik])
          subst this
          refine ⟨r', q3, rfl, ?_⟩
          rw [q4]
          rcases hcl with hcl | hcl
          · exact e4 k hcl
          · exact e5 k hcl
        · exact absurd hkr q1
      · cases hik
    · rename_i hi
      split at hik
      · rename_i hin
        cases hik
        have hj : new[i - rks.length]? = some new[i - rks.length] := List.getElem?_eq_getElem hin
        rw [addrows_rw_new hj] at hr'
        cases hr'
        have := newrow _ _ hj
        rw [show rin.length + (i - rks.length) = i by omega] at this
        refine ⟨_, this, rfl, ?_⟩
        rw [e3 _ hin, show rin.length + (i - rks.length) = i by omega]
      · cases hik
  have nB : ∀ i k, fbB bks i = some k → ∀ c', ((setRows s bks rks upd).addrows (1000 * d + 1000) new).bx k = some c' → ∃ c, (hSt bout (outRows rin upd new)).bx i = some c ∧ g3.bb k = g'.bb i := by
    intro i k hik c' hc'
    obtain ⟨i', h1, cs, h2, h3, h4, _⟩ := boxat k (List.mem_of_getElem? hik)
    have : i' = i := (List.getElem?_inj (List.getElem?_eq_some_iff.1 h1).1 hndb).1 (by rw [h1]; exact hik.symm)
    subst this
    exact ⟨cs, h3, by rw [h4, e2.2]⟩
  have nS : ∀ b o, g'.S b o → g3.S b o := fun b o h => by rw [e1]; exact .inr h
  have nN : ∀ b, g'.N b → g3.N b := fun b h => by rw [e2.1]; exact hN b h
  have I4 := I3.reboxes (bxf bks (bout.map (mpL (fbB bks) (frB rks upd (1000 * d + 1000) new.length)))) (fun k cs' hk' => by
    obtain ⟨i, h1, h2⟩ := bxf_ok hk'
    rw [List.getElem?_map] at h2
    obtain ⟨cs, h3, rfl⟩ := Option.map_eq_some_iff.1 h2
    have hm := List.mem_of_getElem? h1
    obtain ⟨i', q1, cs2, q2, q3, q4, c0, q5, _⟩ := boxat k hm
    have hii : i' = i := (List.getElem?_inj (List.getElem?_eq_some_iff.1 q1).1 hndb).1 (by rw [q1, h1])
    subst hii
    rw [q2] at h3; cases h3
    refine ⟨?_, ?_⟩
    · obtain ⟨c1, hc1, _⟩ := kills_bx_of (ks := drops rks upd) (fun hd' => hdis k hm (drops_sub hd')) q5
      exact addrows_bx_of (hn3 k hm) (cs := List.replicate c1.length .bad) (by simp [setRows, hm, hc1])
    · have hh := H'.bxs i' cs q3
      rw [e2.2]
      show BoxOk w' g3 _ (g.bb k) _
      rw [← q4]
      exact hh.mp nS nN (fun _ _ _ => rfl) nR nB rfl)
  refine hK _ _ _ _ (I4.put hlt (x := res.mp (fbB bks) (frB rks upd (1000 * d + 1000) new.length)) (v := v) ?_) hk
  have T : Turn (fun _ => True) w' w' g3 g3 ((setRows s bks rks upd).addrows (1000 * d + 1000) new) (setBoxes ((setRows s bks rks upd).addrows (1000 * d + 1000) new) bks (bout.map (mpL (fbB bks) (frB rks upd (1000 * d + 1000) new.length)))) :=
    ⟨fun _ _ h => h, fun _ h => h, fun _ _ _ => rfl, fun j _ r h => ⟨r, h, rfl, rfl⟩, fun j _ c' h => by
      simp only [setBoxes] at h
      split at h
      · rename_i cs e
        obtain ⟨i, h1, _⟩ := bxf_ok e
        have hm := List.mem_of_getElem? h1
        obtain ⟨_, _, _, _, _, _, c0, q5, _⟩ := boxat j hm
        obtain ⟨c1, hc1, _⟩ := kills_bx_of (ks := drops rks upd) (fun hd' => hdis j hm (drops_sub hd')) q5
        obtain ⟨c2, hc2⟩ := addrows_bx_of (hn3 j hm) (s := setRows s bks rks upd) (cs := List.replicate c1.length .bad) (by simp [setRows, hm, hc1])
        exact ⟨c2, hc2, rfl⟩
      · exact ⟨c', h, rfl⟩⟩
  exact (hgv.mp nS nN (fun _ _ _ => rfl) nR nB).turn T

theorem sok_cm (I : Inv c g s a w) (hK : ∀ g' s' a' w', Inv c g' s' a' w' → K s' → K' a' w') (hd : o.dst = some d) (hlt : d < c.nt)
    {f : FuncId} {xs : List X} {ps : List Operand} {ts : Array TypeId} (ho : o.op = .call { callee := .value (.func f), args := ps.toArray, argTypes := ts }) (hf : isFn P f = true)
    (hx : xs.length = ps.length ∧ ∀ (i : Nat) (x : X) (p : Operand), xs[i]? = some x → ps[i]? = some p → chkX x p = true) (h : wop P (.cm d f xs) K s) : o.wp P a w K' Q' := by
  simp only [wop] at h
  obtain ⟨bks, rks, bin, rin, h1, h2, h3, Φ, h4, h5⟩ := h
  exact call_cm I hK hd hlt (run_static ho hf) hx h1 h2 h3 h4 h5
theorem call_cn (I : Inv c g s a w) (hK : ∀ g' s' a' w', Inv c g' s' a' w' → K s' → K' a' w') (hd : o.dst = some d) (hlt : d < c.nt)
    {f : FuncId} {as : List AV} {Ψ : List AV → Prop} {vs : List Value} (hrun : (execOp a.eval o).run P w = .ok (.enter f vs.toArray) w)
    (hvs : vs.length = as.length ∧ ∀ (i : Nat) (y : AV) (v : Value), as[i]? = some y → vs[i]? = some v → Rd w g.S (fun _ => False) y v)
    (hs : SndB P f as Ψ) (h : ∀ cs, Ψ cs → K (St.set { s.kill d with bx := fun j => if j = d then some (deadL d cs) else (s.kill d).bx j } d (.ptr d 0))) : o.wp P a w K' Q' := by
  have hc := hs w g.S (fun _ => False) vs I.sw hvs.1 hvs.2
  unfold Oper.wp
  rw [hrun, Oper.upon_enter]
  refine hc.mono fun e w' hq => ?_
  obtain ⟨b, rfl, hb, hge, cs, hΨ, S2, us, ty, hS2, hnb, hblk, hlen, hcell⟩ := hq
  simp only [hd]
  have I1 := I.grow (w' := w') (S' := fun b o => g.S b o ∨ S2 b o) hb.os hb.tape hb.output hb.size (fun k hk => hb.block k hk) (fun _ _ h => .inl h) (fun b o h => by
    rcases h with h | h
    · exact .inl h
    · exact hS2 b o h)
  have V := I.vac hge
  have I2 := I1.addbox d b cs ⟨us, ty, hblk, hlen, fun i x u hx hu => by
    obtain ⟨q1, q2, q3⟩ := hcell i x u hx hu
    exact ⟨.inl q1, q2, .data _ _ (q3.mono (fun _ _ h => .inr h) (fun _ h => h.elim) (fun _ _ _ => rfl))⟩⟩ ⟨fun o' ho' => by
      rcases ho' with ho' | ho'
      · exact V.S o' ho'
      · exact hnb o' ho', V.bx, V.rw, V.N⟩ (by have := c.ntb; omega)
  refine hK _ _ _ _ (I2.put hlt (x := .ptr d 0) (v := .pointer (some ⟨b, 0, none⟩)) (.ptr d 0 _ rfl fun cs' _ => by simp)) (h cs hΨ)
theorem sok_cn (I : Inv c g s a w) (hK : ∀ g' s' a' w', Inv c g' s' a' w' → K s' → K' a' w') (hd : o.dst = some d) (hlt : d < c.nt)
    {f : FuncId} {xs : List X} {ps : List Operand} {ts : Array TypeId} (ho : o.op = .call { callee := .value (.func f), args := ps.toArray, argTypes := ts }) (hf : isFn P f = true)
    (hx : xs.length = ps.length ∧ ∀ (i : Nat) (x : X) (p : Operand), xs[i]? = some x → ps[i]? = some p → chkX x p = true) (h : wop P (.cn d f xs) K s) : o.wp P a w K' Q' := by
  simp only [wop] at h
  obtain ⟨as, has, hns, Ψ, hs, h⟩ := h
  refine call_cn I hK hd hlt (run_static ho hf) ?_ hs h
  unfold St.args at has
  split at has
  · rename_i l hl
    cases has
    have hlen := dtL_len hl
    rw [rdtL_map]
    refine ⟨by simp at hlen ⊢; omega, fun i y v hy hv => ?_⟩
    rw [List.getElem?_map] at hy hv
    obtain ⟨y0, h0, rfl⟩ := Option.map_eq_some_iff.1 hy
    obtain ⟨p0, hp0, rfl⟩ := Option.map_eq_some_iff.1 hv
    have hi : i < xs.length := by rw [hx.1]; exact (List.getElem?_eq_some_iff.1 hp0).1
    have hxi : (xs.map s.get)[i]? = some (s.get xs[i]) := by simp [hi]
    have hn : nosr (s.get xs[i]) = true := List.all_eq_true.1 hns _ (List.mem_of_getElem? hxi)
    exact (I.plain hn (dtL_get hl i _ y0 hxi h0) (I.get (hx.2 i xs[i] p0 (List.getElem?_eq_getElem hi) hp0))).rdt
  · cases has
end ops
end
end Go.Proofs.Ythbbieobcokgbaa.Eng
