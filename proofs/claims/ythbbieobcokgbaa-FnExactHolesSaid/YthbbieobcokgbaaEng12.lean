/-
  The engine, part 12: soundness of slice literals, make, cuts of slices and strings, bytes and strings.
-/
import Derived.Test.YthbbieobcokgbaaEng11
namespace Go.Proofs.Ythbbieobcokgbaa.Eng
open Go Go.RowKit

section
variable {P : Program} {c : Cx} {g : Gh} {s : St} {a : Act} {w : World}

theorem cells_one {y : AV} (h : y.one = true) : y.cells = [y] := by
  cases y with
  | agg cs => cases h
  | _ => rfl
theorem fill_all (size n : Nat) : ∀ (vs : List Value) (k : Nat) (cs : List Value), cs.length = n * size → k + vs.length = n → (∀ v ∈ vs, v.cells.size = size) →
    Instr.fill (fun i => some (i * size, size)) cs.toArray (vs.zipIdx k |>.map fun (v, i) => (i, v)) = some ((cs.take (k * size)) ++ vs.flatMap (fun v => v.cells.toList)).toArray
  | [], k, cs, hl, hk, _ => by
    simp only [List.length_nil, Nat.add_zero] at hk
    subst hk
    simp [Instr.fill, List.take_of_length_le (Nat.le_of_eq hl)]
  | v :: vs, k, cs, hl, hk, hv => by
    have hvs : v.cells.size = size := hv v (by simp)
    simp only [List.length_cons] at hk
    have hle : k * size + size ≤ n * size := by rw [← Nat.succ_mul]; exact Nat.mul_le_mul_right _ (by omega)
    simp only [List.zipIdx_cons, List.map_cons, Instr.fill]
    rw [if_neg (by simp [hvs, hl]; omega)]
    have hf := foldl_set (k * size) v.cells.toList 0 cs.toArray (by simp [hvs, hl]; omega)
    simp only [Nat.add_zero] at hf
    have e : (v.cells.zipIdx.foldl (fun cs (x : Value × Nat) => cs.setIfInBounds (k * size + x.2) x.1) cs.toArray) = (putV cs (k * size) v.cells.toList).toArray := by
      rw [← hf, ← Array.foldl_toList]; simp
    have e' : (Array.foldl (fun cs x => cs.setIfInBounds (k * size + x.2) x.1) cs.toArray v.cells.zipIdx) = (putV cs (k * size) v.cells.toList).toArray := e
    have ih := fill_all size n vs (k + 1) (putV cs (k * size) v.cells.toList) (by rw [putV_len (by simp [hvs, hl]; omega)]; exact hl) (by omega) (fun u hu => hv u (by simp [hu]))
    simp only [e']
    rw [ih]
    congr 1
    congr 1
    simp only [List.flatMap_cons]
    rw [← List.append_assoc]
    congr 1
    unfold putV
    exact List.take_left' (by rw [List.length_append, List.length_take, show v.cells.toList.length = size from by simpa using hvs, Nat.succ_mul]; omega)

section ops
variable {o : Oper} {d : Nat} {K : St → Prop} {K' : Act → World → Prop} {Q' : Exit → Act → World → Prop}

theorem dtL_len : ∀ {l m : List AV}, s.dtL l = some m → l.length = m.length
  | [], m, h => by simp only [St.dtL, Option.some.injEq] at h; subst h; rfl
  | x :: l, m, h => by
    simp only [St.dtL] at h
    split at h
    · rename_i x' y' e1 e2
      simp only [Option.some.injEq] at h; subst h
      simp [dtL_len e2]
    · cases h
theorem dtL_get : ∀ {l m : List AV}, s.dtL l = some m → ∀ (i : Nat) (x y : AV), l[i]? = some x → m[i]? = some y → s.dt x = some y
  | [], m, h, i, x, y, hx, _ => by simp at hx
  | x0 :: l, m, h, i, x, y, hx, hy => by
    simp only [St.dtL] at h
    split at h
    · rename_i x' y' e1 e2
      simp only [Option.some.injEq] at h; subst h
      cases i with
      | zero => simp at hx hy; subst hx; subst hy; exact e1
      | succ i => simp at hx hy; exact dtL_get e2 i x y hx hy
    · cases h

theorem sok_bs (I : Inv c g s a w) (hK : ∀ g' s' a' w', Inv c g' s' a' w' → K s' → K' a' w') (hd : o.dst = some d) (hlt : d < c.nt)
    {ps : List X} {qs : List Operand} {t e : TypeId} {sz : Nat} {own : Bool} {zv : Value} (ho : o.op = .buildSlice t qs.length (qs.zipIdx.map fun (q, i) => (i, q)).toArray) (ht : P.underlying t = some (.slice e))
    (hsz : tsz P e = some sz) (hz : ((P.info? e).bind (·.zero)) = some zv)
    (hx : ps.length = qs.length ∧ ∀ (i : Nat) (x : X) (p : Operand), ps[i]? = some x → qs[i]? = some p → chkX x p = true)
    (h : wop P (.bs d sz ps own) K s) : o.wp P a w K' Q' := by
  simp only [wop] at h
  split at h
  · rename_i es hes
    obtain ⟨h0, h1, h2, h3, h⟩ := h
    have hlen : es.length = qs.length := by have := dtL_len hes; simp at this; omega
    -- each part, as data
    have hpart : ∀ (i : Nat) (y : AV) (q : Operand), es[i]? = some y → qs[i]? = some q → Rd w g.S g.N y (a.eval q) := by
      intro i y q hy hq
      have hi : i < ps.length := by have := (List.getElem?_eq_some_iff.1 hq).1; omega
      have hxi : (ps.map s.get)[i]? = some (s.get ps[i]) := by simp [hi]
      have hdt := dtL_get hes i _ y hxi hy
      have hn : nosr (s.get ps[i]) = true := by
        rw [List.all_eq_true] at h0
        exact h0 _ (List.mem_of_getElem? hxi)
      exact I.plain hn hdt (I.get (hx.2 i ps[i] q (List.getElem?_eq_getElem hi) hq))
    have hcl : ∀ (i : Nat) (y : AV) (q : Operand), es[i]? = some y → qs[i]? = some q → (a.eval q).cells.size = sz ∧ y.cells.length = sz := by
      intro i y q hy hq
      have hr := hpart i y q hy hq
      obtain ⟨us, hu, hul, _⟩ := (Gv.data (s := s) y _ hr).cells (hr.allOne id)
      have := h1 y (List.mem_of_getElem? hy)
      exact ⟨by rw [hu]; simp; omega, this⟩
    have hvs : ∀ v ∈ qs.map a.eval, v.cells.size = sz := by
      intro v hv
      obtain ⟨q, hq, rfl⟩ := List.mem_map.1 hv
      obtain ⟨i, hi, rfl⟩ := List.getElem_of_mem hq
      exact (hcl i es[i] _ (List.getElem?_eq_getElem (by omega)) (List.getElem?_eq_getElem hi)).1
    -- what the block holds
    have hcells : ∀ (j : Nat) (x : AV) (u : Value), (flat es)[j]? = some x → ((qs.map a.eval).flatMap fun v => v.cells.toList)[j]? = some u → x.one = true ∧ u.oneCell' = true ∧ Rd w g.S g.N x u := by
      have key : ∀ (es : List AV) (vs : List Value), es.length = vs.length → (∀ (i : Nat) (y : AV) (v : Value), es[i]? = some y → vs[i]? = some v → Rd w g.S g.N y v) →
          ∀ (j : Nat) (x : AV) (u : Value), (flat es)[j]? = some x → (vs.flatMap fun v => v.cells.toList)[j]? = some u → x.one = true ∧ u.oneCell' = true ∧ Rd w g.S g.N x u := by
        intro es
        induction es with
        | nil => intro vs _ _ j x u h; simp [flat] at h
        | cons y l ih =>
          intro vs hl hc j x u hx hu
          match vs, hl with
          | v :: vs, hl =>
            have hr := hc 0 y v rfl rfl
            obtain ⟨us, hus, hul, hua⟩ := (Gv.data (s := s) y _ hr).cells (hr.allOne id)
            have hvt : v.cells.toList = us := by rw [hus]
            simp only [flat, List.flatMap_cons, hvt] at hx hu
            by_cases hj : j < us.length
            · rw [List.getElem?_append_left (by omega)] at hx
              rw [List.getElem?_append_left hj] at hu
              have := hua j x u hx hu
              exact ⟨this.1, this.2.1, hr.cell hx (by rw [hus]; simpa using hu)⟩
            · rw [List.getElem?_append_right (by omega)] at hx
              rw [List.getElem?_append_right (by omega)] at hu
              rw [hul] at hx
              exact ih vs (by simpa using hl) (fun i => hc (i + 1)) _ x u hx hu
      exact key es (qs.map a.eval) (by simp [hlen]) (fun i y v hy hv => by
        rw [List.getElem?_map] at hv
        obtain ⟨q, hq, rfl⟩ := Option.map_eq_some_iff.1 hv
        exact hpart i y q hy hq)
    have hflen : ((qs.map a.eval).flatMap fun v => v.cells.toList).length = es.length * sz := by
      have : ∀ (vs : List Value), (∀ v ∈ vs, v.cells.size = sz) → (vs.flatMap fun v => v.cells.toList).length = vs.length * sz := by
        intro vs
        induction vs with
        | nil => simp
        | cons v l ih => intro hv; simp [ih (fun u hu => hv u (by simp [hu])), hv v (by simp), Nat.succ_mul]; omega
      rw [this _ hvs]; simp [hlen]
    have hrun : (execOp a.eval o).run P w = .ok (.value (.slice (some ⟨w.heap.size, 0, none⟩) es.length es.length)) (w.alloc (.cells ((qs.map a.eval).flatMap fun v => v.cells.toList).toArray e)) := by
      have hfa : ∀ zz : Array Value, Instr.fill (fun i => some (i * sz, sz)) ((Array.range (qs.length * sz)).map (zz[· % zz.size]!)) (((qs.map a.eval).zipIdx 0).map fun (v, i) => (i, v)) = some ((qs.map a.eval).flatMap fun v => v.cells.toList).toArray := by
        intro zz
        have hfa := fill_all sz qs.length (qs.map a.eval) 0 ((Array.range (qs.length * sz)).map (zz[· % zz.size]!)).toList (by simp) (by simp) hvs
        simpa only [Array.toArray_toList, Nat.zero_mul, List.take_zero, List.nil_append] using hfa
      have e2 : ((qs.zipIdx.map fun (q, i) => (i, q)).toArray.map fun (i, x) => (i, a.eval x)).toList = ((qs.map a.eval).zipIdx 0).map fun (v, i) => (i, v) := by
        simp [List.zipIdx_map]
      have hle : ¬ (qs.length * sz > 2 ^ 24) := by rw [← hlen]; omega
      simp only [execOp, ho, Sem.run_bind, Instr.buildSlice, run_underlying ht, Result.andThen_ok, run_sizeOf' hsz, if_neg hle, Sem.run_pure]
      rw [e2]
      by_cases hq0 : qs.length * sz = 0
      · simp only [hq0, if_true]
        have := hfa #[]
        rw [hq0] at this
        simp only [Sem.run_bind, Sem.run_pure, Result.andThen_ok, this]
        simp [newRow, hlen]
      · simp only [hq0, if_false]
        simp only [Sem.run_bind, run_zero hz, Sem.run_pure, Result.andThen_ok, hfa]
        simp [newRow, hlen]
    have hnew := heap_alloc_new w (.cells ((qs.map a.eval).flatMap fun v => v.cells.toList).toArray e)
    have hold : ∀ b, b < w.heap.size → (w.alloc (.cells ((qs.map a.eval).flatMap fun v => v.cells.toList).toArray e)).heap[b]? = w.heap[b]? := fun b hb => heap_alloc_old w _ hb
    have hml : es.length ≤ maxLen := by simp only [maxLen]; omega
    have T0 : ∀ b o, g.S b o → (w.alloc (.cells ((qs.map a.eval).flatMap fun v => v.cells.toList).toArray e)).cell? ⟨b, o, none⟩ = w.cell? ⟨b, o, none⟩ := fun b o ho => World.cell?_of_block (hold b (I.sw b o ho))
    have hrow : ∀ S', (∀ b o, g.S b o → S' b o) → RowOk (w.alloc (.cells ((qs.map a.eval).flatMap fun v => v.cells.toList).toArray e)) S' g.N ⟨sz, es, false⟩ (.slice (some ⟨w.heap.size, 0, none⟩) es.length es.length) := fun S' hS' =>
      ⟨(qs.map a.eval).flatMap fun v => v.cells.toList, e, ⟨hflen, .inr ⟨w.heap.size, es.length, _, rfl, Nat.zero_le _, hnew, Nat.le_refl _, hml, by rw [List.size_toArray]; exact hflen, List.take_of_length_le (Nat.le_of_eq hflen)⟩⟩, h1,
        fun j x u hx hu => ⟨(hcells j x u hx hu).1, (hcells j x u hx hu).2.1, (hcells j x u hx hu).2.2.mono hS' (fun _ h => h) T0⟩⟩
    cases own with
    | true =>
      simp only [if_true] at h
      have I1 := I.grow (w' := w.alloc (.cells ((qs.map a.eval).flatMap fun v => v.cells.toList).toArray e)) (S' := g.S) rfl rfl rfl (by simp) hold (fun _ _ h => h) (fun _ _ h => .inl h)
      have I2 := I1.addrow d ⟨sz, es, false⟩ _ (hrow g.S (fun _ _ h => h)) (fun b hb => by
        simp only [Value.ownBlock, Option.some.injEq] at hb; subst hb
        exact I.vac (Nat.le_refl _)) (by have := c.ntb; omega)
      exact sok hK hd hlt hrun I2 (.sref d _ rfl fun r0 _ => by simp) h
    | false =>
      simp only [Bool.false_eq_true, if_false] at h
      have I1 := I.grow (w' := w.alloc (.cells ((qs.map a.eval).flatMap fun v => v.cells.toList).toArray e)) (S' := fun b o => g.S b o ∨ (b = w.heap.size)) rfl rfl rfl (by simp) hold (fun _ _ h => .inl h) (fun b o h => by
        rcases h with h | h
        · exact .inl h
        · exact .inr ⟨by omega, by subst h; simp⟩)
      refine sok hK hd hlt hrun I1 (.data _ _ (row_data (hrow _ (fun _ _ h => .inl h)) (fun b o hb _ => ?_) (fun b hb => ?_) .nw)) h
      · simp only [Value.ownBlock, Option.some.injEq] at hb; exact .inr hb.symm
      · simp only [Value.ownBlock, Option.some.injEq] at hb; subst hb; exact I.nn _ I.fr.size
  · exact h.elim

theorem replicate_flat (n sz : Nat) (e : AV) (he : e.cells.length = sz) (j : Nat) (x : AV) (hx : (flat (List.replicate n e))[j]? = some x) : j < n * sz ∧ e.cells[j % sz]? = some x := by
  induction n generalizing j with
  | zero => simp [flat] at hx
  | succ n ih =>
    simp only [List.replicate_succ, flat, List.flatMap_cons] at hx ih
    by_cases hj : j < sz
    · rw [List.getElem?_append_left (by omega)] at hx
      exact ⟨by rw [Nat.succ_mul]; omega, by rw [Nat.mod_eq_of_lt hj]; exact hx⟩
    · rw [List.getElem?_append_right (by omega), he] at hx
      obtain ⟨q1, q2⟩ := ih (j - sz) hx
      exact ⟨by rw [Nat.succ_mul]; omega, by rw [Nat.mod_eq_sub_mod (by omega)]; exact q2⟩

theorem sok_ms (I : Inv c g s a w) (hK : ∀ g' s' a' w', Inv c g' s' a' w' → K s' → K' a' w') (hd : o.dst = some d) (hlt : d < c.nt)
    {x : X} {p : Operand} {t e : TypeId} {i : TypeInfo} {zv : Value} {z : List AV} {sz by' : Nat} (ho : o.op = .makeSlice t p p) (ht : P.underlying t = some (.slice e))
    (hi : P.info? e = some i) (hz : i.zero = some zv) (hs : i.size = sz) (hby : i.bytes = by') (hzm : vmL z zv.cells.toList = true) (hz1 : allOne z = true) (hzl : z.length = sz) (hsz0 : 0 < sz)
    (hx : chkX x p = true) (h : wop P (.ms d sz by' z x) K s) : o.wp P a w K' Q' := by
  simp only [wop] at h
  have gx := I.get hx
  split at h
  · rename_i k m hm
    rw [hm] at gx
    obtain ⟨h1, h2, h3, h⟩ := h
    obtain ⟨n, rfl⟩ := Int.eq_ofNat_of_zero_le h1
    have hmax : n ≤ maxLen := by simp only [maxLen]; omega
    have hbn : i.bytes * n ≤ 140737488355328 := by
      rw [hby]
      have h2' : ((by' * n : Nat) : Int) ≤ 140737488355328 := by rw [Int.natCast_mul]; exact h2
      omega
    obtain ⟨w', r1, r2, r3⟩ := run_make_full (P := P) w 0 t e i zv sz ht hi hz hs k k n (by omega) hmax (Nat.zero_le _)
    simp only [Int.toNat_natCast] at h
    have hel : ∀ (n : Nat), ((if sz = 1 then z.getD 0 .bad else .agg z : AV)).cells.length = sz ∧ (if sz = 1 then z.getD 0 .bad else .agg z : AV).cells = z := by
      intro _
      split
      · rename_i h1
        match z, hz1, (hzl.trans h1 : z.length = 1) with
        | [y], hz1, _ =>
          have : y.cells = [y] := cells_one (by simpa [allOne] using hz1)
          show y.cells.length = sz ∧ y.cells = [y]
          rw [this]; exact ⟨h1.symm, rfl⟩
      · exact ⟨hzl, rfl⟩
    have hold : ∀ b, b < w.heap.size → w'.heap[b]? = w.heap[b]? := fun b hb => r3.block b hb (by simp)
    have hal := al_zero (w := w) (g := g) (s := s) hzm hz1
    have hrow : RowOk w' g.S g.N ⟨sz, List.replicate n (if sz = 1 then z.getD 0 .bad else .agg z), false⟩ (.slice (some ⟨w.heap.size, 0, none⟩) n n) := by
      refine ⟨_, e, by simpa using r2, fun y hy => by rw [List.eq_of_mem_replicate hy]; exact (hel 0).1, fun j y u hy hu => ?_⟩
      obtain ⟨q1, q2⟩ := replicate_flat n sz _ (hel 0).1 j y hy
      rw [(hel 0).2] at q2
      have hzs : zv.cells.size = sz := by have := hal.1; simp at this; omega
      have hu' : u = zv.cells[j % zv.cells.size]! := by
        simp only [madeCells, Array.toList_map, List.getElem?_map, Array.toList_range] at hu
        rw [List.getElem?_range q1] at hu
        simpa using hu.symm
      have hjs : j % sz < sz := Nat.mod_lt _ hsz0
      have hu2 : zv.cells.toList[j % sz]? = some u := by
        rw [hu', hzs]
        simp [hzs, hjs]
      have hr := (vmL_ok (w := w') (S := g.S) (N := g.N) hzm).2 _ y u q2 hu2
      have hone : y.one = true := by simp only [allOne, List.all_eq_true] at hz1; exact hz1 y (List.mem_of_getElem? q2)
      exact ⟨hone, hr.one_cell hone, hr⟩
    have I1 := I.grow (w' := w') (S' := g.S) r3.os r3.tape r3.output r3.size hold (fun _ _ h => h) (fun _ _ h => .inl h)
    have I2 := I1.addrow d _ _ hrow (fun b hb => by
      simp only [Value.ownBlock, Option.some.injEq] at hb; subst hb
      exact I.vac (Nat.le_refl _)) (by have := c.ntb; omega)
    refine sok (v := .slice (some ⟨w.heap.size, 0, none⟩) n n) hK hd hlt ?_ I2 (.sref d _ rfl fun r0 _ => by simp) h
    have hp : a.eval p = .int k (n : Int) := gx.int_inv
    simp [execOp, ho, hp, r1]
  · exact h.elim
end ops
end
end Go.Proofs.Ythbbieobcokgbaa.Eng
