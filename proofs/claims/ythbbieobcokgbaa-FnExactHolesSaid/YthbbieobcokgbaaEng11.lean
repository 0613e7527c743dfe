/-
  The engine, part 11: soundness of append and of what makes rows.
-/
import Derived.Test.YthbbieobcokgbaaEng10
namespace Go.Proofs.Ythbbieobcokgbaa.Eng
open Go Go.RowKit

section
variable {P : Program} {c : Cx} {g : Gh} {s : St} {a : Act} {w : World}

theorem Inv.rerow (I : Inv c g s a w) {k : Nat} {r r' : Row} {v' : Value} {w' : World} (hk : s.rw k = some r) (hkb : k < 1000000000) (hg : w.grownBy w' (g.rv k).ownBlock) (hsz : r'.sz = r.sz) (hle : r.es.length ≤ r'.es.length) (hsh : r'.sh = r.sh)
    (hr : RowOk w' g.S g.N r' v') (hv' : v'.ownBlock = (g.rv k).ownBlock ∨ v'.ownBlock = some w.heap.size)
    (hpre : ∀ b o, (g.rv k).ownBlock = some b → g.S b o → w'.cell? ⟨b, o, none⟩ = w.cell? ⟨b, o, none⟩) :
    Inv c { g with rv := fun j => if j = k then v' else g.rv j } { s.kill k with rw := fun j => if j = k then some r' else (s.kill k).rw j } a w' := by
  have hS : ∀ b o, g.S b o → w'.cell? ⟨b, o, none⟩ = w.cell? ⟨b, o, none⟩ := by
    intro b o ho
    by_cases hb : (g.rv k).ownBlock = some b
    · exact hpre b o hb ho
    · exact World.cell?_of_block (hg.block b (I.sw b o ho) (fun e => hb e.symm))
  have T : Turn (· ≠ k) w w' g { g with rv := fun j => if j = k then v' else g.rv j } s { s.kill k with rw := fun j => if j = k then some r' else (s.kill k).rw j } := by
    refine ⟨fun _ _ h => h, fun _ h => h, hS, fun j hj r1 h => ?_, fun j hj c' h => ?_⟩
    · simp only [hj, if_false] at h
      exact ⟨r1, (kill_rw h).2, rfl, by simp [hj]⟩
    · obtain ⟨_, c0, h0, _⟩ := kill_bx h
      exact ⟨c0, h0, rfl⟩
  have hrw : ∀ j r1, (if j = k then some r' else (s.kill k).rw j) = some r1 → (j = k ∧ r1 = r') ∨ (j ≠ k ∧ s.rw j = some r1) := by
    intro j r1 h
    by_cases hj : j = k
    · simp only [hj, if_true, Option.some.injEq] at h; exact .inl ⟨hj, h.symm⟩
    · simp only [hj, if_false] at h; exact .inr ⟨hj, (kill_rw h).2⟩
  have hblk : ∀ b, v'.ownBlock = some b → (g.rv k).ownBlock = some b ∨ b = w.heap.size := by
    intro b hb
    rcases hv' with h | h
    · exact .inl (by rw [← h]; exact hb)
    · rw [h] at hb; cases hb; exact .inr rfl
  refine ⟨I.defers, I.nt, ⟨hg.os.trans I.fr.os, hg.tape.trans I.fr.tape, hg.output.trans I.fr.output, Nat.le_trans I.fr.size hg.size, ?_⟩, fun i => (I.tm i).turn_dead T, ?_, ?_, ?_, ?_, ?_, ?_, ?_, ?_, I.nn, I.nx, fun j hj => ⟨by simp only [show j ≠ k by omega, if_false]; exact (I.fix j hj).1, (I.fix j hj).2⟩, I.sm, I.sb⟩
  · intro b hb hx
    have hlt : b < w.heap.size := Nat.lt_of_lt_of_le hb I.fr.size
    rw [hg.block b hlt (fun e => hx ((I.rwn k r hk b e.symm).1.2 hb))]
    exact I.fr.block b hb hx
  · intro j cs' h
    obtain ⟨_, c0, h0, rfl⟩ := kill_bx h
    have hb := I.bxs j c0 h0
    obtain ⟨vs, ty, h1, h2, h3⟩ := hb
    refine ⟨vs, ty, ?_, by rw [deadL_map]; simpa using h2, fun i x v hx hv => ?_⟩
    · show w'.heap[g.bb j]? = _
      rw [hg.block _ (box_lt (I.bxs j c0 h0)) (fun e => I.dbr j k c0 r h0 hk e.symm)]; exact h1
    · rw [deadL_map, List.getElem?_map] at hx
      obtain ⟨a0, ha0, rfl⟩ := Option.map_eq_some_iff.1 hx
      obtain ⟨q1, q2, q3⟩ := h3 i a0 v ha0 hv
      exact ⟨one_dead k q1, q2, q3.turn_dead T⟩
  · intro j cs' h
    obtain ⟨_, c0, h0, rfl⟩ := kill_bx h
    exact I.bxn j c0 h0
  · intro j r1 h
    rcases hrw j r1 h with ⟨rfl, rfl⟩ | ⟨hj, h0⟩
    · simpa using hr
    · simp only [hj, if_false]
      exact (I.rws j r1 h0).mono (fun _ _ h => h) (fun _ h => h) hS (fun b hb => hg.block b (row_lt (I.rws j r1 h0) hb) (fun e => I.drr j k r1 r h0 hk hj b hb e.symm))
  · intro j r1 h b hb
    rcases hrw j r1 h with ⟨rfl, rfl⟩ | ⟨hj, h0⟩
    · simp only [if_true] at hb
      rcases hblk b hb with h | h
      · refine ⟨(I.rwn j r hk b h).1, fun o ho => ?_⟩
        have := (I.rwn j r hk b h).2 o ho
        exact ⟨by rw [hsh]; exact this.1, Nat.lt_of_lt_of_le this.2 (by rw [hsz]; exact Nat.mul_le_mul_right _ hle)⟩
      · subst h
        have V := I.vac (Nat.le_refl _)
        exact ⟨V.N, fun o ho => absurd ho (V.S o)⟩
    · simp only [hj, if_false] at hb
      exact I.rwn j r1 h0 b hb
  · intro j j' c1 c2 h1 h2 hne
    obtain ⟨_, d1, h1', _⟩ := kill_bx h1
    obtain ⟨_, d2, h2', _⟩ := kill_bx h2
    exact I.dbb j j' d1 d2 h1' h2' hne
  · intro j j' c1 r1 h1 h2
    obtain ⟨_, d1, h1', _⟩ := kill_bx h1
    rcases hrw j' r1 h2 with ⟨rfl, rfl⟩ | ⟨hj, h0⟩
    · simp only [if_true]
      intro e
      rcases hblk _ e with h | h
      · exact I.dbr j j' d1 r h1' hk h
      · have := box_lt (I.bxs j d1 h1'); omega
    · simp only [hj, if_false]; exact I.dbr j j' d1 r1 h1' h0
  · intro j j' r1 r2 h1 h2 hne b
    rcases hrw j r1 h1 with ⟨rfl, rfl⟩ | ⟨hj, h0⟩ <;> rcases hrw j' r2 h2 with ⟨rfl, rfl⟩ | ⟨hj', h0'⟩
    · exact absurd rfl hne
    · simp only [if_true, hj', if_false]
      intro e e'
      rcases hblk b e with h | h
      · exact I.drr j' j r2 r h0' hk hj' b e' h
      · have := row_lt (I.rws j' r2 h0') e'; omega
    · simp only [if_true, hj, if_false]
      intro e e'
      rcases hblk b e' with h | h
      · exact I.drr j j' r1 r h0 hk hj b e h
      · have := row_lt (I.rws j r1 h0) e; omega
    · simp only [hj, hj', if_false]; exact I.drr j j' r1 r2 h0 h0' hne b
  · intro b o ho; exact Nat.lt_of_lt_of_le (I.sw b o ho) hg.size

section ops
variable {o : Oper} {d : Nat} {K : St → Prop} {K' : Act → World → Prop} {Q' : Exit → Act → World → Prop}

theorem flat_append (xs ys : List AV) : flat (xs ++ ys) = flat xs ++ flat ys := by simp [flat]

theorem sok_ap (I : Inv c g s a w) (hK : ∀ g' s' a' w', Inv c g' s' a' w' → K s' → K' a' w') (hd : o.dst = some d) (hlt : d < c.nt)
    {x y : X} {p q : Operand} {t e : TypeId} {i : TypeInfo} {z : Value} {sz by' : Nat} (ho : o.op = .call { callee := .builtin .append, args := #[p, q], argTypes := #[t, t] })
    (ht : P.underlying t = some (.slice e)) (hi : P.info? e = some i) (hz : i.zero = some z) (hs : i.size = sz) (hby : i.bytes = by') (hby0 : 0 < by') (hzs : z.cells.size = i.size)
    (hx : chkX x p = true) (hy : chkX y q = true) (h : wop P (.ap d x y sz by') K s) : o.wp P a w K' Q' := by
  subst hs; subst hby
  simp only [wop] at h
  have gx := I.get hx
  have gy := I.get hy
  have run : ∀ v' w', (Builtin.append_ #[t, t] o.type #[a.eval p, a.eval q]).run P w = .ok v' w' → (execOp a.eval o).run P w = .ok (.value v') w' := by
    intro v' w' hr
    simp only [execOp, ho, Sem.run_bind, resolve, Sem.run_pure, Result.andThen_ok, invoke, builtin]
    simp [hr]
  have fin : ∀ (es : List AV) (v : Value) (n : Nat) (xs news : List Value) (nw : List AV) (ty0 : TypeId), w.ownsRow 0 ty0 i.size v n xs → n = es.length → (∀ e ∈ es, e.cells.length = i.size) →
      (∀ (j : Nat) (x : AV) (u : Value), (flat es)[j]? = some x → xs[j]? = some u → x.one = true ∧ u.oneCell' = true ∧ Rd w g.S g.N x u) →
      ∀ (pa : Option Addr) (cp : Nat), a.eval q = .slice pa nw.length cp → (0 < nw.length → pa.isSome = true) → news.length = nw.length * i.size → (∀ u ∈ news, u.oneCell' = true) → (∀ e ∈ nw, e.cells.length = i.size) →
      (0 < news.length → ∃ ad, pa = some ad ∧ ∀ j u, news[j]? = some u → w.cell? (ad.add j) = some u) →
      (∀ (j : Nat) (x : AV) (u : Value), (flat nw)[j]? = some x → news[j]? = some u → x.one = true ∧ u.oneCell' = true ∧ Rd w g.S g.N x u) →
      (es.length + nw.length) * i.bytes ≤ 140737488355328 → es.length + nw.length ≤ maxLen →
      ∃ v' w' ty1, (Builtin.append_ #[t, t] o.type #[v, a.eval q]).run P w = .ok v' w' ∧ w'.ownsRow 0 ty1 i.size v' (es ++ nw).length (xs ++ news) ∧ w.grownBy w' v.ownBlock ∧
        (v'.ownBlock = v.ownBlock ∨ (v'.ownBlock = some w.heap.size ∧ w.grownBy w' none)) ∧ (∀ e ∈ es ++ nw, e.cells.length = i.size) ∧
        (∀ (j : Nat) (x : AV) (u : Value), (flat (es ++ nw))[j]? = some x → (xs ++ news)[j]? = some u → x.one = true ∧ u.oneCell' = true ∧ Rd w g.S g.N x u) := by
    intro es v n xs news nw ty0 hown hn hes hxs pa cp hq hpa hnl hone hnw hnews hnr hbytes hmax
    subst hn
    obtain ⟨v', w', ty1, r1, r2, r3, r4⟩ := run_app (P := P) t o.type e ty0 i z ht hi hz hzs v es.length xs hown (a.eval q) nw.length cp pa hq news hnl hnews hpa hone hmax hbytes
    refine ⟨v', w', ty1, r1, by simpa using r2, r3, r4, ?_, ?_⟩
    · intro e he
      rcases List.mem_append.1 he with h | h
      · exact hes e h
      · exact hnw e h
    · intro j x u hx hu
      rw [flat_append] at hx
      have hxl : (flat es).length = xs.length := by rw [flat_row hes, hown.1]
      by_cases hj : j < xs.length
      · rw [List.getElem?_append_left (by omega)] at hx
        rw [List.getElem?_append_left hj] at hu
        exact hxs j x u hx hu
      · rw [List.getElem?_append_right (by omega)] at hx
        rw [List.getElem?_append_right (by omega)] at hu
        rw [hxl] at hx
        exact hnr _ x u hx hu
  -- how it ends, by what stands in front
  have old : ∀ (k : Nat) (r : Row) (nw : List AV) (news : List Value), s.rw k = some r → k < 1000000000 → s.get x = .sref k → r.sz = i.size →
      ∀ (pa : Option Addr) (cp : Nat), a.eval q = .slice pa nw.length cp → (0 < nw.length → pa.isSome = true) → news.length = nw.length * i.size → (∀ u ∈ news, u.oneCell' = true) → (∀ e ∈ nw, e.cells.length = i.size) →
      (0 < news.length → ∃ ad, pa = some ad ∧ ∀ j u, news[j]? = some u → w.cell? (ad.add j) = some u) →
      (∀ (j : Nat) (x : AV) (u : Value), (flat nw)[j]? = some x → news[j]? = some u → x.one = true ∧ u.oneCell' = true ∧ Rd w g.S g.N x u) →
      (r.es.length + nw.length) * i.bytes ≤ 140737488355328 → r.es.length + nw.length ≤ maxLen →
      K (St.set { s.kill k with rw := fun j => if j = k then some { r with es := r.es ++ nw } else (s.kill k).rw j } d (.sref k)) → o.wp P a w K' Q' := by
    intro k r nw news hk hkb hxk hsz pa cp hq hpa hnl hone hnw hnews hnr hbytes hmax hKs
    have hrow := I.rws k r hk
    obtain ⟨xs, ty, hown, hes, hc⟩ := hrow
    have hv : a.eval p = g.rv k := by rw [hxk] at gx; exact gx.sref_inv hk
    rw [hsz] at hown
    obtain ⟨v', w', ty1, r1, r2, r3, r4, r5, r6⟩ := fin r.es (g.rv k) _ xs news nw ty hown rfl (by rw [← hsz]; exact hes) hc pa cp hq hpa hnl hone hnw hnews hnr hbytes hmax
    have hpre : ∀ b o, (g.rv k).ownBlock = some b → g.S b o → w'.cell? ⟨b, o, none⟩ = w.cell? ⟨b, o, none⟩ := by
      intro b o' hb ho'
      have hlt' := ((I.rwn k r hk b hb).2 o' ho').2
      have hox : o' < xs.length := by rw [hown.1, ← hsz]; exact hlt'
      rcases r4 with r4 | ⟨r4, r4'⟩
      · have e1 := hown.cells hb o' _ (List.getElem?_eq_getElem hox)
        have e2 := r2.cells (by rw [r4]; exact hb) o' (xs[o']) (by rw [List.getElem?_append_left hox, List.getElem?_eq_getElem hox])
        rw [add_none, Nat.zero_add] at e1 e2
        rw [e1, e2]
      · exact World.cell?_of_block (r4'.block b (row_lt (I.rws k r hk) hb) (by simp))
    have hS : ∀ b o, g.S b o → w'.cell? ⟨b, o, none⟩ = w.cell? ⟨b, o, none⟩ := by
      intro b o' ho'
      by_cases hb : (g.rv k).ownBlock = some b
      · exact hpre b o' hb ho'
      · exact World.cell?_of_block (r3.block b (I.sw b o' ho') (fun e => hb e.symm))
    have hrow' : RowOk w' g.S g.N { r with es := r.es ++ nw } v' :=
      ⟨xs ++ news, ty1, by rw [hsz]; exact r2, by rw [hsz]; exact r5, fun j x u hx hu => ⟨(r6 j x u hx hu).1, (r6 j x u hx hu).2.1, (r6 j x u hx hu).2.2.mono (fun _ _ h => h) (fun _ h => h) hS⟩⟩
    have I2 := I.rerow (r' := { r with es := r.es ++ nw }) hk hkb r3 rfl (by simp) rfl hrow' (by rcases r4 with h | h; exact .inl h; exact .inr h.1) hpre
    refine sok hK hd hlt (run v' w' (by rw [hv]; exact r1)) I2 (.sref k v' ?_ fun r0 _ => by simp) hKs
    rcases r2.2 with ⟨rfl, _⟩ | ⟨_, _, _, rfl, _⟩ <;> rfl
  have new : ∀ (nw : List AV) (news : List Value), s.get x = .nl →
      ∀ (pa : Option Addr) (cp : Nat), a.eval q = .slice pa nw.length cp → (0 < nw.length → pa.isSome = true) → news.length = nw.length * i.size → (∀ u ∈ news, u.oneCell' = true) → (∀ e ∈ nw, e.cells.length = i.size) →
      (0 < news.length → ∃ ad, pa = some ad ∧ ∀ j u, news[j]? = some u → w.cell? (ad.add j) = some u) →
      (∀ (j : Nat) (x : AV) (u : Value), (flat nw)[j]? = some x → news[j]? = some u → x.one = true ∧ u.oneCell' = true ∧ Rd w g.S g.N x u) →
      nw.length * i.bytes ≤ 140737488355328 → nw.length ≤ maxLen →
      K (St.set { s.kill d with rw := fun j => if j = d then some ⟨i.size, nw, false⟩ else (s.kill d).rw j } d (.sref d)) → o.wp P a w K' Q' := by
    intro nw news hxk pa cp hq hpa hnl hone hnw hnews hnr hbytes hmax hKs
    have hv : a.eval p = .slice none 0 0 := by rw [hxk] at gx; exact gx.nl_inv
    obtain ⟨v', w', ty1, r1, r2, r3, r4, r5, r6⟩ := fin [] (.slice none 0 0) 0 [] news nw 0 (World.ownsRow_nil w 0 0 i.size) rfl (by simp) (by intro j x u h; simp [flat] at h) pa cp hq hpa hnl hone hnw hnews hnr (by simpa using hbytes) (by simpa using hmax)
    simp only [List.nil_append] at r2 r5 r6
    have hold : ∀ b, b < w.heap.size → w'.heap[b]? = w.heap[b]? := fun b hb => r3.block b hb (by simp [Value.ownBlock])
    have I1 := I.grow (S' := g.S) r3.os r3.tape r3.output r3.size hold (fun _ _ h => h) (fun _ _ h => .inl h)
    have hrow' : RowOk w' g.S g.N ⟨i.size, nw, false⟩ v' :=
      ⟨news, ty1, r2, r5, fun j x u hx hu => ⟨(r6 j x u hx hu).1, (r6 j x u hx hu).2.1, (r6 j x u hx hu).2.2.mono (fun _ _ h => h) (fun _ h => h) (fun b o ho => World.cell?_of_block (hold b (I.sw b o ho)))⟩⟩
    have I2 := I1.addrow d ⟨i.size, nw, false⟩ v' hrow' (fun b hb => by
      rcases r4 with r4 | ⟨r4, _⟩
      · rw [r4] at hb; simp [Value.ownBlock] at hb
      · rw [r4] at hb; cases hb
        exact I.vac (Nat.le_refl _)) (by have := c.ntb; omega)
    refine sok hK hd hlt (run v' w' (by rw [hv]; exact r1)) I2 (.sref d v' ?_ fun r0 _ => by simp) hKs
    rcases r2.2 with ⟨rfl, _⟩ | ⟨_, _, _, rfl, _⟩ <;> rfl
  have hml : ∀ n, n * i.bytes ≤ 140737488355328 → n ≤ maxLen := by
    intro n hn
    have : n * 1 ≤ n * i.bytes := Nat.mul_le_mul_left _ hby0
    simp only [maxLen]; omega
  have src : ∀ tt sy nw, s.dt (s.get y) = some (.sl tt sy nw) → (nw = [] ∨ sy = i.size) → ∃ (pa : Option Addr) (cp : Nat) (news : List Value), a.eval q = .slice pa nw.length cp ∧ (0 < nw.length → pa.isSome = true) ∧ news.length = nw.length * i.size ∧
      (∀ u ∈ news, u.oneCell' = true) ∧ (∀ e ∈ nw, e.cells.length = i.size) ∧ (0 < news.length → ∃ ad, pa = some ad ∧ ∀ j u, news[j]? = some u → w.cell? (ad.add j) = some u) ∧
      (∀ (j : Nat) (x : AV) (u : Value), (flat nw)[j]? = some x → news[j]? = some u → x.one = true ∧ u.oneCell' = true ∧ Rd w g.S g.N x u) := by
    intro tt sy nw hdt hsy
    generalize hgy : s.get y = yv at *
    cases yv with
    | sl t1 s1 e1 =>
      simp only [St.dt, Option.some.injEq, AV.sl.injEq] at hdt
      obtain ⟨rfl, rfl, rfl⟩ := hdt
      obtain ⟨pa, cp, hv, hpa, news, n1, n2, n3, n4, n5, n6, n7⟩ := gy.sl_inv.src
      rcases hsy with rfl | rfl
      · exact ⟨pa, cp, news, hv, hpa, by rw [n2 rfl]; simp, n4, by simp, n6, n7⟩
      · refine ⟨pa, cp, news, hv, hpa, ?_, n4, n5, n6, n7⟩
        by_cases he : e1 = []
        · rw [n2 he, he]; simp
        · exact n1 he
    | sref k =>
      simp only [St.dt] at hdt
      obtain ⟨r, hr, he⟩ := Option.map_eq_some_iff.1 hdt
      simp only [AV.sl.injEq] at he
      obtain ⟨_, rfl, rfl⟩ := he
      obtain ⟨pa, cp, hv, hpa, news, n1, n3, n4, n5, n6, n7⟩ := row_src (I.rws k r hr)
      have hv' := (gy.sref_inv hr).trans hv
      rcases hsy with h0 | h0
      · rw [h0] at n1 n5 hpa hv' ⊢
        refine ⟨pa, cp, news, hv', hpa, by rw [n1]; simp, n4, by simp, n6, ?_⟩
        rw [h0] at n7; exact n7
      · rw [h0] at n1 n5
        exact ⟨pa, cp, news, hv', hpa, n1, n4, n5, n6, n7⟩
    | agg cs => simp only [St.dt] at hdt; obtain ⟨_, _, h⟩ := Option.map_eq_some_iff.1 hdt; cases h
    | fn f cs => simp only [St.dt] at hdt; obtain ⟨_, _, h⟩ := Option.map_eq_some_iff.1 hdt; cases h
    | _ => simp [St.dt] at hdt
  have nilsrc : s.dt (s.get y) = some .nl → a.eval q = .slice none 0 0 := by
    intro hdt
    generalize hgy : s.get y = yv at *
    cases yv with
    | nl => exact gy.nl_inv
    | agg cs => simp only [St.dt] at hdt; obtain ⟨_, _, h⟩ := Option.map_eq_some_iff.1 hdt; cases h
    | fn f cs => simp only [St.dt] at hdt; obtain ⟨_, _, h⟩ := Option.map_eq_some_iff.1 hdt; cases h
    | sref k => simp only [St.dt] at hdt; obtain ⟨_, _, h⟩ := Option.map_eq_some_iff.1 hdt; cases h
    | _ => simp [St.dt] at hdt
  split at h
  · rename_i tt sy nw hdt
    split at h
    · rename_i k hxk
      split at h
      · rename_i r hk
        obtain ⟨h1, hkb, h2, h3, h⟩ := h
        obtain ⟨pa, cp, news, q1, q2, q3, q4, q5, q6, q7⟩ := src tt sy nw hdt h2
        exact old k r nw news hk hkb hxk h1 pa cp q1 q2 q3 q4 q5 q6 q7 h3 (hml _ h3) h
      · exact h.elim
    · rename_i hxk
      obtain ⟨h2, h3, h⟩ := h
      obtain ⟨pa, cp, news, q1, q2, q3, q4, q5, q6, q7⟩ := src tt sy nw hdt h2
      exact new nw news hxk pa cp q1 q2 q3 q4 q5 q6 q7 h3 (hml _ h3) h
    · exact h.elim
  · rename_i hdt
    have hq := nilsrc hdt
    split at h
    · rename_i k hxk
      rw [hxk] at gx
      cases hk : s.rw k with
      | none => rw [hk] at h; exact h.elim
      | some r =>
        rw [hk] at h
        obtain ⟨xs, ty, hown, _⟩ := I.rws k r hk
        have hv := gx.sref_inv hk
        have hr : (Builtin.append_ #[t, t] o.type #[a.eval p, a.eval q]).run P w = .ok (a.eval p) w := by
          rw [hq, hv]
          rcases hown.2 with ⟨hh, hn⟩ | ⟨b, cap, cur, hh, _, hb, hnc, _, _, _⟩
          · rw [hh]; simp [Builtin.append_, run_underlying ht, sizeOf, typeInfo, hi, Builtin.lenOf, Builtin.firstCells]
          · rw [hh]; simp [Builtin.append_, run_underlying ht, sizeOf, typeInfo, hi, Builtin.lenOf, Builtin.firstCells, hnc, storeCells]
        exact sok (g' := g) (s' := s) (w' := w) hK hd hlt (run _ _ hr) I gx h
    · rename_i hxk
      exact new [] [] hxk none 0 (by simpa using hq) (by simp) (by simp) (by simp) (by simp) (by simp) (by intro j x u h; simp [flat] at h) (by simp) (by simp) h
    · exact h.elim
  · exact h.elim
end ops
end
end Go.Proofs.Ythbbieobcokgbaa.Eng
