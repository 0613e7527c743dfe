/-
  The engine, part 9: soundness of stores, rows, append, slices of slices and strings.
-/
import Derived.Test.YthbbieobcokgbaaEng8
import Derived.Laws.BytesString
namespace Go.Proofs.Ythbbieobcokgbaa.Eng
open Go Go.RowKit

section
variable {P : Program} {c : Cx} {g : Gh} {s : St} {a : Act} {w : World}

theorem Al.turn {w' : World} {g' : Gh} {s' : St} {cs : List AV} {vs : List Value} (T : Turn (fun _ => True) w w' g g' s s') (h : Al w g s cs vs) : Al w' g' s' cs vs :=
  ⟨h.1, fun i y u hy hu => ⟨(h.2 i y u hy hu).1, (h.2 i y u hy hu).2.1, (h.2 i y u hy hu).2.2.turn T⟩⟩

theorem flat_set {es : List AV} {sz : Nat} (hs : ∀ e ∈ es, e.cells.length = sz) {i off : Nat} {e e' : AV} {vs : List AV} (he : es[i]? = some e) (hle : off + vs.length ≤ e.cells.length) (he' : e'.cells = putC e.cells off vs) :
    flat (es.set i e') = putC (flat es) (i * sz + off) vs := by
  induction es generalizing i with
  | nil => simp at he
  | cons x l ih =>
    have hx : x.cells.length = sz := hs x (by simp)
    cases i with
    | zero =>
      simp at he; subst he
      simp only [List.set_cons_zero, flat, List.flatMap_cons, he', Nat.zero_mul, Nat.zero_add]
      unfold putC
      rw [List.take_append_of_le_length (by omega), List.drop_append_of_le_length (by omega)]
      simp
    | succ i =>
      simp at he
      have := ih (fun e h => hs e (by simp [h])) he
      simp only [flat, List.set_cons_succ, List.flatMap_cons] at this ⊢
      rw [this]
      unfold putC
      rw [show (i + 1) * sz + off = x.cells.length + (i * sz + off) by rw [hx, Nat.succ_mul]; omega]
      rw [List.take_length_add_append, Nat.add_assoc (x.cells.length), List.drop_length_add_append]
      simp

theorem putV_take {cs vs : List Value} {p m : Nat} (h : p + vs.length ≤ m) (hm : m ≤ cs.length) : (putV cs p vs).take m = putV (cs.take m) p vs := by
  apply List.ext_getElem?
  intro i
  rw [List.getElem?_take, putV_get (by omega), putV_get (by rw [List.length_take]; omega), List.getElem?_take]
  by_cases h1 : i < m
  · simp [h1]
  · rw [if_neg h1, if_neg (by omega), if_neg h1]

theorem wf_run_store {t : TypeId} {n : Nat} (hs : tsz P t = some n) (b o : Nat) (v : Value) (us : List Value) (hv : v.cells = us.toArray) (hl : us.length = n) (cur : Array Value) (ty : TypeId)
    (hb : w.heap[b]? = some (.cells cur ty (0, 0))) (hle : o + n ≤ cur.size) (h1 : ∀ u ∈ us, u.oneCell' = true) :
    (Instr.storeAt t (.pointer (some ⟨b, o, none⟩)) v).run P w = .ok () (w.setRow b (putV cur.toList o us).toArray) := by
  have := run_storeCells_at P b o ty us 0 cur w hb (by rw [hl]; simpa using hle) h1
  simp only [Nat.add_zero] at this
  simp only [Instr.storeAt, Instr.sureAddr, Sem.run_bind, Sem.run_pure, Result.andThen_ok, storeVar, run_sizeOf' hs, hv]
  simp [hl, this, putV]

theorem dt_und {x : AV} {cs : List AV} (h : s.dt x = some (.tup cs)) : False := by
  cases x <;> simp [St.dt] at h

theorem Rd.allOne {S : Nat → Nat → Prop} {N : Nat → Prop} {x : AV} {v : Value} (h : Rd w S N x v) (_h : True → True) : allOne x.cells = true := by
  cases h with
  | agg cs vs hl h1 h => simpa [Eng.allOne, AV.cells] using h1
  | _ => simp [Eng.allOne, AV.cells, AV.one]

theorem Rd.cell {S : Nat → Nat → Prop} {N : Nat → Prop} {x : AV} {v : Value} (h : Rd w S N x v) {j : Nat} {y : AV} {u : Value} (hy : x.cells[j]? = some y) (hu : v.cells[j]? = some u) : Rd w S N y u := by
  have hh := h
  cases h with
  | agg cs vs hl h1 h => exact h j y u hy (by simpa [Value.cells] using hu)
  | _ =>
    cases j with
    | zero => simp [AV.cells, Value.cells] at hy hu; subst hy; subst hu; exact hh
    | succ j => simp [AV.cells] at hy

theorem Inv.norows (I : Inv c g s a w) : Inv c g { s with rw := fun _ => none } a w := by
  have T : Turn (fun _ => True) w w g g s { s with rw := fun _ => none } := ⟨fun _ _ h => h, fun _ h => h, fun _ _ _ => rfl, fun j _ r h => by simp at h, fun j _ c' h => ⟨c', h, rfl⟩⟩
  exact ⟨I.defers, I.nt, I.fr, fun i => (I.tm i).turn T, fun j c1 h => (I.bxs j c1 h).turn T rfl, I.bxn, fun _ _ h => (by simp at h), fun _ _ h => (by simp at h), I.dbb, fun _ _ _ _ _ h => (by simp at h), fun _ _ _ _ h => (by simp at h), I.sw, I.nn, I.nx, I.fix, I.sm, I.sb⟩

theorem plain_dt {x : AV} (h : plain x = true) : s.dt x = some x := by cases x <;> simp [plain] at h <;> rfl
theorem plain_dtL : ∀ {cs : List AV}, cs.all plain = true → s.dtL cs = some cs
  | [], _ => rfl
  | x :: l, h => by
    simp only [List.all_cons, Bool.and_eq_true] at h
    simp [St.dtL, plain_dt h.1, plain_dtL h.2]
theorem nosr_dt {x : AV} (h : nosr x = true) : s.dt x = some x := by
  cases x with
  | agg cs => simp only [nosr] at h; simp [St.dt, plain_dtL h]
  | _ => first | exact plain_dt h | simp [nosr, plain] at h

theorem Inv.plain (I : Inv c g s a w) {x y : AV} {v : Value} (hn : nosr x = true) (hy : s.dt x = some y) (h : Gv w g s x v) : Rd w g.S g.N y v := by
  have h2 : ({ s with rw := fun _ => none } : St).dt x = some y := by rw [nosr_dt hn] at hy ⊢; exact hy
  have T : Turn (fun _ => True) w w g g s { s with rw := fun _ => none } := ⟨fun _ _ h => h, fun _ h => h, fun _ _ _ => rfl, fun j _ r h => by simp at h, fun j _ c' h => ⟨c', h, rfl⟩⟩
  exact dt_rd I.norows g.S (fun _ _ h => h) (fun k r b o h => by simp at h) h2 (h.turn T)

section ops
variable {o : Oper} {d : Nat} {K : St → Prop} {K' : Act → World → Prop} {Q' : Exit → Act → World → Prop}

theorem sok_st (I : Inv c g s a w) (hK : ∀ g' s' a' w', Inv c g' s' a' w' → K s' → K' a' w') (hd : o.dst = none)
    {x y : X} {p q : Operand} {t : TypeId} {n : Nat} (ho : o.op = .store t p q) (hs : tsz P t = some n) (hx : chkX x p = true) (hy : chkX y q = true) (h : wop P (.st x y n) K s) : o.wp P a w K' Q' := by
  have fin : ∀ g' s' w', (Instr.storeAt t (a.eval p) (a.eval q)).run P w = .ok () w' → Inv c g' s' a w' → K s' → o.wp P a w K' Q' := by
    intro g' s' w' hr I' hk
    have hr' : (execOp a.eval o).run P w = .ok .skip w' := by simp [execOp, ho, hr]
    unfold Oper.wp
    rw [hr', Oper.upon_skip, hd]
    exact hK _ _ _ _ I' hk
  simp only [wop] at h
  have gx := I.get hx
  have gy := I.get hy
  split at h
  · rename_i k off e
    rw [e] at gx
    split at h
    · rename_i cs hk
      obtain ⟨h1, h2, h3, h⟩ := h
      obtain ⟨us, hv, hul, hua⟩ := gy.cells h3
      obtain ⟨vs, ty, hb, hvl, hva⟩ := I.bxs k cs hk
      have hone : ∀ u ∈ us, u.oneCell' = true := by
        intro u hu
        obtain ⟨i, hi, rfl⟩ := List.getElem_of_mem hu
        have hi' : i < (s.get y).cells.length := by rw [hul]; exact hi
        exact (hua i _ _ (List.getElem?_eq_getElem hi') (List.getElem?_eq_getElem hi)).2.1
      have hr := wf_run_store (P := P) hs (g.bb k) off (a.eval q) us hv (by omega) vs.toArray ty hb (by rw [List.size_toArray]; omega) hone
      rw [gx.ptr_inv hk] at fin
      refine fin g _ _ hr ?_ h
      have W := wrote_setRow w (g.bb k) (putV vs.toArray.toList off us).toArray
      have T : Turn (fun _ => True) w (w.setRow (g.bb k) (putV vs.toArray.toList off us).toArray) g g s { s with bx := fun j => if j = k then some (putC cs off (s.get y).cells) else s.bx j } :=
        ⟨fun _ _ h => h, fun _ h => h, fun b o ho => World.cell?_of_block (W.block b (fun e => (I.bxn k cs hk).2 o (e ▸ ho))), fun j _ r h => ⟨r, h, rfl, rfl⟩, fun j _ c' h => by
          by_cases hj : j = k
          · subst hj; exact ⟨cs, hk, rfl⟩
          · simp only [hj, if_false] at h; exact ⟨c', h, rfl⟩⟩
      have A1 : Al w g s cs vs := ⟨hvl.symm, hva⟩
      have A2 : Al w g s (s.get y).cells us := ⟨hul, fun i z u hz hu => ⟨.inl (hua i z u hz hu).1, (hua i z u hz hu).2⟩⟩
      have A3 := (A1.put A2 (off := off) (by omega)).turn T
      refine I.setbox hk W ⟨putV vs off us, ty, ?_, A3.1.symm, A3.2⟩
      exact setRow_heap w (g.bb k) vs.toArray _ ty (0, 0) hb
    · exact h.elim
  · rename_i k i off e
    rw [e] at gx
    split at h
    · rename_i r hk
      split at h
      · rename_i el v hel hdt
        obtain ⟨hsh, h1, h2, hno, h⟩ := h
        obtain ⟨b, hb, hp⟩ := gx.rpt_inv hk
        have hrd : Rd w g.S g.N v (a.eval q) := I.plain hno hdt gy
        have hone1 : allOne v.cells = true := hrd.allOne id
        obtain ⟨us, hv, hul, hua⟩ := (Gv.data (s := s) v _ hrd).cells hone1
        have hone : ∀ u ∈ us, u.oneCell' = true := by
          intro u hu
          obtain ⟨i, hi, rfl⟩ := List.getElem_of_mem hu
          have hi' : i < v.cells.length := by rw [hul]; exact hi
          exact (hua i _ _ (List.getElem?_eq_getElem hi') (List.getElem?_eq_getElem hi)).2.1
        have hrow := I.rws k r hk
        obtain ⟨xs, ty, hown, hsz, hc⟩ := hrow
        have hel' := hsz el (List.mem_of_getElem? hel)
        have hi : i < r.es.length := (List.getElem?_eq_some_iff.1 hel).1
        rcases hown.2 with ⟨hn, _⟩ | ⟨b', cap, cur, hv', h0, hbk, q1, q2, q3, q4⟩
        · rw [hn] at hb; simp [Value.ownBlock] at hb
        · have hbb : b' = b := by rw [hv'] at hb; simpa [Value.ownBlock] using hb
          subst hbb
          have hmul : i * r.sz + r.sz ≤ r.es.length * r.sz := by rw [← Nat.succ_mul]; exact Nat.mul_le_mul_right _ hi
          have hmul2 : r.es.length * r.sz ≤ cap * r.sz := Nat.mul_le_mul_right _ q1
          have hr := wf_run_store (P := P) hs b' (i * r.sz + off) (a.eval q) us hv (by omega) cur ty hbk (by omega) hone
          rw [hp] at fin
          refine fin g _ _ hr ?_ h
          have W := wrote_setRow w b' (putV cur.toList (i * r.sz + off) us).toArray
          have hS : ∀ b o, g.S b o → (w.setRow b' (putV cur.toList (i * r.sz + off) us).toArray).cell? ⟨b, o, none⟩ = w.cell? ⟨b, o, none⟩ := fun b o ho' =>
            World.cell?_of_block (W.block b (fun e => by have := ((I.rwn k r hk b' hb).2 o (e ▸ ho')).1; rw [hsh] at this; cases this))
          refine I.setrow hk hsh rfl hb W ?_
          have he' : (if n = el.cells.length then v else AV.agg (putC el.cells off v.cells)).cells = putC el.cells off v.cells := by
            split
            · rename_i hn
              have : off = 0 := by omega
              subst this
              unfold putC; rw [List.take_zero, List.nil_append, List.drop_eq_nil_of_le (by omega), List.append_nil]
            · rfl
          refine ⟨putV xs (i * r.sz + off) us, ty, ⟨?_, .inr ⟨b', cap, _, by simpa using hv', Nat.zero_le _, setRow_heap w b' cur _ ty (0, 0) hbk, by simpa using q1, q2, ?_, ?_⟩⟩, ?_, ?_⟩
          · have := hown.1
            rw [putV_len (by omega)]; simpa using this
          · rw [List.size_toArray, putV_len (by simp; omega)]; simpa using q3
          · simp only [List.length_set]
            rw [putV_take (by omega) (by simp; omega), q4]
          · intro e1 he1
            rcases List.mem_or_eq_of_mem_set he1 with h' | h'
            · exact hsz e1 h'
            · rw [h', he', putC_len (by omega)]; exact hel'
          · intro j x u hx hu
            rw [flat_set hsz hel (by omega) he'] at hx
            have hfl := flat_row hsz
            rw [putC_get (by omega)] at hx
            rw [putV_get (by have := hown.1; omega), ← hul] at hu
            split at hx
            · rename_i hcnd
              rw [if_pos hcnd] at hu
              obtain ⟨z1, z2, z3⟩ := hua _ _ _ hx hu
              have hrd' : Rd w g.S g.N x u := hrd.cell hx (by rw [hv]; simpa using hu)
              exact ⟨z1, z2, hrd'.mono (fun _ _ h => h) (fun _ h => h) hS⟩
            · rename_i hcnd
              rw [if_neg hcnd] at hu
              obtain ⟨z1, z2, z3⟩ := hc j x u hx hu
              exact ⟨z1, z2, z3.mono (fun _ _ h => h) (fun _ h => h) hS⟩
      · exact h.elim
    · exact h.elim
  · exact h.elim
end ops
end
end Go.Proofs.Ythbbieobcokgbaa.Eng
