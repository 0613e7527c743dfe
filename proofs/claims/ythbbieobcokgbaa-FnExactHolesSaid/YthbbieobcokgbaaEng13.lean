/-
  The engine, part 13: soundness of == on structs, cuts, bytes and strings, and of the ghost operations.
-/
import Derived.Test.YthbbieobcokgbaaEng12
import Derived.Laws.StructEq
namespace Go.Proofs.Ythbbieobcokgbaa.Eng
open Go Go.RowKit

def eqKF (P : Program) (eq : TypeId → Option (List Nat)) : List Field → Nat → Option (List Nat)
  | [], _ => some []
  | f :: fs, off => if f.name ≠ "_" ∧ f.offset = off then
      match eq f.type with
      | some ks => if tsz P f.type = some ks.length then
          match eqKF P eq fs (off + ks.length) with
          | some r => some (ks ++ r)
          | none => none
        else none
      | none => none
    else none
def eqK (P : Program) : Nat → TypeId → Option (List Nat)
  | 0, _ => none
  | d + 1, t => match P.underlying t with
    | some (.int _) => some [0]
    | some .string => some [1]
    | some .bool => some [2]
    | some (.struct fs) => if P.stoodInHeld t = true then none else eqKF P (eqK P d) fs.toList 0
    | _ => none

section
variable {P : Program} {c : Cx} {g : Gh} {s : St} {a : Act} {w : World}

theorem eqCells_len : ∀ {ks : List Nat} {xs ys : List AV} {r : Bool}, eqCells ks xs ys = some r → xs.length = ks.length ∧ ys.length = ks.length
  | [], xs, ys, r, h => by
    cases xs <;> cases ys <;> simp [eqCells] at h ⊢
  | k :: ks, xs, ys, r, h => by
    unfold eqCells at h
    split at h
    · rename_i e; cases e
    · rename_i e1; cases e1
      split at h
      · obtain ⟨r', h', _⟩ := Option.map_eq_some_iff.1 h
        have := eqCells_len h'; simp; omega
      · cases h
    · rename_i e1; cases e1
      obtain ⟨r', h', _⟩ := Option.map_eq_some_iff.1 h
      have := eqCells_len h'; simp; omega
    · rename_i e1; cases e1
      obtain ⟨r', h', _⟩ := Option.map_eq_some_iff.1 h
      have := eqCells_len h'; simp; omega
    · cases h

theorem eqCells_app : ∀ {ks ls : List Nat} {xs ys : List AV} {r : Bool}, eqCells (ks ++ ls) xs ys = some r →
    ∃ r1 r2, eqCells ks (xs.take ks.length) (ys.take ks.length) = some r1 ∧ eqCells ls (xs.drop ks.length) (ys.drop ks.length) = some r2 ∧ r = (r1 && r2)
  | [], ls, xs, ys, r, h => ⟨true, r, by simp [eqCells], by simpa using h, by simp⟩
  | k :: ks, ls, xs, ys, r, h => by
    rw [List.cons_append] at h
    unfold eqCells at h
    split at h
    · rename_i e; cases e
    · rename_i e1; cases e1
      split at h
      · rename_i hk; subst hk
        obtain ⟨r', h', rfl⟩ := Option.map_eq_some_iff.1 h
        obtain ⟨r1, r2, q1, q2, rfl⟩ := eqCells_app h'
        exact ⟨_, r2, by simp [eqCells, q1]; rfl, by simpa using q2, by rw [Bool.and_assoc]⟩
      · cases h
    · rename_i e1; cases e1
      obtain ⟨r', h', rfl⟩ := Option.map_eq_some_iff.1 h
      obtain ⟨r1, r2, q1, q2, rfl⟩ := eqCells_app h'
      exact ⟨_, r2, by simp [eqCells, q1]; rfl, by simpa using q2, by rw [Bool.and_assoc]⟩
    · rename_i e1; cases e1
      obtain ⟨r', h', rfl⟩ := Option.map_eq_some_iff.1 h
      obtain ⟨r1, r2, q1, q2, rfl⟩ := eqCells_app h'
      exact ⟨_, r2, by simp [eqCells, q1]; rfl, by simpa using q2, by rw [Bool.and_assoc]⟩
    · cases h

/-- Lists of scalars stand for one another. -/
def Sc (w : World) (g : Gh) (s : St) (xs : List AV) (vs : List Value) : Prop := xs.length = vs.length ∧ ∀ (i : Nat) (x : AV) (v : Value), xs[i]? = some x → vs[i]? = some v → Gv w g s x v
theorem Sc.sub {xs : List AV} {vs : List Value} (h : Sc w g s xs vs) (o n : Nat) : Sc w g s ((xs.drop o).take n) ((vs.drop o).take n) := by
  refine ⟨by simp [h.1], fun i x v hx hv => ?_⟩
  rw [List.getElem?_take] at hx hv
  split at hx
  · rename_i hi
    rw [if_pos hi, List.getElem?_drop] at hv
    rw [List.getElem?_drop] at hx
    exact h.2 _ x v hx hv
  · cases hx

/-- One cell of each. -/
theorem eq1 {t : TypeId} {k : Nat} {x y : AV} {r : Bool} (hr : eqCells [k] [x] [y] = some r) (ht : (k = 0 ∧ ∃ q, P.underlying t = some (.int q)) ∨ (k = 1 ∧ P.underlying t = some .string) ∨ (k = 2 ∧ P.underlying t = some .bool))
    {v u : Value} (hv : Gv w g s x v) (hu : Gv w g s y u) (e : Nat) : (Op.equalIn (e + 1) t v u).run P w = .ok r w := by
  rcases ht with ⟨rfl, q, ht⟩ | ⟨rfl, ht⟩ | ⟨rfl, ht⟩
  · cases x <;> cases y <;> simp only [eqCells] at hr <;> try (cases hr; done)
    rename_i k1 m k2 n
    split at hr
    · rename_i hk; subst hk
      simp only [Option.map_some, Bool.and_true, Option.some.injEq] at hr; subst hr
      rw [hv.int_inv, hu.int_inv]; exact run_equalIn_int w e t k1 q m n ht
    · cases hr
  · cases x <;> cases y <;> simp only [eqCells] at hr <;> try (cases hr; done)
    simp only [Option.map_some, Bool.and_true, Option.some.injEq] at hr; subst hr
    rw [hv.str_inv, hu.str_inv, run_equalIn_string w e t _ _ ht]; simp [ByteArray.toList_eq]
  · cases x <;> cases y <;> simp only [eqCells] at hr <;> try (cases hr; done)
    simp only [Option.map_some, Bool.and_true, Option.some.injEq] at hr; subst hr
    rw [hv.bool_inv, hu.bool_inv]; exact run_equalIn_bool' w e t _ _ ht

def EqA (P : Program) (w : World) (g : Gh) (s : St) (d : Nat) : Prop :=
  ∀ (t : TypeId) (ks : List Nat), eqK P d t = some ks → ∀ (e : Nat), d ≤ e → ∀ (xs ys : List AV) (vs us : List Value) (r : Bool), Sc w g s xs vs → Sc w g s ys us → eqCells ks xs ys = some r →
    ∃ ag, tag? P t = some ag ∧ (ag = false → ks.length = 1) ∧ (Op.equalIn e t (if ag then .agg vs.toArray else vs.getD 0 undef) (if ag then .agg us.toArray else us.getD 0 undef)).run P w = .ok r w

theorem eqKF_run {d : Nat} (A : EqA P w g s d) : ∀ (fs : List Field) (off : Nat) (ks : List Nat), eqKF P (eqK P d) fs off = some ks → ∀ (e : Nat), d ≤ e → ∀ (xs ys : List AV) (vs us : List Value) (r : Bool), Sc w g s xs vs → Sc w g s ys us →
    eqCells ks (xs.drop off) (ys.drop off) = some r → (Op.eqFields e vs.toArray us.toArray fs).run P w = .ok r w := by
  intro fs
  induction fs with
  | nil =>
    intro off ks h e _ xs ys vs us r hx hy hr
    simp only [eqKF, Option.some.injEq] at h; subst h
    have := eqCells_len hr
    simp only [List.length_nil] at this
    have e1 := List.eq_nil_of_length_eq_zero this.1
    have e2 := List.eq_nil_of_length_eq_zero this.2
    rw [e1, e2] at hr
    simp [eqCells] at hr; subst hr
    simp [Op.eqFields]
  | cons f fs ih =>
    intro off ks h e he xs ys vs us r hx hy hr
    simp only [eqKF] at h
    split at h
    · rename_i hc
      split at h
      · rename_i k1 hk1
        split at h
        · rename_i hts
          split at h
          · rename_i k2 hk2
            cases h
            obtain ⟨r1, r2, q1, q2, rfl⟩ := eqCells_app hr
            obtain ⟨ag, ha, h1, hrun⟩ := A f.type k1 hk1 e he _ _ _ _ r1 (hx.sub off k1.length) (hy.sub off k1.length) q1
            have hl := eqCells_len q1
            have gx : ∀ (xs : List AV) (vs : List Value), Sc w g s xs vs → ((xs.drop off).take k1.length).length = k1.length → ag = false → vs[f.offset]? = some (((vs.drop off).take k1.length).getD 0 undef) := by
              intro xs vs hx hxl hag
              have h1 := h1 hag
              rw [hc.2]
              have hl := hx.1
              simp only [List.length_take, List.length_drop] at hxl
              have : off < vs.length := by omega
              rw [h1]
              simp [List.getD, this, List.getElem?_drop]
            have px := run_part' (P := P) (w := w) hts ha vs f.offset _ (gx xs vs hx hl.1)
            have py := run_part' (P := P) (w := w) hts ha us f.offset _ (gx ys us hy hl.2)
            rw [hc.2] at px py
            simp only [Op.eqFields, hc.1, ne_eq, not_false_eq_true, if_true, Sem.run_bind, hc.2, px, py, Result.andThen_ok, hrun]
            cases r1 with
            | false => simp
            | true =>
              simp only [Bool.not_true, Bool.false_eq_true, if_false, Bool.true_and]
              refine ih (off + k1.length) k2 hk2 e he xs ys vs us r2 hx hy ?_
              rw [List.drop_drop, List.drop_drop] at q2
              exact q2
          · cases h
        · cases h
      · cases h
    · cases h

theorem eqK_run : ∀ d, EqA P w g s d := by
  intro d
  induction d with
  | zero => intro t ks h; simp [eqK] at h
  | succ d ih =>
    intro t ks h e he xs ys vs us r hx hy hr
    obtain ⟨e, rfl⟩ : ∃ e', e = e' + 1 := ⟨e - 1, by omega⟩
    have scal : ∀ k, ks = [k] → ((k = 0 ∧ ∃ q, P.underlying t = some (.int q)) ∨ (k = 1 ∧ P.underlying t = some .string) ∨ (k = 2 ∧ P.underlying t = some .bool)) → tag? P t = some false →
        ∃ ag, tag? P t = some ag ∧ (ag = false → ks.length = 1) ∧ (Op.equalIn (e + 1) t (if ag then .agg vs.toArray else vs.getD 0 undef) (if ag then .agg us.toArray else us.getD 0 undef)).run P w = .ok r w := by
      intro k hk hc ht
      subst hk
      have hl := eqCells_len hr
      have l1 := hx.1; have l2 := hy.1
      match xs, ys, vs, us, hl.1, hl.2, l1, l2 with
      | [x], [y], [v], [u], _, _, _, _ =>
        exact ⟨false, ht, fun _ => rfl, eq1 hr hc (hx.2 0 x v rfl rfl) (hy.2 0 y u rfl rfl) e⟩
    unfold eqK at h
    split at h
    · rename_i k ht
      cases h
      exact scal 0 rfl (.inl ⟨rfl, k, ht⟩) (by simp [tag?, ht, isAgD])
    · rename_i ht
      cases h
      exact scal 1 rfl (.inr (.inl ⟨rfl, ht⟩)) (by simp [tag?, ht, isAgD])
    · rename_i ht
      cases h
      exact scal 2 rfl (.inr (.inr ⟨rfl, ht⟩)) (by simp [tag?, ht, isAgD])
    · rename_i fs ht
      split at h
      · cases h
      · rename_i hst
        refine ⟨true, by simp [tag?, ht, isAgD], by simp, ?_⟩
        have hfo : P.fieldsOf t = fs := by simp [Program.fieldsOf, ht]
        simp only [if_true]
        rw [run_equalIn_agg w e t vs.toArray us.toArray (by rw [hfo]; exact ht) (by simpa using hst), hfo]
        exact eqKF_run ih fs.toList 0 ks h e (by omega) xs ys vs us r hx hy (by simpa using hr)
    · cases h

section ops
variable {o : Oper} {d : Nat} {K : St → Prop} {K' : Act → World → Prop} {Q' : Exit → Act → World → Prop}

theorem sok_es (I : Inv c g s a w) (hK : ∀ g' s' a' w', Inv c g' s' a' w' → K s' → K' a' w') (hd : o.dst = some d) (hlt : d < c.nt)
    {ne : Bool} {x y : X} {p q : Operand} {t u : TypeId} {ks : List Nat} (ho : o.op = .binOp (if ne then .neq else .eql) t p q u) (hk : eqK P 20 t = some ks) (ht : tag? P t = some true) (hgd : P.eqGuardType P.depth t = false)
    (hx : chkX x p = true) (hy : chkX y q = true) (h : wop P (.es d ne ks x y) K s) : o.wp P a w K' Q' := by
  simp only [wop] at h
  have gx := I.get hx
  have gy := I.get hy
  split at h
  · rename_i xs ys e1 e2
    rw [e1] at gx; rw [e2] at gy
    obtain ⟨vs, hv, hvl, _, hvg⟩ := gx.agg_inv
    obtain ⟨us, hu, hul, _, hug⟩ := gy.agg_inv
    split at h
    · rename_i r hr
      refine sok (g' := g) (s' := s) (w' := w) (v := .bool (if ne then !r else r)) hK hd hlt ?_ I (.data _ _ (.bool _)) h
      obtain ⟨ag, ha, _, hrun⟩ := eqK_run (P := P) (w := w) (g := g) (s := s) 20 t ks hk 10000 (by decide) xs ys vs us r ⟨hvl, hvg⟩ ⟨hul, hug⟩ hr
      rw [ht] at ha; cases ha
      simp only [if_true] at hrun
      have hgu := fun op => run_eqGuard_agg (P := P) w op t p q vs.toArray us.toArray hgd
      cases ne
      · simp only [Bool.false_eq_true, if_false] at ho ⊢
        simp only [execOp, ho, Sem.run_bind, hv, hu, hgu, Result.andThen_ok, run_eql_struct, hrun]
        rfl
      · simp only [if_true] at ho ⊢
        simp only [execOp, ho, Sem.run_bind, hv, hu, hgu, Result.andThen_ok, run_neq_struct, hrun]
        rfl
    · exact h.elim
  · exact h.elim

theorem isBnd_some {i : AV} {n j : Nat} (h : isBnd i n = some j) : ∃ k q, i = .int k q ∧ 0 ≤ q ∧ q ≤ n ∧ j = q.toNat := by
  unfold isBnd at h
  split at h
  · rename_i k q
    split at h
    · rename_i hq; cases h; exact ⟨k, q, rfl, hq.1, hq.2, rfl⟩
    · cases h
  · cases h

def chkO : Option X → Option Operand → Bool
  | none, none => true
  | some x, some p => chkX x p
  | _, _ => false

/-- The bounds of a cut. -/
theorem bounds {isS : Bool} (I : Inv c g s a w) {lo hi : Option X} {pl ph : Option Operand} (hl : chkO lo pl = true) (hh : chkO hi ph = true) {n cap hh' ll : Nat} (hc : n ≤ cap) (h1 : s.hi hi n = some hh') (h2 : s.lo lo hh' = some ll) :
    (Instr.sliceBounds isS n cap (pl.map a.eval) (ph.map a.eval) none).run P w = .ok (ll, hh', cap) w ∧ ll ≤ hh' ∧ hh' ≤ n := by
  have H : (match ph.map a.eval with | some v => Instr.sliceBound v cap (if isS then .sliceAcap else .sliceAlen) | none => pure n : Sem Nat).run P w = .ok hh' w ∧ hh' ≤ n := by
    cases hi with
    | none =>
      cases ph with
      | none => simp only [St.hi, Option.some.injEq] at h1; subst h1; simp
      | some p => simp [chkO] at hh
    | some x =>
      cases ph with
      | none => simp [chkO] at hh
      | some p =>
        simp only [St.hi] at h1
        obtain ⟨k, q, e, q0, q1, rfl⟩ := isBnd_some h1
        have gx := I.get (x := x) (p := p) (by simpa [chkO] using hh)
        rw [e] at gx
        simp only [Option.map_some, gx.int_inv]
        refine ⟨?_, by omega⟩
        have := run_sliceBound (P := P) w k q cap (if isS then .sliceAcap else .sliceAlen) q0 (by omega)
        exact this
  have L : (match pl.map a.eval with | some v => Instr.sliceBound v hh' .sliceB | none => pure 0 : Sem Nat).run P w = .ok ll w ∧ ll ≤ hh' := by
    cases lo with
    | none =>
      cases pl with
      | none => simp only [St.lo, Option.some.injEq] at h2; subst h2; simp
      | some p => simp [chkO] at hl
    | some x =>
      cases pl with
      | none => simp [chkO] at hl
      | some p =>
        simp only [St.lo] at h2
        obtain ⟨k, q, e, q0, q1, rfl⟩ := isBnd_some h2
        have gx := I.get (x := x) (p := p) (by simpa [chkO] using hl)
        rw [e] at gx
        simp only [Option.map_some, gx.int_inv]
        exact ⟨run_sliceBound (P := P) w k q hh' .sliceB q0 (by omega), by omega⟩
  refine ⟨?_, L.2, H.2⟩
  obtain ⟨H1, _⟩ := H
  obtain ⟨L1, _⟩ := L
  unfold Instr.sliceBounds
  cases ph with
  | none =>
    simp only [Option.map_none] at H1 ⊢
    cases pl with
    | none => simp only [Option.map_none] at L1 ⊢; simp at H1 L1 ⊢; simp [H1, L1]
    | some p => simp only [Option.map_some] at L1 ⊢; simp at H1 ⊢; simp [H1, L1]
  | some q =>
    simp only [Option.map_some] at H1 ⊢
    cases pl with
    | none => simp only [Option.map_none] at L1 ⊢; simp at L1 ⊢; simp [H1, L1]
    | some p => simp only [Option.map_some] at L1 ⊢; simp [H1, L1]

theorem sok_ss (I : Inv c g s a w) (hK : ∀ g' s' a' w', Inv c g' s' a' w' → K s' → K' a' w') (hd : o.dst = some d) (hlt : d < c.nt)
    {x : X} {p : Operand} {lo hi : Option X} {pl ph : Option Operand} {t : TypeId} (ho : o.op = .slice t p pl ph none) (ht : P.underlying t = some .string)
    (hx : chkX x p = true) (hl : chkO lo pl = true) (hh : chkO hi ph = true) (h : wop P (.ss d x lo hi) K s) : o.wp P a w K' Q' := by
  simp only [wop] at h
  have gx := I.get hx
  split at h
  · rename_i b e
    rw [e] at gx
    split at h
    · rename_i hv h1
      split at h
      · rename_i lv h2
        have hsz : (⟨b.toArray⟩ : ByteArray).size = b.length := by show b.toArray.size = _; simp
        have hb := bounds (P := P) (isS := false) I hl hh (n := b.length) (cap := b.length) (Nat.le_refl _) h1 h2
        refine sok (g' := g) (s' := s) (w' := w) (v := .string ⟨((b.take hv).drop lv).toArray⟩) hK hd hlt ?_ I (.data _ _ (.str _)) h
        have hex : (⟨b.toArray⟩ : ByteArray).extract lv hv = ⟨((b.take hv).drop lv).toArray⟩ := by
          have : ((⟨b.toArray⟩ : ByteArray).extract lv hv).data = b.toArray.extract lv hv := by simp [ByteArray.data_extract]
          have e2 : ((⟨b.toArray⟩ : ByteArray).extract lv hv) = ⟨b.toArray.extract lv hv⟩ := by rw [← this]
          rw [e2]
          congr 1
          rw [List.extract_toArray, List.extract_eq_take_drop, List.drop_take]
        simp [execOp, ho, gx.str_inv, Instr.sliceAt, Instr.slice, run_underlying ht, hsz, hb.1, hex]
      · exact h.elim
    · exact h.elim
  · exact h.elim
end ops
end
end Go.Proofs.Ythbbieobcokgbaa.Eng
