/-
  The engine, part 17: lists of operations in their order, with guards and with the steps that the code does not show.
-/
import Derived.Test.YthbbieobcokgbaaEng16
namespace Go.Proofs.Ythbbieobcokgbaa.Eng
open Go Go.RowKit

def wops (P : Program) : List LOp → (St → Prop) → St → Prop
  | [], K, s => K s
  | l :: ls, K, s => wop P l (wops P ls K) s

/-- The temporary that an operation's guard looks at, and what it wants. -/
def guardOf (ops : Array Oper) (o : Oper) : Option (Nat × Bool) :=
  match o.guard with
  | some (j, want) => match ops[j]? with
    | some oj => match oj.dst with
      | some t => some (t, want)
      | none => none
    | none => none
  | none => none

def chkDst (nt : Nat) (l : LOp) (o : Oper) : Bool := decide (l.dst < nt) && decide (o.dst = if hasDst l then some l.dst else none)

def chk1 (P : Program) (nt : Nat) (ops : Array Oper) (l : LOp) (o : Oper) : Bool := match l with
  | .g t want l' => decide (guardOf ops o = some (t, want)) && decide (t < nt) && chkDst nt l' o && hasDst l' && chkOp P l' o.op
  | l => o.guard.isNone && chkDst nt l o && chkOp P l o.op

def chkL (P : Program) (nt : Nat) (ops : Array Oper) : List LOp → List Oper → Bool
  | [], [] => true
  | .cs t :: ls, os => decide (t < nt) && chkL P nt ops ls os
  | .fz t :: ls, os => decide (t < nt) && chkL P nt ops ls os
  | .fb t :: ls, os => decide (t < nt) && chkL P nt ops ls os
  | l :: ls, o :: os => chk1 P nt ops l o && chkL P nt ops ls os
  | _, _ => false

section
variable {P : Program} {c : Cx} {g : Gh} {s : St} {a : Act} {w : World}

theorem set_self (s : St) (t : Nat) : s.set t (s.e t) = s := by
  have : upd s.e t (s.e t) = s.e := by funext j; unfold upd; split <;> simp_all
  unfold St.set; rw [this]
theorem put_self (a : Act) (t : Nat) : a.put (some t) (a.tmps.getD t undef) = a := by
  have : a.tmps.setIfInBounds t (a.tmps.getD t undef) = a.tmps := by
    apply Array.ext_getElem?
    intro i
    rw [Array.getElem?_setIfInBounds]
    split
    · rename_i h; subst h
      split
      · rename_i h; simp [h]
      · rename_i h; simp [h]
    · rfl
  simp only [Act.put, this]

theorem ghost_cs (_ : Inv c g s a w) {t : Nat} {K : St → Prop} (h : wop P (.cs t) K s) : K s := by
  simp only [wop] at h
  split at h
  · rename_i b e
    have hs : s.set t (.bool b) = s := by rw [← e]; exact set_self s t
    cases b
    · have := h.2 rfl; rwa [hs] at this
    · have := h.1 rfl; rwa [hs] at this
  · exact h.elim

theorem ghost_fz (I : Inv c g s a w) {t : Nat} (ht : t < c.nt) {K : St → Prop} (h : wop P (.fz t) K s) : ∃ g' s', Inv c g' s' a w ∧ K s' := by
  simp only [wop] at h
  split at h
  · rename_i k e
    split at h
    · rename_i r hr
      have I1 := I.share hr
      have hv := I.tm t
      rw [e] at hv
      have e1 := hv.sref_inv hr
      have I2 := I1.put ht (x := .sl .nw r.sz r.es) (v := a.tmps.getD t undef) (.data _ _ (by
        rw [e1]
        have q := (I.rws k r hr).mono (w' := w) (S' := fun b o => g.S b o ∨ ((g.rv k).ownBlock = some b ∧ o < r.es.length * r.sz)) (N' := g.N) (fun _ _ h => .inl h) (fun _ h => h) (fun _ _ _ => rfl) (fun _ _ => rfl)
        exact row_data q (fun b o hb ho => .inr ⟨hb, ho⟩) (fun b hb => (I.rwn k r hr b hb).1.1) .nw))
      rw [put_self] at I2
      exact ⟨_, _, I2, h⟩
    · exact h.elim
  · exact ⟨_, _, I, h⟩
  · exact h.elim

theorem Inv.moreS (I : Inv c g s a w) (b0 n : Nat) (hb : Wr c g b0) (hlt : b0 < w.heap.size) (hbx : ∀ k cs, s.bx k = some cs → g.bb k ≠ b0) (hrw : ∀ k r, s.rw k = some r → (g.rv k).ownBlock ≠ some b0) :
    Inv c { g with S := fun b o => g.S b o ∨ (b = b0 ∧ o < n) } s a w := by
  have T : Turn (fun _ => True) w w g { g with S := fun b o => g.S b o ∨ (b = b0 ∧ o < n) } s s :=
    ⟨fun _ _ h => .inl h, fun _ h => h, fun _ _ _ => rfl, fun j _ r1 h => ⟨r1, h, rfl, rfl⟩, fun j _ c' h => ⟨c', h, rfl⟩⟩
  refine ⟨I.defers, I.nt, I.fr, fun i => (I.tm i).turn T, fun j c1 h => (I.bxs j c1 h).turn T rfl, fun j c1 h => ⟨(I.bxn j c1 h).1, fun o ho => ?_⟩, fun j r h => (I.rws j r h).mono T.S T.N T.cell (fun _ _ => rfl), fun j r h b hb' => ⟨(I.rwn j r h b hb').1, fun o ho => ?_⟩, I.dbb, I.dbr, I.drr, fun b o ho => ?_, I.nn, I.nx, I.fix, fun b o h => .inl (I.sm b o h), fun b o h => ?_⟩
  · rcases ho with ho | ⟨e, _⟩
    · exact (I.bxn j c1 h).2 o ho
    · exact hbx j c1 h e
  · rcases ho with ho | ⟨e, _⟩
    · exact (I.rwn j r h b hb').2 o ho
    · exact absurd hb' (by rw [e]; exact hrw j r h)
  · rcases ho with ho | ⟨e, _⟩
    · exact I.sw b o ho
    · rw [e]; exact hlt
  · rcases h with h | ⟨e, _⟩
    · exact I.sb b o h
    · rcases Nat.lt_or_ge b c.w0.heap.size with hl | hl
      · exact .inr (.inr (by rw [e] at hl ⊢; exact hb.2 hl))
      · exact .inr (.inl hl)

theorem ghost_fb (I : Inv c g s a w) {t : Nat} (ht : t < c.nt) {K : St → Prop} (h : wop P (.fb t) K s) : ∃ g' s', Inv c g' s' a w ∧ K s' := by
  simp only [wop] at h
  split at h
  · rename_i k e
    split at h
    · rename_i cs hk
      obtain ⟨hns, h⟩ := h
      have hv := I.tm t
      rw [e] at hv
      have e1 := hv.ptr_inv hk
      obtain ⟨vs, ty, hb1, hb2, hb3⟩ := I.bxs k cs hk
      have hlt := box_lt (I.bxs k cs hk)
      have I1 := I.kill0 k
      have I2 := I1.moreS (g.bb k) cs.length (I.bxn k cs hk).1 hlt (fun j c1 hj => by
        obtain ⟨hne, c0, h0, _⟩ := kill_bx hj
        exact I.dbb j k c0 cs h0 hk hne) (fun j r hj => by
        obtain ⟨hne, h0⟩ := kill_rw hj
        exact I.dbr k j cs r hk h0)
      have hcell : ∀ (j : Nat) (y : AV), cs[j]? = some y → w.cell? ⟨g.bb k, 0 + j, none⟩ = some (vs.getD j undef) ∧ vs[j]? = some (vs.getD j undef) := by
        intro j y hj
        have hjl : j < vs.length := by rw [hb2]; exact (List.getElem?_eq_some_iff.1 hj).1
        refine ⟨?_, by simp [List.getD_eq_getElem?_getD, hjl]⟩
        simp [World.cell?, hb1, List.getD_eq_getElem?_getD, hjl]
      have hpl : ∀ y ∈ cs, plain y = true := by simpa [nosr] using hns
      have I3 := I2.put ht (x := .ept (.agg cs) 0) (v := a.tmps.getD t undef) (.data _ _ (by
        rw [e1]
        refine .ept (.agg cs) 0 (g.bb k) 0 (fun j => vs.getD j undef) (fun j y hj => ?_) (fun j y hj => ?_)
        · have hj' : cs[j]? = some y := hj
          have hp := hpl y (List.mem_of_getElem? hj')
          exact ⟨(hcell j y hj').1, .inr ⟨rfl, by have := (List.getElem?_eq_some_iff.1 hj').1; omega⟩, by cases y <;> simp [plain] at hp <;> rfl⟩
        · have hj' : cs[j]? = some y := hj
          have hp := hpl y (List.mem_of_getElem? hj')
          obtain ⟨_, _, q3⟩ := hb3 j y _ hj' (hcell j y hj').2
          have hd : s.dt y = some y := plain_dt hp
          exact (I.plain (x := y) (y := y) (by cases y <;> simp [plain] at hp <;> simp [nosr, plain]) hd q3).mono (fun _ _ h => .inl h) (fun _ h => h) (fun _ _ _ => rfl)))
      rw [put_self] at I3
      exact ⟨_, _, I3, h⟩
    · exact h.elim
  · exact ⟨_, _, I, h⟩
  · exact h.elim

theorem guard_ok {ops : Array Oper} {o : Oper} {t : Nat} {want : Bool} (I : Inv c g s a w) (h : guardOf ops o = some (t, want)) (ht : t < c.nt) {b : Bool} (hb : s.e t = .bool b) :
    Region.wanted o (yielded ops a.tmps) = decide (b = want) := by
  unfold guardOf at h
  split at h
  · rename_i j want' hg
    split at h
    · rename_i oj hj
      split at h
      · rename_i t' ht'
        simp only [Option.some.injEq, Prod.mk.injEq] at h
        obtain ⟨rfl, rfl⟩ := h
        have hv := I.tm t'
        rw [hb] at hv
        have e := hv.bool_inv
        have hlt : t' < a.tmps.size := by rw [I.nt]; exact ht
        have e2 : a.tmps[t']? = some (.bool b) := by
          rw [Array.getD_eq_getD_getElem?] at e
          cases h : a.tmps[t']? with
          | none => exact absurd hlt (Nat.not_lt.2 (Array.getElem?_eq_none_iff.1 h))
          | some v => rw [h] at e; simpa using e
        simp only [Region.wanted, hg, yielded, hj, Option.bind_some, ht', e2]
        cases b <;> cases want' <;> rfl
      · cases h
    · cases h
  · cases h

theorem guard_und {ops : Array Oper} {o : Oper} {t : Nat} {want : Bool} (I : Inv c g s a w) (h : guardOf ops o = some (t, want)) (hb : s.e t = .und) :
    Region.wanted o (yielded ops a.tmps) = false := by
  unfold guardOf at h
  split at h
  · rename_i j want' hg
    split at h
    · rename_i oj hj
      split at h
      · rename_i t' ht'
        simp only [Option.some.injEq, Prod.mk.injEq] at h
        obtain ⟨rfl, rfl⟩ := h
        have hv := I.tm t'
        rw [hb] at hv
        have e := hv.und_inv
        have e2 : ∀ b, a.tmps[t']? ≠ some (.bool b) := by
          intro b h
          rw [Array.getD_eq_getD_getElem?, h] at e
          simp only [Option.getD_some] at e
          exact absurd e (by unfold undef; simp)
        simp only [Region.wanted, hg, yielded, hj, Option.bind_some, ht']
        cases h : a.tmps[t']? with
        | none => rfl
        | some v => cases v <;> first | rfl | exact absurd h (e2 _)
      · cases h
    · cases h
  · cases h

variable {K : St → Prop} {K' : Act → World → Prop} {Q' : Exit → Act → World → Prop}

theorem chkDst_ok {nt : Nat} {l : LOp} {o : Oper} (h : chkDst nt l o = true) : l.dst < nt ∧ o.dst = if hasDst l then some l.dst else none := by
  simpa [chkDst] using h

/-- One operation with its guard: what holds of the machine. -/
theorem one_sound {ops : Array Oper} {l : LOp} {o : Oper} (hK : ∀ g' s' a' w', Inv c g' s' a' w' → K s' → K' a' w') (hc : chk1 P c.nt ops l o = true) (I : Inv c g s a w) (h : wop P l K s) :
    if Region.wanted o (yielded ops a.tmps) then o.wp P a w K' Q' else K' (a.put o.dst undef) w := by
  have plain : (o.guard.isNone && chkDst c.nt l o && chkOp P l o.op) = true → if Region.wanted o (yielded ops a.tmps) then o.wp P a w K' Q' else K' (a.put o.dst undef) w := by
    intro hc
    simp only [Bool.and_eq_true] at hc
    obtain ⟨⟨h1, h2⟩, h3⟩ := hc
    obtain ⟨q1, q2⟩ := chkDst_ok h2
    have hw : Region.wanted o (yielded ops a.tmps) = true := by simp [Region.wanted, Option.isNone_iff_eq_none.1 h1]
    rw [if_pos hw]
    exact op_sound I hK h3 q2 q1 h
  cases l with
  | g t want l' =>
    simp only [chk1, Bool.and_eq_true, decide_eq_true_eq] at hc
    obtain ⟨⟨⟨⟨h1, h2⟩, h3⟩, h5⟩, h4⟩ := hc
    obtain ⟨q1, q2⟩ := chkDst_ok h3
    rw [if_pos h5] at q2
    simp only [wop] at h
    have skip : Region.wanted o (yielded ops a.tmps) = false → K (s.set l'.dst .und) → if Region.wanted o (yielded ops a.tmps) then o.wp P a w K' Q' else K' (a.put o.dst undef) w := by
      intro hw hk
      rw [hw, if_neg (by simp), q2]
      exact hK _ _ _ _ (I.put q1 .und) hk
    split at h
    · rename_i b e
      have hw := guard_ok I h1 h2 e
      split at h
      · rename_i hb
        rw [hw, if_pos (by simpa using hb)]
        exact op_sound I hK h4 (by rw [if_pos h5]; exact q2) q1 h
      · rename_i hb
        exact skip (by rw [hw]; simpa using hb) h
    · rename_i e
      exact skip (guard_und I h1 e) h
    · exact h.elim
  | _ => exact plain hc

theorem list_sound {ops : Array Oper} (hK : ∀ g' s' a' w', Inv c g' s' a' w' → K s' → Q' .normal a' w') :
    ∀ (ls : List LOp) (os : List Oper) (g : Gh) (s : St) (a : Act) (w : World), chkL P c.nt ops ls os = true → Inv c g s a w → wops P ls K s → wpList P ops Q' os a w := by
  intro ls
  induction ls with
  | nil =>
    intro os g s a w hc I h
    cases os with
    | nil => exact hK _ _ _ _ I h
    | cons o os => simp [chkL] at hc
  | cons l ls ih =>
    intro os g s a w hc I h
    have main : (∃ o os', os = o :: os' ∧ chk1 P c.nt ops l o = true ∧ chkL P c.nt ops ls os' = true) → wpList P ops Q' os a w := by
      rintro ⟨o, os', rfl, h1, h2⟩
      refine wpList_step fun K'' hK'' => ?_
      exact one_sound (K := wops P ls K) (fun g' s' a' w' I' h' => hK'' _ _ (ih os' g' s' a' w' h2 I' h')) h1 I h
    cases l with
    | cs t =>
      simp only [chkL, Bool.and_eq_true, decide_eq_true_eq] at hc
      exact ih os g s a w hc.2 I (ghost_cs I h)
    | fb t =>
      simp only [chkL, Bool.and_eq_true, decide_eq_true_eq] at hc
      obtain ⟨g', s', I', h'⟩ := ghost_fb I hc.1 h
      exact ih os g' s' a w hc.2 I' h'
    | fz t =>
      simp only [chkL, Bool.and_eq_true, decide_eq_true_eq] at hc
      obtain ⟨g', s', I', h'⟩ := ghost_fz I hc.1 h
      exact ih os g' s' a w hc.2 I' h'
    | _ =>
      cases os with
      | nil => simp [chkL] at hc
      | cons o os' =>
        simp only [chkL, Bool.and_eq_true] at hc
        exact main ⟨o, os', rfl, hc.1, hc.2⟩
end
end Go.Proofs.Ythbbieobcokgbaa.Eng
