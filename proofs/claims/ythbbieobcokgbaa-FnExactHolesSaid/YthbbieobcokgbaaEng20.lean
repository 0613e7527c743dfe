/-
  The engine, part 20: the check and the soundness of a region whose order is drawn.
-/
import Derived.Test.YthbbieobcokgbaaEng19
namespace Go.Proofs.Ythbbieobcokgbaa.Eng
open Go Go.RowKit

def maskF (acc : List Nat) (m : Nat) (e : Edge) : Nat := if Region.binds .any e then m ||| (1 <<< e.on) ||| acc.getD e.on 0 else m
def maskOf (o : Oper) (acc : List Nat) : Nat := o.after.toList.foldl (maskF acc) 0
def masksGo : List Oper → List Nat → List Nat
  | [], acc => acc
  | o :: os, acc => masksGo os (acc ++ [maskOf o acc])

def Clo (ops : Array Oper) (L : Nat → Prop) : Prop := ∀ (i : Nat) (o : Oper), ops[i]? = some o → L i → ∀ e ∈ o.after, Region.binds .any e = true → L e.on

theorem maskF_bit {acc : List Nat} {j : Nat} : ∀ (l : List Edge) (m : Nat), (l.foldl (maskF acc) m).testBit j = true → m.testBit j = true ∨ ∃ e ∈ l, Region.binds .any e = true ∧ (j = e.on ∨ (acc.getD e.on 0).testBit j = true)
  | [], m, h => .inl h
  | e :: l, m, h => by
    rcases maskF_bit l _ h with h | ⟨e', h1, h2, h3⟩
    · unfold maskF at h
      split at h
      · rename_i hb
        simp only [Nat.testBit_or, Bool.or_eq_true] at h
        rcases h with (h | h) | h
        · exact .inl h
        · refine .inr ⟨e, by simp, hb, .inl ?_⟩
          rw [Nat.one_shiftLeft, Nat.testBit_two_pow] at h
          exact (by simpa using h : e.on = j).symm
        · exact .inr ⟨e, by simp, hb, .inr h⟩
      · exact .inl h
    · exact .inr ⟨e', by simp [h1], h2, h3⟩

def MaskOk (ops : Array Oper) (i m : Nat) : Prop :=
  ∀ (L : Nat → Prop), Clo ops L → (∀ o, ops[i]? = some o → ∀ e ∈ o.after, Region.binds .any e = true → L e.on) → ∀ j, m.testBit j = true → L j

theorem masks_ok {ops : Array Oper} : ∀ (os : List Oper) (acc : List Nat), (∀ k, os[k]? = ops[acc.length + k]?) → (∀ i, i < acc.length → MaskOk ops i (acc.getD i 0)) →
    ∀ i, i < acc.length + os.length → MaskOk ops i ((masksGo os acc).getD i 0)
  | [], acc, _, h, i, hi => h i (by simpa using hi)
  | o :: os, acc, ho, h, i, hi => by
    simp only [masksGo]
    refine masks_ok os (acc ++ [maskOf o acc]) (fun k => ?_) (fun i hi => ?_) i (by simp at hi ⊢; omega)
    · have := ho (k + 1)
      simpa [Nat.add_assoc, Nat.add_comm 1 k] using this
    · by_cases hlt : i < acc.length
      · have : (acc ++ [maskOf o acc]).getD i 0 = acc.getD i 0 := by simp [List.getD_eq_getElem?_getD, List.getElem?_append_left hlt]
        rw [this]; exact h i hlt
      · have hie : i = acc.length := by simp at hi; omega
        subst hie
        have : (acc ++ [maskOf o acc]).getD acc.length 0 = maskOf o acc := by simp [List.getD_eq_getElem?_getD]
        rw [this]
        intro L hL he j hj
        have ho0 : ops[acc.length]? = some o := by simpa using (ho 0).symm
        unfold maskOf at hj
        rcases maskF_bit _ _ hj with hj | ⟨e, h1, h2, h3⟩
        · simp at hj
        · have hLe := he o ho0 e (by simpa using h1) h2
          rcases h3 with rfl | h3
          · exact hLe
          · by_cases hel : e.on < acc.length
            · exact h e.on hel L hL (fun o' ho' e' he' hb' => hL e.on o' ho' hLe e' he' hb') j h3
            · rw [List.getD_eq_getElem?_getD, List.getElem?_eq_none (by omega)] at h3
              simp at h3

def nodupB : List Nat → Bool
  | [] => true
  | x :: l => !l.contains x && nodupB l
theorem nodupB_ok : ∀ {l : List Nat}, nodupB l = true → l.Nodup
  | [], _ => .nil
  | x :: l, h => by
    simp only [nodupB, Bool.and_eq_true, Bool.not_eq_true', List.contains_eq_mem, decide_eq_false_iff_not] at h
    exact List.nodup_cons.2 ⟨h.1, nodupB_ok h.2⟩

def readsOk (l : LOp) (mask : Nat) : List LOp → Nat → Bool
  | [], _ => true
  | l' :: ls, j => (!l.rds.contains l'.dst || mask.testBit j) && readsOk l mask ls (j + 1)
theorem readsOk_ok {l : LOp} {mask : Nat} : ∀ {ls : List LOp} {k : Nat}, readsOk l mask ls k = true → ∀ (j : Nat) (l' : LOp), ls[j]? = some l' → l'.dst ∈ l.rds → mask.testBit (k + j) = true
  | [], _, _, j, l', h, _ => by simp at h
  | x :: ls, k, h, j, l', hj, hm => by
    simp only [readsOk, Bool.and_eq_true, Bool.or_eq_true, Bool.not_eq_true', List.contains_eq_mem, decide_eq_false_iff_not] at h
    cases j with
    | zero => simp at hj; subst hj; exact h.1.resolve_left (fun hn => hn hm)
    | succ j => have := readsOk_ok h.2 j l' (by simpa using hj) hm; rwa [show k + (j + 1) = k + 1 + j by omega]

def allBits (mask : Nat) : Nat → Bool
  | 0 => true
  | n + 1 => mask.testBit n && allBits mask n
theorem allBits_ok {mask : Nat} : ∀ {n : Nat}, allBits mask n = true → ∀ j, j < n → mask.testBit j = true
  | 0, _, j, h => by omega
  | n + 1, h, j, hj => by
    simp only [allBits, Bool.and_eq_true] at h
    by_cases e : j = n
    · subst e; exact h.1
    · exact allBits_ok h.2 j (by omega)
def alBits (mask : Nat) (i : Nat) : List LOp → Nat → Bool
  | [], _ => true
  | l' :: ls, j => (!isAl l' || !decide (j < i) || mask.testBit j) && alBits mask i ls (j + 1)
theorem alBits_ok {mask i : Nat} : ∀ {ls : List LOp} {k : Nat}, alBits mask i ls k = true → ∀ (j : Nat) (l' : LOp), ls[j]? = some l' → isAl l' = true → k + j < i → mask.testBit (k + j) = true
  | [], _, _, j, l', h, _, _ => by simp at h
  | x :: ls, k, h, j, l', hj, hm, hlt => by
    simp only [alBits, Bool.and_eq_true, Bool.or_eq_true, Bool.not_eq_true', decide_eq_false_iff_not] at h
    cases j with
    | zero =>
      simp at hj; subst hj
      rcases h.1 with (h | h) | h
      · rw [hm] at h; cases h
      · exact absurd (by simpa using hlt) h
      · exact h
    | succ j => have := alBits_ok h.2 j l' (by simpa using hj) hm (by omega); rwa [show k + (j + 1) = k + 1 + j by omega]

def chkOne (P : Program) (nt : Nat) (ops : Array Oper) (q : List LOp) (m i mask : Nat) (l : LOp) (o : Oper) : Bool :=
  chk1 P nt ops l o && (o.after.toList.all fun e => !Region.binds .any e || decide (e.on < i)) &&
    (if i < m then isQA l && readsOk l mask q 0 && alBits mask i q 0 else allBits mask i)
def chkGo (P : Program) (nt : Nat) (ops : Array Oper) (q : List LOp) (m : Nat) : Nat → List LOp → List Oper → List Nat → Bool
  | _, [], [], _ => true
  | i, l :: ls, o :: os, mk :: mks => chkOne P nt ops q m i mk l o && chkGo P nt ops q m (i + 1) ls os mks
  | _, _, _, _ => false
theorem chkGo_ok {P : Program} {nt : Nat} {ops : Array Oper} {q : List LOp} {m : Nat} : ∀ {ls : List LOp} {os : List Oper} {mks : List Nat} {k : Nat}, chkGo P nt ops q m k ls os mks = true →
    ls.length = os.length ∧ ∀ (i : Nat) (l : LOp) (o : Oper), ls[i]? = some l → os[i]? = some o → chkOne P nt ops q m (k + i) (mks.getD i 0) l o = true
  | [], [], _, _, _ => ⟨rfl, by intro i l o h; simp at h⟩
  | l :: ls, o :: os, mk :: mks, k, h => by
    simp only [chkGo, Bool.and_eq_true] at h
    obtain ⟨q1, q2⟩ := chkGo_ok h.2
    refine ⟨by simp [q1], fun i l' o' hl ho => ?_⟩
    cases i with
    | zero => simp at hl ho; subst hl; subst ho; exact h.1
    | succ i =>
      have := q2 i l' o' (by simpa using hl) (by simpa using ho)
      rw [show k + (i + 1) = k + 1 + i by omega]
      simpa [List.getD_eq_getElem?_getD] using this
  | [], _ :: _, _, _, h => by simp [chkGo] at h
  | _ :: _, [], _, _, h => by simp [chkGo] at h
  | _ :: _, _ :: _, [], _, h => by simp [chkGo] at h

def chkQ (P : Program) (nt : Nat) (ops : Array Oper) (ls : List LOp) (m : Nat) : Bool :=
  decide (m ≤ ls.length) && nodupB ((ls.take m).map LOp.dst) && chkGo P nt ops (ls.take m) m 0 ls ops.toList (masksGo ops.toList [])

section
variable {P : Program} {c : Cx} {ops : Array Oper} {ls : List LOp} {m : Nat} {K : St → Prop} {Q' : Exit → Act → World → Prop}

def Lst (listed : Array Bool) : Nat → Prop := fun j => listed.getD j false = true

theorem unl {listed : Array Bool} {j : Nat} (h : j < listed.size) : listed.getD j true = false ↔ ¬ Lst listed j := by
  simp [Lst, Array.getD_eq_getD_getElem?, Array.getElem?_eq_getElem h]
theorem Lst.lt {listed : Array Bool} {j : Nat} (h : Lst listed j) : j < listed.size := by
  rcases Nat.lt_or_ge j listed.size with h' | h'
  · exact h'
  · simp [Lst, Array.getD_eq_getD_getElem?, Array.getElem?_eq_none h'] at h
theorem lst_set {listed : Array Bool} {i j : Nat} (h : i < listed.size) : Lst (listed.setIfInBounds i true) j ↔ Lst listed j ∨ j = i := by
  simp only [Lst, Array.getD_eq_getD_getElem?, Array.getElem?_setIfInBounds]
  by_cases e : i = j
  · subst e; simp [h]
  · simp [e, Ne.symm e]
theorem count_set_lt {listed : Array Bool} {i n : Nat} (h : i < listed.size) (hu : ¬ Lst listed i) (hc : listed.toList.count false ≤ n + 1) : (listed.setIfInBounds i true).toList.count false ≤ n := by
  rw [Array.toList_setIfInBounds, List.count_set (by simpa using h)]
  have hf : listed.toList[i]'(by simpa using h) = false := by
    simp only [Lst, Array.getD_eq_getD_getElem?, Array.getElem?_eq_getElem h] at hu
    simpa using hu
  have h2 : (true == false) = false := rfl
  simp only [hf, beq_self_eq_true, if_true, h2, Bool.false_eq_true, if_false]
  omega
theorem count_pos {listed : Array Bool} {i : Nat} (h : i < listed.size) (hu : ¬ Lst listed i) : 0 < listed.toList.count false := by
  rw [List.count_pos_iff]
  have hf : listed[i] = false := by
    simp only [Lst, Array.getD_eq_getD_getElem?, Array.getElem?_eq_getElem h] at hu
    simpa using hu
  rw [← hf]; simp

/-- What the check says. -/
structure Ok (P : Program) (nt : Nat) (ops : Array Oper) (ls : List LOp) (m : Nat) : Prop where
  len : ls.length = ops.size
  mle : m ≤ ls.length
  nd : ((ls.take m).map LOp.dst).Nodup
  one : ∀ (i : Nat) (l : LOp) (o : Oper), ls[i]? = some l → ops[i]? = some o → chk1 P nt ops l o = true
  edge : ∀ (i : Nat) (o : Oper), ops[i]? = some o → ∀ e ∈ o.after, Region.binds .any e = true → e.on < i
  qa : (ls.take m).all isQA = true
  rd : ∀ (i : Nat) (l : LOp) (o : Oper) (L : Nat → Prop), i < m → ls[i]? = some l → ops[i]? = some o → Clo ops L → (∀ e ∈ o.after, Region.binds .any e = true → L e.on) →
    ∀ (j : Nat) (l' : LOp), (ls.take m)[j]? = some l' → l'.dst ∈ l.rds → L j ∧ j < i
  al : ∀ (i : Nat) (l : LOp) (o : Oper) (L : Nat → Prop), i < m → ls[i]? = some l → ops[i]? = some o → Clo ops L → (∀ e ∈ o.after, Region.binds .any e = true → L e.on) →
    ∀ (j : Nat) (l' : LOp), (ls.take m)[j]? = some l' → isAl l' = true → j < i → L j
  tl : ∀ (i : Nat) (o : Oper) (L : Nat → Prop), m ≤ i → ops[i]? = some o → Clo ops L → (∀ e ∈ o.after, Region.binds .any e = true → L e.on) → ∀ j, j < i → L j

theorem chkQ_ok {nt : Nat} (h : chkQ P nt ops ls m = true) : Ok P nt ops ls m := by
  simp only [chkQ, Bool.and_eq_true, decide_eq_true_eq] at h
  obtain ⟨⟨h1, h2⟩, h3⟩ := h
  obtain ⟨q1, q2⟩ := chkGo_ok h3
  have hlen : ls.length = ops.size := by simpa using q1
  have hm : ∀ i, i < ops.size → MaskOk ops i ((masksGo ops.toList []).getD i 0) := fun i hi => masks_ok ops.toList [] (by simp) (by simp) i (by simpa using hi)
  have lt_of : ∀ {i : Nat} {o : Oper}, ops[i]? = some o → i < ops.size := fun h => (Array.getElem?_eq_some_iff.1 h).1
  have all : ∀ (i : Nat) (o : Oper), ops[i]? = some o → ∃ l, ls[i]? = some l ∧ chkOne P nt ops (ls.take m) m i ((masksGo ops.toList []).getD i 0) l o = true := fun i o ho => by
    have hi : i < ls.length := by rw [hlen]; exact lt_of ho
    refine ⟨ls[i], List.getElem?_eq_getElem hi, ?_⟩
    have := q2 i ls[i] o (List.getElem?_eq_getElem hi) (by simpa using ho)
    rwa [Nat.zero_add] at this
  have edge : ∀ (i : Nat) (o : Oper), ops[i]? = some o → ∀ e ∈ o.after, Region.binds .any e = true → e.on < i := fun i o ho e he hb => by
    obtain ⟨l, _, hc⟩ := all i o ho
    simp only [chkOne, Bool.and_eq_true, List.all_eq_true] at hc
    have := hc.1.2 e (by simpa using he)
    simpa [hb] using this
  refine ⟨hlen, h1, nodupB_ok h2, fun i l o hl ho => ?_, edge, ?_, fun i l o L hi hl ho hL he j l' hj hr => ?_, fun i l o L hi hl ho hL he j l' hj ha hji => ?_, fun i o L hi ho hL he j hj => ?_⟩
  · obtain ⟨l', hl', hc⟩ := all i o ho
    rw [hl] at hl'; cases hl'
    simp only [chkOne, Bool.and_eq_true] at hc
    exact hc.1.1
  · rw [List.all_eq_true]
    intro l hl
    obtain ⟨i, hi, rfl⟩ := List.getElem_of_mem hl
    have hi' : i < m := by simp at hi; omega
    have hil : i < ls.length := by simp at hi; omega
    obtain ⟨l', hl', hc⟩ := all i ops[i] (Array.getElem?_eq_getElem (by omega))
    rw [List.getElem?_eq_getElem hil] at hl'; cases hl'
    simp only [chkOne, Bool.and_eq_true, hi', if_true] at hc
    rw [List.getElem_take]; exact hc.2.1.1
  · obtain ⟨l', hl', hc⟩ := all i o ho
    rw [hl] at hl'; cases hl'
    simp only [chkOne, Bool.and_eq_true, hi, if_true] at hc
    have hb := readsOk_ok hc.2.1.2 j l' hj hr
    rw [Nat.zero_add] at hb
    have hk := hm i (lt_of ho)
    refine ⟨hk L hL (fun o' ho' => by rw [ho] at ho'; cases ho'; exact he) j hb, ?_⟩
    exact hk (· < i) (fun i' o' ho' hi' e' he' hb' => Nat.lt_trans (edge i' o' ho' e' he' hb') hi') (fun o' ho' => by rw [ho] at ho'; cases ho'; exact edge i o ho) j hb
  · obtain ⟨l', hl', hc⟩ := all i o ho
    rw [hl] at hl'; cases hl'
    simp only [chkOne, Bool.and_eq_true, hi, if_true] at hc
    have hb := alBits_ok hc.2.2 j l' hj ha (by omega)
    rw [Nat.zero_add] at hb
    exact hm i (lt_of ho) L hL (fun o' ho' => by rw [ho] at ho'; cases ho'; exact he) j hb
  · obtain ⟨l', hl', hc⟩ := all i o ho
    simp only [chkOne, Bool.and_eq_true, Nat.not_lt.2 hi, if_false] at hc
    exact hm i (lt_of ho) L hL (fun o' ho' => by rw [ho] at ho'; cases ho'; exact he) j (allBits_ok hc.2 j hj)

theorem ready_lst {listed : Array Bool} (hs : listed.size = ops.size) {j : Nat} (h : j ∈ Region.ready .any ops listed) :
    j < ops.size ∧ ¬ Lst listed j ∧ ∃ o, ops[j]? = some o ∧ ∀ e ∈ o.after, Region.binds .any e = true → Lst listed e.on := by
  obtain ⟨h0, o, ho, he⟩ := mem_ready.1 h
  have hlt := (Array.getElem?_eq_some_iff.1 ho).1
  exact ⟨hlt, (unl (by omega)).1 h0, o, ho, he⟩
theorem lst_ready {listed : Array Bool} (hs : listed.size = ops.size) {j : Nat} {o : Oper} (h1 : ¬ Lst listed j) (h2 : ops[j]? = some o) (h3 : ∀ e ∈ o.after, Region.binds .any e = true → Lst listed e.on) :
    j ∈ Region.ready .any ops listed :=
  mem_ready.2 ⟨(unl (by rw [hs]; exact (Array.getElem?_eq_some_iff.1 h2).1)).2 h1, o, h2, h3⟩

theorem wpOp_of {i : Nat} {o : Oper} (ho : ops[i]? = some o) {K' : Act → World → Prop} {a : Act} {w : World} (h : if Region.wanted o (yielded ops a.tmps) then o.wp P a w K' Q' else K' (a.put o.dst undef) w) : wpOp P ops Q' i K' a w := by
  unfold wpOp
  simp only [ho]
  split
  · rename_i hw; rw [if_pos hw] at h; exact .inl h
  · rename_i hw; rw [if_neg hw] at h; exact h

theorem any_t (H : Ok P c.nt ops ls m) (hK : ∀ g' s' a' w', Inv c g' s' a' w' → K s' → Q' .normal a' w') : ∀ (fuel i : Nat) (listed : Array Bool) (g : Gh) (s : St) (a : Act) (w : World),
    listed.size = ops.size → m ≤ i → (∀ j, Lst listed j ↔ j < i ∧ j < ops.size) → listed.toList.count false ≤ fuel → Inv c g s a w → wops P (ls.drop i) K s → wpAny P .any ops Q' fuel listed a w := by
  intro fuel
  induction fuel with
  | zero =>
    intro i listed g s a w hs hm hL hc I h
    have hi : ops.size ≤ i := by
      rcases Nat.lt_or_ge i ops.size with hi | hi
      · have := count_pos (listed := listed) (i := i) (by omega) (fun h => by have := ((hL i).1 h).1; omega); omega
      · exact hi
    have hr : Region.ready .any ops listed = [] := by
      cases hr : Region.ready .any ops listed with
      | nil => rfl
      | cons j _ =>
        obtain ⟨h1, h2, _⟩ := ready_lst hs (j := j) (by rw [hr]; simp)
        exact absurd ((hL j).2 ⟨by omega, h1⟩) h2
    rw [List.drop_eq_nil_of_le (by rw [H.len]; exact hi)] at h
    exact ⟨hr, hK _ _ _ _ I h⟩
  | succ fuel ih =>
    intro i listed g s a w hs hm hL hc I h
    rcases Nat.lt_or_ge i ops.size with hi | hi
    · have hil : i < ls.length := by rw [H.len]; exact hi
      have ho := Array.getElem?_eq_getElem hi
      have hui : ¬ Lst listed i := fun h => by have := ((hL i).1 h).1; omega
      have hclo : Clo ops (Lst listed) := fun i' o' ho' hi' e' he' hb' => (hL e'.on).2 ⟨by have := H.edge i' o' ho' e' he' hb'; have := ((hL i').1 hi').1; omega, by have := H.edge i' o' ho' e' he' hb'; have := (Array.getElem?_eq_some_iff.1 ho').1; omega⟩
      have hri : i ∈ Region.ready .any ops listed := lst_ready hs hui ho (fun e he hb => by have := H.edge i _ ho e he hb; exact (hL e.on).2 ⟨this, by omega⟩)
      refine ⟨fun h0 => (by rw [h0] at hri; cases hri), fun j hj => ?_⟩
      obtain ⟨hj1, hj2, oj, hoj, hje⟩ := ready_lst hs hj
      have hji : j = i := by
        rcases Nat.lt_trichotomy j i with h | h | h
        · exact absurd ((hL j).2 ⟨h, hj1⟩) hj2
        · exact h
        · exact absurd (H.tl j oj (Lst listed) (by omega) hoj hclo hje i h) hui
      subst hji
      refine wpOp_of ho ?_
      rw [← List.getElem_cons_drop hil] at h
      simp only [wops] at h
      refine one_sound (fun g' s' a' w' I' h' => ?_) (H.one j _ _ (List.getElem?_eq_getElem hil) ho) I h
      refine ih (j + 1) _ g' s' a' w' (by simpa using hs) (by omega) (fun j' => ?_) (count_set_lt (by omega) hui hc) I' h'
      rw [lst_set (by omega), hL j']
      omega
    · have hr : Region.ready .any ops listed = [] := by
        cases hr : Region.ready .any ops listed with
        | nil => rfl
        | cons j _ =>
          obtain ⟨h1, h2, _⟩ := ready_lst hs (j := j) (by rw [hr]; simp)
          exact absurd ((hL j).2 ⟨by omega, h1⟩) h2
      rw [List.drop_eq_nil_of_le (by rw [H.len]; exact hi)] at h
      exact wpAny_done hr (hK _ _ _ _ I h) _

theorem alKeys_mem : ∀ {q : List LOp} {l : LOp}, l ∈ q → isAl l = true → l.dst ∈ alKeys q
  | x :: q, l, h, ha => by
    rcases List.mem_cons.1 h with rfl | h
    · cases l <;> simp [isAl] at ha
      simp [alKeys, LOp.dst]
    · have := alKeys_mem h ha
      cases x <;> simp [alKeys, this]

variable {s0 sm : St}

theorem step_q (H : Ok P c.nt ops ls m) (F : ∀ k, k ∈ alKeys (ls.take m) → Free k s0) (hF : ∀ (i : Nat) (l : LOp), (ls.take m)[i]? = some l → Fct P (ls.take m) s0 sm i l)
    {L : Nat → Prop} (hL : Clo ops L) (hLm : ∀ j, L j → j < m) {i : Nat} {l : LOp} {o : Oper} (hi : i < m) (hl : ls[i]? = some l) (ho : ops[i]? = some o) (hu : ¬ L i)
    (he : ∀ e ∈ o.after, Region.binds .any e = true → L e.on) : wop P l (fun s' => s' = mix (ls.take m) (fun j => L j ∨ j = i) s0 sm) (mix (ls.take m) L s0 sm) := by
  have hlq : (ls.take m)[i]? = some l := by rw [List.getElem?_take]; simp [hi, hl]
  obtain ⟨f1, f2⟩ := hF i l hlq
  have uniq : ∀ (j : Nat) (l' : LOp), (ls.take m)[j]? = some l' → l'.dst = l.dst → j = i ∧ l' = l := fun j l' hj e => by
    have hjl := (List.getElem?_eq_some_iff.1 hj).1
    have hil := (List.getElem?_eq_some_iff.1 hlq).1
    have h1 := (List.getElem?_eq_some_iff.1 hj).2
    have h2 := (List.getElem?_eq_some_iff.1 hlq).2
    have hji : j = i := by
      have hp := List.pairwise_iff_getElem.1 H.nd
      rcases Nat.lt_trichotomy j i with h | h | h
      · exact absurd (by rw [List.getElem_map, List.getElem_map, h1, h2, e]) (hp j i (by simpa using hjl) (by simpa using hil) h)
      · exact h
      · exact absurd (by rw [List.getElem_map, List.getElem_map, h1, h2, e]) (hp i j (by simpa using hil) (by simpa using hjl) h)
    subst hji
    rw [hlq] at hj; cases hj
    exact ⟨rfl, rfl⟩
  have notlater : ∀ (j : Nat) (l' : LOp), isAl l = true → (ls.take m)[j]? = some l' → L j → j < i := fun j l' ha hj hLj => by
    rcases Nat.lt_trichotomy j i with h | h | h
    · exact h
    · subst h; exact absurd hLj hu
    · have hjm := hLm j hLj
      have hjl : j < ops.size := by have := (List.getElem?_eq_some_iff.1 hj).1; have := H.len; simp at *; omega
      have hls : ls[j]? = some l' := by rw [List.getElem?_take] at hj; simpa [hjm] using hj
      exact absurd (H.al j l' ops[j] L hjm hls (Array.getElem?_eq_getElem hjl) hL (fun e he hb => hL j _ (Array.getElem?_eq_getElem hjl) hLj e he hb) i l hlq ha h) hu
  cases hal : isAl l with
  | false =>
    refine f1 hal (mix (ls.take m) L s0 sm) ⟨fun t ht => ?_, fun k cs hk => ?_, fun _ _ h => h⟩ _ ?_
    · simp only [mix]
      by_cases hex : ∃ (j : Nat) (l' : LOp), (ls.take m)[j]? = some l' ∧ l'.dst = t
      · obtain ⟨j, l', hj, hd⟩ := hex
        have q := H.rd i l o L hi hl ho hL he j l' hj (by rw [hd]; exact ht)
        rw [if_pos ⟨j, l', hj, q.1, hd⟩, if_pos ⟨j, l', hj, q.2, hd⟩]
      · rw [if_neg (fun ⟨j, l', hj, _, hd⟩ => hex ⟨j, l', hj, hd⟩), if_neg (fun ⟨j, l', hj, _, hd⟩ => hex ⟨j, l', hj, hd⟩)]
    · simp only [mix] at hk ⊢
      by_cases hex : ∃ (j : Nat) (l' : LOp), (ls.take m)[j]? = some l' ∧ j < i ∧ isAl l' = true ∧ l'.dst = k
      · rw [if_pos hex] at hk
        obtain ⟨j, l', hj, hji, ha, hd⟩ := hex
        rw [if_pos ⟨j, l', hj, H.al i l o L hi hl ho hL he j l' hj ha hji, ha, hd⟩]
        exact hk
      · rw [if_neg hex] at hk
        rw [if_neg ?_]
        · exact hk
        · rintro ⟨j, l', hj, _, ha, hd⟩
          have := (F k (by rw [← hd]; exact alKeys_mem (List.mem_of_getElem? hj) ha)).bx
          rw [this] at hk; cases hk
    · refine mix_ext (fun t => ?_) (fun k => ?_) rfl
      · simp only [mix, St.set, upd]
        by_cases ht : t = l.dst
        · rw [if_pos ht, if_pos ⟨i, l, hlq, .inr rfl, ht.symm⟩, ht]
        · rw [if_neg ht]
          congr 1
          apply propext
          constructor
          · rintro ⟨j, l', hj, hLj, hd⟩; exact ⟨j, l', hj, .inl hLj, hd⟩
          · rintro ⟨j, l', hj, hLj | hji, hd⟩
            · exact ⟨j, l', hj, hLj, hd⟩
            · subst hji; rw [hlq] at hj; cases hj; exact absurd hd.symm ht
      · simp only [mix, St.set]
        congr 1
        apply propext
        constructor
        · rintro ⟨j, l', hj, hLj, ha, hd⟩; exact ⟨j, l', hj, .inl hLj, ha, hd⟩
        · rintro ⟨j, l', hj, hLj | hji, ha, hd⟩
          · exact ⟨j, l', hj, hLj, ha, hd⟩
          · subst hji; rw [hlq] at hj; cases hj; rw [hal] at ha; cases ha
  | true =>
    cases l with
    | al d z =>
      obtain ⟨g1, g2, g3⟩ := f2 d z rfl
      have FF := F d (alKeys_mem (l := .al d z) (List.mem_of_getElem? hlq) rfl)
      simp only [wop]
      refine mix_ext (fun t => ?_) (fun k => ?_) ?_
      · simp only [mix, St.set, upd, St.kill]
        by_cases ht : t = d
        · rw [if_pos ht, if_pos ⟨i, _, hlq, .inr rfl, ht.symm⟩, ht, g1]
        · rw [if_neg ht]
          by_cases hex : ∃ (j : Nat) (l' : LOp), (ls.take m)[j]? = some l' ∧ L j ∧ l'.dst = t
          · rw [if_pos hex]
            obtain ⟨j, l', hj, hLj, hd⟩ := hex
            rw [if_pos ⟨j, l', hj, .inl hLj, hd⟩, ← hd]
            exact (g3 j l' hj (notlater j l' rfl hj hLj)).1
          · rw [if_neg hex, if_neg ?_]
            · exact FF.e t
            · rintro ⟨j, l', hj, hLj | hji, hd⟩
              · exact hex ⟨j, l', hj, hLj, hd⟩
              · subst hji; rw [hlq] at hj; cases hj; exact ht hd.symm
      · simp only [mix, St.set, St.kill]
        by_cases hk : k = d
        · rw [if_pos hk, if_pos ⟨i, _, hlq, .inr rfl, rfl, hk.symm⟩, hk, g2]
        · rw [if_neg hk, if_neg hk]
          by_cases hex : ∃ (j : Nat) (l' : LOp), (ls.take m)[j]? = some l' ∧ L j ∧ isAl l' = true ∧ l'.dst = k
          · rw [if_pos hex]
            obtain ⟨j, l', hj, hLj, ha, hd⟩ := hex
            rw [if_pos ⟨j, l', hj, .inl hLj, ha, hd⟩]
            cases hcs : sm.bx k with
            | none => rfl
            | some cs =>
              simp only [Option.map_some, Option.some.injEq]
              exact (g3 j l' hj (notlater j l' rfl hj hLj)).2 ha cs (by rw [hd]; exact hcs)
          · rw [if_neg hex, if_neg ?_]
            · cases hcs : s0.bx k with
              | none => rfl
              | some cs => simp only [Option.map_some, Option.some.injEq]; exact FF.bd k cs hcs
            · rintro ⟨j, l', hj, hLj | hji, ha, hd⟩
              · exact hex ⟨j, l', hj, hLj, ha, hd⟩
              · subst hji; rw [hlq] at hj; cases hj; exact hk hd.symm
      · simp only [mix, St.set, St.kill]
        funext j
        split
        · rename_i hj; rw [hj]; exact FF.rw.symm
        · rfl
    | _ => simp [isAl] at hal

theorem any_q (H : Ok P c.nt ops ls m) (hK : ∀ g' s' a' w', Inv c g' s' a' w' → K s' → Q' .normal a' w') (F : ∀ k, k ∈ alKeys (ls.take m) → Free k s0)
    (hF : ∀ (i : Nat) (l : LOp), (ls.take m)[i]? = some l → Fct P (ls.take m) s0 sm i l) (hsm : mix (ls.take m) (fun _ => True) s0 sm = sm) (hT : wops P (ls.drop m) K sm) :
    ∀ (fuel : Nat) (listed : Array Bool) (g : Gh) (a : Act) (w : World), listed.size = ops.size → Clo ops (Lst listed) → (∀ j, Lst listed j → j < m) → listed.toList.count false ≤ fuel →
      Inv c g (mix (ls.take m) (Lst listed) s0 sm) a w → wpAny P .any ops Q' fuel listed a w := by
  have hmo : m ≤ ops.size := by rw [← H.len]; exact H.mle
  have full : ∀ (listed : Array Bool), listed.size = ops.size → (∀ j, Lst listed j → j < m) → (∀ j, j < m → Lst listed j) → mix (ls.take m) (Lst listed) s0 sm = sm := by
    intro listed hs h1 h2
    refine Eq.trans ?_ hsm
    have e : ∀ (p : Nat → LOp → Prop), (∃ (j : Nat) (l : LOp), (ls.take m)[j]? = some l ∧ Lst listed j ∧ p j l) ↔ ∃ (j : Nat) (l : LOp), (ls.take m)[j]? = some l ∧ True ∧ p j l := fun p => by
      constructor
      · rintro ⟨j, l, q1, _, q2⟩; exact ⟨j, l, q1, trivial, q2⟩
      · rintro ⟨j, l, q1, _, q2⟩
        refine ⟨j, l, q1, h2 j ?_, q2⟩
        have := (List.getElem?_eq_some_iff.1 q1).1
        simp at this; omega
    refine mix_ext (fun t => ?_) (fun t => ?_) rfl
    · simp only [mix]; congr 1
      exact propext (e fun _ l => l.dst = t)
    · simp only [mix]; congr 1
      exact propext (e fun _ l => isAl l = true ∧ l.dst = t)
  intro fuel
  induction fuel with
  | zero =>
    intro listed g a w hs hclo hm hc I
    have hall : ∀ j, j < m → Lst listed j := fun j hj => Classical.byContradiction fun hn => by have := count_pos (listed := listed) (i := j) (by omega) hn; omega
    rw [full listed hs hm hall] at I
    exact any_t H hK 0 m listed g sm a w hs (Nat.le_refl _) (fun j => ⟨fun h => ⟨hm j h, by have := hm j h; omega⟩, fun h => hall j h.1⟩) hc I hT
  | succ fuel ih =>
    intro listed g a w hs hclo hm hc I
    by_cases hall : ∀ j, j < m → Lst listed j
    · rw [full listed hs hm hall] at I
      exact any_t H hK (fuel + 1) m listed g sm a w hs (Nat.le_refl _) (fun j => ⟨fun h => ⟨hm j h, by have := hm j h; omega⟩, fun h => hall j h.1⟩) hc I hT
    · have hex : ∃ j, j < m ∧ ¬ Lst listed j := Classical.byContradiction fun hn => hall fun j hj => Classical.byContradiction fun hl => hn ⟨j, hj, hl⟩
      obtain ⟨j1, hj1, hj1u⟩ := hex
      have hleast : ∀ n j, j ≤ n → j < m → ¬ Lst listed j → ∃ j, j < m ∧ ¬ Lst listed j ∧ ∀ j', j' < j → Lst listed j' := by
        intro n
        induction n with
        | zero => intro j hj h1 h2; exact ⟨j, h1, h2, fun j' hj' => by omega⟩
        | succ n ihn =>
          intro j hj h1 h2
          by_cases hb : ∃ j', j' < j ∧ ¬ Lst listed j'
          · obtain ⟨j', q1, q2⟩ := hb
            exact ihn j' (by omega) (by omega) q2
          · exact ⟨j, h1, h2, fun j' hj' => Classical.byContradiction fun hn => hb ⟨j', hj', hn⟩⟩
      obtain ⟨j0, hj0, hj0u, hj0l⟩ := hleast j1 j1 (Nat.le_refl _) hj1 hj1u
      have ho0 := Array.getElem?_eq_getElem (xs := ops) (i := j0) (by omega)
      have hr0 : j0 ∈ Region.ready .any ops listed := lst_ready hs hj0u ho0 (fun e he hb => hj0l e.on (H.edge j0 _ ho0 e he hb))
      refine ⟨fun h0 => (by rw [h0] at hr0; cases hr0), fun i hi => ?_⟩
      obtain ⟨hi1, hi2, o, ho, he⟩ := ready_lst hs hi
      have him : i < m := by
        rcases Nat.lt_or_ge i m with h | h
        · exact h
        · exact absurd (H.tl i o (Lst listed) h ho hclo he j1 (by omega)) hj1u
      have hil : i < ls.length := by rw [H.len]; exact hi1
      have hl := List.getElem?_eq_getElem hil
      refine wpOp_of ho ?_
      refine one_sound (fun g' s' a' w' I' h' => ?_) (H.one i _ _ hl ho) I (step_q H F hF hclo hm him hl ho hi2 he)
      subst h'
      have eL : Lst (listed.setIfInBounds i true) = fun j => Lst listed j ∨ j = i := funext fun j => propext (lst_set (by omega))
      refine ih _ g' a' w' (by simpa using hs) ?_ ?_ (count_set_lt (by omega) hi2 hc) (by rw [eL]; exact I')
      · rw [eL]
        intro i' o' ho' hi' e' he' hb'
        rcases hi' with hi' | rfl
        · exact .inl (hclo i' o' ho' hi' e' he' hb')
        · rw [ho] at ho'; cases ho'; exact .inl (he e' he' hb')
      · intro j hj
        rw [eL] at hj
        rcases hj with hj | rfl
        · exact hm j hj
        · exact him

theorem region_draw {id : Nat} {g : Gh} {s : St} {a : Act} {w : World} (hmo : P.follows .mixedOrders = true) (hc : chkQ P c.nt ops ls m = true) (hK : ∀ g' s' a' w', Inv c g' s' a' w' → K s' → Q' .normal a' w')
    (I : Inv c g s a w) (h : qwops P (ls.take m) [] (fun s' => wops P (ls.drop m) K s') (s.kills (alKeys (ls.take m)))) : (Code.region id ops true).wp P Q' a w := by
  have H := chkQ_ok hc
  refine wp_region_any hmo ?_
  have I1 := (I.kills (alKeys (ls.take m))).drawn (w.drawn + 1)
  obtain ⟨sm, ht, hT⟩ := tr_of H.qa h
  have e0 : s.kills (alKeys (ls.take m)) = mix (ls.take m) (· < ([] : List LOp).length) (s.kills (alKeys (ls.take m))) sm := by
    refine mix_ext (fun t => ?_) (fun t => ?_) rfl <;> simp [mix]
  have hF : ∀ (i : Nat) (l : LOp), (ls.take m)[i]? = some l → Fct P (ls.take m) (s.kills (alKeys (ls.take m))) sm i l := fun i l hl => by
    have := tr_fct H.nd (ls.take m) [] [] _ (by simp) ht e0 (by simp) i l hl
    simpa using this
  have hk := tr_keep ht
  have hsm : mix (ls.take m) (fun _ => True) (s.kills (alKeys (ls.take m))) sm = sm := by
    refine mix_ext (fun t => ?_) (fun t => ?_) hk.2.1.symm
    · simp only [mix]
      split
      · rfl
      · rename_i hn
        refine (hk.1 t fun hm => hn ?_).1.symm
        obtain ⟨l, hl, hd⟩ := List.mem_map.1 hm
        obtain ⟨j, hj, rfl⟩ := List.getElem_of_mem hl
        exact ⟨j, _, List.getElem?_eq_getElem hj, trivial, hd⟩
    · simp only [mix]
      split
      · rfl
      · rename_i hn
        refine (hk.2.2 t fun l hl ha hd => hn ?_).symm
        obtain ⟨j, hj, rfl⟩ := List.getElem_of_mem hl
        exact ⟨j, _, List.getElem?_eq_getElem hj, trivial, ha, hd⟩
  have hnone : Lst (Array.replicate ops.size false) = fun _ => False := by
    funext j
    apply propext
    simp only [Lst, Array.getD_eq_getD_getElem?, Array.getElem?_replicate, iff_false]
    split <;> simp
  refine any_q H hK (fun k hk => free_kills hk) hF hsm hT ops.size _ g a _ (by simp) ?_ ?_ ?_ ?_
  · rw [hnone]; intro i o _ hi; exact hi.elim
  · rw [hnone]; intro j hj; exact hj.elim
  · simp [Array.toList_replicate]
  · have : mix (ls.take m) (Lst (Array.replicate ops.size false)) (s.kills (alKeys (ls.take m))) sm = s.kills (alKeys (ls.take m)) := by
      rw [hnone]
      refine mix_ext (fun t => ?_) (fun t => ?_) rfl <;> simp [mix]
    rw [this]; exact I1
end
end Go.Proofs.Ythbbieobcokgbaa.Eng
