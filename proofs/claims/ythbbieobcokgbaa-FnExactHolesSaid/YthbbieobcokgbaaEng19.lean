/-
  The engine, part 19: regions whose order is drawn: quiet operations in whatever order, then a tail whose order is forced.
-/
import Derived.Test.YthbbieobcokgbaaEng18
namespace Go.Proofs.Ythbbieobcokgbaa.Eng
open Go Go.RowKit

def alSt (s : St) (d : Nat) (z : List AV) : St := St.set { s with bx := fun j => if j = d then some (deadL d z) else s.bx j } d (.ptr d 0)

def qwops (P : Program) : List LOp → List AV → (St → Prop) → St → Prop
  | [], _, K, s => K s
  | .al d z :: ls, acc, K, s => (∀ v ∈ acc, v.dead d = v) ∧ qwops P ls (.ptr d 0 :: deadL d z ++ acc) K (alSt s d z)
  | l :: ls, acc, K, s => scOk s l ∧ wop P l (fun s' => qwops P ls (s'.e l.dst :: acc) K s') s

def alKeys : List LOp → List Nat
  | [] => []
  | .al d _ :: ls => d :: alKeys ls
  | _ :: ls => alKeys ls
def St.kills (s : St) : List Nat → St
  | [] => s
  | k :: ks => (s.kill k).kills ks

def isAl : LOp → Bool | .al _ _ => true | _ => false

section kill
mutual
theorem dead_dead (k : Nat) : ∀ a : AV, (a.dead k).dead k = a.dead k
  | .sref j => by by_cases h : j = k <;> simp [AV.dead, h]
  | .ptr j o => by by_cases h : j = k <;> simp [AV.dead, h]
  | .rpt j i o => by by_cases h : j = k <;> simp [AV.dead, h]
  | .agg cs => by simp [AV.dead, deadL_dead k cs]
  | .tup cs => by simp [AV.dead, deadL_dead k cs]
  | .fn f cs => by simp [AV.dead, deadL_dead k cs]
  | .bool _ | .int _ _ | .str _ | .nl | .sl _ _ _ | .ept _ _ | .und | .bad => rfl
theorem deadL_dead (k : Nat) : ∀ l : List AV, deadL k (deadL k l) = deadL k l
  | [] => rfl
  | a :: l => by simp [deadL, dead_dead k a, deadL_dead k l]
end
mutual
theorem dead_comm (k i : Nat) : ∀ a : AV, a.dead k = a → (a.dead i).dead k = a.dead i
  | .sref j, h => by by_cases e : j = i <;> simp_all [AV.dead]
  | .ptr j o, h => by by_cases e : j = i <;> simp_all [AV.dead]
  | .rpt j i o, h => by
    simp only [AV.dead] at *
    split
    · rfl
    · simpa [AV.dead] using h
  | .agg cs, h => by simp only [AV.dead, AV.agg.injEq] at *; exact deadL_comm k i cs h
  | .tup cs, h => by simp only [AV.dead, AV.tup.injEq] at *; exact deadL_comm k i cs h
  | .fn f cs, h => by simp only [AV.dead, AV.fn.injEq, true_and] at *; exact deadL_comm k i cs h
  | .bool _, _ | .int _ _, _ | .str _, _ | .nl, _ | .sl _ _ _, _ | .ept _ _, _ | .und, _ | .bad, _ => rfl
theorem deadL_comm (k i : Nat) : ∀ l : List AV, deadL k l = l → deadL k (deadL i l) = deadL i l
  | [], _ => rfl
  | a :: l, h => by
    simp only [deadL, List.cons.injEq] at *
    exact ⟨dead_comm k i a h.1, deadL_comm k i l h.2⟩
end

/-- Nothing names key k. -/
structure Free (k : Nat) (s : St) : Prop where
  e : ∀ t, (s.e t).dead k = s.e t
  bx : s.bx k = none
  rw : s.rw k = none
  bd : ∀ j cs, s.bx j = some cs → deadL k cs = cs

theorem Free.kill {k i : Nat} {s : St} (F : Free k s) : Free k (s.kill i) where
  e := fun t => dead_comm k i _ (F.e t)
  bx := by simp [St.kill, F.bx]
  rw := by simp [St.kill, F.rw]
  bd := fun j cs h => by
    obtain ⟨_, c0, h0, rfl⟩ := kill_bx h
    exact deadL_comm k i c0 (F.bd j c0 h0)
theorem Free.of_kill {k : Nat} {s : St} : Free k (s.kill k) where
  e := fun t => dead_dead k _
  bx := by simp [St.kill]
  rw := by simp [St.kill]
  bd := fun j cs h => by
    obtain ⟨_, c0, h0, rfl⟩ := kill_bx h
    exact deadL_dead k c0
theorem Free.kills {k : Nat} : ∀ {ks : List Nat} {s : St}, Free k s → Free k (s.kills ks)
  | [], _, F => F
  | _ :: ks, _, F => Free.kills (ks := ks) F.kill
theorem free_kills : ∀ {ks : List Nat} {s : St} {k : Nat}, k ∈ ks → Free k (s.kills ks)
  | k :: ks, s, k', h => by
    rcases List.mem_cons.1 h with rfl | h
    · exact Free.kills (ks := ks) Free.of_kill
    · exact free_kills (ks := ks) h

variable {c : Cx} {g : Gh} {s : St} {a : Act} {w : World}
theorem Inv.kill (I : Inv c g s a w) (k : Nat) : Inv c g (s.kill k) a w := by
  have T : Turn (· ≠ k) w w g g s (s.kill k) := by
    refine ⟨fun _ _ h => h, fun _ h => h, fun _ _ _ => rfl, fun j hj r h => ⟨r, (kill_rw h).2, rfl, rfl⟩, fun j hj c' h => ?_⟩
    obtain ⟨_, c0, h0, _⟩ := kill_bx h
    exact ⟨c0, h0, rfl⟩
  refine ⟨I.defers, I.nt, I.fr, fun i => (I.tm i).turn_dead T, ?_, ?_, ?_, ?_, ?_, ?_, ?_, I.sw, I.nn, I.nx, I.fix, I.sm, I.sb⟩
  · intro j cs' h
    obtain ⟨_, c0, h0, rfl⟩ := kill_bx h
    exact boxOk_dead T (I.bxs j c0 h0)
  · intro j cs' h
    obtain ⟨_, c0, h0, rfl⟩ := kill_bx h
    exact I.bxn j c0 h0
  · intro j r h; exact I.rws j r (kill_rw h).2
  · intro j r h; exact I.rwn j r (kill_rw h).2
  · intro j j' c1 c2 h1 h2 hne
    obtain ⟨_, d1, h1', _⟩ := kill_bx h1
    obtain ⟨_, d2, h2', _⟩ := kill_bx h2
    exact I.dbb j j' d1 d2 h1' h2' hne
  · intro j j' c1 r h1 h2
    obtain ⟨_, d1, h1', _⟩ := kill_bx h1
    exact I.dbr j j' d1 r h1' (kill_rw h2).2
  · intro j j' r r' h1 h2 hne
    exact I.drr j j' r r' (kill_rw h1).2 (kill_rw h2).2 hne
theorem Inv.kills : ∀ (ks : List Nat) {s : St}, Inv c g s a w → Inv c g (s.kills ks) a w
  | [], _, I => I
  | k :: ks, _, I => Inv.kills ks (I.kill k)
end kill

section
variable {P : Program}

/-- A run of the quiet operations in the order of the text. -/
inductive Tr (P : Program) : List LOp → List AV → St → St → Prop
  | nil (acc : List AV) (s : St) : Tr P [] acc s s
  | al {d : Nat} {z : List AV} {ls : List LOp} {acc : List AV} {s sm : St} (h1 : ∀ v ∈ acc, v.dead d = v) (h : Tr P ls (.ptr d 0 :: deadL d z ++ acc) (alSt s d z) sm) : Tr P (.al d z :: ls) acc s sm
  | q {l : LOp} {ls : List LOp} {acc : List AV} {s sm : St} {v : AV} (ha : isAl l = false) (h1 : Yld P l s v) (h : Tr P ls (v :: acc) (s.set l.dst v) sm) : Tr P (l :: ls) acc s sm

def isQA (l : LOp) : Bool := isAl l || isQ l

theorem tr_of {K : St → Prop} : ∀ {ls : List LOp} {acc : List AV} {s : St}, ls.all isQA = true → qwops P ls acc K s → ∃ sm, Tr P ls acc s sm ∧ K sm
  | [], acc, s, _, h => ⟨s, .nil acc s, h⟩
  | l :: ls, acc, s, hq, h => by
    simp only [List.all_cons, Bool.and_eq_true] at hq
    have main : isAl l = false → scOk s l ∧ wop P l (fun s' => qwops P ls (s'.e l.dst :: acc) K s') s → ∃ sm, Tr P (l :: ls) acc s sm ∧ K sm := by
      rintro ha ⟨h1, h2⟩
      have hq1 : isQ l = true := by simpa [isQA, ha] using hq.1
      obtain ⟨v, q1, q2⟩ := quiet hq1 h1 h2
      rw [set_e] at q1
      obtain ⟨sm, t1, t2⟩ := tr_of hq.2 q1
      exact ⟨sm, .q ha q2 t1, t2⟩
    cases l with
    | al d z =>
      simp only [qwops] at h
      obtain ⟨sm, t1, t2⟩ := tr_of hq.2 h.2
      exact ⟨sm, .al h.1 t1, t2⟩
    | _ => exact main rfl h

theorem tr_keep {ls : List LOp} {acc : List AV} {s sm : St} (h : Tr P ls acc s sm) : (∀ t, t ∉ ls.map LOp.dst → sm.e t = s.e t ∧ sm.bx t = s.bx t) ∧ sm.rw = s.rw ∧ ∀ k, (∀ l ∈ ls, isAl l = true → l.dst ≠ k) → sm.bx k = s.bx k := by
  induction h with
  | nil acc s => exact ⟨fun _ _ => ⟨rfl, rfl⟩, rfl, fun _ _ => rfl⟩
  | al h1 h ih =>
    rename_i d z ls acc s sm
    refine ⟨fun t ht => ?_, ih.2.1, fun k hk => ?_⟩
    · simp only [List.map_cons, List.mem_cons, not_or] at ht
      have q := ih.1 t ht.2
      have hd : t ≠ d := ht.1
      rw [q.1, q.2]
      simp [alSt, St.set, upd, hd]
    · rw [ih.2.2 k fun l hl ha => hk l (by simp [hl]) ha]
      have hd : k ≠ d := fun e => hk (.al d z) (by simp) rfl e.symm
      simp [alSt, St.set, hd]
  | q ha h1 h ih =>
    rename_i l ls acc s sm v
    refine ⟨fun t ht => ?_, ih.2.1, fun k hk => ?_⟩
    · simp only [List.map_cons, List.mem_cons, not_or] at ht
      have q := ih.1 t ht.2
      rw [q.1, q.2]
      simp [St.set, upd, ht.1]
    · rw [ih.2.2 k fun l hl ha => hk l (by simp [hl]) ha]
      rfl

open Classical in
/-- What is known when the operations of L have run. -/
noncomputable def mix (ls : List LOp) (L : Nat → Prop) (s0 sm : St) : St where
  e := fun t => if ∃ (j : Nat) (l : LOp), ls[j]? = some l ∧ L j ∧ l.dst = t then sm.e t else s0.e t
  bx := fun k => if ∃ (j : Nat) (l : LOp), ls[j]? = some l ∧ L j ∧ isAl l = true ∧ l.dst = k then sm.bx k else s0.bx k
  rw := s0.rw

theorem mix_ext {s s' : St} (h1 : ∀ t, s.e t = s'.e t) (h2 : ∀ t, s.bx t = s'.bx t) (h3 : s.rw = s'.rw) : s = s' := by
  obtain ⟨e, b, r⟩ := s
  obtain ⟨e', b', r'⟩ := s'
  simp only at h1 h2 h3
  have e1 : e = e' := funext h1
  have e2 : b = b' := funext h2
  subst e1; subst e2; subst h3; rfl

/-- What the run tells of the operation at index i. -/
def Fct (P : Program) (ls : List LOp) (s0 sm : St) (i : Nat) (l : LOp) : Prop :=
  (isAl l = false → Yld P l (mix ls (· < i) s0 sm) (sm.e l.dst)) ∧
  (∀ d z, l = .al d z → sm.e d = .ptr d 0 ∧ sm.bx d = some (deadL d z) ∧
    ∀ (j : Nat) (l' : LOp), ls[j]? = some l' → j < i → (sm.e l'.dst).dead d = sm.e l'.dst ∧ (isAl l' = true → ∀ cs, sm.bx l'.dst = some cs → deadL d cs = cs))

theorem tr_fct {ls : List LOp} {s0 sm : St} (hn : (ls.map LOp.dst).Nodup) : ∀ (suf pre : List LOp) (acc : List AV) (s : St), ls = pre ++ suf → Tr P suf acc s sm →
    s = mix ls (· < pre.length) s0 sm → (∀ (j : Nat) (l' : LOp), ls[j]? = some l' → j < pre.length → sm.e l'.dst ∈ acc ∧ (isAl l' = true → ∀ cs, sm.bx l'.dst = some cs → ∀ x ∈ cs, x ∈ acc)) →
    ∀ (i : Nat) (l : LOp), suf[i]? = some l → Fct P ls s0 sm (pre.length + i) l := by
  intro suf
  induction suf with
  | nil => intro pre acc s _ _ _ _ i l hl; simp at hl
  | cons x suf ih =>
    intro pre acc s hls htr hs hacc i l hl
    have hx : ls[pre.length]? = some x := by rw [hls]; simp
    have hnx : x.dst ∉ suf.map LOp.dst := by
      rw [hls] at hn
      simp only [List.map_append, List.map_cons, List.nodup_append, List.nodup_cons] at hn
      exact hn.2.1.1
    have hlen : (pre ++ [x]).length = pre.length + 1 := by simp
    have hstep : ∀ (s' : St), (∀ t, s'.e t = if t = x.dst then sm.e t else s.e t) → (∀ t, s'.bx t = if t = x.dst ∧ isAl x = true then sm.bx t else s.bx t) → s'.rw = s.rw →
        s' = mix ls (· < (pre ++ [x]).length) s0 sm := by
      intro s' h1 h2 h3
      subst hs
      refine mix_ext (fun t => ?_) (fun t => ?_) h3
      · rw [h1 t]
        simp only [mix]
        by_cases ht : t = x.dst
        · rw [if_pos ht, if_pos ⟨pre.length, x, hx, by omega, ht.symm⟩]
        · rw [if_neg ht]
          congr 1
          apply propext
          constructor
          · rintro ⟨j, l', q1, q2, q3⟩; exact ⟨j, l', q1, by omega, q3⟩
          · rintro ⟨j, l', q1, q2, q3⟩
            refine ⟨j, l', q1, ?_, q3⟩
            rcases Nat.lt_or_ge j pre.length with h | h
            · exact h
            · have : j = pre.length := by omega
              subst this
              rw [hx] at q1; cases q1
              exact absurd q3.symm ht
      · rw [h2 t]
        simp only [mix]
        by_cases ht : t = x.dst ∧ isAl x = true
        · rw [if_pos ht, if_pos ⟨pre.length, x, hx, by omega, ht.2, ht.1.symm⟩]
        · rw [if_neg ht]
          congr 1
          apply propext
          constructor
          · rintro ⟨j, l', q1, q2, q3⟩; exact ⟨j, l', q1, by omega, q3⟩
          · rintro ⟨j, l', q1, q2, q3, q4⟩
            refine ⟨j, l', q1, ?_, q3, q4⟩
            rcases Nat.lt_or_ge j pre.length with h | h
            · exact h
            · have : j = pre.length := by omega
              subst this
              rw [hx] at q1; cases q1
              exact absurd ⟨q4.symm, q3⟩ ht
    cases htr with
    | al h1 h =>
      rename_i d z
      have hk := tr_keep h
      have hk1 := hk.1 d hnx
      have e1 : sm.e d = .ptr d 0 := by rw [hk1.1]; simp [alSt, St.set, upd]
      have e2 : sm.bx d = some (deadL d z) := by rw [hk1.2]; simp [alSt, St.set]
      cases i with
      | zero =>
        simp at hl; subst hl
        refine ⟨fun h => (by simp [isAl] at h), fun d' z' he => ?_⟩
        cases he
        refine ⟨e1, e2, fun j l' hj hlt => ?_⟩
        have := hacc j l' hj hlt
        refine ⟨h1 _ this.1, fun ha cs hcs => ?_⟩
        rw [deadL_map]
        conv => rhs; rw [← List.map_id cs]
        exact List.map_congr_left fun y hy => h1 y (this.2 ha cs hcs y hy)
      | succ i =>
        have := ih (pre ++ [.al d z]) _ _ (by rw [hls]; simp) h (hstep (alSt s d z) (fun t => ?_) (fun t => ?_) rfl) (fun j l' hj hlt => ?_) i l (by simpa using hl)
        · simpa [Nat.add_assoc, Nat.add_comm 1 i] using this
        · simp only [alSt, St.set, upd, LOp.dst]
          by_cases ht : t = d
          · subst ht; simp [e1]
          · simp [ht]
        · simp only [alSt, St.set, LOp.dst, isAl, and_true]
          by_cases ht : t = d
          · subst ht; simp [e2]
          · simp [ht]
        · simp only [List.length_append, List.length_singleton] at hlt
          rcases Nat.lt_or_ge j pre.length with hjl | hjl
          · have := hacc j l' hj hjl
            exact ⟨by simp [this.1], fun ha cs hcs y hy => by have := this.2 ha cs hcs y hy; simp [this]⟩
          · have : j = pre.length := by omega
            subst this
            rw [hx] at hj; cases hj
            refine ⟨by simp [LOp.dst, e1], fun _ cs hcs y hy => ?_⟩
            simp only [LOp.dst, e2, Option.some.injEq] at hcs
            subst hcs
            simp [hy]
    | q ha h1 h =>
      rename_i v
      have hk := tr_keep h
      have hk1 := hk.1 x.dst hnx
      have e1 : sm.e x.dst = v := by rw [hk1.1]; simp [St.set, upd]
      cases i with
      | zero =>
        simp at hl; subst hl
        refine ⟨fun _ => ?_, fun d z he => (by subst he; simp [isAl] at ha)⟩
        rw [e1]
        have : mix ls (· < pre.length + 0) s0 sm = s := hs.symm
        rw [this]; exact h1
      | succ i =>
        have := ih (pre ++ [x]) _ _ (by rw [hls]; simp) h (hstep (s.set x.dst v) (fun t => ?_) (fun t => ?_) rfl) (fun j l' hj hlt => ?_) i l (by simpa using hl)
        · simpa [Nat.add_assoc, Nat.add_comm 1 i] using this
        · simp only [St.set, upd]
          by_cases ht : t = x.dst
          · simp [ht, e1]
          · simp [ht]
        · simp [St.set, ha]
        · simp only [List.length_append, List.length_singleton] at hlt
          rcases Nat.lt_or_ge j pre.length with hjl | hjl
          · have := hacc j l' hj hjl
            exact ⟨by simp [this.1], fun ha cs hcs y hy => by have := this.2 ha cs hcs y hy; simp [this]⟩
          · have : j = pre.length := by omega
            subst this
            rw [hx] at hj; cases hj
            exact ⟨by simp [e1], fun h => by rw [ha] at h; cases h⟩
end
end Go.Proofs.Ythbbieobcokgbaa.Eng
