/-
  The engine, part 21: code: blocks, loops, branches; what must hold ahead of it.
-/
import Derived.Test.YthbbieobcokgbaaEngZ
import Derived.Scope
namespace Go.Proofs.Ythbbieobcokgbaa.Eng
open Go Go.RowKit

inductive L
  | skip
  | reg (ls : List LOp)
  | rq (m : Nat) (ls : List LOp)
  | rz (items : List ZI) (tl : List LOp)
  | seq (x y : L)
  | cond (c : X) (x y : L)
  | blk (id : Nat) (x : L)
  | loop (x : L)
  | exit (id : Nat)
  | ret
  | scope (x : L)

inductive Ex | nrm | ext (id : Nat) | ret

def Ex.to : Ex → Exit
  | .nrm => .normal
  | .ext id => .exit id
  | .ret => .ret

/-- What must hold ahead of code so that K holds at whatever way it ends. -/
def den (P : Program) : L → (Ex → St → Prop) → St → Prop
  | .skip, K, s => K .nrm s
  | .reg ls, K, s => wops P ls (K .nrm) s
  | .rq m ls, K, s => qwops P (ls.take m) [] (fun s' => wops P (ls.drop m) (K .nrm) s') (s.kills (alKeys (ls.take m)))
  | .rz items tl, K, s => zwops P (items.map Prod.snd) (fun s' => wops P tl (K .nrm) s') s
  | .seq x y, K, s => den P x (fun e s' => match e with | .nrm => den P y K s' | e => K e s') s
  | .cond c x y, K, s => match s.get c with
    | .bool t => (t = true → den P x K s) ∧ (t = false → den P y K s)
    | _ => False
  | .blk id x, K, s => den P x (fun e s' => match e with | .ext id' => if id' = id then K .nrm s' else K (.ext id') s' | e => K e s') s
  | .loop x, K, s => ∃ (I : Nat → St → Prop) (n : Nat), I n s ∧ ∀ m s', I m s' → den P x (fun e s'' => match e with | .nrm => ∃ m', m' < m ∧ I m' s'' | e => K e s'') s'
  | .exit id, K, s => K (.ext id) s
  | .ret, K, s => K .ret s
  | .scope x, K, s => den P x K s

def chkC (P : Program) (nt : Nat) : L → Code → Bool
  | .skip, .skip => true
  | .reg ls, .region _ ops false => chkL P nt ops ls ops.toList
  | .rq m ls, .region _ ops true => P.follows .mixedOrders && chkQ P nt ops ls m
  | .rz items tl, .region _ ops true => P.follows .mixedOrders && chkZ P nt ops items tl
  | .seq x y, .seq a b => chkC P nt x a && chkC P nt y b
  | .cond c x y, .cond p a b => chkX c p && chkC P nt x a && chkC P nt y b
  | .blk id x, .block id' a => id == id' && chkC P nt x a
  | .loop x, .loop a => chkC P nt x a
  | .exit id, .exit id' => id == id'
  | .ret, .ret => true
  | .scope x, .scope a => chkC P nt x a
  | _, _ => false

section
variable {P : Program} {c : Cx}

theorem least {p : Nat → Prop} : ∀ n, p n → ∃ m, p m ∧ ∀ k, p k → m ≤ k := by
  intro n
  induction n using Nat.strongRecOn with
  | _ n ih =>
    intro hn
    by_cases h : ∃ k, k < n ∧ p k
    · obtain ⟨k, hk, hp⟩ := h; exact ih k hk hp
    · exact ⟨n, hn, fun k hk => Classical.byContradiction fun hlt => h ⟨k, by omega, hk⟩⟩

theorem wp_loop_ix {code : Code} {Q : Exit → Act → World → Prop} (J : Nat → Act → World → Prop)
    (round : ∀ m a w, J m a w → code.wp P (Exit.then (fun a' w' => ∃ m', m' < m ∧ J m' a' w') Q) a w) {n : Nat} {a : Act} {w : World} (h : J n a w) : (Code.loop code).wp P Q a w := by
  classical
  have hl : ∀ a w, (∃ m, J m a w) → ∃ m, J m a w ∧ ∀ k, J k a w → m ≤ k := fun a w ⟨m, hm⟩ => least m hm
  let μ : Act → World → Nat := fun a w => if h : ∃ m, J m a w then (hl a w h).choose else 0
  have hμ : ∀ a w (h : ∃ m, J m a w), J (μ a w) a w ∧ ∀ k, J k a w → μ a w ≤ k := fun a w h => by
    have := (hl a w h).choose_spec
    simp only [μ, dif_pos h]; exact this
  refine wp_loop (fun a w => ∃ m, J m a w) μ ⟨n, h⟩ fun a w hI => ?_
  refine Code.wp_mono (fun e a' w' q => ?_) (round (μ a w) a w (hμ a w hI).1)
  cases e with
  | normal =>
    obtain ⟨m', hlt, hJ⟩ := q
    exact ⟨⟨m', hJ⟩, Nat.lt_of_le_of_lt ((hμ a' w' ⟨m', hJ⟩).2 m' hJ) hlt⟩
  | _ => exact q

theorem code_sound : ∀ {l : L} {code : Code} {K : Ex → St → Prop} {Q' : Exit → Act → World → Prop} {g : Gh} {s : St} {a : Act} {w : World}, chkC P c.nt l code = true →
    (∀ e g' s' a' w', Inv c g' s' a' w' → K e s' → Q' e.to a' w') → Inv c g s a w → den P l K s → code.wp P Q' a w := by
  intro l
  induction l with
  | skip =>
    intro code K Q' g s a w hc hK I h
    cases code <;> simp [chkC] at hc
    exact wp_skip (hK .nrm _ _ _ _ I h)
  | reg ls =>
    intro code K Q' g s a w hc hK I h
    cases code <;> try (simp [chkC] at hc; done)
    rename_i id ops dr
    cases dr <;> simp only [chkC, Bool.false_eq_true] at hc
    exact wp_region_list (list_sound (K := K .nrm) (fun g' s' a' w' I' h' => hK .nrm _ _ _ _ I' h') ls ops.toList g s a w hc I h)
  | rq m ls =>
    intro code K Q' g s a w hc hK I h
    cases code <;> try (simp [chkC] at hc; done)
    rename_i id ops dr
    cases dr <;> simp only [chkC, Bool.false_eq_true, Bool.and_eq_true] at hc
    exact region_draw (K := K .nrm) hc.1 hc.2 (fun g' s' a' w' I' h' => hK .nrm _ _ _ _ I' h') I h
  | rz items tl =>
    intro code K Q' g s a w hc hK I h
    cases code <;> try (simp [chkC] at hc; done)
    rename_i id ops dr
    cases dr <;> simp only [chkC, Bool.false_eq_true, Bool.and_eq_true] at hc
    exact region_z (K := K .nrm) hc.1 hc.2 (fun g' s' a' w' I' h' => hK .nrm _ _ _ _ I' h') I h
  | seq x y ihx ihy =>
    intro code K Q' g s a w hc hK I h
    cases code <;> simp only [chkC, Bool.false_eq_true, Bool.and_eq_true] at hc
    refine wp_seq (ihx hc.1 (fun e g' s' a' w' I' h' => ?_) I h)
    cases e with
    | nrm => exact ihy hc.2 hK I' h'
    | ext id => exact hK (.ext id) _ _ _ _ I' h'
    | ret => exact hK .ret _ _ _ _ I' h'
  | cond cx x y ihx ihy =>
    intro code K Q' g s a w hc hK I h
    cases code <;> simp only [chkC, Bool.false_eq_true, Bool.and_eq_true] at hc
    have hv := I.get hc.1.1
    simp only [den] at h
    split at h
    · rename_i t ht
      rw [ht] at hv
      exact wp_cond_split hv.bool_inv (fun e => ihx hc.1.2 hK I (h.1 e)) (fun e => ihy hc.2 hK I (h.2 e))
    · exact h.elim
  | blk id x ih =>
    intro code K Q' g s a w hc hK I h
    cases code <;> simp only [chkC, Bool.false_eq_true, Bool.and_eq_true, beq_iff_eq] at hc
    obtain ⟨rfl, hc⟩ := hc
    refine wp_block (ih hc (fun e g' s' a' w' I' h' => ?_) I h)
    cases e with
    | nrm => exact hK .nrm _ _ _ _ I' h'
    | ext id' =>
      simp only [Ex.to, Exit.inBlock]
      simp only at h'
      split
      · rename_i e; rw [if_pos e] at h'; exact hK .nrm _ _ _ _ I' h'
      · rename_i e; rw [if_neg e] at h'; exact hK (.ext id') _ _ _ _ I' h'
    | ret => exact hK .ret _ _ _ _ I' h'
  | loop x ih =>
    intro code K Q' g s a w hc hK I h
    cases code <;> simp only [chkC, Bool.false_eq_true] at hc
    simp only [den] at h
    obtain ⟨J, n, h0, hr⟩ := h
    refine wp_loop_ix (fun m a w => ∃ g s, Inv c g s a w ∧ J m s) (fun m a w ⟨g, s, I, hJ⟩ => ?_) (n := n) ⟨g, s, I, h0⟩
    refine ih hc (fun e g' s' a' w' I' h' => ?_) I (hr m s hJ)
    cases e with
    | nrm => obtain ⟨m', q1, q2⟩ := h'; exact ⟨m', q1, g', s', I', q2⟩
    | ext id => exact hK (.ext id) _ _ _ _ I' h'
    | ret => exact hK .ret _ _ _ _ I' h'
  | exit id =>
    intro code K Q' g s a w hc hK I h
    cases code <;> simp only [chkC, Bool.false_eq_true, beq_iff_eq] at hc
    subst hc
    exact wp_exit (hK (.ext id) _ _ _ _ I h)
  | ret =>
    intro code K Q' g s a w hc hK I h
    cases code <;> simp [chkC] at hc
    exact wp_ret (hK .ret _ _ _ _ I h)
  | scope x ih =>
    intro code K Q' g s a w hc hK I h
    cases code <;> simp only [chkC, Bool.false_eq_true] at hc
    refine wp_scope_straight (ih hc (fun e g' s' a' w' I' h' => ?_) I h)
    cases e with
    | nrm => exact hK .nrm _ _ _ _ I' h'
    | ext id => exact hK (.ext id) _ _ _ _ I' h'
    | ret => exact hK .ret _ _ _ _ I' h'
end
end Go.Proofs.Ythbbieobcokgbaa.Eng
