/-
  Plain data of the program's types, and how the engine writes them.
-/
import Derived.Test.YthbbieobcokgbaaNum
namespace Go.Proofs.Ythbbieobcokgbaa
open Go Go.RowKit Eng
abbrev Str := List UInt8

namespace Eng
theorem rdtL_enc {α : Type} (e : α → AV) (h : ∀ x, (e x).rdt = e x) (l : List α) : rdtL (l.map e) = l.map e := by
  rw [rdtL_map, List.map_map]
  exact List.map_congr_left fun x _ => h x
@[simp] theorem rdtL_take (n : Nat) (l : List AV) : rdtL (l.take n) = (rdtL l).take n := by rw [rdtL_map, rdtL_map, List.map_take]
@[simp] theorem rdtL_drop (n : Nat) (l : List AV) : rdtL (l.drop n) = (rdtL l).drop n := by rw [rdtL_map, rdtL_map, List.map_drop]
@[simp] theorem rdtL_app (l k : List AV) : rdtL (l ++ k) = rdtL l ++ rdtL k := by rw [rdtL_map, rdtL_map, rdtL_map, List.map_append]
theorem NwL_enc {α : Type} (e : α → AV) (h : ∀ x, Nw (e x)) (l : List α) : NwL (l.map e) := by
  rw [NwL_iff]
  intro a ha
  obtain ⟨x, _, rfl⟩ := List.mem_map.1 ha
  exact h x
theorem fill_facts {α β : Type} (f : α → β) (z : β) (xs : List α) (i : Nat) (h : i < xs.length) {es : List β} (he : es = (xs.map f).take i ++ List.replicate (xs.length - i) z) :
    es.length = xs.length ∧ (∀ h, es[i]'h = z) ∧ es.set i (f xs[i]) = (xs.map f).take (i + 1) ++ List.replicate (xs.length - (i + 1)) z := by
  subst he
  have e1 : ((xs.map f).take i).length = i := by simp; omega
  refine ⟨by rw [List.length_append, e1, List.length_replicate]; omega, ?_, ?_⟩
  · intro h'
    rw [List.getElem_append_right (by omega)]
    simp
  · rw [List.set_append_right _ _ (by omega), e1, Nat.sub_self]
    have e2 : xs.length - i = (xs.length - (i + 1)) + 1 := by omega
    rw [e2, List.replicate_succ, List.set_cons_zero]
    rw [List.take_succ_eq_append_getElem (by simpa using h), List.append_assoc]
    simp
theorem mix_facts {β : Type} (xs ys : List β) (hl : xs.length = ys.length) (i : Nat) (h : i < ys.length) {es : List β} (he : es = xs.take i ++ ys.drop i) :
    es.length = ys.length ∧ (∀ h', es[i]'h' = ys[i]) ∧ es[i]? = some ys[i] ∧ es.set i (xs[i]'(by omega)) = xs.take (i + 1) ++ ys.drop (i + 1) := by
  subst he
  have e1 : (xs.take i).length = i := by simp; omega
  have e2 : ∀ h', (xs.take i ++ ys.drop i)[i]'h' = ys[i] := by
    intro h'
    rw [List.getElem_append_right (by omega)]
    simp [e1]
  have hlen : (xs.take i ++ ys.drop i).length = ys.length := by rw [List.length_append, e1, List.length_drop]; omega
  refine ⟨hlen, e2, by rw [List.getElem?_eq_getElem (by omega), e2], ?_⟩
  rw [List.set_append_right _ _ (by omega), e1, Nat.sub_self, List.drop_eq_getElem_cons h, List.set_cons_zero, List.take_succ_eq_append_getElem (by omega), List.append_assoc]
  rfl
@[simp] theorem isIdx_0 (k : IntKind) (n : Nat) : isIdx (.int k 0) n = if 0 < n then some 0 else none := isIdx_nat k 0 n
@[simp] theorem isIdx_1 (k : IntKind) (n : Nat) : isIdx (.int k 1) n = if 1 < n then some 1 else none := isIdx_nat k 1 n
@[simp] theorem isIdx_2 (k : IntKind) (n : Nat) : isIdx (.int k 2) n = if 2 < n then some 2 else none := isIdx_nat k 2 n
@[simp] theorem isBnd_2 (k : IntKind) (n : Nat) : isBnd (.int k 2) n = if 2 ≤ n then some 2 else none := isBnd_nat k 2 n
@[simp] theorem isIdx_3 (k : IntKind) (n : Nat) : isIdx (.int k 3) n = if 3 < n then some 3 else none := isIdx_nat k 3 n
@[simp] theorem isBnd_3 (k : IntKind) (n : Nat) : isBnd (.int k 3) n = if 3 ≤ n then some 3 else none := isBnd_nat k 3 n
@[simp] theorem isIdx_4 (k : IntKind) (n : Nat) : isIdx (.int k 4) n = if 4 < n then some 4 else none := isIdx_nat k 4 n
@[simp] theorem isBnd_4 (k : IntKind) (n : Nat) : isBnd (.int k 4) n = if 4 ≤ n then some 4 else none := isBnd_nat k 4 n
@[simp] theorem isIdx_5 (k : IntKind) (n : Nat) : isIdx (.int k 5) n = if 5 < n then some 5 else none := isIdx_nat k 5 n
@[simp] theorem isBnd_5 (k : IntKind) (n : Nat) : isBnd (.int k 5) n = if 5 ≤ n then some 5 else none := isBnd_nat k 5 n
@[simp] theorem isIdx_6 (k : IntKind) (n : Nat) : isIdx (.int k 6) n = if 6 < n then some 6 else none := isIdx_nat k 6 n
@[simp] theorem isBnd_6 (k : IntKind) (n : Nat) : isBnd (.int k 6) n = if 6 ≤ n then some 6 else none := isBnd_nat k 6 n
@[simp] theorem isIdx_7 (k : IntKind) (n : Nat) : isIdx (.int k 7) n = if 7 < n then some 7 else none := isIdx_nat k 7 n
@[simp] theorem isBnd_7 (k : IntKind) (n : Nat) : isBnd (.int k 7) n = if 7 ≤ n then some 7 else none := isBnd_nat k 7 n
@[simp] theorem isIdx_8 (k : IntKind) (n : Nat) : isIdx (.int k 8) n = if 8 < n then some 8 else none := isIdx_nat k 8 n
@[simp] theorem isBnd_8 (k : IntKind) (n : Nat) : isBnd (.int k 8) n = if 8 ≤ n then some 8 else none := isBnd_nat k 8 n
@[simp] theorem isIdx_9 (k : IntKind) (n : Nat) : isIdx (.int k 9) n = if 9 < n then some 9 else none := isIdx_nat k 9 n
@[simp] theorem isBnd_9 (k : IntKind) (n : Nat) : isBnd (.int k 9) n = if 9 ≤ n then some 9 else none := isBnd_nat k 9 n
@[simp] theorem isIdx_10 (k : IntKind) (n : Nat) : isIdx (.int k 10) n = if 10 < n then some 10 else none := isIdx_nat k 10 n
@[simp] theorem isBnd_10 (k : IntKind) (n : Nat) : isBnd (.int k 10) n = if 10 ≤ n then some 10 else none := isBnd_nat k 10 n
@[simp] theorem isIdx_11 (k : IntKind) (n : Nat) : isIdx (.int k 11) n = if 11 < n then some 11 else none := isIdx_nat k 11 n
@[simp] theorem isBnd_11 (k : IntKind) (n : Nat) : isBnd (.int k 11) n = if 11 ≤ n then some 11 else none := isBnd_nat k 11 n
@[simp] theorem isIdx_12 (k : IntKind) (n : Nat) : isIdx (.int k 12) n = if 12 < n then some 12 else none := isIdx_nat k 12 n
@[simp] theorem isBnd_12 (k : IntKind) (n : Nat) : isBnd (.int k 12) n = if 12 ≤ n then some 12 else none := isBnd_nat k 12 n
@[simp] theorem isIdx_13 (k : IntKind) (n : Nat) : isIdx (.int k 13) n = if 13 < n then some 13 else none := isIdx_nat k 13 n
@[simp] theorem isBnd_13 (k : IntKind) (n : Nat) : isBnd (.int k 13) n = if 13 ≤ n then some 13 else none := isBnd_nat k 13 n
@[simp] theorem isIdx_14 (k : IntKind) (n : Nat) : isIdx (.int k 14) n = if 14 < n then some 14 else none := isIdx_nat k 14 n
@[simp] theorem isBnd_14 (k : IntKind) (n : Nat) : isBnd (.int k 14) n = if 14 ≤ n then some 14 else none := isBnd_nat k 14 n
@[simp] theorem isIdx_15 (k : IntKind) (n : Nat) : isIdx (.int k 15) n = if 15 < n then some 15 else none := isIdx_nat k 15 n
@[simp] theorem isBnd_15 (k : IntKind) (n : Nat) : isBnd (.int k 15) n = if 15 ≤ n then some 15 else none := isBnd_nat k 15 n
@[simp] theorem isIdx_16 (k : IntKind) (n : Nat) : isIdx (.int k 16) n = if 16 < n then some 16 else none := isIdx_nat k 16 n
@[simp] theorem isBnd_16 (k : IntKind) (n : Nat) : isBnd (.int k 16) n = if 16 ≤ n then some 16 else none := isBnd_nat k 16 n
@[simp] theorem isIdx_17 (k : IntKind) (n : Nat) : isIdx (.int k 17) n = if 17 < n then some 17 else none := isIdx_nat k 17 n
@[simp] theorem isBnd_17 (k : IntKind) (n : Nat) : isBnd (.int k 17) n = if 17 ≤ n then some 17 else none := isBnd_nat k 17 n
@[simp] theorem isIdx_18 (k : IntKind) (n : Nat) : isIdx (.int k 18) n = if 18 < n then some 18 else none := isIdx_nat k 18 n
@[simp] theorem isBnd_18 (k : IntKind) (n : Nat) : isBnd (.int k 18) n = if 18 ≤ n then some 18 else none := isBnd_nat k 18 n
@[simp] theorem isIdx_19 (k : IntKind) (n : Nat) : isIdx (.int k 19) n = if 19 < n then some 19 else none := isIdx_nat k 19 n
@[simp] theorem isBnd_19 (k : IntKind) (n : Nat) : isBnd (.int k 19) n = if 19 ≤ n then some 19 else none := isBnd_nat k 19 n
@[simp] theorem isBnd_0 (k : IntKind) (n : Nat) : isBnd (.int k 0) n = some 0 := by have := isBnd_nat k 0 n; simpa using this
@[simp] theorem isBnd_1 (k : IntKind) (n : Nat) : isBnd (.int k 1) n = if 1 ≤ n then some 1 else none := isBnd_nat k 1 n
@[simp] theorem isIdx_succ (k : IntKind) (i n : Nat) : isIdx (.int k ((i : Int) + 1)) n = if i + 1 < n then some (i + 1) else none := isIdx_nat k (i + 1) n
@[simp] theorem isBnd_succ (k : IntKind) (i n : Nat) : isBnd (.int k ((i : Int) + 1)) n = if i + 1 ≤ n then some (i + 1) else none := isBnd_nat k (i + 1) n
/-- A LOOP that counts from 0 to n. 'simp' leaves the invariant as it stands, for the token's type names it. -/
structure Tok (I : Nat → St → Prop) : Type where mk ::
def rng (n : Nat) (I : Nat → St → Prop) (_ : Tok I) (m : Nat) (s : St) : Prop := ∃ i, m = n - i ∧ i ≤ n ∧ I i s
theorem W_rng {P : Program} {R : Ex → St → Prop} {k : List It} {s : St} {x : L} (n : Nat) (I : Nat → St → Prop) (h0 : I 0 s)
    (h : ∀ i s', i ≤ n → I i s' → W P R (.l x :: .lp (rng n I ⟨⟩) (n - i) :: k) s') : W P R (.l (.loop x) :: k) s :=
  W_loop (rng n I ⟨⟩) n ⟨0, by simp [h0]⟩ fun _ s' ⟨i, e, hi, hI⟩ => by rw [e]; exact h i s' hi hI
structure TokJ (J : St → Prop) : Type where mk ::
/-- What holds behind the loop; 'simp' leaves it as it stands. -/
def beh (J : St → Prop) (_ : TokJ J) (s : St) : Prop := J s
theorem beh_of {J : St → Prop} {t : TokJ J} {s : St} (h : J s) : beh J t s := h
/-- The same, with what holds behind the loop. -/
theorem W_rngJ {P : Program} {R : Ex → St → Prop} {k : List It} {s : St} {x : L} {id : Nat} (n : Nat) (I : Nat → St → Prop) (J : St → Prop) (h0 : I 0 s)
    (h : ∀ i s', i ≤ n → I i s' → W P R (.l x :: .lp (rng n I ⟨⟩) (n - i) :: .mk id :: .jn (beh J ⟨⟩) :: k) s') (hk : ∀ s', J s' → W P R k s') : W P R (.l (.loop x) :: .mk id :: k) s := by
  have h1 : W P R (.l (.loop x) :: .mk id :: .jn (beh J ⟨⟩) :: k) s := W_rng n I h0 h
  refine den_mono (K := denK P R (.mk id :: .jn (beh J ⟨⟩) :: k)) (K' := denK P R (.mk id :: k)) (fun e s' q => ?_) h1
  have jn : ∀ e s', denK P R (.jn (beh J ⟨⟩) :: k) e s' → denK P R k e s' := fun e s' q => by
    cases e with
    | nrm => exact hk s' q
    | ext i => exact q
    | ret => exact q
  cases e with
  | nrm => exact jn .nrm s' q
  | ext i =>
    rw [denK_mk_ext] at q ⊢
    split
    · rename_i e; rw [if_pos e] at q; exact jn .nrm s' q
    · rename_i e; rw [if_neg e] at q; exact jn (.ext i) s' q
  | ret => exact jn .ret s' q
theorem rng_next {n i : Nat} {I : Nat → St → Prop} {t : Tok I} {s : St} (h : i < n) (hI : I (i + 1) s) : ∃ m', m' < n - i ∧ rng n I t m' s := ⟨n - (i + 1), by omega, i + 1, rfl, h, hI⟩
attribute [simp] wop.eq_38 wop.eq_40 St.hi St.lo
/-- What a marking call leaves. -/
def ret1 (r : AV) (es : List AV) : AV → List (List AV) → List (Option (List AV)) → List Row → Prop := fun res bout upd new => res = r ∧ bout = [] ∧ upd = [some es] ∧ new = []
theorem list_of {α : Type} (e : α → AV) {es : List AV} (h : ∀ x ∈ es, ∃ y, x = e y) : ∃ l : List α, es = l.map e := by
  induction es with
  | nil => exact ⟨[], rfl⟩
  | cons a es ih =>
    obtain ⟨y, hy⟩ := h a (by simp)
    obtain ⟨l, hl⟩ := ih fun x hx => h x (by simp [hx])
    exact ⟨y :: l, by simp [hy, hl]⟩
end Eng

def szr (n : Int) (c : Nat) : Int := if n < c then -1 else n - c
theorem szr_ok {n : Int} {c : Nat} (_ : 0 ≤ n) : (szr n c < 0 ↔ n < c) ∧ (¬ n < c → szr n c = n - c) := by
  unfold szr
  constructor
  · split <;> omega
  · intro h'; rw [if_neg h']
end Go.Proofs.Ythbbieobcokgbaa
