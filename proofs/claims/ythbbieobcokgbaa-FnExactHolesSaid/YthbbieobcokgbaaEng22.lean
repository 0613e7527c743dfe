/-
  The engine, part 22: what a function hands back; from code to a contract.
-/
import Derived.Test.YthbbieobcokgbaaEng21
namespace Go.Proofs.Ythbbieobcokgbaa.Eng
open Go Go.RowKit

inductive Rv | t (i : Nat) | c (i n : Nat) (ag : Bool)
def chkR (P : Program) : Rv → ResultVar → Bool
  | .t i, .tmp j => i == j
  | .c i n ag, .cell a t => i == a && tsz P t == some n && tag? P t == some ag && (ag || n == 1)
  | _, _ => false
def chkRs (P : Program) : List Rv → List ResultVar → Bool
  | [], [] => true
  | r :: rs, v :: vs => chkR P r v && chkRs P rs vs
  | _, _ => false
def St.rv1 (s : St) : Rv → Option AV
  | .t i => some (s.e i)
  | .c i n ag => s.ld (s.e i) n ag
def St.rvs (s : St) : List Rv → Option (List AV)
  | [] => some []
  | r :: rs => match s.rv1 r, s.rvs rs with
    | some x, some l => some (x :: l)
    | _, _ => none
def resOf : List AV → AV
  | [a] => a
  | l => .tup l

/-- The rows that go out, by their keys; 'none' is a nil slice that stands for an empty row. -/
def ixO : List (Option Nat) → Nat → Option Nat
  | [], _ => none
  | some k :: ks, j => if k = j then some 0 else (ixO ks j).map (· + 1)
  | none :: ks, j => (ixO ks j).map (· + 1)
theorem ixO_ok : ∀ {ks : List (Option Nat)} {k i : Nat}, ixO ks k = some i → ks[i]? = some (some k)
  | [], _, _, h => by simp [ixO] at h
  | some x :: ks, k, i, h => by
    simp only [ixO] at h
    split at h
    · rename_i e; cases h; simp [e]
    · obtain ⟨j, hj, rfl⟩ := Option.map_eq_some_iff.1 h
      simpa using ixO_ok hj
  | none :: ks, k, i, h => by
    simp only [ixO] at h
    obtain ⟨j, hj, rfl⟩ := Option.map_eq_some_iff.1 h
    simpa using ixO_ok hj

mutual
def AV.out (ks : List (Option Nat)) : AV → AV
  | .sref k => match ixO ks k with | some i => .sref i | none => .bad
  | .agg cs => .agg (outL ks cs)
  | .tup cs => .tup (outL ks cs)
  | .fn f cs => .fn f (outL ks cs)
  | .ptr _ _ => .bad
  | .rpt _ _ _ => .bad
  | a => a
def outL (ks : List (Option Nat)) : List AV → List AV
  | [] => []
  | a :: l => AV.out ks a :: outL ks l
end
theorem outL_map (ks : List (Option Nat)) : ∀ l, outL ks l = l.map (AV.out ks)
  | [] => rfl
  | a :: l => by rw [outL, outL_map ks l]; rfl

/-- A value may be told with less: a nil slice as an empty one, or as an empty row. -/
def AV.wk1 (p : Nat → Prop) : AV → AV → Prop
  | .nl, .sl _ _ es => es = []
  | .nl, .sref i => p i
  | a, b => a = b
def wkLs (R : AV → AV → Prop) : List AV → List AV → Prop
  | [], [] => True
  | a :: l, b :: m => R a b ∧ wkLs R l m
  | _, _ => False
def AV.wkA (p : Nat → Prop) : AV → AV → Prop
  | .agg cs, .agg ds => wkLs (AV.wk1 p) cs ds
  | a, b => AV.wk1 p a b
def AV.wk (p : Nat → Prop) : AV → AV → Prop
  | .tup cs, .tup ds => wkLs (AV.wkA p) cs ds
  | a, b => AV.wkA p a b
theorem wkLs_ok {R : AV → AV → Prop} : ∀ {cs ds : List AV}, wkLs R cs ds → cs.length = ds.length ∧ ∀ (i : Nat) (c d : AV), cs[i]? = some c → ds[i]? = some d → R c d
  | [], [], _ => ⟨rfl, by intro i c d h; simp at h⟩
  | a :: l, b :: m, h => by
    obtain ⟨h1, h2⟩ := wkLs_ok h.2
    refine ⟨by simp [h1], fun i c d hc hd => ?_⟩
    cases i with
    | zero => simp at hc hd; subst hc; subst hd; exact h.1
    | succ i => exact h2 i c d (by simpa using hc) (by simpa using hd)
  | [], _ :: _, h => h.elim
  | _ :: _, [], h => h.elim

-- All slices among the data are new.
mutual
def Nw : AV → Prop
  | .sl t _ es => es = [] ∨ (t = .nw ∧ NwL es)
  | .agg cs => NwL cs
  | .tup cs => NwL cs
  | .fn _ cs => NwL cs
  | .ept _ _ => False
  | _ => True
def NwL : List AV → Prop
  | [] => True
  | a :: l => Nw a ∧ NwL l
end
theorem NwL_iff : ∀ {l : List AV}, NwL l ↔ ∀ a ∈ l, Nw a
  | [] => by simp [NwL]
  | a :: l => by simp [NwL, NwL_iff (l := l)]

def rowsAt (s : St) : List (Option Nat) → List Row → Prop
  | [], [] => True
  | some k :: ks, r :: rs => s.rw k = some r ∧ r.sh = false ∧ NwL r.es ∧ rowsAt s ks rs
  | none :: ks, r :: rs => r.es = [] ∧ rowsAt s ks rs
  | _, _ => False
theorem rowsAt_ok {s : St} : ∀ {ks : List (Option Nat)} {rows : List Row}, rowsAt s ks rows → ks.length = rows.length ∧
    (∀ (i k : Nat) (r : Row), ks[i]? = some (some k) → rows[i]? = some r → s.rw k = some r ∧ r.sh = false ∧ NwL r.es) ∧ ∀ (i : Nat) (r : Row), ks[i]? = some none → rows[i]? = some r → r.es = []
  | [], [], _ => ⟨rfl, by intro i k r h; simp at h, by intro i r h; simp at h⟩
  | some k :: ks, r :: rs, h => by
    simp only [rowsAt] at h
    obtain ⟨h1, h2, h3, h4⟩ := h
    obtain ⟨q1, q2, q3⟩ := rowsAt_ok h4
    refine ⟨by simp [q1], fun i k' r' hk hr => ?_, fun i r' hk hr => ?_⟩
    · cases i with
      | zero => simp at hk hr; subst hk; subst hr; exact ⟨h1, h2, h3⟩
      | succ i => exact q2 i k' r' (by simpa using hk) (by simpa using hr)
    · cases i with
      | zero => simp at hk
      | succ i => exact q3 i r' (by simpa using hk) (by simpa using hr)
  | none :: ks, r :: rs, h => by
    simp only [rowsAt] at h
    obtain ⟨h1, h4⟩ := h
    obtain ⟨q1, q2, q3⟩ := rowsAt_ok h4
    refine ⟨by simp [q1], fun i k' r' hk hr => ?_, fun i r' hk hr => ?_⟩
    · cases i with
      | zero => simp at hk
      | succ i => exact q2 i k' r' (by simpa using hk) (by simpa using hr)
    · cases i with
      | zero => simp at hr; subst hr; exact h1
      | succ i => exact q3 i r' (by simpa using hk) (by simpa using hr)
  | [], _ :: _, h => h.elim
  | some _ :: _, [], h => h.elim
  | none :: _, [], h => h.elim
def keysO : List (Option Nat) → List Nat
  | [] => []
  | some k :: ks => k :: keysO ks
  | none :: ks => keysO ks
theorem keysO_inj : ∀ {ks : List (Option Nat)} {i j k : Nat}, (keysO ks).Nodup → ks[i]? = some (some k) → ks[j]? = some (some k) → i = j
  | [], i, j, k, _, h, _ => by simp at h
  | o :: ks, 0, 0, k, _, _, _ => rfl
  | some x :: ks, 0, j + 1, k, hn, h1, h2 => by
    simp at h1 h2; subst h1
    have : x ∈ keysO ks := mem_keysO h2
    exact absurd this (List.nodup_cons.1 hn).1
  | some x :: ks, i + 1, 0, k, hn, h1, h2 => by
    simp at h1 h2; subst h2
    have : x ∈ keysO ks := mem_keysO h1
    exact absurd this (List.nodup_cons.1 hn).1
  | none :: ks, 0, j + 1, k, _, h1, _ => by simp at h1
  | none :: ks, i + 1, 0, k, _, _, h2 => by simp at h2
  | some x :: ks, i + 1, j + 1, k, hn, h1, h2 => congrArg (· + 1) (keysO_inj (ks := ks) (i := i) (j := j) (k := k) (List.nodup_cons.1 hn).2 (by simpa using h1) (by simpa using h2))
  | none :: ks, i + 1, j + 1, k, hn, h1, h2 => congrArg (· + 1) (keysO_inj (ks := ks) (i := i) (j := j) (k := k) hn (by simpa using h1) (by simpa using h2))
where
  mem_keysO : ∀ {ks : List (Option Nat)} {j x : Nat}, ks[j]? = some (some x) → x ∈ keysO ks
    | [], j, x, h => by simp at h
    | some y :: ks, 0, x, h => by simp at h; simp [keysO, h]
    | none :: ks, 0, x, h => by simp at h
    | some y :: ks, j + 1, x, h => by simp only [keysO, List.mem_cons]; exact .inr (mem_keysO (by simpa using h))
    | none :: ks, j + 1, x, h => by simp only [keysO]; exact mem_keysO (by simpa using h)

/-- What must hold at a function's end. -/
def post (rs : List Rv) (res : AV) (rows : List Row) (e : Ex) (s : St) : Prop :=
  (match e with | .ext _ => False | _ => True) ∧ ∃ (l : List AV) (ks : List (Option Nat)), s.rvs rs = some l ∧ AV.wk (fun i => ks[i]? = some none) ((resOf l).out ks) res ∧ Nw (resOf l) ∧ (keysO ks).Nodup ∧ rowsAt s ks rows

section
variable {P : Program} {c : Cx} {g : Gh} {s : St} {a : Act} {w : World}

theorem flat_nw {es : List AV} (h : NwL es) : ∀ a ∈ flat es, Nw a := by
  intro a ha
  obtain ⟨e, he, hx⟩ := List.mem_flatMap.1 ha
  have := NwL_iff.1 h e he
  cases e with
  | agg cs =>
    have h2 : NwL cs := by simpa [Nw] using this
    exact NwL_iff.1 h2 a hx
  | _ => simp [AV.cells] at hx; subst hx; exact this

theorem Rd.fresh {S : Nat → Nat → Prop} {N : Nat → Prop} {B : Nat} (hN : ∀ b, N b → B ≤ b) {x : AV} {v : Value} (h : Rd w S N x v) (hn : Nw x) : Rd w (fun b o => S b o ∧ B ≤ b) N x v := by
  induction h with
  | bool b => exact .bool b
  | int k n => exact .int k n
  | str l => exact .str l
  | nl => exact .nl
  | sl0 t sz p q => exact .sl0 _ _ _ _
  | agg cs vs hl h1 h ih => exact .agg cs vs hl h1 fun i y u hy hu => ih i y u hy hu (NwL_iff.1 (by simpa [Nw] using hn) y (List.mem_of_getElem? hy))
  | fn f cs vs hl h ih => exact .fn f cs vs hl fun i y u hy hu => ih i y u hy hu (NwL_iff.1 (by simpa [Nw] using hn) y (List.mem_of_getElem? hy))
  | ept e off b o cv hw h _ => exact (show False by simp [Nw] at hn).elim
  | sl t sz es b o cc cv hc hm hs hw hnn h ih =>
    have hall : ∀ a ∈ flat es, Nw a := by
      rcases (by simpa [Nw] using hn : es = [] ∨ (t = .nw ∧ NwL es)) with rfl | ⟨_, h2⟩
      · intro a ha; simp [flat] at ha
      · exact flat_nw h2
    refine .sl t sz es b o cc cv hc hm hs (fun j y hj => ⟨(hw j y hj).1, ⟨(hw j y hj).2.1, ?_⟩, (hw j y hj).2.2⟩) hnn (fun j y hj => ih j y hj (hall y (List.mem_of_getElem? hj)))
    rcases (by simpa [Nw] using hn : es = [] ∨ (t = .nw ∧ NwL es)) with rfl | ⟨h1, _⟩
    · simp [flat] at hj
    · exact hN b (hnn h1)

theorem one_out (ks : List (Option Nat)) {x : AV} (h : x.one = true ∨ x = .bad) : (x.out ks).one = true ∨ x.out ks = .bad := by
  rcases h with h | rfl
  · cases x with
    | sref j => rw [AV.out]; split <;> simp [AV.one]
    | ptr j o => right; rfl
    | rpt j i o => right; rfl
    | ept e o => left; rfl
    | _ => simp [AV.out, AV.one] at h ⊢
  · right; rfl

theorem Rd.out {S : Nat → Nat → Prop} {N : Nat → Prop} (ks : List (Option Nat)) {x : AV} {v : Value} (h : Rd w S N x v) : Rd w S N (x.out ks) v := by
  induction h with
  | bool b => exact .bool b
  | int k n => exact .int k n
  | str l => exact .str l
  | nl => exact .nl
  | sl0 t sz p q => exact .sl0 _ _ _ _
  | sl t sz es b o cc cv hc hm hs hw hn h _ => exact .sl t sz es b o cc cv hc hm hs hw hn h
  | ept e off b o cv hw h _ => exact .ept e off b o cv hw h
  | agg cs vs hl h1 h ih =>
    rw [AV.out, outL_map]
    refine .agg _ vs (by simpa using hl) (fun y hy => ?_) (fun i y v hy hv => ?_)
    · obtain ⟨y0, h0, rfl⟩ := List.mem_map.1 hy
      obtain ⟨i, hi, rfl⟩ := List.getElem_of_mem h0
      have hlt : i < vs.length := by omega
      have hr := h i _ _ (List.getElem?_eq_getElem hi) (List.getElem?_eq_getElem hlt)
      have h1' := h1 _ h0
      generalize cs[i] = z at *
      generalize vs[i] = u at *
      cases hr <;> simp_all [AV.out, AV.one]
    · rw [List.getElem?_map] at hy
      obtain ⟨y0, h0, rfl⟩ := Option.map_eq_some_iff.1 hy
      exact ih i y0 v h0 hv
  | fn f cs vs hl h ih =>
    rw [AV.out, outL_map]
    refine .fn f _ vs (by simpa using hl) (fun i y v hy hv => ?_)
    rw [List.getElem?_map] at hy
    obtain ⟨y0, h0, rfl⟩ := Option.map_eq_some_iff.1 hy
    exact ih i y0 v h0 hv

/-- The value of row i at the end. -/
def rvO (g : Gh) (ks : List (Option Nat)) (i : Nat) : Value := match ks[i]? with | some (some k) => g.rv k | _ => .slice none 0 0

section wk
variable {p : Nat → Prop}
theorem Gv.wk1 (hp : ∀ i, p i → ∀ r, s.rw i = some r → g.rv i = .slice none 0 0) {a b : AV} {v : Value} (h : Gv w g s a v) (hk : a.wk1 p b) : Gv w g s b v := by
  unfold AV.wk1 at hk
  split at hk
  · subst hk; rw [h.nl_inv]; exact .data _ _ (.sl0 _ _ _ _)
  · rw [h.nl_inv]; exact .sref _ _ rfl fun r hr => (hp _ hk r hr).symm
  · subst hk; exact h
theorem one_wk1 {a b : AV} (hk : a.wk1 p b) (h : a.one = true ∨ a = .bad) : b.one = true ∨ b = .bad := by
  unfold AV.wk1 at hk
  split at hk
  · exact .inl rfl
  · exact .inl rfl
  · subst hk; exact h
theorem Gv.wkA (hp : ∀ i, p i → ∀ r, s.rw i = some r → g.rv i = .slice none 0 0) {a b : AV} {v : Value} (h : Gv w g s a v) (hk : a.wkA p b) : Gv w g s b v := by
  unfold AV.wkA at hk
  split at hk
  · rename_i cs ds
    obtain ⟨vs, rfl, hl, h1, h2⟩ := h.agg_inv
    obtain ⟨e1, e2⟩ := wkLs_ok hk
    refine .agg ds vs (by omega) (fun d hd => ?_) (fun i d u hd hu => ?_)
    · obtain ⟨i, hi, rfl⟩ := List.getElem_of_mem hd
      have hi' : i < cs.length := by omega
      exact one_wk1 (e2 i _ _ (List.getElem?_eq_getElem hi') (List.getElem?_eq_getElem hi)) (h1 _ (List.getElem_mem hi'))
    · have hi : i < cs.length := by have := (List.getElem?_eq_some_iff.1 hd).1; omega
      exact (h2 i _ u (List.getElem?_eq_getElem hi) hu).wk1 hp (e2 i _ d (List.getElem?_eq_getElem hi) hd)
  · exact h.wk1 hp hk
theorem Gv.wk (hp : ∀ i, p i → ∀ r, s.rw i = some r → g.rv i = .slice none 0 0) {a b : AV} {v : Value} (h : Gv w g s a v) (hk : a.wk p b) : Gv w g s b v := by
  unfold AV.wk at hk
  split at hk
  · rename_i cs ds
    obtain ⟨vs, rfl, hl, h2⟩ := h.tup_inv
    obtain ⟨e1, e2⟩ := wkLs_ok hk
    refine .tup ds vs (by omega) (fun i d u hd hu => ?_)
    have hi : i < cs.length := by have := (List.getElem?_eq_some_iff.1 hd).1; omega
    exact (h2 i _ u (List.getElem?_eq_getElem hi) hu).wkA hp (e2 i _ d (List.getElem?_eq_getElem hi) hd)
  · exact h.wkA hp hk

theorem Rd.wk1 {S : Nat → Nat → Prop} {N : Nat → Prop} {a b : AV} {v : Value} (h : Rd w S N a v) (hk : a.wk1 (fun _ => False) b) : Rd w S N b v := by
  unfold AV.wk1 at hk
  split at hk
  · subst hk; cases h; exact .sl0 _ _ _ _
  · exact hk.elim
  · subst hk; exact h
theorem Rd.one1 {S : Nat → Nat → Prop} {N : Nat → Prop} {a b : AV} {v : Value} (h : Rd w S N a v) (hk : a.wk1 (fun _ => False) b) (h1 : a.one = true) : b.one = true := by
  unfold AV.wk1 at hk
  split at hk
  · rfl
  · exact hk.elim
  · subst hk; exact h1
theorem Rd.wkA {S : Nat → Nat → Prop} {N : Nat → Prop} {a b : AV} {v : Value} (h : Rd w S N a v) (hk : a.wkA (fun _ => False) b) : Rd w S N b v := by
  unfold AV.wkA at hk
  split at hk
  · rename_i cs ds
    cases h with
    | agg _ vs hl h1 h2 =>
      obtain ⟨e1, e2⟩ := wkLs_ok hk
      refine .agg ds vs (by omega) (fun d hd => ?_) (fun i d u hd hu => ?_)
      · obtain ⟨i, hi, rfl⟩ := List.getElem_of_mem hd
        have hi' : i < cs.length := by omega
        have hiv : i < vs.length := by omega
        exact (h2 i _ _ (List.getElem?_eq_getElem hi') (List.getElem?_eq_getElem hiv)).one1 (e2 i _ _ (List.getElem?_eq_getElem hi') (List.getElem?_eq_getElem hi)) (h1 _ (List.getElem_mem hi'))
      · have hi : i < cs.length := by have := (List.getElem?_eq_some_iff.1 hd).1; omega
        exact (h2 i _ u (List.getElem?_eq_getElem hi) hu).wk1 (e2 i _ d (List.getElem?_eq_getElem hi) hd)
  · exact h.wk1 hk
end wk
/-- Arguments may be told with less. -/
theorem Snd.wk {f : FuncId} {as as' : List AV} {res : AV} {rows : List Row} (h : Snd P f as' res rows) (hk : wkLs (AV.wkA fun _ => False) as as') : Snd P f as res rows := by
  intro w S N vs hS hl hr
  obtain ⟨e1, e2⟩ := wkLs_ok hk
  refine h w S N vs hS (by omega) fun i b v hb hv => ?_
  have hi : i < as.length := by have := (List.getElem?_eq_some_iff.1 hb).1; omega
  exact (hr i _ v (List.getElem?_eq_getElem hi) hv).wkA (e2 i _ b (List.getElem?_eq_getElem hi) hb)

theorem Gv.out {B : Nat} (hN : ∀ b, g.N b → B ≤ b) {ks : List (Option Nat)} {rows : List Row} (hks : rowsAt s ks rows) {x : AV} {v : Value} (h : Gv w g s x v) (hn : Nw x) :
    Gv w { g with S := fun b o => g.S b o ∧ B ≤ b, rv := fun i => rvO g ks i } (rowSt rows) (x.out ks) v := by
  have mp : ∀ (cs : List AV) (vs : List Value) (g' : Gh) (s' : St), (∀ (i : Nat) (x : AV) (v : Value), cs[i]? = some x → vs[i]? = some v → Gv w g' s' (x.out ks) v) →
      ∀ (i : Nat) (x : AV) (v : Value), (cs.map (AV.out ks))[i]? = some x → vs[i]? = some v → Gv w g' s' x v := by
    intro cs vs g' s' ih i x v hx hv
    rw [List.getElem?_map] at hx
    obtain ⟨x0, h0, rfl⟩ := Option.map_eq_some_iff.1 hx
    exact ih i x0 v h0 hv
  induction h with
  | data x v h => exact .data _ v ((h.fresh hN hn).out ks)
  | bad v => exact .bad v
  | und => exact .und
  | sref k v h1 h =>
    rw [AV.out]; split
    · rename_i i hi
      have hk := ixO_ok hi
      refine .sref _ v h1 fun r' hr' => ?_
      have hr'' : rows[i]? = some r' := by simpa [rowSt] using hr'
      have := ((rowsAt_ok hks).2.1 i k r' hk hr'').1
      simp only [rvO, hk]
      exact h r' this
    · exact .bad v
  | ptr j off v h1 h => exact .bad v
  | rpt j i off v h1 h => exact .bad v
  | ept e off b o cv hw h => exact (show False by simp [Nw] at hn).elim
  | agg cs vs hl h1 _ ih =>
    rw [AV.out, outL_map]
    refine .agg _ vs (by simpa using hl) (fun y hy => ?_) (mp cs vs _ _ fun i y u hy hu => ih i y u hy hu (NwL_iff.1 (by simpa [Nw] using hn) y (List.mem_of_getElem? hy)))
    obtain ⟨y0, h0, rfl⟩ := List.mem_map.1 hy
    exact one_out ks (h1 _ h0)
  | tup cs vs hl _ ih =>
    rw [AV.out, outL_map]
    exact .tup _ vs (by simpa using hl) (mp cs vs _ _ fun i y u hy hu => ih i y u hy hu (NwL_iff.1 (by simpa [Nw] using hn) y (List.mem_of_getElem? hy)))
  | fn f cs vs hl _ ih =>
    rw [AV.out, outL_map]
    exact .fn f _ vs (by simpa using hl) (mp cs vs _ _ fun i y u hy hu => ih i y u hy hu (NwL_iff.1 (by simpa [Nw] using hn) y (List.mem_of_getElem? hy)))

theorem ld_ptr {p x : AV} {n : Nat} {ag : Bool} {v : Value} (h : s.ld p n ag = some x) (hv : Gv w g s p v) : ∃ ad, v = .pointer (some ad) := by
  unfold St.ld at h
  split at h
  · obtain ⟨b, o, cv, rfl, _⟩ := hv.ept_inv; exact ⟨_, rfl⟩
  · split at h
    · rename_i cs hk; exact ⟨_, hv.ptr_inv hk⟩
    · cases h
  · split at h
    · rename_i r hk; obtain ⟨b, _, rfl⟩ := hv.rpt_inv hk; exact ⟨_, rfl⟩
    · cases h
  · cases h

/-- One result. -/
def rvSem (tmps : Array Value) : ResultVar → Sem Value
  | .tmp t => pure (tmps.getD t undef)
  | .cell a t => do loadVar t (← asAddr (tmps.getD a undef))

theorem run_rv (I : Inv c g s a w) {r : Rv} {R : ResultVar} (hc : chkR P r R = true) {x : AV} (h : s.rv1 r = some x) : ∃ u, (rvSem a.tmps R).run P w = .ok u w ∧ Gv w g s x u := by
  cases r with
  | t i =>
    cases R <;> simp [chkR] at hc
    subst hc
    simp [St.rv1] at h; subst h
    exact ⟨_, rfl, I.tm i⟩
  | c i n ag =>
    cases R <;> simp only [chkR, Bool.false_eq_true, Bool.and_eq_true, beq_iff_eq, Bool.or_eq_true] at hc
    obtain ⟨⟨⟨rfl, h1⟩, h2⟩, h3⟩ := hc
    simp only [St.rv1] at h
    have hv := I.tm i
    obtain ⟨u, hu, hg⟩ := ld_gv (P := P) I hv h1 h2 (fun hag => by rcases h3 with h | h; rw [hag] at h; cases h; exact h) h
    obtain ⟨ad, had⟩ := ld_ptr h hv
    refine ⟨u, ?_, hg⟩
    rw [had] at hu
    simp only [rvSem, had]
    simpa [Instr.loadAt, Instr.sureAddr, asAddr] using hu

theorem run_results {fn : Func} (I : Inv c g s a w) {rs : List Rv} (hlen : rs.length ≤ 4) (hc : chkRs P rs fn.results.toList = true) {l : List AV} (h : s.rvs rs = some l) :
    ∃ u, (results fn a.tmps).run P w = .ok u w ∧ Gv w g s (resOf l) u := by
  have e0 : ∀ L : List ResultVar, fn.results.toList = L → fn.results = L.toArray := fun L h => by rw [← h]
  have hres : ∀ L : List ResultVar, fn.results.toList = L → results fn a.tmps = (do let vs ← L.toArray.mapM (rvSem a.tmps); pure (if h : vs.size = 1 then vs[0] else .tuple vs)) := fun L hL => by
    unfold results
    rw [e0 L hL]
    rfl
  generalize hL : fn.results.toList = L at hc
  rw [hres L hL]
  match rs, L, hlen, hc, h with
  | [], [], _, _, h =>
    simp [St.rvs] at h; subst h
    exact ⟨.tuple #[], by simp, .tup [] [] rfl (by intro i a v h; simp at h)⟩
  | [r1], [R1], _, hc, h =>
    simp only [chkRs, Bool.and_eq_true] at hc
    simp only [St.rvs] at h
    cases h1 : s.rv1 r1 with
    | none => simp [h1] at h
    | some x1 =>
      simp [h1] at h; subst h
      obtain ⟨u1, q1, g1⟩ := run_rv (P := P) I hc.1 h1
      exact ⟨u1, by simp [q1], g1⟩
  | [r1, r2], [R1, R2], _, hc, h =>
    simp only [chkRs, Bool.and_eq_true] at hc
    simp only [St.rvs] at h
    cases h1 : s.rv1 r1 with
    | none => simp [h1] at h
    | some x1 =>
    cases h2 : s.rv1 r2 with
    | none => simp [h2] at h
    | some x2 =>
      simp [h1, h2] at h; subst h
      obtain ⟨u1, q1, g1⟩ := run_rv (P := P) I hc.1 h1
      obtain ⟨u2, q2, g2⟩ := run_rv (P := P) I hc.2.1 h2
      refine ⟨.tuple #[u1, u2], by simp [q1, q2], .tup [x1, x2] [u1, u2] rfl fun i y v hy hv => ?_⟩
      match i with
      | 0 => simp at hy hv; subst hy; subst hv; exact g1
      | 1 => simp at hy hv; subst hy; subst hv; exact g2
      | i + 2 => simp at hy
  | [r1, r2, r3], [R1, R2, R3], _, hc, h =>
    simp only [chkRs, Bool.and_eq_true] at hc
    simp only [St.rvs] at h
    cases h1 : s.rv1 r1 with
    | none => simp [h1] at h
    | some x1 =>
    cases h2 : s.rv1 r2 with
    | none => simp [h2] at h
    | some x2 =>
    cases h3 : s.rv1 r3 with
    | none => simp [h3] at h
    | some x3 =>
      simp [h1, h2, h3] at h; subst h
      obtain ⟨u1, q1, g1⟩ := run_rv (P := P) I hc.1 h1
      obtain ⟨u2, q2, g2⟩ := run_rv (P := P) I hc.2.1 h2
      obtain ⟨u3, q3, g3⟩ := run_rv (P := P) I hc.2.2.1 h3
      refine ⟨.tuple #[u1, u2, u3], by simp [q1, q2, q3], .tup [x1, x2, x3] [u1, u2, u3] rfl fun i y v hy hv => ?_⟩
      match i with
      | 0 => simp at hy hv; subst hy; subst hv; exact g1
      | 1 => simp at hy hv; subst hy; subst hv; exact g2
      | 2 => simp at hy hv; subst hy; subst hv; exact g3
      | i + 3 => simp at hy
  | [r1, r2, r3, r4], [R1, R2, R3, R4], _, hc, h =>
    simp only [chkRs, Bool.and_eq_true] at hc
    simp only [St.rvs] at h
    cases h1 : s.rv1 r1 with
    | none => simp [h1] at h
    | some x1 =>
    cases h2 : s.rv1 r2 with
    | none => simp [h2] at h
    | some x2 =>
    cases h3 : s.rv1 r3 with
    | none => simp [h3] at h
    | some x3 =>
    cases h4 : s.rv1 r4 with
    | none => simp [h4] at h
    | some x4 =>
      simp [h1, h2, h3, h4] at h; subst h
      obtain ⟨u1, q1, g1⟩ := run_rv (P := P) I hc.1 h1
      obtain ⟨u2, q2, g2⟩ := run_rv (P := P) I hc.2.1 h2
      obtain ⟨u3, q3, g3⟩ := run_rv (P := P) I hc.2.2.1 h3
      obtain ⟨u4, q4, g4⟩ := run_rv (P := P) I hc.2.2.2.1 h4
      refine ⟨.tuple #[u1, u2, u3, u4], by simp [q1, q2, q3, q4], .tup [x1, x2, x3, x4] [u1, u2, u3, u4] rfl fun i y v hy hv => ?_⟩
      match i with
      | 0 => simp at hy hv; subst hy; subst hv; exact g1
      | 1 => simp at hy hv; subst hy; subst hv; exact g2
      | 2 => simp at hy hv; subst hy; subst hv; exact g3
      | 3 => simp at hy hv; subst hy; subst hv; exact g4
      | i + 4 => simp at hy

  | [], _ :: _, _, hc, _ => simp [chkRs] at hc
  | _ :: _, [], _, hc, _ => simp [chkRs] at hc
  | [_], _ :: _ :: _, _, hc, _ => simp [chkRs] at hc
  | _ :: _ :: _, [_], _, hc, _ => simp [chkRs] at hc
  | [_, _], _ :: _ :: _ :: _, _, hc, _ => simp [chkRs] at hc
  | _ :: _ :: _ :: _, [_, _], _, hc, _ => simp [chkRs] at hc
  | [_, _, _], _ :: _ :: _ :: _ :: _, _, hc, _ => simp [chkRs] at hc
  | _ :: _ :: _ :: _ :: _, [_, _, _], _, hc, _ => simp [chkRs] at hc
  | [_, _, _, _], _ :: _ :: _ :: _ :: _ :: _, _, hc, _ => simp [chkRs] at hc
  | _ :: _ :: _ :: _ :: _ :: _, _ :: _ :: _ :: _ :: _, hl, _, _ => simp at hl

/-- The state in which a function begins. -/
def st0 (args : List AV) : St := { e := fun i => args.getD i .und, bx := fun _ => none, rw := fun _ => none }

def chkF (P : Program) (n : Nat) (l : L) (rs : List Rv) (fn : Func) : Bool :=
  (match fn.body with | some code => chkC P fn.ntmps l code | none => false) && chkRs P rs fn.results.toList && decide (rs.length ≤ 4) && decide (n ≤ fn.ntmps) && decide (fn.ntmps ≤ 900000)

/-- FROM CODE TO A CONTRACT. -/
theorem snd_of {f : FuncId} {fn : Func} {l : L} {rs : List Rv} {args : List AV} {res : AV} {rows : List Row} (hf : P.funcs[f]? = some fn) (hc : chkF P args.length l rs fn = true)
    (hrd : rdtL args = args) (h : den P l (post rs res rows) (st0 args)) : Snd P f args res rows := by
  simp only [chkF, Bool.and_eq_true, decide_eq_true_eq] at hc
  obtain ⟨⟨⟨⟨hc, hr⟩, hr4⟩, hn⟩, hnb⟩ := hc
  cases hb : fn.body with
  | none => rw [hb] at hc; cases hc
  | some code =>
    rw [hb] at hc
    simp only at hc
    intro w S N vs hS hvl hvs
    let c : Cx := { nt := fn.ntmps, X := fun _ => False, Y := fun _ => False, S0 := S, w0 := w, rv0 := fun _ => undef, bb0 := fun _ => 0, ntb := hnb }
    let g : Gh := { S := S, N := fun b => w.heap.size ≤ b, bb := fun _ => 0, rv := fun _ => undef }
    have I : Inv c g (st0 args) { tmps := vs.toArray ++ Array.replicate (fn.ntmps - vs.toArray.size) undef, defers := [] } w := by
      refine ⟨rfl, by simp only [Array.size_append, List.size_toArray, Array.size_replicate, c]; omega, ⟨rfl, rfl, rfl, Nat.le_refl _, fun _ _ _ => rfl⟩, fun i => ?_, fun k cs h => (by cases h), fun k cs h => (by cases h), fun k r h => (by cases h), fun k r h => (by cases h), fun k k' cs cs' h => (by cases h), fun k k' cs r h => (by cases h), fun k k' r r' h => (by cases h), fun b o h => hS b o h, fun b h => h, fun b h1 h2 => absurd h2 (Nat.not_lt.2 h1), fun _ _ => ⟨rfl, rfl⟩, fun _ _ h => h, fun _ _ h => .inl h⟩
      · simp only [st0]
        rcases Nat.lt_or_ge i args.length with hi | hi
        · have hiv : i < vs.length := by omega
          have e1 : args.getD i .und = args[i] := by simp [List.getD_eq_getElem?_getD, hi]
          have e2 : (vs.toArray ++ Array.replicate (fn.ntmps - vs.toArray.size) undef).getD i undef = vs[i] := by
            simp [Array.getD_eq_getD_getElem?, Array.getElem?_append_left, hiv]
          rw [e1, e2]
          have := (hvs i args[i] vs[i] (List.getElem?_eq_getElem hi) (List.getElem?_eq_getElem hiv)).rdt (N' := g.N)
          have e3 : args[i].rdt = args[i] := by
            have := congrArg (fun l : List AV => l[i]?) hrd
            simp only [rdtL_map, List.getElem?_map, List.getElem?_eq_getElem hi, Option.map_some, Option.some.injEq] at this
            exact this
          rw [e3] at this
          exact .data _ _ this
        · have e1 : args.getD i .und = .und := by simp [List.getD_eq_getElem?_getD, List.getElem?_eq_none hi]
          have e2 : (vs.toArray ++ Array.replicate (fn.ntmps - vs.toArray.size) undef).getD i undef = undef := by
            rw [Array.getD_eq_getD_getElem?, Array.getElem?_append_right (by simp; omega), Array.getElem?_replicate]
            split <;> rfl
          rw [e1, e2]
          exact .und
    refine calls_of_wp hf hb ?_
    refine code_sound (c := c) hc (fun e g' s' a' w' I' hp => ?_) I h
    have fin : (∃ v, (results fn a'.tmps).run P w' = .ok v w' ∧ ∃ v', Ending.returned v = .returned v' ∧ Below w.heap.size w w' ∧ Ret w.heap.size w' res rows v') := by
      obtain ⟨_, l', ks, h1, h2, h3, h4, h5⟩ := hp
      obtain ⟨u, q1, q2⟩ := run_results (P := P) I' hr4 hr h1
      have hB : ∀ b, g'.N b → w.heap.size ≤ b := fun b hb => Classical.byContradiction fun hlt => I'.nx b hb (show b < w.heap.size by omega)
      refine ⟨u, q1, u, rfl, ⟨I'.fr.os, I'.fr.tape, I'.fr.output, I'.fr.size, fun k hk => I'.fr.block k hk (fun h => h)⟩, ?_⟩
      obtain ⟨r1, r2, r3⟩ := rowsAt_ok h5
      have kof : ∀ (i : Nat) (r : Row), rows[i]? = some r → (∃ k, ks[i]? = some (some k) ∧ s'.rw k = some r ∧ r.sh = false ∧ NwL r.es ∧ rvO g' ks i = g'.rv k) ∨ (ks[i]? = some none ∧ r.es = [] ∧ rvO g' ks i = .slice none 0 0) := fun i r hi => by
        have hlt : i < ks.length := by rw [r1]; exact (List.getElem?_eq_some_iff.1 hi).1
        cases hk : ks[i] with
        | none => exact .inr ⟨by rw [List.getElem?_eq_getElem hlt, hk], r3 i r (by rw [List.getElem?_eq_getElem hlt, hk]) hi, by simp only [rvO, List.getElem?_eq_getElem hlt, hk]⟩
        | some k =>
          obtain ⟨z1, z2, z3⟩ := r2 i k r (by rw [List.getElem?_eq_getElem hlt, hk]) hi
          exact .inl ⟨k, by rw [List.getElem?_eq_getElem hlt, hk], z1, z2, z3, by simp only [rvO, List.getElem?_eq_getElem hlt, hk]⟩
      refine ⟨{ g' with S := fun b o => g'.S b o ∧ w.heap.size ≤ b, rv := fun i => rvO g' ks i }, fun b o ho => ⟨ho.2, I'.sw b o ho.1⟩, hB, (q2.out hB h5 h3).wk (fun i hi r _ => by simp only [rvO, hi]) h2, fun i r hi => ?_, fun i j r r' hi hj hne b hb => ?_⟩
      · rcases kof i r hi with ⟨k, hk, hkr, hsh, hnw, ek⟩ | ⟨hk, he, ek⟩
        · simp only [ek]
          obtain ⟨xs, ty, p1, p2, p3⟩ := I'.rws k r hkr
          refine ⟨⟨xs, ty, p1, p2, fun j y v hy hv => ⟨(p3 j y v hy hv).1, (p3 j y v hy hv).2.1, ((p3 j y v hy hv).2.2).fresh hB (flat_nw hnw y (List.mem_of_getElem? hy))⟩⟩, fun b hb => ⟨hB b (I'.rwn k r hkr b hb).1.1, fun o ho => ?_⟩⟩
          have := ((I'.rwn k r hkr b hb).2 o ho.1).1
          rw [hsh] at this; cases this
        · simp only [ek]
          refine ⟨⟨[], 0, by rw [he]; exact World.ownsRow_nil w' 0 0 r.sz, by rw [he]; simp, by rw [he]; intro j a u h; simp [flat] at h⟩, fun b hb => by simp [Value.ownBlock] at hb⟩
      · rcases kof i r hi with ⟨k, hk, hkr, _, _, ek⟩ | ⟨hk, he, ek⟩
        · rcases kof j r' hj with ⟨k', hk', hkr', _, _, ek'⟩ | ⟨hk', he', ek'⟩
          · simp only [ek, ek'] at hb ⊢
            exact I'.drr k k' r r' hkr hkr' (fun e => hne (by subst e; exact keysO_inj h4 hk hk')) b hb
          · simp only [ek']; simp [Value.ownBlock]
        · simp only [ek] at hb; simp [Value.ownBlock] at hb
    cases e with
    | nrm => exact ⟨I'.defers, fin⟩
    | ret => exact ⟨I'.defers, fin⟩
    | ext id => exact hp.1.elim
/-- FROM CODE TO A CONTRACT of a function that hands back a new box. -/
theorem sndb_of {f : FuncId} {fn : Func} {l : L} {t : Nat} {args : List AV} {Ψ : List AV → Prop} (hf : P.funcs[f]? = some fn) (hc : chkF P args.length l [.t t] fn = true)
    (hrd : rdtL args = args) (h : den P l (fun e s => (match e with | .ext _ => False | _ => True) ∧ ∃ (k : Nat) (cs : List AV), s.e t = .ptr k 0 ∧ s.bx k = some cs ∧ cs.all plain = true ∧ rdtL cs = cs ∧ Ψ cs) (st0 args)) : SndB P f args Ψ := by
  simp only [chkF, Bool.and_eq_true, decide_eq_true_eq] at hc
  obtain ⟨⟨⟨⟨hc, hr⟩, hr4⟩, hn⟩, hnb⟩ := hc
  cases hb : fn.body with
  | none => rw [hb] at hc; cases hc
  | some code =>
    rw [hb] at hc
    simp only at hc
    intro w S N vs hS hvl hvs
    let c : Cx := { nt := fn.ntmps, X := fun _ => False, Y := fun _ => False, S0 := S, w0 := w, rv0 := fun _ => undef, bb0 := fun _ => 0, ntb := hnb }
    let g : Gh := { S := S, N := fun b => w.heap.size ≤ b, bb := fun _ => 0, rv := fun _ => undef }
    have I : Inv c g (st0 args) { tmps := vs.toArray ++ Array.replicate (fn.ntmps - vs.toArray.size) undef, defers := [] } w := by
      refine ⟨rfl, by simp only [Array.size_append, List.size_toArray, Array.size_replicate, c]; omega, ⟨rfl, rfl, rfl, Nat.le_refl _, fun _ _ _ => rfl⟩, fun i => ?_, fun k cs h => (by cases h), fun k cs h => (by cases h), fun k r h => (by cases h), fun k r h => (by cases h), fun k k' cs cs' h => (by cases h), fun k k' cs r h => (by cases h), fun k k' r r' h => (by cases h), fun b o h => hS b o h, fun b h => h, fun b h1 h2 => absurd h2 (Nat.not_lt.2 h1), fun _ _ => ⟨rfl, rfl⟩, fun _ _ h => h, fun _ _ h => .inl h⟩
      · simp only [st0]
        rcases Nat.lt_or_ge i args.length with hi | hi
        · have hiv : i < vs.length := by omega
          have e1 : args.getD i .und = args[i] := by simp [List.getD_eq_getElem?_getD, hi]
          have e2 : (vs.toArray ++ Array.replicate (fn.ntmps - vs.toArray.size) undef).getD i undef = vs[i] := by
            simp [Array.getD_eq_getD_getElem?, Array.getElem?_append_left, hiv]
          rw [e1, e2]
          have := (hvs i args[i] vs[i] (List.getElem?_eq_getElem hi) (List.getElem?_eq_getElem hiv)).rdt (N' := g.N)
          have e3 : args[i].rdt = args[i] := by
            have := congrArg (fun l : List AV => l[i]?) hrd
            simp only [rdtL_map, List.getElem?_map, List.getElem?_eq_getElem hi, Option.map_some, Option.some.injEq] at this
            exact this
          rw [e3] at this
          exact .data _ _ this
        · have e1 : args.getD i .und = .und := by simp [List.getD_eq_getElem?_getD, List.getElem?_eq_none hi]
          have e2 : (vs.toArray ++ Array.replicate (fn.ntmps - vs.toArray.size) undef).getD i undef = undef := by
            rw [Array.getD_eq_getD_getElem?, Array.getElem?_append_right (by simp; omega), Array.getElem?_replicate]
            split <;> rfl
          rw [e1, e2]
          exact .und
    refine calls_of_wp hf hb ?_
    refine code_sound (c := c) hc (fun e g' s' a' w' I' hp => ?_) I h
    have fin : (∃ v, (results fn a'.tmps).run P w' = .ok v w' ∧ ∃ b, Ending.returned v = .returned (.pointer (some ⟨b, 0, none⟩)) ∧ Below w.heap.size w w' ∧ w.heap.size ≤ b ∧ ∃ cs, Ψ cs ∧ ∃ (S2 : Nat → Nat → Prop) (us : List Value) (ty : TypeId),
      (∀ b o, S2 b o → S b o ∨ (w.heap.size ≤ b ∧ b < w'.heap.size)) ∧ (∀ o, ¬ S2 b o) ∧ w'.heap[b]? = some (.cells us.toArray ty (0, 0)) ∧ us.length = cs.length ∧
      ∀ (i : Nat) (a : AV) (u : Value), cs[i]? = some a → us[i]? = some u → a.one = true ∧ u.oneCell' = true ∧ Rd w' S2 (fun _ => False) a u) := by
      obtain ⟨_, k, cs, h1, h2, h3, h4, h5⟩ := hp
      obtain ⟨u, q1, q2⟩ := run_results (P := P) I' hr4 hr (l := [.ptr k 0]) (by simp [St.rvs, St.rv1, h1])
      have hu : u = .pointer (some ⟨g'.bb k, 0, none⟩) := (show Gv w' g' s' (.ptr k 0) u from q2).ptr_inv h2
      have hB : ∀ b, g'.N b → w.heap.size ≤ b := fun b hb => Classical.byContradiction fun hlt => I'.nx b hb (show b < w.heap.size by omega)
      obtain ⟨us, ty, z1, z2, z3⟩ := I'.bxs k cs h2
      refine ⟨u, q1, g'.bb k, by rw [hu], ⟨I'.fr.os, I'.fr.tape, I'.fr.output, I'.fr.size, fun k hk => I'.fr.block k hk (fun h => h)⟩, hB _ (I'.bxn k cs h2).1.1, cs, h5, g'.S, us, ty, fun b o ho => ?_, (I'.bxn k cs h2).2, z1, z2, fun i x v hx hv => ?_⟩
      · rcases I'.sb b o ho with h | h | h
        · exact .inl h
        · exact .inr ⟨h, I'.sw b o ho⟩
        · exact h.elim
      · obtain ⟨p1, p2, p3⟩ := z3 i x v hx hv
        have hpl : plain x = true := List.all_eq_true.1 h3 x (List.mem_of_getElem? hx)
        have e3 : x.rdt = x := by
          have := congrArg (fun l : List AV => l[i]?) h4
          simp only [rdtL_map, List.getElem?_map, hx, Option.map_some, Option.some.injEq] at this
          exact this
        have := (I'.plain (x := x) (y := x) (by cases x <;> simp [plain] at hpl <;> simp [nosr, plain]) (plain_dt hpl) p3).rdt (N' := fun _ => False)
        rw [e3] at this
        exact ⟨by cases x <;> simp [plain] at hpl <;> rfl, p2, this⟩
    cases e with
    | nrm => exact ⟨I'.defers, fin⟩
    | ret => exact ⟨I'.defers, fin⟩
    | ext id => exact hp.1.elim
def chkFn (P : Program) (f : FuncId) (n : Nat) (l : L) (rs : List Rv) : Bool := match P.funcs[f]? with
  | some fn => chkF P n l rs fn
  | none => false
theorem sndb_by {f : FuncId} {l : L} {t : Nat} {args : List AV} {Ψ : List AV → Prop} {n : Nat} (hc : chkFn P f n l [.t t] = true) (hn : args.length = n)
    (hrd : rdtL args = args) (h : den P l (fun e s => (match e with | .ext _ => False | _ => True) ∧ ∃ (k : Nat) (cs : List AV), s.e t = .ptr k 0 ∧ s.bx k = some cs ∧ cs.all plain = true ∧ rdtL cs = cs ∧ Ψ cs) (st0 args)) : SndB P f args Ψ := by
  unfold chkFn at hc
  split at hc
  · rename_i fn hf
    exact sndb_of hf (by rw [hn]; exact hc) hrd h
  · cases hc
theorem snd_by {f : FuncId} {l : L} {rs : List Rv} {args : List AV} {res : AV} {rows : List Row} {n : Nat} (hc : chkFn P f n l rs = true) (hn : args.length = n)
    (hrd : rdtL args = args) (h : den P l (post rs res rows) (st0 args)) : Snd P f args res rows := by
  unfold chkFn at hc
  split at hc
  · rename_i fn hf
    subst hn
    exact snd_of hf hc hrd h
  · cases hc
end
end Go.Proofs.Ythbbieobcokgbaa.Eng
