/-
  The engine, part 24: an argument that reads as data is data of the engine.
-/
import Derived.Test.YthbbieobcokgbaaEng23
import Derived.Deep.Slices
import Derived.ProofKit
namespace Go.Proofs.Ythbbieobcokgbaa.Eng
open Go Go.RowKit

inductive Ty
  | bool
  | int (k : IntKind)
  | str
  | sl (e : Ty)
  | st (fs : List Ty)

mutual
def Ty.size : Ty → Nat
  | .st fs => sizeL fs
  | _ => 1
def sizeL : List Ty → Nat
  | [] => 0
  | f :: fs => f.size + sizeL fs
end

def Ty.isSt : Ty → Bool
  | .st _ => true
  | _ => false

mutual
/-- The cells of a value of the type. -/
def Ty.ok : Ty → List AV → Prop
  | .bool, l => ∃ b, l = [.bool b]
  | .int k, l => ∃ n, l = [.int k n] ∧ (Lit.int k n).wf = true
  | .str, l => ∃ s, l = [.str s] ∧ s.length ≤ maxLen
  | .sl e, l => l = [.nl] ∨ ∃ es : List AV, l = [.sl .rd e.size es] ∧ es.length ≤ maxLen ∧ ∀ x ∈ es, x.cells.length = e.size ∧ (if e.isSt then ∃ cs, x = .agg cs else x.one = true) ∧ Ty.ok e x.cells
  | .st fs, l => okL fs l
def okL : List Ty → List AV → Prop
  | [], l => l = []
  | f :: fs, l => ∃ l1 l2, l = l1 ++ l2 ∧ Ty.ok f l1 ∧ okL fs l2
end

mutual
def chkTy (P : Program) : Ty → TypeId → Bool
  | .bool, t => (match P.underlying t with | some .bool => true | _ => false)
  | .int k, t => (match P.underlying t with | some (.int k') => decide (k' = k) | _ => false)
  | .str, t => (match P.underlying t with | some .string => true | _ => false)
  | .sl e, t => (match P.underlying t with | some (.slice u) => chkTy P e u && P.cellsOf u == e.size && e.size != 0 | _ => false)
  | .st fs, t => (match P.underlying t with | some (.struct gs) => chkTys P fs gs.toList 0 && P.cellsOf t == sizeL fs | _ => false)
def chkTys (P : Program) : List Ty → List Field → Nat → Bool
  | [], [], _ => true
  | f :: fs, g :: gs, o => g.offset == o && chkTy P f g.type && P.cellsOf g.type == f.size && chkTys P fs gs (o + f.size)
  | _, _, _ => false
end

section
variable {H : Type} {enc : TypeId × Value → H} {P : Program} {w : World} {base : Nat} {spare : Nat → Bool} {held : Bool}

def AllS (w : World) : Nat → Nat → Prop := fun b _ => b < w.heap.size

def Cells (w : World) (l : List AV) (cs : List Value) : Prop :=
  l.length = cs.length ∧ ∀ (i : Nat) (a : AV) (v : Value), l[i]? = some a → cs[i]? = some v → a.one = true ∧ Rd w (AllS w) (fun _ => False) a v

theorem brOne {a : AV} {v : Value} (h1 : a.one = true) (h : Rd w (AllS w) (fun _ => False) a v) : Cells w [a] [v] := by
  refine ⟨rfl, fun i x u hx hu => ?_⟩
  cases i with
  | zero => simp at hx hu; subst hx; subst hu; exact ⟨h1, h⟩
  | succ i => simp at hx
theorem cells_app {l1 l2 : List AV} {c1 c2 : List Value} (h1 : Cells w l1 c1) (h2 : Cells w l2 c2) : Cells w (l1 ++ l2) (c1 ++ c2) := by
  refine ⟨by simp [h1.1, h2.1], fun i x u hx hu => ?_⟩
  rcases Nat.lt_or_ge i l1.length with hi | hi
  · rw [List.getElem?_append_left hi] at hx
    rw [List.getElem?_append_left (by rw [← h1.1]; exact hi)] at hu
    exact h1.2 i x u hx hu
  · rw [List.getElem?_append_right hi] at hx
    rw [List.getElem?_append_right (by rw [← h1.1]; exact hi), ← h1.1] at hu
    exact h2.2 _ x u hx hu

theorem cell_lt {b o : Nat} {sp : Option Nat} {v : Value} (h : w.cell? ⟨b, o, sp⟩ = some v) : b < w.heap.size := by
  unfold World.cell? at h
  rcases Nat.lt_or_ge b w.heap.size with hl | hl
  · exact hl
  · rw [Array.getElem?_eq_none hl] at h; cases h
theorem cell_spot {b o : Nat} {sp : Option Nat} {v : Value} (h : w.cell? ⟨b, o, sp⟩ = some v) : sp = none := by
  unfold World.cell? at h
  split at h
  · split at h
    · cases h
    · rename_i hs; simpa using hs
  · cases h

mutual
theorem ok_size : ∀ {τ : Ty} {l : List AV}, τ.ok l → l.length = τ.size
  | .bool, l, h => by obtain ⟨b, rfl⟩ := (by simpa [Ty.ok] using h : ∃ b, l = [.bool b]); rfl
  | .int k, l, h => by simp only [Ty.ok] at h; obtain ⟨n, rfl, _⟩ := h; rfl
  | .str, l, h => by simp only [Ty.ok] at h; obtain ⟨n, rfl, _⟩ := h; rfl
  | .sl e, l, h => by
    simp only [Ty.ok] at h
    rcases h with rfl | ⟨es, rfl, _⟩ <;> rfl
  | .st fs, l, h => by simp only [Ty.ok] at h; simp only [Ty.size]; exact okL_size h
theorem okL_size : ∀ {fs : List Ty} {l : List AV}, okL fs l → l.length = sizeL fs
  | [], l, h => by simp only [okL] at h; subst h; rfl
  | f :: fs, l, h => by
    simp only [okL] at h
    obtain ⟨l1, l2, rfl, h1, h2⟩ := h
    simp only [List.length_append, sizeL, ok_size h1, okL_size h2]
end

theorem brFlat {sz : Nat} (hsz : 0 < sz) : ∀ (es : List AV), (∀ e ∈ es, e.cells.length = sz) → ∀ (j : Nat) (a : AV), (flat es)[j]? = some a → ∃ e, es[j / sz]? = some e ∧ e.cells[j % sz]? = some a
  | [], _, j, a, h => by simp [flat] at h
  | e :: es, hs, j, a, h => by
    simp only [flat, List.flatMap_cons] at h
    have he := hs e (by simp)
    rcases Nat.lt_or_ge j sz with hj | hj
    · rw [List.getElem?_append_left (by rw [he]; exact hj)] at h
      exact ⟨e, by simp [Nat.div_eq_of_lt hj], by rw [Nat.mod_eq_of_lt hj]; exact h⟩
    · rw [List.getElem?_append_right (by rw [he]; exact hj), he] at h
      obtain ⟨e', h1, h2⟩ := brFlat hsz es (fun x hx => hs x (by simp [hx])) (j - sz) a h
      refine ⟨e', ?_, ?_⟩
      · have : j / sz = (j - sz) / sz + 1 := by
          rw [← Nat.add_div_right _ hsz]; congr 1; omega
        rw [this]; simpa using h1
      · have : j % sz = (j - sz) % sz := by
          rw [← Nat.add_mod_right (j - sz) sz]; congr 1; omega
        rw [this]; exact h2

mutual
theorem trod_cells : ∀ (τ : Ty) {t : TypeId} {fuel : Nat} {cs : List Value} {x : DataW H × List MemPlace}, chkTy P τ t = true → DataW.trod enc P w base spare held fuel t cs = some x →
    ∃ l, τ.ok l ∧ Cells w l cs
  | .bool, t, fuel, cs, x, hc, h => by
    simp only [chkTy] at hc
    split at hc
    · rename_i hu
      cases fuel with
      | zero => simp [DataW.trod] at h
      | succ fuel =>
        unfold DataW.trod at h
        rw [hu] at h
        split at h <;> simp_all
        rename_i b0
        exact ⟨[.bool b0], by simp only [Ty.ok]; exact ⟨_, rfl⟩, brOne rfl (.bool _)⟩
    · cases hc
  | .int k, t, fuel, cs, x, hc, h => by
    simp only [chkTy] at hc
    split at hc
    · rename_i k' hu
      cases fuel with
      | zero => simp [DataW.trod] at h
      | succ fuel =>
        have hk : k' = k := by simpa using hc
        subst hk
        unfold DataW.trod at h
        rw [hu] at h
        split at h <;> simp_all
        rename_i k1 n1 _
        obtain ⟨⟨rfl, h2⟩, _⟩ := h
        exact ⟨[.int _ n1], by simp only [Ty.ok]; exact ⟨n1, rfl, h2⟩, brOne rfl (.int _ _)⟩
    · cases hc
  | .str, t, fuel, cs, x, hc, h => by
    simp only [chkTy] at hc
    split at hc
    · rename_i hu
      cases fuel with
      | zero => simp [DataW.trod] at h
      | succ fuel =>
        unfold DataW.trod at h
        rw [hu] at h
        split at h <;> simp_all
        rename_i s0
        refine ⟨[.str s0.data.toList], ?_, brOne rfl ?_⟩
        · simp only [Ty.ok]
          exact ⟨_, rfl, by have h1 := h.1; unfold ByteArray.size at h1; rw [Array.length_toList]; exact h1⟩
        · have : s0 = ⟨s0.data.toList.toArray⟩ := by simp
          have h2 := Rd.str (w := w) (S := AllS w) (N := fun _ => False) s0.data.toList
          rw [← this] at h2
          exact h2
    · cases hc
  | .sl e, t, fuel, cs, x, hc, h => by
    simp only [chkTy] at hc
    split at hc
    · rename_i u hu
      simp only [Bool.and_eq_true, beq_iff_eq, bne_iff_ne] at hc
      obtain ⟨⟨hce, hcc⟩, hne⟩ := hc
      rcases Go.Deep.open_slice hu h with ⟨rfl, _⟩ | ⟨a, len, cap, m, n, D, Pl, rfl, hb, hlc, hcm, hm, _, hel⟩
      · exact ⟨[.nl], by simp [Ty.ok], brOne rfl .nl⟩
      · have hlm : len ≤ m := by rw [hm]; split <;> omega
        have hex : ∀ i, i < len → ∃ (l : List AV) (cs' : List Value), e.ok l ∧ Cells w l cs' ∧ w.cells? base (a.add (i * e.size)) e.size = some cs' := fun i hi => by
          obtain ⟨cs', h1, h2⟩ := hel i (by omega)
          rw [hcc] at h1
          obtain ⟨l, q1, q2⟩ := trod_cells e hce h2
          exact ⟨l, cs', q1, q2, h1⟩
        classical
        let L : Nat → List AV := fun i => if hi : i < len then (hex i hi).choose else []
        have hL : ∀ i, i < len → ∃ cs', e.ok (L i) ∧ Cells w (L i) cs' ∧ w.cells? base (a.add (i * e.size)) e.size = some cs' := fun i hi => by
          have := (hex i hi).choose_spec
          simp only [L, dif_pos hi]; exact this
        let mkV : List AV → AV := fun l => if e.isSt then .agg l else l.getD 0 .bad
        have hmk : ∀ l cs', e.ok l → Cells w l cs' → (mkV l).cells = l ∧ (if e.isSt then ∃ cs, mkV l = .agg cs else (mkV l).one = true) := fun l cs' hl hcl => by
          simp only [mkV]
          cases hst : e.isSt with
          | true => simp [AV.cells]
          | false =>
            have hsz := ok_size hl
            have : e.size = 1 := by cases e <;> simp [Ty.isSt] at hst <;> rfl
            rw [this] at hsz
            match l, hsz with
            | [y], _ =>
              have hlen := hcl.1
              simp at hlen
              obtain ⟨v0, hv0⟩ : ∃ v0, cs'[0]? = some v0 := ⟨cs'[0]'(by omega), List.getElem?_eq_getElem (by omega)⟩
              have h1 := (hcl.2 0 y v0 rfl hv0).1
              simp
              exact ⟨by cases y <;> first | rfl | simp [AV.one] at h1, h1⟩
        let es : List AV := (List.range len).map fun i => mkV (L i)
        have hes : es.length = len := by simp [es]
        have hget : ∀ i e', es[i]? = some e' → i < len ∧ e' = mkV (L i) := fun i e' hi => by
          simp only [es, List.getElem?_map] at hi
          obtain ⟨j, hj, rfl⟩ := Option.map_eq_some_iff.1 hi
          have hlt : i < len := by have := (List.getElem?_eq_some_iff.1 hj).1; simpa using this
          rw [List.getElem?_range hlt] at hj
          cases hj
          exact ⟨hlt, rfl⟩
        have hall : ∀ x ∈ es, x.cells.length = e.size ∧ (if e.isSt then ∃ cs, x = .agg cs else x.one = true) ∧ e.ok x.cells := fun x hx => by
          obtain ⟨i, hi, rfl⟩ := List.getElem_of_mem hx
          obtain ⟨hlt, he⟩ := hget i _ (List.getElem?_eq_getElem hi)
          obtain ⟨cs', q1, q2, q3⟩ := hL i hlt
          obtain ⟨p1, p2⟩ := hmk _ _ q1 q2
          rw [he, p1]
          exact ⟨ok_size q1, p2, q1⟩
        refine ⟨[.sl .rd e.size es], by simp only [Ty.ok]; exact .inr ⟨es, rfl, by omega, hall⟩, brOne rfl ?_⟩
        rcases Nat.eq_zero_or_pos len with h0 | hpos
        · have : es = [] := List.eq_nil_of_length_eq_zero (by omega)
          rw [this, h0]
          exact .sl0 _ _ _ _
        · have hszp : 0 < e.size := Nat.pos_of_ne_zero hne
          have hsp : a.spot = none := by
            obtain ⟨cs', q1, q2, q3⟩ := hL 0 hpos
            obtain ⟨_, hcl, hat⟩ := World.cells?_some q3
            have := hat 0 hszp
            simp only [Nat.zero_mul, Addr.add, if_true] at this
            rw [List.getElem?_eq_getElem (by omega)] at this
            obtain ⟨b, o, sp⟩ := a
            exact cell_spot this
          obtain ⟨b, o, sp⟩ := a
          simp only at hsp
          subst hsp
          have hadd : ∀ o k, (⟨b, o, none⟩ : Addr).add k = ⟨b, o + k, none⟩ := fun o k => by
            unfold Addr.add
            split
            · rename_i hk; subst hk; rfl
            · rfl
          have hcell : ∀ (j : Nat) (y : AV), (flat es)[j]? = some y → ∃ v, w.cell? ⟨b, o + j, none⟩ = some v ∧ y.one = true ∧ Rd w (AllS w) (fun _ => False) y v := fun j y hj => by
            obtain ⟨e', h1, h2⟩ := brFlat hszp es (fun x hx => (hall x hx).1) j y hj
            obtain ⟨hlt, rfl⟩ := hget _ _ h1
            obtain ⟨cs', q1, q2, q3⟩ := hL _ hlt
            obtain ⟨p1, _⟩ := hmk _ _ q1 q2
            rw [p1] at h2
            obtain ⟨_, hcl, hat⟩ := World.cells?_some q3
            have hmod : j % e.size < e.size := Nat.mod_lt _ hszp
            have h3 := hat (j % e.size) hmod
            rw [hadd, hadd] at h3
            have hjj : o + j / e.size * e.size + j % e.size = o + j := by
              have := Nat.div_add_mod j e.size
              rw [Nat.mul_comm] at this; omega
            rw [hjj, List.getElem?_eq_getElem (by omega)] at h3
            exact ⟨_, h3, q2.2 _ _ _ h2 (List.getElem?_eq_getElem (by omega))⟩
          rw [← hes]
          refine .sl .rd e.size es b o cap (fun j => (w.cell? ⟨b, o + j, none⟩).getD undef) (by omega) hcm (fun x hx => (hall x hx).1) (fun j y hj => ?_) (fun h => by cases h) (fun j y hj => ?_)
          · obtain ⟨v, h1, h2, h3⟩ := hcell j y hj
            rw [h1]
            exact ⟨rfl, cell_lt h1, h2⟩
          · obtain ⟨v, h1, h2, h3⟩ := hcell j y hj
            simp only [h1, Option.getD_some]
            exact h3
    · cases hc
  | .st fs, t, fuel, cs, x, hc, h => by
    simp only [chkTy] at hc
    split at hc
    · rename_i gs hu
      simp only [Bool.and_eq_true, beq_iff_eq] at hc
      obtain ⟨xs, n, _, _, hlen, hxl, hf⟩ := DataW.trod_struct hu h
      have := trods_cells fs (gs := gs.toList) (o := 0) (n := n) (cs := cs) hc.1 (fun i f hi => by
        have h1 := hf i f (by simpa using hi)
        have hlt : i < xs.length := by rw [hxl]; have := (List.getElem?_eq_some_iff.1 hi).1; simpa using this
        rw [List.getElem?_eq_getElem hlt] at h1
        exact ⟨_, h1⟩) (by rw [hlen, hc.2]; simp)
      simpa [Ty.ok] using this
    · cases hc
theorem trods_cells : ∀ (fs : List Ty) {gs : List Field} {o n : Nat} {cs : List Value}, chkTys P fs gs o = true →
    (∀ (i : Nat) (f : Field), gs[i]? = some f → ∃ x, DataW.trod enc P w base spare held n f.type ((cs.drop f.offset).take (P.cellsOf f.type)) = some x) → cs.length = o + sizeL fs →
    ∃ l, okL fs l ∧ Cells w l (cs.drop o)
  | [], gs, o, n, cs, hc, h, hl => by
    simp only [sizeL] at hl
    refine ⟨[], rfl, ?_⟩
    rw [List.drop_eq_nil_of_le (by omega)]
    exact ⟨rfl, by intro i a v h; simp at h⟩
  | f :: fs, [], o, n, cs, hc, h, hl => by simp [chkTys] at hc
  | f :: fs, g :: gs, o, n, cs, hc, h, hl => by
    simp only [chkTys, Bool.and_eq_true, beq_iff_eq] at hc
    obtain ⟨⟨⟨h1, h2⟩, h3⟩, h4⟩ := hc
    obtain ⟨x, hx⟩ := h 0 g rfl
    rw [h1, h3] at hx
    obtain ⟨l1, q1, q2⟩ := trod_cells f h2 hx
    simp only [sizeL] at hl
    obtain ⟨l2, q3, q4⟩ := trods_cells fs (o := o + f.size) h4 (fun i f' hi => h (i + 1) f' (by simpa using hi)) (by omega)
    refine ⟨l1 ++ l2, by simp only [okL]; exact ⟨l1, l2, rfl, q1, q3⟩, ?_⟩
    have : cs.drop o = (cs.drop o).take f.size ++ cs.drop (o + f.size) := by
      rw [← List.drop_drop, List.take_append_drop]
    rw [this]
    exact cells_app q2 q4
end
end
end Go.Proofs.Ythbbieobcokgbaa.Eng
