/-
  Lemmas, part 6: the engine that steps through the code, the walks of functions, and the laws of what they compute.
-/
import Derived.Test.YtjphbnaepdcikaaA5
import Derived.Deep.Slices
import Derived.ProofKit
namespace Go.Proofs.Ytjphbnaepdcikaa.Eng
open Go Go.RowKit
inductive Ty
 | bool
 | int (k : IntKind)
 | str
 | sl (e : Ty)
 | st (fs : List Ty)
mutual
def Ty.size : Ty -> Nat
 | .st fs => sizeL fs
 | _ => 1
def sizeL : List Ty -> Nat
 | [] => 0
 | f :: fs => f.size + sizeL fs
end
def Ty.isSt : Ty -> Bool
 | .st _ => true
 | _ => false
mutual
def Ty.ok : Ty -> List AV -> Prop
 | .bool, l => ∃ b, l = [.bool b]
 | .int k, l => ∃ n, l = [.int k n] /\ (Lit.int k n).wf = true
 | .str, l => ∃ s, l = [.str s] /\ s.length <= maxLen
 | .sl e, l => l = [.nl] \/ ∃ es : List AV, l = [.sl .rd e.size es] /\ es.length <= maxLen /\ ∀ x ∈ es, x.cells.length = e.size /\ (if e.isSt then ∃ cs, x = .agg cs else x.one = true) /\ Ty.ok e x.cells
 | .st fs, l => okL fs l
def okL : List Ty -> List AV -> Prop
 | [], l => l = []
 | f :: fs, l => ∃ l1 l2, l = l1 ++ l2 /\ Ty.ok f l1 /\ okL fs l2
end
mutual
def chkTy (P : Program) : Ty -> TypeId -> Bool
 | .bool, t => (match P.underlying t with | some .bool => true | _ => false)
 | .int k, t => (match P.underlying t with | some (.int k') => decide (k' = k) | _ => false)
 | .str, t => (match P.underlying t with | some .string => true | _ => false)
 | .sl e, t => (match P.underlying t with | some (.slice u) => chkTy P e u && P.cellsOf u == e.size && e.size != 0 | _ => false)
 | .st fs, t => (match P.underlying t with | some (.struct gs) => Z6D P fs gs.toList 0 && P.cellsOf t == sizeL fs | _ => false)
def Z6D (P : Program) : List Ty -> List Field -> Nat -> Bool
 | [], [], _ => true
 | f :: fs, g :: gs, o => g.offset == o && chkTy P f g.type && P.cellsOf g.type == f.size && Z6D P fs gs (o + f.size)
 | _, _, _ => false
end
section
variable {H : Type} {enc : TypeId × Value -> H} {P : Program} {w : World} {base : Nat} {spare : Nat -> Bool} {held : Bool}
def AllS (w : World) : Nat -> Nat -> Prop := fun b _ => b < w.heap.size
def Cells (w : World) (l : List AV) (cs : List Value) : Prop :=
 l.length = cs.length /\ ∀ (i : Nat) (a : AV) (v : Value), l[i]? = some a -> cs[i]? = some v -> a.one = true /\ Rd w (AllS w) rdT a v
theorem brOne {a : AV} {v : Value} (h1 : a.one = true) (h : Rd w (AllS w) rdT a v) : Cells w [a] [v] := by
 refine ⟨rfl, fun i x u hx hu => ?_⟩
 cases i with
 | zero => simp at hx hu; subst hx; subst hu; exact ⟨h1, h⟩
 | succ i => simp at hx
theorem Z8s {l1 l2 : List AV} {c1 c2 : List Value} (h1 : Cells w l1 c1) (h2 : Cells w l2 c2) : Cells w (l1 ++ l2) (c1 ++ c2) := by
 refine ⟨by simp [h1.1, h2.1], fun i x u hx hu => ?_⟩
 rcases Nat.lt_or_ge i l1.length with hi | hi
 .rw [List.getElem?_append_left hi] at hx
  rw [List.getElem?_append_left (by rw [← h1.1]; exact hi)] at hu
  exact h1.2 i x u hx hu
 .rw [List.getElem?_append_right hi] at hx
  rw [List.getElem?_append_right (by rw [← h1.1]; exact hi), ← h1.1] at hu
  exact h2.2 _ x u hx hu
theorem cell_lt {b o : Nat} {sp : Option Nat} {v : Value} (h : w.cell? ⟨b, o, sp⟩ = some v) : b < w.heap.size := by
 unfold World.cell? at h
 rcases Nat.lt_or_ge b w.heap.size with hl | hl
 .exact hl
 .rw [Array.getElem?_eq_none hl] at h; cases h
theorem Z8t {b o : Nat} {sp : Option Nat} {v : Value} (h : w.cell? ⟨b, o, sp⟩ = some v) : sp = none := by
 unfold World.cell? at h
 split at h
 .split at h
  .cases h
  .rename_i hs; simpa using hs
 .cases h
mutual
theorem Z5H : ∀ {τ : Ty} {l : List AV}, τ.ok l -> l.length = τ.size
 | .bool, l, h => by obtain ⟨b, rfl⟩ := (by simpa [Ty.ok] using h : ∃ b, l = [.bool b]); rfl
 | .int k, l, h => by simp only [Ty.ok] at h; obtain ⟨n, rfl, _⟩ := h; rfl
 | .str, l, h => by simp only [Ty.ok] at h; obtain ⟨n, rfl, _⟩ := h; rfl
 | .sl e, l, h => by
  simp only [Ty.ok] at h
  rcases h with rfl | ⟨es, rfl, _⟩ <;> rfl
 | .st fs, l, h => by simp only [Ty.ok] at h; simp only [Ty.size]; exact Z7e h
theorem Z7e : ∀ {fs : List Ty} {l : List AV}, okL fs l -> l.length = sizeL fs
 | [], l, h => by simp only [okL] at h; subst h; rfl
 | f :: fs, l, h => by
  simp only [okL] at h
  obtain ⟨l1, l2, rfl, h1, h2⟩ := h
  simp only [List.length_append, sizeL, Z5H h1, Z7e h2]
end
theorem brFlat {sz : Nat} (hsz : 0 < sz) : ∀ (es : List AV), (∀ e ∈ es, e.cells.length = sz) -> ∀ (j : Nat) (a : AV), (flat es)[j]? = some a -> ∃ e, es[j / sz]? = some e /\ e.cells[j % sz]? = some a
 | [], _, j, a, h => by simp [flat] at h
 | e :: es, hs, j, a, h => by
  simp only [flat, List.flatMap_cons] at h
  have he := hs e (by simp)
  rcases Nat.lt_or_ge j sz with hj | hj
  .rw [List.getElem?_append_left (by rw [he]; exact hj)] at h
   exact ⟨e, by simp [Nat.div_eq_of_lt hj], by rw [Nat.mod_eq_of_lt hj]; exact h⟩
  .rw [List.getElem?_append_right (by rw [he]; exact hj), he] at h
   obtain ⟨e', h1, h2⟩ := brFlat hsz es (fun x hx => hs x (by simp [hx])) (j - sz) a h
   refine ⟨e', ?_, ?_⟩
   .have : j / sz = (j - sz) / sz + 1 := by
     rw [← Nat.add_div_right _ hsz]; congr 1; omega
    rw [this]; simpa using h1
   .have : j % sz = (j - sz) % sz := by
     rw [← Nat.add_mod_right (j - sz) sz]; congr 1; omega
    rw [this]; exact h2
mutual
theorem Z3y : ∀ (τ : Ty) {t : TypeId} {fuel : Nat} {cs : List Value} {x : DataW H × List MemPlace}, chkTy P τ t = true -> DataW.trod enc P w base spare held fuel t cs = some x ->
  ∃ l, τ.ok l /\ Cells w l cs
 | .bool, t, fuel, cs, x, hc, h => by
  simp only [chkTy] at hc
  split at hc
  .rename_i hu
   cases fuel with
   | zero => simp [DataW.trod] at h
   | succ fuel =>
    unfold DataW.trod at h
    rw [hu] at h
    split at h <;> simp_all
    rename_i b0
    exact ⟨[.bool b0], by simp only [Ty.ok]; exact ⟨_, rfl⟩, brOne rfl (.bool _)⟩
  .cases hc
 | .int k, t, fuel, cs, x, hc, h => by
  simp only [chkTy] at hc
  split at hc
  .rename_i k' hu
   cases fuel with
   | zero => simp [DataW.trod] at h
   | succ fuel =>
    have hk : k' = k := by simpa using hc
    subst hk
    unfold DataW.trod at h
    rw [hu] at h
    split at h <;> simp_all
    rename_i k1 n1 _
    obtain ⟨⟨rfl, h2⟩, _⟩ := h
    exact ⟨[.int _ n1], by simp only [Ty.ok]; exact ⟨n1, rfl, h2⟩, brOne rfl (.int _ _)⟩
  .cases hc
 | .str, t, fuel, cs, x, hc, h => by
  simp only [chkTy] at hc
  split at hc
  .rename_i hu
   cases fuel with
   | zero => simp [DataW.trod] at h
   | succ fuel =>
    unfold DataW.trod at h
    rw [hu] at h
    split at h <;> simp_all
    rename_i s0
    refine ⟨[.str s0.data.toList], ?_, brOne rfl ?_⟩
    .simp only [Ty.ok]
     exact ⟨_, rfl, by have h1 := h.1; unfold ByteArray.size at h1; rw [Array.length_toList]; exact h1⟩
    .have : s0 = ⟨s0.data.toList.toArray⟩ := by simp
     have h2 := Rd.str (w := w) (S := AllS w) (T := rdT) s0.data.toList
     rw [← this] at h2
     exact h2
  .cases hc
 | .sl e, t, fuel, cs, x, hc, h => by
  simp only [chkTy] at hc
  split at hc
  .rename_i u hu
   simp only [yD, beq_iff_eq, bne_iff_ne] at hc
   obtain ⟨⟨hce, hcc⟩, hne⟩ := hc
   rcases Go.Deep.open_slice hu h with ⟨rfl, _⟩ | ⟨a, len, cap, m, n, D, Pl, rfl, hb, hlc, hcm, hm, _, hel⟩
   .exact ⟨[.nl], by simp [Ty.ok], brOne rfl .nl⟩
   .have hlm : len <= m := by rw [hm]; split <;> omega
    have hex : ∀ i, i < len -> ∃ (l : List AV) (cs' : List Value), e.ok l /\ Cells w l cs' /\ w.cells? base (a.add (i * e.size)) e.size = some cs' := fun i hi => by
     obtain ⟨cs', h1, h2⟩ := hel i (by omega)
     rw [hcc] at h1
     obtain ⟨l, q1, q2⟩ := Z3y e hce h2
     exact ⟨l, cs', q1, q2, h1⟩
    classical
    let L : Nat -> List AV := fun i => if hi : i < len then (hex i hi).choose else []
    have hL : ∀ i, i < len -> ∃ cs', e.ok (L i) /\ Cells w (L i) cs' /\ w.cells? base (a.add (i * e.size)) e.size = some cs' := fun i hi => by
     have := (hex i hi).choose_spec
     simp only [L, dif_pos hi]; exact this
    let mkV : List AV -> AV := fun l => if e.isSt then .agg l else l.getD 0 .bad
    have hmk : ∀ l cs', e.ok l -> Cells w l cs' -> (mkV l).cells = l /\ (if e.isSt then ∃ cs, mkV l = .agg cs else (mkV l).one = true) := fun l cs' hl hcl => by
     simp only [mkV]
     cases hst : e.isSt with
     | true => simp [AV.cells]
     | false =>
      have hsz := Z5H hl
      have : e.size = 1 := by cases e <;> simp [Ty.isSt] at hst <;> rfl
      rw [this] at hsz
      match l, hsz with
      | [y], _ =>
       have hlen := hcl.1
       simp at hlen
       obtain ⟨v0, hv0⟩ : ∃ v0, cs'[0]? = some v0 := ⟨cs'[0]'(by omega), yA (by omega)⟩
       have h1 := (hcl.2 0 y v0 rfl hv0).1
       simp
       exact ⟨by cases y <;> first | rfl | simp [AV.one] at h1, h1⟩
    let es : List AV := (List.range len).map fun i => mkV (L i)
    have hes : es.length = len := by simp [es]
    have hget : ∀ i e', es[i]? = some e' -> i < len /\ e' = mkV (L i) := fun i e' hi => by
     simp only [es, List.getElem?_map] at hi
     obtain ⟨j, hj, rfl⟩ := yC hi
     have hlt : i < len := by have := (yB hj).1; simpa using this
     rw [List.getElem?_range hlt] at hj
     cases hj
     exact ⟨hlt, rfl⟩
    have hall : ∀ x ∈ es, x.cells.length = e.size /\ (if e.isSt then ∃ cs, x = .agg cs else x.one = true) /\ e.ok x.cells := fun x hx => by
     obtain ⟨i, hi, rfl⟩ := List.getElem_of_mem hx
     obtain ⟨hlt, he⟩ := hget i _ (yA hi)
     obtain ⟨cs', q1, q2, q3⟩ := hL i hlt
     obtain ⟨p1, p2⟩ := hmk _ _ q1 q2
     rw [he, p1]
     exact ⟨Z5H q1, p2, q1⟩
    refine ⟨[.sl .rd e.size es], by simp only [Ty.ok]; exact .inr ⟨es, rfl, by omega, hall⟩, brOne rfl ?_⟩
    rcases Nat.eq_zero_or_pos len with h0 | hpos
    .have : es = [] := List.eq_nil_of_length_eq_zero (by omega)
     rw [this, h0]
     exact .sl0 _ _ _ _ fun _ e => by cases e
    .have hszp : 0 < e.size := Nat.pos_of_ne_zero hne
     have hsp : a.spot = none := by
      obtain ⟨cs', q1, q2, q3⟩ := hL 0 hpos
      obtain ⟨_, hcl, hat⟩ := World.cells?_some q3
      have := hat 0 hszp
      simp only [Nat.zero_mul, Addr.add, if_true] at this
      rw [yA (by omega)] at this
      obtain ⟨b, o, sp⟩ := a
      exact Z8t this
     obtain ⟨b, o, sp⟩ := a
     simp only at hsp
     subst hsp
     have hadd : ∀ o k, (⟨b, o, none⟩ : Addr).add k = ⟨b, o + k, none⟩ := fun o k => by
      unfold Addr.add
      split
      .rename_i hk; subst hk; rfl
      .rfl
     have hcell : ∀ (j : Nat) (y : AV), (flat es)[j]? = some y -> ∃ v, w.cell? ⟨b, o + j, none⟩ = some v /\ y.one = true /\ Rd w (AllS w) rdT y v := fun j y hj => by
      obtain ⟨e', h1, h2⟩ := brFlat hszp es (fun x hx => (hall x hx).1) j y hj
      obtain ⟨hlt, rfl⟩ := hget _ _ h1
      obtain ⟨cs', q1, q2, q3⟩ := hL _ hlt
      obtain ⟨p1, _⟩ := hmk _ _ q1 q2
      rw [p1] at h2
      obtain ⟨_, hcl, hat⟩ := World.cells?_some q3
      have hmod : j % e.size < e.size := Nat.mod_lt _ hszp
      have h3 := hat (j % e.size) hmod
      rw [hadd, hadd] at h3
      have hjj : o + j / e.size * e.size + j % e.size = o + j := by
       have := Nat.div_add_mod j e.size
       rw [Nat.mul_comm] at this; omega
      rw [hjj, yA (by omega)] at h3
      exact ⟨_, h3, q2.2 _ _ _ h2 (yA (by omega))⟩
     rw [← hes]
     refine .sl .rd e.size es b o cap (fun j => (w.cell? ⟨b, o + j, none⟩).getD undef) (by omega) hcm (fun x hx => (hall x hx).1) (fun j y hj => ?_) (fun _ e => by cases e) (fun j y hj => ?_)
     .obtain ⟨v, h1, h2, h3⟩ := hcell j y hj
      rw [h1]
      exact ⟨rfl, cell_lt h1, h2, rfl⟩
     .obtain ⟨v, h1, h2, h3⟩ := hcell j y hj
      simp only [h1, Option.getD_some]
      exact h3
  .cases hc
 | .st fs, t, fuel, cs, x, hc, h => by
  simp only [chkTy] at hc
  split at hc
  .rename_i gs hu
   simp only [yD, beq_iff_eq] at hc
   obtain ⟨xs, n, _, _, hlen, hxl, hf⟩ := DataW.trod_struct hu h
   have := Z4l fs (gs := gs.toList) (o := 0) (n := n) (cs := cs) hc.1 (fun i f hi => by
    have h1 := hf i f (by simpa using hi)
    have hlt : i < xs.length := by rw [hxl]; have := (yB hi).1; simpa using this
    rw [yA hlt] at h1
    exact ⟨_, h1⟩) (by rw [hlen, hc.2]; simp)
   simpa [Ty.ok] using this
  .cases hc
theorem Z4l : ∀ (fs : List Ty) {gs : List Field} {o n : Nat} {cs : List Value}, Z6D P fs gs o = true ->
  (∀ (i : Nat) (f : Field), gs[i]? = some f -> ∃ x, DataW.trod enc P w base spare held n f.type ((cs.drop f.offset).take (P.cellsOf f.type)) = some x) -> cs.length = o + sizeL fs ->
  ∃ l, okL fs l /\ Cells w l (cs.drop o)
 | [], gs, o, n, cs, hc, h, hl => by
  simp only [sizeL] at hl
  refine ⟨[], rfl, ?_⟩
  rw [List.drop_eq_nil_of_le (by omega)]
  exact ⟨rfl, by intro i a v h; simp at h⟩
 | f :: fs, [], o, n, cs, hc, h, hl => by simp [Z6D] at hc
 | f :: fs, g :: gs, o, n, cs, hc, h, hl => by
  simp only [Z6D, yD, beq_iff_eq] at hc
  obtain ⟨⟨⟨h1, h2⟩, h3⟩, h4⟩ := hc
  obtain ⟨x, hx⟩ := h 0 g rfl
  rw [h1, h3] at hx
  obtain ⟨l1, q1, q2⟩ := Z3y f h2 hx
  simp only [sizeL] at hl
  obtain ⟨l2, q3, q4⟩ := Z4l fs (o := o + f.size) h4 (fun i f' hi => h (i + 1) f' (by simpa using hi)) (by omega)
  refine ⟨l1 ++ l2, by simp only [okL]; exact ⟨l1, l2, rfl, q1, q3⟩, ?_⟩
  have : cs.drop o = (cs.drop o).take f.size ++ cs.drop (o + f.size) := by
   rw [← List.drop_drop, List.take_append_drop]
  rw [this]
  exact Z8s q2 q4
end
end
end Go.Proofs.Ytjphbnaepdcikaa.Eng
namespace Go.Proofs.Ytjphbnaepdcikaa.Eng
open Go Go.RowKit
def Ty.okV (τ : Ty) (a : AV) : Prop := match τ with
 | .st fs => ∃ cs, a = .agg cs /\ okL fs cs
 | τ => τ.ok [a]
def okVs : List Ty -> List AV -> Prop
 | [], l => l = []
 | τ :: τs, l => ∃ a l', l = a :: l' /\ τ.okV a /\ okVs τs l'
def ZT (P : Program) : List Ty -> List TypeId -> Bool
 | [], [] => true
 | τ :: τs, t :: ts => chkTy P τ t && P.readableRec t && decide (t < P.types.size) && ZT P τs ts
 | _, _ => false
section
variable {H : Type} {enc : TypeId × Value -> H} {P : Program}
theorem rd_okV {w : World} {τ : Ty} {t : TypeId} {v : Value} {d : DataW H} {p : List MemPlace} {base : Nat} {spare : Nat -> Bool} {held : Bool} {b0 : Nat} (hc : chkTy P τ t = true)
  (hv : Value.okWide P w .any b0 t v) (h : DataW.Trod enc P w base spare held t v d p) : ∃ a, τ.okV a /\ Rd w (AllS w) rdT a v := by
 obtain ⟨fuel, h⟩ := h
 obtain ⟨l, h1, h2⟩ := Z3y τ hc h
 have one : v.cells = #[v] -> τ.size = 1 -> (∀ a, l = [a] -> τ.okV a) -> ∃ a, τ.okV a /\ Rd w (AllS w) rdT a v := fun hvc hs hk => by
  have hsz := Z5H h1
  rw [hs] at hsz
  rw [hvc] at h2
  match l, hsz with
  | [a], _ => exact ⟨a, hk a rfl, (h2.2 0 a v rfl rfl).2⟩
 cases τ with
 | st fs =>
  simp only [chkTy] at hc
  split at hc
  .rename_i gs hu
   obtain ⟨cs, rfl, _⟩ := WideShapes.okWide_struct hu hv
   simp only [Ty.ok] at h1
   refine ⟨.agg l, ⟨l, rfl, h1⟩, ?_⟩
   have e : cs = cs.toList.toArray := by simp
   have hl : l.length = cs.toList.length := h2.1
   have h3 := Rd.agg (w := w) (S := AllS w) (T := rdT) l cs.toList hl (fun a ha => by
    obtain ⟨i, hi, rfl⟩ := List.getElem_of_mem ha
    exact (h2.2 i _ _ (yA hi) (yA (show i < cs.toList.length by rw [← hl]; exact hi))).1) (fun i a v hi hv => (h2.2 i a v hi hv).2)
   rw [← e] at h3
   exact h3
  .cases hc
 | bool =>
  simp only [chkTy] at hc
  split at hc
  .rename_i hu
   obtain ⟨b, rfl⟩ := WideShapes.okWide_bool hu hv
   exact one rfl rfl (fun a e => by rw [e] at h1; exact h1)
  .cases hc
 | int k =>
  simp only [chkTy] at hc
  split at hc
  .rename_i k' hu
   obtain ⟨b, rfl⟩ := WideShapes.okWide_int hu hv
   exact one rfl rfl (fun a e => by rw [e] at h1; exact h1)
  .cases hc
 | str =>
  simp only [chkTy] at hc
  split at hc
  .rename_i hu
   obtain ⟨b, rfl⟩ := WideShapes.okWide_string hu hv
   exact one rfl rfl (fun a e => by rw [e] at h1; exact h1)
  .cases hc
 | sl e =>
  simp only [chkTy] at hc
  split at hc
  .rename_i u hu
   obtain ⟨a, n, c, rfl⟩ := WideShapes.okWide_slice hu hv
   exact one rfl rfl (fun a e => by rw [e] at h1; exact h1)
  .cases hc
theorem Z3T {w : World} {base : Nat} {spare : Nat -> Bool} {held : Bool} {b0 : Nat} : ∀ {τs : List Ty} {ts : List TypeId} {vs : List Value} {ds : List (DataW H)} {p : List MemPlace}, ZT P τs ts = true ->
  (∀ (j : Nat) (t : TypeId) (v : Value), ts[j]? = some t -> vs[j]? = some v -> Value.okWide P w .any b0 t v) -> DataW.TrodAll enc P w base spare held ts vs ds p ->
  ∃ as, okVs τs as /\ vs.length = as.length /\ ∀ (i : Nat) (a : AV) (v : Value), as[i]? = some a -> vs[i]? = some v -> Rd w (AllS w) rdT a v
 | [], [], vs, ds, p, _, _, h => by
  match vs, ds, h with
  | [], [], _ => exact ⟨[], rfl, rfl, by intro i a v h; simp at h⟩
  | [], _ :: _, h => exact h.elim
  | _ :: _, _, h => exact h.elim
 | τ :: τs, t :: ts, vs, ds, p, hc, hok, h => by
  simp only [ZT, yD] at hc
  match vs, ds, h with
  | v :: vs, d :: ds, ⟨p1, q1, h1, h2, _⟩ =>
   obtain ⟨a, ha, hr⟩ := rd_okV hc.1.1.1 (hok 0 t v rfl rfl) h1
   obtain ⟨as, has, hl, hrs⟩ := Z3T hc.2 (fun j t v ht hv => hok (j + 1) t v (by simpa using ht) (by simpa using hv)) h2
   refine ⟨a :: as, ⟨a, as, rfl, ha, has⟩, by simp [hl], fun i x u hx hu => ?_⟩
   cases i with
   | zero => simp at hx hu; subst hx; subst hu; exact hr
   | succ i => exact hrs i x u (by simpa using hx) (by simpa using hu)
  | [], _, h => cases ‹List (DataW H)› <;> exact h.elim
  | _ :: _, [], h => exact h.elim
 | [], _ :: _, _, _, _, hc, _, _ => by simp [ZT] at hc
 | _ :: _, [], _, _, _, hc, _, _ => by simp [ZT] at hc
theorem Z2W {w w' : World} (hl : laidOutB P = true) (hb : Below w.heap.size w w') : ∀ {τs : List Ty} {ts : List TypeId} {vs : List Value} {ds : List (DataW H)} {p : List MemPlace}, ZT P τs ts = true ->
  (∀ x ∈ p, x.block < w.heap.size) -> DataW.TrodAll enc P w 0 (fun _ => true) true ts vs ds p -> DataW.TrodAll enc P w' 0 (fun b => decide (b < w.heap.size)) true ts vs ds p
 | [], [], vs, ds, p, _, _, h => by
  match vs, ds, h with
  | [], [], h => exact h
  | [], _ :: _, h => exact h.elim
  | _ :: _, _, h => exact h.elim
 | τ :: τs, t :: ts, vs, ds, p, hc, hlt, h => by
  simp only [ZT, yD, decide_eq_true_eq] at hc
  match vs, ds, h with
  | v :: vs, d :: ds, ⟨p1, q1, h1, h2, e⟩ =>
   subst e
   exact ⟨p1, q1, Below.trod hl hc.1.1.2 hc.1.2 h1 hb (fun x hx => hlt x (List.mem_append.2 (.inl hx))), Z2W hl hb hc.2 (fun x hx => hlt x (List.mem_append.2 (.inr hx))) h2, rfl⟩
  | [], _, h => cases ‹List (DataW H)› <;> exact h.elim
  | _ :: _, [], h => exact h.elim
 | [], _ :: _, _, _, _, hc, _, _ => by simp [ZT] at hc
 | _ :: _, [], _, _, _, hc, _, _ => by simp [ZT] at hc
theorem law_goal {f : FuncId} {fn : Func} {s : ChangeSpec} {τs : List Ty} {tb : TypeId} (hl : laidOutB P = true) (hc : ZT P τs fn.params.toList = true) (hrt : fn.resultTypes = #[tb])
  (htb : P.underlying tb = some .bool) (hvars : s.vars = []) (hspec : ∀ ds : List (DataW H), ds.length = τs.length -> s.fn H ds = { results := [.lit (.bool true)], args := ds })
  (hS : ∀ as, okVs τs as -> Snd P f as (.bool true) [])
  (W : World) (base : Nat) (args : Array Value) (ds gs : List (DataW H)) (before : List MemPlace)
  (hval : ∀ (j : Nat) (t : TypeId) (v : Value), fn.params[j]? = some t -> args[j]? = some v -> Value.okWide P W .any base t v)
  (hW : DataW.Whole enc P fn.params.toList s.vars false W args.toList ds gs before) :
  Calls P f args W fun e W' => ∃ v, e = .returned v /\ s.post enc P fn false true false false W args v W' := by
 have hW' := hW
 obtain ⟨p, q, hA, hV, rfl, hfz, hnd⟩ := hW
 obtain ⟨as, has, hlen, hrd⟩ := Z3T hc (fun j t v ht hv => hval j t v (by simpa using ht) (by simpa using hv)) hA
 have hcall := hS as has W (AllS W) rdT args.toList (fun b o h => h) hlen hrd
 rw [show args.toList.toArray = args by simp] at hcall
 refine hcall.mono fun e W' hq => ?_
 obtain ⟨v, rfl, hb, g, _, _, _, hg, _⟩ := hq
 have hv := hg.bool_inv
 subst hv
 refine ⟨_, rfl, ?_⟩
 have hdl : ∀ {τs : List Ty} {ts : List TypeId} {vs : List Value} {ds : List (DataW H)} {p : List MemPlace}, ZT P τs ts = true -> DataW.TrodAll enc P W 0 (fun _ => true) true ts vs ds p -> ds.length = τs.length := by
  intro τs
  induction τs with
  | nil =>
   intro ts vs ds p hc h
   cases ts with
   | nil => cases vs <;> cases ds <;> first | rfl | exact h.elim
   | cons _ _ => simp [ZT] at hc
  | cons τ τs ih =>
   intro ts vs ds p hc h
   cases ts with
   | nil => simp [ZT] at hc
   | cons t ts =>
    cases vs with
    | nil => cases ds <;> exact h.elim
    | cons v vs =>
     cases ds with
     | nil => exact h.elim
     | cons d ds =>
      obtain ⟨p1, q1, h1, h2, _⟩ := h
      simp only [ZT, yD] at hc
      simp [ih hc.2 h2]
 have hgs : gs = [] := by
  rw [hvars] at hV
  cases gs with
  | nil => rfl
  | cons _ _ => exact hV.elim
 subst hgs
 have hsp := hspec ds (hdl hc hA)
 have hV' := hV
 rw [hvars] at hV'
 have hpv : q = [] := hV'
 subst hpv
 refine ⟨ds, [], p ++ [], [], p, [], hW', ?_, ?_, ?_, hb.frame _, fun h => (by cases h)⟩
 .rw [List.append_nil, hsp, hrt]
  refine ⟨[], [], ⟨1, ?_⟩, rfl, rfl⟩
  simp [DataW.trod, htb, Value.cells]
 .rw [List.append_nil, hsp]
  exact Z2W hl hb hc (fun x hx => hW'.lt x (by simpa using hx)) hA
 .rw [List.append_nil, hsp, hvars]
  rfl
def Z8r (P : Program) (fn : Func) : Bool := match fn.resultTypes.toList with
 | [t] => (match P.underlying t with | some .bool => true | _ => false)
 | _ => false
theorem Z8q {P : Program} {fn : Func} (h : Z8r P fn = true) : ∃ t, fn.resultTypes = #[t] /\ P.underlying t = some .bool := by
 unfold Z8r at h
 split at h
 .rename_i t e
  split at h
  .rename_i e2
   refine ⟨t, ?_, e2⟩
   have : fn.resultTypes = fn.resultTypes.toList.toArray := by simp
   rw [this, e]
  .cases h
 .cases h
theorem Z88 {f : FuncId} {fn : Func} {s : ChangeSpec} {τs : List Ty} (hl : laidOutB P = true) (hc : ZT P τs fn.params.toList = true) (hrt : Z8r P fn = true)
  (hvars : s.vars = []) (hspec : ∀ ds : List (DataW H), ds.length = τs.length -> s.fn H ds = { results := [.lit (.bool true)], args := ds })
  (hS : ∀ as, okVs τs as -> Snd P f as (.bool true) [])
  (W : World) (base : Nat) (args : Array Value) (ds gs : List (DataW H)) (before : List MemPlace)
  (hval : ∀ (j : Nat) (t : TypeId) (v : Value), fn.params[j]? = some t -> args[j]? = some v -> Value.okWide P W .any base t v)
  (hW : DataW.Whole enc P fn.params.toList s.vars false W args.toList ds gs before) :
  Calls P f args W fun e W' => ∃ v, e = .returned v /\ s.post enc P fn false true false false W args v W' := by
 obtain ⟨t, h1, h2⟩ := Z8q hrt
 exact law_goal hl hc h1 h2 hvars hspec hS W base args ds gs before hval hW
end
end Go.Proofs.Ytjphbnaepdcikaa.Eng
namespace Go.Proofs.Ytjphbnaepdcikaa.Eng
open Go Go.RowKit
def rkey (fx : List Bool) (i : Nat) : Nat := if fx.getD i true then 1000000000 + i else 500000000 + i
def cfb (n j : Nat) : Option Nat := if j < n then some (2000000000 + j) else none
def cfr (fx : List Bool) (n i : Nat) : Option Nat := if i < n then some (rkey fx i) else none
def stC (n0 : Nat) (args : List AV) (bin : List (List AV)) (rin : List Row) (fx : List Bool) : St :=
  { e := fun i => (args.getD i .und).mp (cfb bin.length) (cfr fx rin.length)
    bx := fun k => if 2000000000 <= k then (bin[k - 2000000000]?).map (mpL (cfb bin.length) (cfr fx rin.length)) else none
    rw := fun k => if 1000000000 <= k then (if fx.getD (k - 1000000000) true then rin[k - 1000000000]? else none)
      else if 500000000 <= k then (if fx.getD (k - 500000000) true then none else rin[k - 500000000]?) else none
    nx := n0
    my := fun i => n0 <= i }
def cob (n k : Nat) : Option Nat := if 2000000000 <= k then (if k - 2000000000 < n then some (k - 2000000000) else none) else none
def cor (upd : List (Option (List AV))) (ks : List Nat) (n k : Nat) : Option Nat :=
 if 1000000000 <= k then (match upd[k - 1000000000]? with | some (some _) => some (k - 1000000000) | _ => none) else (ix ks k).map fun j => n + j
def Z6H (s : St) (fb fr : Nat -> Option Nat) : Nat -> List (List AV) -> Prop
 | _, [] => True
 | k, b :: bs => (∃ cs, s.bx k = some cs /\ b = mpL fb fr cs) /\ Z6H s fb fr (k + 1) bs
def updC (s : St) (fx : List Bool) : Nat -> List Row -> List (Option (List AV)) -> Prop
 | i, r :: rs, some es :: us => (fx.getD i true = true /\ s.rw (1000000000 + i) = some { r with es := es } /\ r.sh = false) /\ updC s fx (i + 1) rs us
 | i, _ :: rs, none :: us => updC s fx (i + 1) rs us
 | _, [], [] => True
 | _, _, _ => False
def Z1v : List Nat -> Prop
 | [] => True
 | k :: ks => k < 1000000000 /\ Z1v ks
def postC (rs : List Rv) (bin : List (List AV)) (rin : List Row) (fx : List Bool) (Φ : Nat -> AV -> List (List AV) -> List (Option (List AV)) -> List Row -> Prop) (e : Ex) (s : St) : Prop :=
 (match e with | .ext _ => False | _ => True) /\ ∃ (l : List AV) (bout : List (List AV)) (upd : List (Option (List AV))) (ks : List Nat) (new : List Row), s.rvs rs = some l /\
  Z6H s (cob bin.length) (cor upd ks rin.length) 2000000000 bout /\ updC s fx 0 rin upd /\ ks.Nodup /\ Z1v ks /\ Z3v s ks new /\ bout.map List.length = bin.map List.length /\
  Φ s.nx ((resOf l).mp (cob bin.length) (cor upd ks rin.length)) bout upd new
section
variable {P : Program} {c : Cx} {g : Gh} {s : St} {a : Act} {w : World}
theorem Z6G {fb fr : Nat -> Option Nat} : ∀ {bs : List (List AV)} {k : Nat}, Z6H s fb fr k bs -> ∀ (i : Nat) (b : List AV), bs[i]? = some b -> ∃ cs, s.bx (k + i) = some cs /\ b = mpL fb fr cs
 | [], k, _, i, b, h => by simp at h
 | b0 :: bs, k, h, i, b, hb => by
  cases i with
  | zero => simp at hb; subst hb; exact h.1
  | succ i =>
   obtain ⟨cs, h1, h2⟩ := Z6G h.2 i b (by simpa using hb)
   exact ⟨cs, by rw [show k + (i + 1) = k + 1 + i by omega]; exact h1, h2⟩
theorem Z6N {fx : List Bool} : ∀ {rin : List Row} {upd : List (Option (List AV))} {k : Nat}, updC s fx k rin upd -> upd.length = rin.length /\
  ∀ (i : Nat) (es : List AV), upd[i]? = some (some es) -> ∃ r, rin[i]? = some r /\ fx.getD (k + i) true = true /\ s.rw (1000000000 + (k + i)) = some { r with es := es } /\ r.sh = false
 | [], [], k, _ => ⟨rfl, by intro i es h; simp at h⟩
 | r :: rs, some es :: us, k, h => by
  obtain ⟨h1, h2⟩ := Z6N h.2
  refine ⟨by simp [h1], fun i es' hi => ?_⟩
  cases i with
  | zero => simp at hi; subst hi; exact ⟨r, rfl, h.1⟩
  | succ i =>
   obtain ⟨r', q1, q2, q3, q4⟩ := h2 i es' (by simpa using hi)
   rw [show k + (i + 1) = k + 1 + i by omega]
   exact ⟨r', by simpa using q1, q2, q3, q4⟩
 | r :: rs, none :: us, k, h => by
  obtain ⟨h1, h2⟩ := Z6N (show updC s fx (k + 1) rs us from h)
  refine ⟨by simp [h1], fun i es' hi => ?_⟩
  cases i with
  | zero => simp at hi
  | succ i =>
   obtain ⟨r', q1, q2, q3, q4⟩ := h2 i es' (by simpa using hi)
   rw [show k + (i + 1) = k + 1 + i by omega]
   exact ⟨r', by simpa using q1, q2, q3, q4⟩
 | [], _ :: _, _, h => h.elim
 | _ :: _, [], _, h => by simp [updC] at h
theorem Z1u : ∀ {ks : List Nat} {k : Nat}, Z1v ks -> k ∈ ks -> k < 1000000000
 | [], k, _, h => by simp at h
 | k0 :: ks, k, h, hk => by
  rcases List.mem_cons.1 hk with rfl | hk
  .exact h.1
  .exact Z1u h.2 hk
theorem con_of {n0 : Nat} {f : FuncId} {fn : Func} {l : L} {rs : List Rv} {args : List AV} {bin : List (List AV)} {rin : List Row} {Φ : Nat -> AV -> List (List AV) -> List (Option (List AV)) -> List Row -> Prop} (fx : List Bool)
  (hf : P.funcs[f]? = some fn) (hc : chkF P args.length l rs fn = true) (hrl : rin.length <= 1000)
  (h : (∀ r ∈ rin, r.sh = false) -> den P l (postC rs bin rin fx Φ) (stC n0 args bin rin fx)) : ConN P f n0 args bin rin Φ := by
 simp only [chkF, yD, decide_eq_true_eq] at hc
 obtain ⟨⟨⟨⟨hc, hr⟩, hr4⟩, hn⟩, hnb⟩ := hc
 cases hb : fn.body with
 | none => rw [hb] at hc; cases hc
 | some code =>
  rw [hb] at hc
  simp only at hc
  intro w g vs H hN hvl hvs
  have hT : ∀ gi : Gh, gi.S = g.S -> gi.N = g.N -> gi.ov = g.ov -> TLe g.S g.T gi.T := fun gi _ h2 h3 => TLe.of (fun b q => by rw [h2]; exact q) h3
  have h := h (fun r hr' => by
   obtain ⟨i, hi, rfl⟩ := List.getElem_of_mem hr'
   exact (H.rwn i rin[i] (by simp [hSt, List.getElem?_map, yA hi])).1)
  let gi : Gh := { S := g.S, N := g.N, bb := fun k => g.bb (k - 2000000000), rv := fun k => if 1000000000 <= k then g.rv (k - 1000000000) else g.rv (k - 500000000), ov := g.ov }
  have noX : ∀ b o, g.S b o -> ¬ OwnB g bin.length rin.length b := by
   rintro b o hs (⟨i, hi, e⟩ | ⟨i, hi, e⟩)
   .exact (H.bxn i bin[i] (by simp [hSt, yA hi])).2 o (by rw [e]; exact hs)
   .exact ((H.rwn i rin[i] (by simp [hSt, List.getElem?_map, yA hi])).2 b e).2 o hs
  let c : Cx := { nt := fn.ntmps, X := OwnB g bin.length rin.length, Y := g.N, S0 := g.S, w0 := w, rv0 := gi.rv, bb0 := gi.bb, ntb := hnb, n0 := n0, my := fun i => n0 <= i, ov0 := g.ov, s0 := H.sw, sx := noX }
  have hrw : ∀ k r, (stC n0 args bin rin fx).rw k = some r -> ∃ i, i < rin.length /\ rin[i]? = some r /\ k = rkey fx i /\ gi.rv k = g.rv i /\ (hSt n0 bin (rin.map some)).rw i = some r := by
   intro k r hk
   simp only [stC] at hk
   split at hk
   .rename_i h1
    split at hk
    .rename_i h2
     have hi := (yB hk).1
     refine ⟨k - 1000000000, hi, hk, by unfold rkey; rw [if_pos h2]; omega, by simp only [gi, h1, if_true], by simp [hSt, List.getElem?_map, hk]⟩
    .cases hk
   .rename_i h1
    split at hk
    .rename_i h3
     split at hk
     .cases hk
     .rename_i h2
      have hi := (yB hk).1
      refine ⟨k - 500000000, hi, hk, by unfold rkey; rw [if_neg h2]; omega, by simp only [gi, h1, if_false], by simp [hSt, List.getElem?_map, hk]⟩
    .cases hk
  have hbx : ∀ k cs, (stC n0 args bin rin fx).bx k = some cs -> ∃ i, i < bin.length /\ k = 2000000000 + i /\ gi.bb k = g.bb i /\ ∃ c0, (hSt n0 bin (rin.map some)).bx i = some c0 /\ cs = mpL (cfb bin.length) (cfr fx rin.length) c0 := by
   intro k cs hk
   simp only [stC] at hk
   split at hk
   .rename_i h1
    obtain ⟨c0, h2, rfl⟩ := yC hk
    exact ⟨k - 2000000000, (yB h2).1, by omega, rfl, c0, h2, rfl⟩
   .cases hk
  have kinj : ∀ i j, i < rin.length -> j < rin.length -> rkey fx i = rkey fx j -> i = j := by
   intro i j hi hj e
   unfold rkey at e
   split at e <;> split at e <;> omega
  have toR : ∀ i k, cfr fx rin.length i = some k -> ∀ r', (stC n0 args bin rin fx).rw k = some r' -> ∃ r, (hSt n0 bin (rin.map some)).rw i = some r /\ r'.sz = r.sz /\ gi.rv k = g.rv i := by
   intro i k hik r' hr'
   obtain ⟨j, h1, h2, h3, h4, h5⟩ := hrw k r' hr'
   unfold cfr at hik
   split at hik
   .rename_i hi
    cases hik
    have := kinj i j hi h1 h3
    subst this
    exact ⟨r', h5, rfl, h4⟩
   .cases hik
  have toB : ∀ i k, cfb bin.length i = some k -> ∀ c', (stC n0 args bin rin fx).bx k = some c' -> ∃ c, (hSt n0 bin (rin.map some)).bx i = some c /\ gi.bb k = g.bb i := by
   intro i k hik c' hc'
   obtain ⟨j, h1, h2, h3, c0, h4, _⟩ := hbx k c' hc'
   unfold cfb at hik
   split at hik
   .cases hik
    have : i = j := by omega
    subst this
    exact ⟨c0, h4, h3⟩
   .cases hik
  have I : Inv c gi (stC n0 args bin rin fx) { tmps := vs.toArray ++ Array.replicate (fn.ntmps - vs.toArray.size) undef, defers := [] } w := by
   refine ⟨rfl, by simp only [Array.size_append, List.size_toArray, Array.size_replicate, c]; omega, ⟨rfl, rfl, rfl, Nat.le_refl _, fun _ _ _ => rfl⟩, fun i => ?_, fun k cs h => ?_, fun k cs h => ?_, fun k r h => ?_, fun k r h b hb' => ?_,
    fun k k' cs cs' h h' hne => ?_, fun k k' cs r h h' => ?_, fun k k' r r' h h' hne b hb' => ?_, H.sw, hN, fun _ h _ => h, fun _ _ => ⟨rfl, rfl⟩, fun _ _ h => h, fun _ _ h => .inl h, ⟨⟨H.ow.lt, H.ow.own, H.ow.dis, fun k cs h q => ?_, fun k r h b hb' q => ?_, H.ow.uf⟩, fun i D h hi b hb' => absurd (H.ow.lt i D h) (Nat.not_lt.2 hi), rfl, Nat.le_refl _, fun _ _ => rfl, fun _ h => (show False from h).elim, fun _ h => (show False from h).elim, fun _ _ _ h => (show False from h).elim⟩, fun b o h q => q.elim (fun q => absurd (H.sw b o h) (Nat.not_lt.2 q)) fun q => absurd q (noX b o h), fun _ _ _ h => h⟩
   .simp only [stC]
    rcases Nat.lt_or_ge i args.length with hi | hi
    .have hiv : i < vs.length := by omega
     have e1 : args.getD i .und = args[i] := by simp [List.getD_eq_getElem?_getD, hi]
     have e2 : (vs.toArray ++ Array.replicate (fn.ntmps - vs.toArray.size) undef).getD i undef = vs[i] := by
      simp [Array.getD_eq_getD_getElem?, Array.getElem?_append_left, hiv]
     rw [e1, e2]
     exact (hvs i args[i] vs[i] (yA hi) (yA hiv)).mp (g := g) (g' := gi) (s' := stC n0 args bin rin fx) (fun _ _ h => h) (hT gi rfl rfl rfl) (fun _ _ _ => rfl) toR toB
    .have e1 : args.getD i .und = .und := by simp [List.getD_eq_getElem?_getD, List.getElem?_eq_none hi]
     have e2 : (vs.toArray ++ Array.replicate (fn.ntmps - vs.toArray.size) undef).getD i undef = undef := by
      rw [Array.getD_eq_getD_getElem?, Array.getElem?_append_right (by simp; omega), Array.getElem?_replicate]
      split <;> rfl
     rw [e1, e2]
     exact .und
   .obtain ⟨j, h1, h2, h3, c0, h4, rfl⟩ := hbx k cs h
    rw [h3]
    exact (H.bxs j c0 h4).mp (g := g) (g' := gi) (s' := stC n0 args bin rin fx) (fun _ _ h => h) (hT gi rfl rfl rfl) (fun _ _ _ => rfl) toR toB rfl
   .obtain ⟨j, h1, h2, h3, c0, h4, rfl⟩ := hbx k cs h
    rw [h3]
    exact ⟨⟨(H.bxn j c0 h4).1, fun _ => .inl ⟨j, h1, rfl⟩⟩, (H.bxn j c0 h4).2⟩
   .obtain ⟨j, h1, h2, h3, h4, h5⟩ := hrw k r h
    have e : gi.T = g.T := Gh.T_eq rfl rfl
    rw [h4, e]; exact H.rws j r h5
   .obtain ⟨j, h1, h2, h3, h4, h5⟩ := hrw k r h
    rw [h4] at hb'
    obtain ⟨q1, q2⟩ := (H.rwn j r h5).2 b hb'
    exact ⟨⟨q1, fun _ => .inr ⟨j, h1, hb'⟩⟩, fun o ho => absurd ho (q2 o)⟩
   .obtain ⟨j, h1, h2, h3, c0, h4, rfl⟩ := hbx k cs h
    obtain ⟨j', h1', h2', h3', c0', h4', rfl⟩ := hbx k' cs' h'
    rw [h3, h3']
    exact H.dbb j j' c0 c0' h4 h4' (fun e => hne (by omega))
   .obtain ⟨j, h1, h2, h3, c0, h4, rfl⟩ := hbx k cs h
    obtain ⟨j', h1', h2', h3', h4', h5'⟩ := hrw k' r h'
    rw [h3, h4']
    exact H.dbr j j' c0 r h4 h5'
   .obtain ⟨j, h1, h2, h3, h4, h5⟩ := hrw k r h
    obtain ⟨j', h1', h2', h3', h4', h5'⟩ := hrw k' r' h'
    rw [h4] at hb'; rw [h4']
    exact H.drr j j' r r' h5 h5' (fun e => hne (by rw [h3, h3', e])) b hb'
   .obtain ⟨j, h1, h2, h3, c0, h4, rfl⟩ := hbx k cs h
    have q : gi.own (g.bb j) := by rw [← h3]; exact q
    exact H.ow.bx j c0 h4 (by obtain ⟨i, D, q1, q2⟩ := q; exact ⟨i, D, q1, q2⟩)
   .obtain ⟨j, h1, h2, h3, h4, h5⟩ := hrw k r h
    have hb' : (g.rv j).ownBlock = some b := by rw [← h4]; exact hb'
    exact H.ow.rw j r h5 b hb' (by obtain ⟨i, D, q1, q2⟩ := q; exact ⟨i, D, q1, q2⟩)
  refine calls_of_wp hf hb ?_
  refine Z3I (c := c) hc (fun e g' s' a' w' I' hp => ?_) I h
  have fin : (∃ v, (results fn a'.tmps).run P w' = .ok v w' /\ ∃ v', Ending.returned v = .returned v' /\ Kept (OwnB g bin.length rin.length) w w' /\ ∃ n1 res bout upd new, n0 <= n1 /\ Φ n1 res bout upd new /\
    bout.map List.length = bin.map List.length /\ upd.length = rin.length /\ ∃ g' : Gh, (∀ b o, g'.S b o -> (g.S b o \/ w.heap.size <= b \/ OwnB g bin.length rin.length b) /\ (w.heap.size <= b \/ OwnB g bin.length rin.length b -> UnfB w' b)) /\ (∀ b, g'.N b -> g.N b) /\
    (∀ i, i < bin.length -> g'.bb i = g.bb i) /\ (∀ i es, upd[i]? = some (some es) -> g'.rv i = g.rv i) /\ Heap w' g' (hSt n1 bout (Zt rin upd new)) /\
    (∀ (j : Nat) (r : Row), new[j]? = some r -> ∀ b, (g'.rv (rin.length + j)).ownBlock = some b -> w.heap.size <= b \/ OwnB g bin.length rin.length b) /\
    (∀ i, i < n0 -> g'.ov i = g.ov i) /\ (∀ i D, n0 <= i -> g'.ov i = some D -> ∀ b, D b -> w.heap.size <= b \/ OwnB g bin.length rin.length b) /\
    Gv w' g' (hSt n1 bout (Zt rin upd new)) res v') := by
   obtain ⟨_, l', bout, upd, ks, new, p1, p2, p3, p4, p5, p6, p7, p8⟩ := hp
   obtain ⟨u, q1, q2⟩ := Z2N (P := P) I' hr4 hr p1
   have p2 := Z6G p2
   obtain ⟨hul, p3⟩ := Z6N p3
   obtain ⟨hkl, p6⟩ := Z4X p6
   have hbl : bout.length = bin.length := by simpa using congrArg List.length p7
   have hNg : ∀ b, g'.N b -> g.N b := fun b hb' => by
    rcases Nat.lt_or_ge b w.heap.size with hl | hl
    .exact I'.nx b hb' hl
    .exact hN b hl
   let G : Gh := { S := g'.S, N := g'.N, bb := fun i => g'.bb (2000000000 + i), rv := fun i => if i < rin.length then g'.rv (1000000000 + i) else g'.rv (ks.getD (i - rin.length) 0), ov := g'.ov }
   have hTG : TLe g'.S g'.T G.T := TLe.of (fun _ q => q) rfl
   have bkey : ∀ i cs, (hSt s'.nx bout (Zt rin upd new)).bx i = some cs -> i < bin.length /\ ∃ c0, s'.bx (2000000000 + i) = some c0 /\ cs = mpL (cob bin.length) (cor upd ks rin.length) c0 := by
    intro i cs hi
    have hi' : bout[i]? = some cs := hi
    obtain ⟨c0, h1, h2⟩ := p2 i cs hi'
    exact ⟨by rw [← hbl]; exact (yB hi').1, c0, h1, h2⟩
   have rkey' : ∀ i r, (hSt s'.nx bout (Zt rin upd new)).rw i = some r -> ∃ k, s'.rw k = some r /\ r.sh = false /\ G.rv i = g'.rv k /\ ((i < rin.length /\ k = 1000000000 + i) \/ (rin.length <= i /\ ks[i - rin.length]? = some k)) := by
    intro i r hi
    rcases Nat.lt_or_ge i rin.length with hl | hl
    .have hu : i < upd.length := by omega
     have e := Z2O (new := new) (yA hl) (yA hu)
     simp only [hSt, e, Option.join] at hi
     cases hui : upd[i] with
     | none => simp [hui] at hi
     | some es =>
      simp only [hui, Option.map_some, bS, _root_.id, Option.some.injEq] at hi
      obtain ⟨r0, z1, z2, z3, z4⟩ := p3 i es (by rw [yA hu, hui])
      rw [yA hl] at z1
      cases z1
      subst hi
      exact ⟨1000000000 + i, by simpa using z3, z4, by simp [G, hl], .inl ⟨hl, rfl⟩⟩
    .have e := Z2P (rin := rin) (upd := upd) (new := new) (j := i - rin.length) hul
     rw [show rin.length + (i - rin.length) = i by omega] at e
     simp only [hSt, e, Option.join] at hi
     cases hn' : new[i - rin.length]? with
     | none => simp [hn'] at hi
     | some r0 =>
      simp only [hn', Option.map_some, bS, _root_.id, Option.some.injEq] at hi
      subst hi
      have hlt : i - rin.length < ks.length := by rw [hkl]; exact (yB hn').1
      obtain ⟨z1, z2⟩ := p6 _ _ _ (yA hlt) hn'
      refine ⟨ks[i - rin.length], z1, z2, ?_, .inr ⟨hl, yA hlt⟩⟩
      simp only [G, Nat.not_lt.2 hl, if_false, List.getD_eq_getElem?_getD, yA hlt, Option.getD_some]
   have kinj' : ∀ i i' k, ((i < rin.length /\ k = 1000000000 + i) \/ (rin.length <= i /\ ks[i - rin.length]? = some k)) -> ((i' < rin.length /\ k = 1000000000 + i') \/ (rin.length <= i' /\ ks[i' - rin.length]? = some k)) -> i = i' := by
    intro i i' k h1 h2
    rcases h1 with ⟨h1, e1⟩ | ⟨h1, e1⟩ <;> rcases h2 with ⟨h2, e2⟩ | ⟨h2, e2⟩
    .omega
    .have := Z1u p5 (yE e2); omega
    .have := Z1u p5 (yE e1); omega
    .have := (List.getElem?_inj (i := i - rin.length) (j := i' - rin.length) (yB e1).1 p4).1 (by rw [e1, e2]); omega
   have nR : ∀ k i, cor upd ks rin.length k = some i -> ∀ r', (hSt s'.nx bout (Zt rin upd new)).rw i = some r' -> ∃ r, s'.rw k = some r /\ r'.sz = r.sz /\ G.rv i = g'.rv k := by
    intro k i hki r' hr'
    obtain ⟨k', z1, z2, z3, z4⟩ := rkey' i r' hr'
    have : k' = k := by
     unfold cor at hki
     split at hki
     .rename_i hk
      split at hki
      .rename_i es he
       have hki := Option.some.inj hki
       have := (yB he).1
       rcases z4 with ⟨z4, z5⟩ | ⟨z4, z5⟩ <;> omega
      .cases hki
     .obtain ⟨j, hj, rfl⟩ := yC hki
      have := ix_ok hj
      rcases z4 with ⟨z4, z5⟩ | ⟨z4, z5⟩
      .omega
      .rw [show rin.length + j - rin.length = j by omega, this] at z5
       cases z5; rfl
    subst this
    exact ⟨r', z1, rfl, z3⟩
   have nB : ∀ k i, cob bin.length k = some i -> ∀ c', (hSt s'.nx bout (Zt rin upd new)).bx i = some c' -> ∃ c, s'.bx k = some c /\ G.bb i = g'.bb k := by
    intro k i hki c' hc'
    obtain ⟨_, c0, z1, _⟩ := bkey i c' hc'
    unfold cob at hki
    split at hki
    .split at hki
     .have hki := Option.some.inj hki
      rename_i hk _
      have e : 2000000000 + i = k := by omega
      exact ⟨c0, by rw [e] at z1; exact z1, by simp only [G, e]⟩
     .cases hki
    .cases hki
   have blkW : ∀ b, Wr c g' b -> w.heap.size <= b \/ OwnB g bin.length rin.length b := by
    intro b hw
    rcases Nat.lt_or_ge b w.heap.size with hl | hl
    .exact .inr (hw.2 hl)
    .exact .inl hl
   refine ⟨u, q1, u, rfl, ⟨I'.fr.os, I'.fr.tape, I'.fr.output, I'.fr.size, fun k hk hx => I'.fr.block k hk hx⟩, s'.nx, _, bout, upd, new, I'.ow.n0, p8, p7, hul, G, fun b o ho => ⟨I'.sb b o ho, I'.uf b o ho⟩, hNg, fun i hi => ?_, fun i es hi => ?_, ?_, fun j r hj b hb' => ?_, fun i hi => I'.ow.old i hi, fun i D hi hv b hb' => blkW b (I'.ow.my i D hv (by rw [I'.ow.mm]; exact hi) b hb'), ?_⟩
   .have := (I'.fix (2000000000 + i) (by omega)).2
    show g'.bb (2000000000 + i) = g.bb i
    rw [this]
    show g.bb (2000000000 + i - 2000000000) = g.bb i
    rw [Nat.add_sub_cancel_left]
   .obtain ⟨r, z1, _⟩ := p3 i es hi
    have hl := (yB z1).1
    have := (I'.fix (1000000000 + i) (by omega)).1
    show (if i < rin.length then g'.rv (1000000000 + i) else g'.rv (ks.getD (i - rin.length) 0)) = g.rv i
    rw [if_pos hl, this]
    show (if 1000000000 <= 1000000000 + i then g.rv (1000000000 + i - 1000000000) else g.rv (1000000000 + i - 500000000)) = g.rv i
    rw [if_pos (Nat.le_add_right _ _), Nat.add_sub_cancel_left]
   .refine ⟨fun i cs hi => ?_, fun i cs hi => ?_, fun i r hi => ?_, fun i r hi => ?_, fun i i' cs cs' hi hi' hne => ?_, fun i i' cs r hi hi' => ?_, fun i i' r r' hi hi' hne b hb' => ?_, I'.sw, ⟨I'.ow.lt, I'.ow.own, I'.ow.dis, fun i cs hi q => ?_, fun i r hi b hb' q => ?_, I'.ow.uf⟩⟩
    .obtain ⟨_, c0, z1, rfl⟩ := bkey i cs hi
     exact (I'.bxs _ c0 z1).mp (g := g') (g' := G) (s' := hSt s'.nx bout (Zt rin upd new)) (fun _ _ h => h) hTG (fun _ _ _ => rfl) nR nB rfl
    .obtain ⟨_, c0, z1, rfl⟩ := bkey i cs hi
     exact ⟨(I'.bxn _ c0 z1).1.1, (I'.bxn _ c0 z1).2⟩
    .obtain ⟨k, z1, z2, z3, _⟩ := rkey' i r hi
     have e : G.T = g'.T := Gh.T_eq rfl rfl
     rw [z3, e]; exact I'.rws k r z1
    .obtain ⟨k, z1, z2, z3, _⟩ := rkey' i r hi
     rw [z3]
     refine ⟨z2, fun b hb' => ⟨(I'.rwn k r z1 b hb').1.1, fun o ho => ?_⟩⟩
     have := ((I'.rwn k r z1 b hb').2 o ho).1
     rw [z2] at this; cases this
    .obtain ⟨_, c0, z1, _⟩ := bkey i cs hi
     obtain ⟨_, c0', z1', _⟩ := bkey i' cs' hi'
     exact I'.dbb _ _ c0 c0' z1 z1' (by omega)
    .obtain ⟨_, c0, z1, _⟩ := bkey i cs hi
     obtain ⟨k, y1, y2, y3, _⟩ := rkey' i' r hi'
     rw [y3]; exact I'.dbr _ _ c0 r z1 y1
    .obtain ⟨k, z1, z2, z3, z4⟩ := rkey' i r hi
     obtain ⟨k', y1, y2, y3, y4⟩ := rkey' i' r' hi'
     rw [z3] at hb'; rw [y3]
     exact I'.drr k k' r r' z1 y1 (fun e => hne (kinj' i i' k z4 (by rw [e]; exact y4))) b hb'
    .obtain ⟨_, c0, z1, _⟩ := bkey i cs hi
     exact I'.ow.bx _ c0 z1 q
    .obtain ⟨k, z1, z2, z3, _⟩ := rkey' i r hi
     rw [z3] at hb'
     exact I'.ow.rw k r z1 b hb' q
   .have hlt : j < ks.length := by rw [hkl]; exact (yB hj).1
    obtain ⟨z1, z2⟩ := p6 j _ r (yA hlt) hj
    have e : G.rv (rin.length + j) = g'.rv ks[j] := by
     simp only [G, show ¬ rin.length + j < rin.length by omega, if_false, List.getD_eq_getElem?_getD, show rin.length + j - rin.length = j by omega, yA hlt, Option.getD_some]
    rw [e] at hb'
    exact blkW b (I'.rwn _ r z1 b hb').1
   .exact q2.mp (g := g') (g' := G) (s' := hSt s'.nx bout (Zt rin upd new)) (fun _ _ h => h) hTG (fun _ _ _ => rfl) nR nB
  cases e with
  | nrm => exact ⟨I'.defers, fin⟩
  | ret => exact ⟨I'.defers, fin⟩
  | ext id => exact hp.1.elim
theorem Z0X {f : FuncId} {l : L} {rs : List Rv} {args : List AV} {bin : List (List AV)} {rin : List Row} {Φ : AV -> List (List AV) -> List (Option (List AV)) -> List Row -> Prop} {n : Nat} (fx : List Bool)
  (hc : chkFn P f n l rs = true) (hn : args.length = n) (hrl : rin.length <= 1000)
  (h : ∀ n0, (∀ r ∈ rin, r.sh = false) -> den P l (postC rs bin rin fx fun _ => Φ) (stC n0 args bin rin fx)) : Con P f args bin rin Φ := by
 unfold chkFn at hc
 split at hc
 .rename_i fn hf
  subst hn
  exact fun n0 => con_of fx hf hc hrl (h n0)
 .cases hc
end
end Go.Proofs.Ytjphbnaepdcikaa.Eng
namespace Go.Proofs.Ytjphbnaepdcikaa.Eng
open Go Go.RowKit
section
variable {P : Program} {R : Ex -> St -> Prop} {k : List It} {s : St}
theorem Con.wk {f : FuncId} {as as' : List AV} {bin : List (List AV)} {rin : List Row} {Φ : AV -> List (List AV) -> List (Option (List AV)) -> List Row -> Prop} (h : Con P f as' bin rin Φ) (hk : wkLs (AV.wkA fun _ => False) as as') : Con P f as bin rin Φ := by
 intro n0 w g vs H hN hl hr
 obtain ⟨e1, e2⟩ := Z3x hk
 refine h n0 w g vs H hN (by omega) fun i b v hb hv => ?_
 have hi : i < as.length := by have := (yB hb).1; omega
 exact (hr i _ v (yA hi) hv).wkA (fun _ h => h.elim) (e2 i _ b (yA hi) hb)
theorem do_cm {d f : Nat} {xs : List X} {K : St -> Prop} {as : List AV} (bks rks : List Nat) {bin : List (List AV)} {rin : List Row} {Φ : AV -> List (List AV) -> List (Option (List AV)) -> List Row -> Prop}
    (hC : Con P f as bin rin Φ) (h1 : Z0o (bks ++ rks) = true) (h2 : ZY s (ix bks) (ix rks) bks bin) (h3 : Z3v s rks rin)
    (ha : wkLs (AV.wkA fun _ => False) (xs.map fun x => ((s.get x).mp (ix bks) (ix rks)).rdt) as)
    (h : ∀ n1 res bout upd new, bout.map List.length = bin.map List.length -> upd.length = rin.length -> Φ res bout upd new -> new.length <= 1000 /\ Z1K rks upd (1000 * d + 1000) new.length /\ Z4g (1000 * d + 1000) new.length bks /\
      K (ZV s n1 d bks rks res bout upd new))
    (hb : ∀ b ∈ bin, noOL b := by first | (simp; done) | (simp [*]; done)) (hr : ∀ r ∈ rin, noOL r.es := by first | (simp; done) | (simp [*]; done)) (ho : ∀ x ∈ xs, (s.get x).noO := by first | (simp; done) | (simp [*]; done)) : wop P (.cm d f xs) K s :=
  ⟨bks, rks, bin, rin, _, ZO h1, h2, h3, ⟨hb, hr, ho⟩, by have := GEs.rdt (xs.map fun x => (s.get x).mp (ix bks) (ix rks)); rwa [List.map_map] at this, fun _ => Φ, hC.wk ha s.nx, fun n1 res bout upd new _ => h n1 res bout upd new⟩
theorem Z2 {rs : List Rv} {bin : List (List AV)} {rin : List Row} {fx : List Bool} {Φ : AV -> List (List AV) -> List (Option (List AV)) -> List Row -> Prop} (bout : List (List AV)) (upd : List (Option (List AV))) (ks : List Nat) (new : List Row)
  (h : ∃ l, s.rvs rs = some l /\ Z6H s (cob bin.length) (cor upd ks rin.length) 2000000000 bout /\ updC s fx 0 rin upd /\ Z0o ks = true /\ Z1v ks /\ Z3v s ks new /\ bout.map List.length = bin.map List.length /\
   Φ ((resOf l).mp (cob bin.length) (cor upd ks rin.length)) bout upd new) : postC rs bin rin fx (fun _ => Φ) .ret s := by
 obtain ⟨l, h1, h2, h3, h4, h5⟩ := h
 exact ⟨trivial, l, bout, upd, ks, new, h1, h2, h3, ZO h4, h5⟩
end
attribute [simp] ZY Z3v Z1K Z4g ZV Zs ZH St.kill2 drops upf bxf frB fbB AV.mp mpL stC rkey cfb cfr cob cor Z6H updC Z1v
end Go.Proofs.Ytjphbnaepdcikaa.Eng
