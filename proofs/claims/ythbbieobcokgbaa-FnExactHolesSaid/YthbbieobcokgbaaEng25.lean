/-
  The engine, part 25: from a law's contract to its row.
-/
import Derived.Test.YthbbieobcokgbaaEng24
namespace Go.Proofs.Ythbbieobcokgbaa.Eng
open Go Go.RowKit

/-- A value of the type. -/
def Ty.okV (τ : Ty) (a : AV) : Prop := match τ with
  | .st fs => ∃ cs, a = .agg cs ∧ okL fs cs
  | τ => τ.ok [a]
def okVs : List Ty → List AV → Prop
  | [], l => l = []
  | τ :: τs, l => ∃ a l', l = a :: l' ∧ τ.okV a ∧ okVs τs l'

def chkArgs (P : Program) : List Ty → List TypeId → Bool
  | [], [] => true
  | τ :: τs, t :: ts => chkTy P τ t && P.readableRec t && decide (t < P.types.size) && chkArgs P τs ts
  | _, _ => false

section
variable {H : Type} {enc : TypeId × Value → H} {P : Program}

theorem rd_okV {w : World} {τ : Ty} {t : TypeId} {v : Value} {d : DataW H} {p : List MemPlace} {base : Nat} {spare : Nat → Bool} {held : Bool} {b0 : Nat} (hc : chkTy P τ t = true)
    (hv : Value.okWide P w .any b0 t v) (h : DataW.Trod enc P w base spare held t v d p) : ∃ a, τ.okV a ∧ Rd w (AllS w) (fun _ => False) a v := by
  obtain ⟨fuel, h⟩ := h
  obtain ⟨l, h1, h2⟩ := trod_cells τ hc h
  have one : v.cells = #[v] → τ.size = 1 → (∀ a, l = [a] → τ.okV a) → ∃ a, τ.okV a ∧ Rd w (AllS w) (fun _ => False) a v := fun hvc hs hk => by
    have hsz := ok_size h1
    rw [hs] at hsz
    rw [hvc] at h2
    match l, hsz with
    | [a], _ => exact ⟨a, hk a rfl, (h2.2 0 a v rfl rfl).2⟩
  cases τ with
  | st fs =>
    simp only [chkTy] at hc
    split at hc
    · rename_i gs hu
      obtain ⟨cs, rfl, _⟩ := WideShapes.okWide_struct hu hv
      simp only [Ty.ok] at h1
      refine ⟨.agg l, ⟨l, rfl, h1⟩, ?_⟩
      have e : cs = cs.toList.toArray := by simp
      have hl : l.length = cs.toList.length := h2.1
      have h3 := Rd.agg (w := w) (S := AllS w) (N := fun _ => False) l cs.toList hl (fun a ha => by
        obtain ⟨i, hi, rfl⟩ := List.getElem_of_mem ha
        exact (h2.2 i _ _ (List.getElem?_eq_getElem hi) (List.getElem?_eq_getElem (show i < cs.toList.length by rw [← hl]; exact hi))).1) (fun i a v hi hv => (h2.2 i a v hi hv).2)
      rw [← e] at h3
      exact h3
    · cases hc
  | bool =>
    simp only [chkTy] at hc
    split at hc
    · rename_i hu
      obtain ⟨b, rfl⟩ := WideShapes.okWide_bool hu hv
      exact one rfl rfl (fun a e => by rw [e] at h1; exact h1)
    · cases hc
  | int k =>
    simp only [chkTy] at hc
    split at hc
    · rename_i k' hu
      obtain ⟨b, rfl⟩ := WideShapes.okWide_int hu hv
      exact one rfl rfl (fun a e => by rw [e] at h1; exact h1)
    · cases hc
  | str =>
    simp only [chkTy] at hc
    split at hc
    · rename_i hu
      obtain ⟨b, rfl⟩ := WideShapes.okWide_string hu hv
      exact one rfl rfl (fun a e => by rw [e] at h1; exact h1)
    · cases hc
  | sl e =>
    simp only [chkTy] at hc
    split at hc
    · rename_i u hu
      obtain ⟨a, n, c, rfl⟩ := WideShapes.okWide_slice hu hv
      exact one rfl rfl (fun a e => by rw [e] at h1; exact h1)
    · cases hc

theorem trodAll_okVs {w : World} {base : Nat} {spare : Nat → Bool} {held : Bool} {b0 : Nat} : ∀ {τs : List Ty} {ts : List TypeId} {vs : List Value} {ds : List (DataW H)} {p : List MemPlace}, chkArgs P τs ts = true →
    (∀ (j : Nat) (t : TypeId) (v : Value), ts[j]? = some t → vs[j]? = some v → Value.okWide P w .any b0 t v) → DataW.TrodAll enc P w base spare held ts vs ds p →
    ∃ as, okVs τs as ∧ vs.length = as.length ∧ ∀ (i : Nat) (a : AV) (v : Value), as[i]? = some a → vs[i]? = some v → Rd w (AllS w) (fun _ => False) a v
  | [], [], vs, ds, p, _, _, h => by
    match vs, ds, h with
    | [], [], _ => exact ⟨[], rfl, rfl, by intro i a v h; simp at h⟩
    | [], _ :: _, h => exact h.elim
    | _ :: _, _, h => exact h.elim
  | τ :: τs, t :: ts, vs, ds, p, hc, hok, h => by
    simp only [chkArgs, Bool.and_eq_true] at hc
    match vs, ds, h with
    | v :: vs, d :: ds, ⟨p1, q1, h1, h2, _⟩ =>
      obtain ⟨a, ha, hr⟩ := rd_okV hc.1.1.1 (hok 0 t v rfl rfl) h1
      obtain ⟨as, has, hl, hrs⟩ := trodAll_okVs hc.2 (fun j t v ht hv => hok (j + 1) t v (by simpa using ht) (by simpa using hv)) h2
      refine ⟨a :: as, ⟨a, as, rfl, ha, has⟩, by simp [hl], fun i x u hx hu => ?_⟩
      cases i with
      | zero => simp at hx hu; subst hx; subst hu; exact hr
      | succ i => exact hrs i x u (by simpa using hx) (by simpa using hu)
    | [], _, h => cases ‹List (DataW H)› <;> exact h.elim
    | _ :: _, [], h => exact h.elim
  | [], _ :: _, _, _, _, hc, _, _ => by simp [chkArgs] at hc
  | _ :: _, [], _, _, _, hc, _, _ => by simp [chkArgs] at hc

theorem trodAll_stays {w w' : World} (hl : laidOutB P = true) (hb : Below w.heap.size w w') : ∀ {τs : List Ty} {ts : List TypeId} {vs : List Value} {ds : List (DataW H)} {p : List MemPlace}, chkArgs P τs ts = true →
    (∀ x ∈ p, x.block < w.heap.size) → DataW.TrodAll enc P w 0 (fun _ => true) true ts vs ds p → DataW.TrodAll enc P w' 0 (fun b => decide (b < w.heap.size)) true ts vs ds p
  | [], [], vs, ds, p, _, _, h => by
    match vs, ds, h with
    | [], [], h => exact h
    | [], _ :: _, h => exact h.elim
    | _ :: _, _, h => exact h.elim
  | τ :: τs, t :: ts, vs, ds, p, hc, hlt, h => by
    simp only [chkArgs, Bool.and_eq_true, decide_eq_true_eq] at hc
    match vs, ds, h with
    | v :: vs, d :: ds, ⟨p1, q1, h1, h2, e⟩ =>
      subst e
      exact ⟨p1, q1, Below.trod hl hc.1.1.2 hc.1.2 h1 hb (fun x hx => hlt x (List.mem_append.2 (.inl hx))), trodAll_stays hl hb hc.2 (fun x hx => hlt x (List.mem_append.2 (.inr hx))) h2, rfl⟩
    | [], _, h => cases ‹List (DataW H)› <;> exact h.elim
    | _ :: _, [], h => exact h.elim
  | [], _ :: _, _, _, _, hc, _, _ => by simp [chkArgs] at hc
  | _ :: _, [], _, _, _, hc, _, _ => by simp [chkArgs] at hc

/-- THE LAW's GOAL: its function hands back true, and what was there stays. -/
theorem law_goal {f : FuncId} {fn : Func} {s : ChangeSpec} {τs : List Ty} {tb : TypeId} (hl : laidOutB P = true) (hc : chkArgs P τs fn.params.toList = true) (hrt : fn.resultTypes = #[tb])
    (htb : P.underlying tb = some .bool) (hvars : s.vars = []) (hspec : ∀ ds : List (DataW H), ds.length = τs.length → s.fn H ds = { results := [.lit (.bool true)], args := ds })
    (hS : ∀ as, okVs τs as → Snd P f as (.bool true) [])
    (W : World) (base : Nat) (args : Array Value) (ds gs : List (DataW H)) (before : List MemPlace)
    (hval : ∀ (j : Nat) (t : TypeId) (v : Value), fn.params[j]? = some t → args[j]? = some v → Value.okWide P W .any base t v)
    (hW : DataW.Whole enc P fn.params.toList s.vars false W args.toList ds gs before) :
    Calls P f args W fun e W' => ∃ v, e = .returned v ∧ s.post enc P fn false true false false W args v W' := by
  have hW' := hW
  obtain ⟨p, q, hA, hV, rfl, hfz, hnd⟩ := hW
  obtain ⟨as, has, hlen, hrd⟩ := trodAll_okVs hc (fun j t v ht hv => hval j t v (by simpa using ht) (by simpa using hv)) hA
  have hcall := hS as has W (AllS W) (fun _ => False) args.toList (fun b o h => h) hlen hrd
  rw [show args.toList.toArray = args by simp] at hcall
  refine hcall.mono fun e W' hq => ?_
  obtain ⟨v, rfl, hb, g, _, _, hg, _⟩ := hq
  have hv := hg.bool_inv
  subst hv
  refine ⟨_, rfl, ?_⟩
  have hdl : ∀ {τs : List Ty} {ts : List TypeId} {vs : List Value} {ds : List (DataW H)} {p : List MemPlace}, chkArgs P τs ts = true → DataW.TrodAll enc P W 0 (fun _ => true) true ts vs ds p → ds.length = τs.length := by
    intro τs
    induction τs with
    | nil =>
      intro ts vs ds p hc h
      cases ts with
      | nil => cases vs <;> cases ds <;> first | rfl | exact h.elim
      | cons _ _ => simp [chkArgs] at hc
    | cons τ τs ih =>
      intro ts vs ds p hc h
      cases ts with
      | nil => simp [chkArgs] at hc
      | cons t ts =>
        cases vs with
        | nil => cases ds <;> exact h.elim
        | cons v vs =>
          cases ds with
          | nil => exact h.elim
          | cons d ds =>
            obtain ⟨p1, q1, h1, h2, _⟩ := h
            simp only [chkArgs, Bool.and_eq_true] at hc
            simp [ih hc.2 h2]
  have hgs : gs = [] := by
    rw [hvars] at hV
    cases gs with
    | nil => rfl
    | cons _ _ => exact hV.elim
  subst hgs
  have hsp := hspec ds (hdl hc hA)
  have hV' := hV
  rw [hvars] at hV'
  have hpv : q = [] := hV'
  subst hpv
  refine ⟨ds, [], p ++ [], [], p, [], hW', ?_, ?_, ?_, hb.frame _, fun h => (by cases h)⟩
  · rw [List.append_nil, hsp, hrt]
    refine ⟨[], [], ⟨1, ?_⟩, rfl, rfl⟩
    simp [DataW.trod, htb, Value.cells]
  · rw [List.append_nil, hsp]
    exact trodAll_stays hl hb hc (fun x hx => hW'.lt x (by simpa using hx)) hA
  · rw [List.append_nil, hsp, hvars]
    rfl
def chkRes (P : Program) (fn : Func) : Bool := match fn.resultTypes.toList with
  | [t] => (match P.underlying t with | some .bool => true | _ => false)
  | _ => false
theorem chkRes_ok {P : Program} {fn : Func} (h : chkRes P fn = true) : ∃ t, fn.resultTypes = #[t] ∧ P.underlying t = some .bool := by
  unfold chkRes at h
  split at h
  · rename_i t e
    split at h
    · rename_i e2
      refine ⟨t, ?_, e2⟩
      have : fn.resultTypes = fn.resultTypes.toList.toArray := by simp
      rw [this, e]
    · cases h
  · cases h
theorem law_goal2 {f : FuncId} {fn : Func} {s : ChangeSpec} {τs : List Ty} (hl : laidOutB P = true) (hc : chkArgs P τs fn.params.toList = true) (hrt : chkRes P fn = true)
    (hvars : s.vars = []) (hspec : ∀ ds : List (DataW H), ds.length = τs.length → s.fn H ds = { results := [.lit (.bool true)], args := ds })
    (hS : ∀ as, okVs τs as → Snd P f as (.bool true) [])
    (W : World) (base : Nat) (args : Array Value) (ds gs : List (DataW H)) (before : List MemPlace)
    (hval : ∀ (j : Nat) (t : TypeId) (v : Value), fn.params[j]? = some t → args[j]? = some v → Value.okWide P W .any base t v)
    (hW : DataW.Whole enc P fn.params.toList s.vars false W args.toList ds gs before) :
    Calls P f args W fun e W' => ∃ v, e = .returned v ∧ s.post enc P fn false true false false W args v W' := by
  obtain ⟨t, h1, h2⟩ := chkRes_ok hrt
  exact law_goal hl hc h1 h2 hvars hspec hS W base args ds gs before hval hW
end
end Go.Proofs.Ythbbieobcokgbaa.Eng
