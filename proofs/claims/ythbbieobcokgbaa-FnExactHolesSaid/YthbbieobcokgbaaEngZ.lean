/-
  The engine, part 20 and a half: regions whose order is drawn, with operations that change the state: pure operations in whatever order, the others in a forced order among themselves.
-/
import Derived.Test.YthbbieobcokgbaaEng20
namespace Go.Proofs.Ythbbieobcokgbaa.Eng
open Go Go.RowKit
-- Values that name no key that may be killed: pointers to boxes that are there, and to boxes that were handed over.
mutual
def AV.kf (b : Nat → Bool) : AV → Bool
  | .sref _ => false
  | .rpt _ _ _ => false
  | .ptr k _ => b k || decide (1000000000 ≤ k)
  | .bad => false
  | .agg cs => kfL b cs
  | .tup cs => kfL b cs
  | .fn _ cs => kfL b cs
  | _ => true
def kfL (b : Nat → Bool) : List AV → Bool
  | [] => true
  | a :: l => AV.kf b a && kfL b l
end
section
variable {b b' : Nat → Bool}
mutual
theorem kf_dead {k : Nat} (hk : k < 1000000000) (hb : b k = false) : ∀ a : AV, a.kf b = true → a.dead k = a
  | .bool _, _ | .int _ _, _ | .str _, _ | .nl, _ | .sl _ _ _, _ | .ept _ _, _ | .und, _ => by simp [AV.dead]
  | .sref _, h | .rpt _ _ _, h | .bad, h => by simp [AV.kf] at h
  | .ptr j o, h => by
    have h' : b j = true ∨ 1000000000 ≤ j := by simpa [AV.kf] using h
    rw [AV.dead, if_neg]
    rintro rfl
    rcases h' with h' | h'
    · rw [hb] at h'; cases h'
    · omega
  | .agg cs, h => by rw [AV.dead, kfL_dead hk hb cs (by simpa [AV.kf] using h)]
  | .tup cs, h => by rw [AV.dead, kfL_dead hk hb cs (by simpa [AV.kf] using h)]
  | .fn f cs, h => by rw [AV.dead, kfL_dead hk hb cs (by simpa [AV.kf] using h)]
theorem kfL_dead {k : Nat} (hk : k < 1000000000) (hb : b k = false) : ∀ l : List AV, kfL b l = true → deadL k l = l
  | [], _ => by simp [deadL]
  | a :: l, h => by
    simp only [kfL, Bool.and_eq_true] at h
    rw [deadL, kf_dead hk hb a h.1, kfL_dead hk hb l h.2]
end
mutual
theorem kf_mono (hb : ∀ k, b k = true → b' k = true) : ∀ a : AV, a.kf b = true → a.kf b' = true
  | .bool _, _ | .int _ _, _ | .str _, _ | .nl, _ | .sl _ _ _, _ | .ept _ _, _ | .und, _ => by simp [AV.kf]
  | .sref _, h | .rpt _ _ _, h | .bad, h => by simp [AV.kf] at h
  | .ptr j o, h => by
    have h' : b j = true ∨ 1000000000 ≤ j := by simpa [AV.kf] using h
    simp only [AV.kf, Bool.or_eq_true, decide_eq_true_eq]
    exact h'.imp (hb j) id
  | .agg cs, h => by simpa [AV.kf] using kfL_mono hb cs (by simpa [AV.kf] using h)
  | .tup cs, h => by simpa [AV.kf] using kfL_mono hb cs (by simpa [AV.kf] using h)
  | .fn f cs, h => by simpa [AV.kf] using kfL_mono hb cs (by simpa [AV.kf] using h)
theorem kfL_mono (hb : ∀ k, b k = true → b' k = true) : ∀ l : List AV, kfL b l = true → kfL b' l = true
  | [], _ => by simp [kfL]
  | a :: l, h => by
    simp only [kfL, Bool.and_eq_true] at h ⊢
    exact ⟨kf_mono hb a h.1, kfL_mono hb l h.2⟩
end
end
/-- The boxes that are there. -/
def bO (s : St) (k : Nat) : Bool := (s.bx k).isSome
/-- What a pure operation may read. -/
def St.strip (s : St) : St := { e := s.e, bx := fun k => if k < 1000000000 then (match s.bx k with | some cs => if kfL (bO s) cs = true then some cs else none | none => none) else none, rw := fun _ => none }
/-- Some temporaries are known already. -/
def St.ov (s : St) (p : Nat → Option AV) : St := { s with e := fun t => (p t).getD (s.e t) }
def LOp.rdE : LOp → List Nat
  | .mv _ x | .ex _ x _ => x.rd
  | .bs _ _ ps _ => ps.flatMap X.rd
  | .ap _ x y _ _ => x.rd ++ y.rd
  | .cm _ _ xs => xs.flatMap X.rd
  | _ => []
def isE : LOp → Bool
  | .mv _ _ | .ex _ _ _ | .bs _ _ _ true | .ap _ _ _ _ _ | .cm _ _ _ => true
  | _ => false
/-- An operation that changes the state, inside a region whose order is drawn. -/
def zw (P : Program) : LOp → (St → Prop) → St → Prop
  | .cm d f xs, K, s => ∃ (bks : List Nat) (bin : List (List AV)), (∀ k ∈ bks, 1000000000 ≤ k) ∧ bks.Nodup ∧ atBoxes s (ix bks) (ix []) bks bin ∧
      ∃ Φ, Con P f (xs.map fun x => ((s.get x).mp (ix bks) (ix [])).rdt) bin [] Φ ∧ ∀ res bout upd new, bout.map List.length = bin.map List.length → Φ res bout upd new → new = [] ∧ K (afterM s d bks [] res bout [] [])
  | .bs d sz ps own, K, s => s.bx d = none ∧ wop P (.bs d sz ps own) K s
  | .ap d x y sz b, K, s => (match s.get x with | .sref k => s.bx k = none | _ => s.bx d = none) ∧ wop P (.ap d x y sz b) K s
  | l, K, s => wop P l K s
structure Keep (l : LOp) (s s' : St) : Prop where
  e : ∀ t, t ≠ l.dst → (s.e t).kf (bO s) = true → s'.e t = s.e t
  bx : ∀ k cs, k < 1000000000 → s.bx k = some cs → kfL (bO s) cs = true → s'.bx k = some cs
  b : ∀ k, bO s k = true → bO s' k = true
section
variable {P : Program} {s s' : St} {p : Nat → Option AV}
theorem zw_wop {K : St → Prop} {l : LOp} (h : zw P l K s) : wop P l K s := by
  cases l with
  | cm d f xs =>
    obtain ⟨bks, bin, _, h2, h3, Φ, hC, h⟩ := h
    simp only [wop]
    refine ⟨bks, [], bin, [], by simpa using h2, h3, trivial, Φ, hC, fun res bout upd new q1 q2 q3 => ?_⟩
    have hu : upd = [] := by simpa using q2
    subst hu
    obtain ⟨rfl, hk⟩ := h res bout [] new q1 q3
    exact ⟨by simp, trivial, fun k _ => by simp only [List.length_nil]; omega, hk⟩
  | bs d sz ps own => exact h.2
  | ap d x y sz b => exact h.2
  | _ => exact h
theorem ov_get {x : X} (h : ∀ t ∈ x.rd, p t = none) : (s.ov p).get x = s.get x := by
  cases x with
  | t i => simp [St.get, St.ov, h i (by simp [X.rd])]
  | c a => rfl
theorem ov_gets {xs : List X} (h : ∀ t ∈ xs.flatMap X.rd, p t = none) : xs.map (s.ov p).get = xs.map s.get := by
  apply List.map_congr_left
  intro x hx
  exact ov_get fun t ht => h t (List.mem_flatMap.2 ⟨x, hx, ht⟩)
mutual
theorem ov_dt : ∀ a, (s.ov p).dt a = s.dt a
  | .bool _ | .int _ _ | .str _ | .nl | .sl _ _ _ | .tup _ | .ptr _ _ | .ept _ _ | .rpt _ _ _ | .und | .bad => by simp [St.dt]
  | .sref k => by simp [St.dt, St.ov]
  | .agg cs => by rw [St.dt, St.dt, ov_dtL cs]
  | .fn f cs => by rw [St.dt, St.dt, ov_dtL cs]
theorem ov_dtL : ∀ l, (s.ov p).dtL l = s.dtL l
  | [] => by simp [St.dtL]
  | a :: l => by rw [St.dtL, St.dtL, ov_dt a, ov_dtL l]
end
theorem ov_set {d : Nat} {v : AV} (h : p d = none) : (s.ov p).set d v = (s.set d v).ov p := by
  refine mix_ext (fun t => ?_) (fun _ => rfl) rfl
  simp only [St.set, upd, St.ov]
  by_cases ht : t = d
  · subst ht; simp [h]
  · simp [ht]
theorem bO_none {k : Nat} (h : s.bx k = none) : bO s k = false := by simp [bO, h]
theorem ov_kill {k : Nat} (hk : k < 1000000000) (hb : s.bx k = none) (h : ∀ t v, p t = some v → v.kf (bO s) = true) : (s.ov p).kill k = (s.kill k).ov p := by
  refine mix_ext (fun t => ?_) (fun _ => rfl) rfl
  simp only [St.kill, St.ov]
  cases hp : p t with
  | none => rfl
  | some v => exact kf_dead hk (bO_none hb) v (h t v hp)
theorem ov_rw {f : Nat → Option Row} : ({ s.ov p with rw := f } : St) = ({ s with rw := f } : St).ov p := rfl
theorem atBoxes_ov {fb fr : Nat → Option Nat} : ∀ {ks : List Nat} {bs : List (List AV)}, atBoxes (s.ov p) fb fr ks bs → atBoxes s fb fr ks bs
  | [], [], h => h
  | _ :: _, _ :: _, h => ⟨h.1, atBoxes_ov h.2⟩
  | [], _ :: _, h => h
  | _ :: _, [], h => h
theorem keep_kill {l : LOp} {k : Nat} {R : Nat → Option Row} {v : AV} (hk : k < 1000000000) (hb : s.bx k = none) : Keep l s (St.set { s.kill k with rw := R } l.dst v) := by
  refine ⟨fun t ht hf => ?_, fun j cs hj hcs hf => ?_, fun j hj => ?_⟩
  · simp only [St.set, upd, if_neg ht, St.kill]; exact kf_dead hk (bO_none hb) _ hf
  · simp only [St.set, St.kill]
    rw [if_neg (fun e => by subst e; rw [hb] at hcs; cases hcs), hcs]
    simp only [Option.map_some, kfL_dead hk (bO_none hb) cs hf]
  · simp only [bO, St.set, St.kill] at hj ⊢
    rw [if_neg (fun e => by subst e; rw [hb] at hj; cases hj)]
    simpa using hj
theorem keep_set {l : LOp} {v : AV} : Keep l s (s.set l.dst v) := ⟨fun t ht _ => by simp [St.set, upd, ht], fun _ _ _ h _ => h, fun _ h => h⟩
theorem eff {K : St → Prop} {l : LOp} (hl : isE l = true) (hd : l.dst < 1000000000) (hp : ∀ t v, p t = some v → t ∉ l.rdE ∧ t ≠ l.dst ∧ v.kf (bO s) = true) (h : zw P l K (s.ov p)) :
    zw P l (fun s' => K (s'.ov p) ∧ Keep l s s') s := by
  have rd : ∀ t, t ∈ l.rdE → p t = none := fun t ht => by
    cases hv : p t with
    | none => rfl
    | some v => exact absurd ht (hp t v hv).1
  have pd : p l.dst = none := by
    cases hv : p l.dst with
    | none => rfl
    | some v => exact absurd rfl (hp _ v hv).2.1
  have pk : ∀ t v, p t = some v → v.kf (bO s) = true := fun t v hv => (hp t v hv).2.2
  have gt : ∀ {x : X}, (∀ t ∈ x.rd, t ∈ l.rdE) → (s.ov p).get x = s.get x := fun h => ov_get fun t ht => rd t (h t ht)
  cases l with
  | mv d x =>
    have pd' : p d = none := pd
    have hd' : d < 1000000000 := hd
    simp only [zw, wop] at h ⊢
    rw [gt (x := x) (fun t h => h), ov_set pd'] at h
    exact ⟨h, keep_set (l := .mv d x)⟩
  | ex d x i =>
    have pd' : p d = none := pd
    have hd' : d < 1000000000 := hd
    simp only [zw, wop] at h ⊢
    rw [gt (x := x) (fun t h => h)] at h
    split at h
    · rename_i vs hx
      split at h
      · rename_i v hv
        rw [ov_set pd'] at h
        exact ⟨h, keep_set (l := .ex d x i)⟩
      · exact h.elim
    · exact h.elim
  | bs d sz ps own =>
    cases own with
    | false => simp [isE] at hl
    | true =>
      have pd' : p d = none := pd
      have hd' : d < 1000000000 := hd
      simp only [zw, wop, if_true] at h ⊢
      rw [ov_gets (xs := ps) rd, ov_dtL] at h
      obtain ⟨hb, h⟩ := h
      refine ⟨hb, ?_⟩
      split at h
      · rename_i es hes
        obtain ⟨h1, h2, h3, h4, h5⟩ := h
        refine ⟨h1, h2, h3, h4, ?_, keep_kill (l := .bs d sz ps true) hd' hb⟩
        rw [ov_kill (s := s) hd' hb pk] at h5
        rw [← ov_set pd']; exact h5
      · exact h.elim
  | ap d x y sz by' =>
    have pd' : p d = none := pd
    have hd' : d < 1000000000 := hd
    simp only [zw] at h ⊢
    have ex := gt (x := x) (fun t h => by simp [LOp.rdE, h])
    have ey := gt (x := y) (fun t h => by simp [LOp.rdE, h])
    rw [ex] at h
    obtain ⟨hb, h⟩ := h
    simp only [wop, ex, ey, ov_dt] at h ⊢
    refine ⟨hb, ?_⟩
    split at h
    · rename_i sy news hy
      split at h
      · rename_i k hx
        rw [hx] at hb
        split at h
        · rename_i r hr
          have hr' : s.rw k = some r := hr
          simp only [hr']
          obtain ⟨h1, h2, h3, h4, h5⟩ := h
          refine ⟨h1, h2, h3, h4, ?_, keep_kill (l := .ap d x y sz by') h2 hb⟩
          rw [ov_kill (s := s) h2 hb pk] at h5
          rw [← ov_set pd']; exact h5
        · exact h.elim
      · rename_i hx
        rw [hx] at hb
        obtain ⟨h3, h4, h5⟩ := h
        refine ⟨h3, h4, ?_, keep_kill (l := .ap d x y sz by') hd' hb⟩
        rw [ov_kill (s := s) hd' hb pk] at h5
        rw [← ov_set pd']; exact h5
      · exact h.elim
    · rename_i hy
      split at h
      · rename_i k hx
        split at h
        · rename_i r hr
          have hr' : s.rw k = some r := hr
          simp only [hr']
          rw [ov_set pd'] at h
          exact ⟨h, keep_set (l := .ap d x y sz by')⟩
        · exact h.elim
      · rename_i hx
        rw [hx] at hb
        rw [ov_kill (s := s) hd' hb pk] at h
        refine ⟨?_, keep_kill (l := .ap d x y sz by') hd' hb⟩
        rw [← ov_set pd']; exact h
      · exact h.elim
    · exact h.elim
  | cm d f xs =>
    have pd' : p d = none := pd
    have hd' : d < 1000000000 := hd
    simp only [zw] at h ⊢
    obtain ⟨bks, bin, h1, h2, h3, Φ, hC, h⟩ := h
    have eg : (xs.map fun x => (((s.ov p).get x).mp (ix bks) (ix [])).rdt) = xs.map fun x => ((s.get x).mp (ix bks) (ix [])).rdt := by
      apply List.map_congr_left
      intro x hx
      rw [gt (x := x) fun t ht => List.mem_flatMap.2 ⟨x, hx, ht⟩]
    rw [eg] at hC
    refine ⟨bks, bin, h1, h2, atBoxes_ov h3, Φ, hC, fun res bout us new q1 q2 => ?_⟩
    obtain ⟨q3, q4⟩ := h res bout us new q1 q2
    refine ⟨q3, ?_, fun t ht _ => ?_, fun k cs hk hcs _ => ?_, fun k hk => ?_⟩
    · have : afterM (s.ov p) d bks [] res bout [] [] = (afterM s d bks [] res bout [] []).ov p := by
        refine mix_ext (fun t => ?_) (fun _ => rfl) rfl
        simp only [afterM, St.set, upd, setBoxes, St.addrows, setRows, drops, St.kill2, St.ov]
        by_cases ht : t = d
        · subst ht
          have : p t = none := pd
          simp [this]
        · simp [ht]
      rw [← this]; exact q4
    · have ht' : t ≠ d := ht
      simp [afterM, St.set, upd, setBoxes, St.addrows, setRows, drops, St.kill2, ht']
    · have hn : k ∉ bks := fun hm => by have := h1 k hm; omega
      have hb : bxf bks (bout.map (mpL (fbB bks) (frB [] [] (1000 * d + 1000) ([] : List Row).length))) k = none := by
        cases hx : bxf bks (bout.map (mpL (fbB bks) (frB [] [] (1000 * d + 1000) ([] : List Row).length))) k with
        | none => rfl
        | some b =>
          obtain ⟨i, hi, _⟩ := bxf_ok hx
          exact absurd (List.mem_of_getElem? hi) hn
      simp only [afterM, St.set, setBoxes, hb]
      simp only [St.addrows, setRows, drops, St.kill2, if_neg hn]
      exact hcs
    · simp only [bO, afterM, St.set, setBoxes] at hk ⊢
      split
      · rfl
      · simp only [St.addrows, setRows, drops, St.kill2]
        split
        · simpa using hk
        · exact hk
  | _ => simp [isE] at hl
end
/-- What must hold ahead of a list of pure operations (false) and of others (true), in this order, so that K holds behind it. -/
def zwops (P : Program) : List (Bool × LOp) → (St → Prop) → St → Prop
  | [], K, s => K s
  | (true, l) :: r, K, s => zw P l (zwops P r K) s
  | (false, l) :: r, K, s => (∀ t ∈ l.rds, (s.e t).kf (bO s) = true) ∧ scOk s.strip l ∧ wop P l (fun s' => (s'.e l.dst).kf (bO s) = true ∧ zwops P r K (s.set l.dst (s'.e l.dst))) s.strip

/-- An operation of the region by its index, and whether it changes the state. -/
abbrev ZI := Nat × Bool × LOp
def rdz (it : ZI) : List Nat := if it.2.1 then it.2.2.rdE else it.2.2.rds
def zrd (rs : List Nat) (mask j : Nat) : List ZI → Nat → Bool
  | [], _ => true
  | it :: r, k => (!rs.contains it.2.2.dst || (mask.testBit it.1 && decide (k < j))) && zrd rs mask j r (k + 1)
def zeff (mask j : Nat) : List ZI → Nat → Bool
  | [], _ => true
  | it :: r, k => (!it.2.1 || !decide (k < j) || mask.testBit it.1) && zeff mask j r (k + 1)
def chkZ1 (P : Program) (nt : Nat) (ops : Array Oper) (items : List ZI) (mks : List Nat) (j : Nat) (it : ZI) : Bool :=
  match ops[it.1]? with
  | some o => decide (it.1 < items.length) && chk1 P nt ops it.2.2 o && (if it.2.1 then isE it.2.2 else isQ it.2.2) && zrd (rdz it) (mks.getD it.1 0) j items 0 && zeff (mks.getD it.1 0) j items 0
  | none => false
def zall (P : Program) (nt : Nat) (ops : Array Oper) (items : List ZI) (mks : List Nat) : List ZI → Nat → Bool
  | [], _ => true
  | it :: r, j => chkZ1 P nt ops items mks j it && zall P nt ops items mks r (j + 1)
def ztl (P : Program) (nt : Nat) (ops : Array Oper) (mks : List Nat) : List LOp → Nat → Bool
  | [], i => i == ops.size
  | l :: r, i => (match ops[i]? with | some o => chk1 P nt ops l o | none => false) && allBits (mks.getD i 0) i && ztl P nt ops mks r (i + 1)
def zedge : List Oper → Nat → Bool
  | [], _ => true
  | o :: os, i => (o.after.toList.all fun e => !Region.binds .any e || decide (e.on < i)) && zedge os (i + 1)
def chkZ (P : Program) (nt : Nat) (ops : Array Oper) (items : List ZI) (tl : List LOp) : Bool :=
  nodupB (items.map (·.1)) && nodupB (items.map (·.2.2.dst)) && (List.range items.length).all (fun i => (items.map (·.1)).contains i) && zall P nt ops items (masksGo ops.toList []) items 0 &&
    ztl P nt ops (masksGo ops.toList []) tl items.length && zedge ops.toList 0
theorem zrd_ok {rs : List Nat} {mask j : Nat} : ∀ {r : List ZI} {k : Nat}, zrd rs mask j r k = true → ∀ (i : Nat) (it : ZI), r[i]? = some it → it.2.2.dst ∈ rs → mask.testBit it.1 = true ∧ k + i < j
  | [], _, _, i, it, h, _ => by simp at h
  | x :: r, k, h, i, it, hi, hm => by
    simp only [zrd, Bool.and_eq_true, Bool.or_eq_true, Bool.not_eq_true', decide_eq_true_eq] at h
    cases i with
    | zero =>
      simp at hi; subst hi
      rcases h.1 with h | h
      · rw [List.contains_iff_mem.2 hm] at h; cases h
      · exact h
    | succ i => have := zrd_ok h.2 i it (by simpa using hi) hm; rwa [show k + (i + 1) = k + 1 + i by omega]
theorem zeff_ok {mask j : Nat} : ∀ {r : List ZI} {k : Nat}, zeff mask j r k = true → ∀ (i : Nat) (it : ZI), r[i]? = some it → it.2.1 = true → k + i < j → mask.testBit it.1 = true
  | [], _, _, i, it, h, _, _ => by simp at h
  | x :: r, k, h, i, it, hi, hm, hlt => by
    simp only [zeff, Bool.and_eq_true, Bool.or_eq_true, Bool.not_eq_true', decide_eq_false_iff_not] at h
    cases i with
    | zero =>
      simp at hi; subst hi
      rcases h.1 with (h | h) | h
      · rw [hm] at h; cases h
      · exact absurd (by simpa using hlt) h
      · exact h
    | succ i => exact zeff_ok h.2 i it (by simpa using hi) hm (by omega)
theorem zall_ok {P : Program} {nt : Nat} {ops : Array Oper} {items : List ZI} {mks : List Nat} : ∀ {r : List ZI} {k : Nat}, zall P nt ops items mks r k = true → ∀ (i : Nat) (it : ZI), r[i]? = some it → chkZ1 P nt ops items mks (k + i) it = true
  | [], _, _, i, it, h => by simp at h
  | x :: r, k, h, i, it, hi => by
    simp only [zall, Bool.and_eq_true] at h
    cases i with
    | zero => simp at hi; subst hi; exact h.1
    | succ i => have := zall_ok h.2 i it (by simpa using hi); rwa [show k + (i + 1) = k + 1 + i by omega]
theorem ztl_ok {P : Program} {nt : Nat} {ops : Array Oper} {mks : List Nat} : ∀ {r : List LOp} {k : Nat}, ztl P nt ops mks r k = true → k + r.length = ops.size ∧
    ∀ (i : Nat) (l : LOp), r[i]? = some l → (∃ o, ops[k + i]? = some o ∧ chk1 P nt ops l o = true) ∧ allBits (mks.getD (k + i) 0) (k + i) = true
  | [], k, h => ⟨by simpa [ztl] using h, by intro i l h; simp at h⟩
  | x :: r, k, h => by
    simp only [ztl, Bool.and_eq_true] at h
    obtain ⟨q1, q2⟩ := ztl_ok h.2
    refine ⟨by simp; omega, fun i l hi => ?_⟩
    cases i with
    | zero =>
      simp at hi; subst hi
      refine ⟨?_, h.1.2⟩
      have := h.1.1
      split at this
      · rename_i o ho; exact ⟨o, ho, this⟩
      · cases this
    | succ i => have := q2 i l (by simpa using hi); rwa [show k + (i + 1) = k + 1 + i by omega]
theorem zedge_ok : ∀ {os : List Oper} {k : Nat}, zedge os k = true → ∀ (i : Nat) (o : Oper), os[i]? = some o → ∀ e ∈ o.after, Region.binds .any e = true → e.on < k + i
  | [], _, _, i, o, h, _, _, _ => by simp at h
  | x :: os, k, h, i, o, hi, e, he, hb => by
    simp only [zedge, Bool.and_eq_true, List.all_eq_true] at h
    cases i with
    | zero =>
      simp at hi; subst hi
      have := h.1 e (by simpa using he)
      simpa [hb] using this
    | succ i => have := zedge_ok h.2 i o (by simpa using hi) e he hb; omega
structure OkZ (P : Program) (nt : Nat) (ops : Array Oper) (items : List ZI) (tl : List LOp) : Prop where
  surj : ∀ i, i < items.length → ∃ (j : Nat) (it : ZI), items[j]? = some it ∧ it.1 = i
  inj : ∀ (j j' : Nat) (it it' : ZI), items[j]? = some it → items[j']? = some it' → it.1 = it'.1 → j = j'
  dst : ∀ (j j' : Nat) (it it' : ZI), items[j]? = some it → items[j']? = some it' → it.2.2.dst = it'.2.2.dst → j = j'
  item : ∀ (j : Nat) (it : ZI), items[j]? = some it → it.1 < items.length ∧ ∃ o, ops[it.1]? = some o ∧ chk1 P nt ops it.2.2 o = true ∧ (if it.2.1 then isE it.2.2 else isQ it.2.2) = true ∧
    ∀ L, Clo ops L → (∀ e ∈ o.after, Region.binds .any e = true → L e.on) → (∀ (j' : Nat) (it' : ZI), items[j']? = some it' → it'.2.2.dst ∈ rdz it → L it'.1 ∧ j' < j) ∧
      (∀ (j' : Nat) (it' : ZI), items[j']? = some it' → it'.2.1 = true → j' < j → L it'.1)
  edge : ∀ (i : Nat) (o : Oper), ops[i]? = some o → ∀ e ∈ o.after, Region.binds .any e = true → e.on < i
  tlen : items.length + tl.length = ops.size
  tone : ∀ (i : Nat) (l : LOp), tl[i]? = some l → ∃ o, ops[items.length + i]? = some o ∧ chk1 P nt ops l o = true
  tl : ∀ (i : Nat) (o : Oper) (L : Nat → Prop), items.length ≤ i → ops[i]? = some o → Clo ops L → (∀ e ∈ o.after, Region.binds .any e = true → L e.on) → ∀ j, j < i → L j
theorem nodup_inj {α : Type} {f : ZI → α} {items : List ZI} (h : (items.map f).Nodup) {j j' : Nat} {it it' : ZI} (hj : items[j]? = some it) (hj' : items[j']? = some it') (e : f it = f it') : j = j' := by
  have h1 := (List.getElem?_eq_some_iff.1 hj).1
  have h2 := (List.getElem?_eq_some_iff.1 hj').1
  have e1 := (List.getElem?_eq_some_iff.1 hj).2
  have e2 := (List.getElem?_eq_some_iff.1 hj').2
  have hp := List.pairwise_iff_getElem.1 h
  rcases Nat.lt_trichotomy j j' with q | q | q
  · exact absurd (by rw [List.getElem_map, List.getElem_map, e1, e2, e]) (hp j j' (by simpa using h1) (by simpa using h2) q)
  · exact q
  · exact absurd (by rw [List.getElem_map, List.getElem_map, e1, e2, e]) (hp j' j (by simpa using h2) (by simpa using h1) q)
theorem chkZ_ok {P : Program} {nt : Nat} {ops : Array Oper} {items : List ZI} {tl : List LOp} (h : chkZ P nt ops items tl = true) : OkZ P nt ops items tl := by
  simp only [chkZ, Bool.and_eq_true] at h
  obtain ⟨⟨⟨⟨⟨h1, h2⟩, h3⟩, h4⟩, h5⟩, h6⟩ := h
  have hm : ∀ i, i < ops.size → MaskOk ops i ((masksGo ops.toList []).getD i 0) := fun i hi => masks_ok ops.toList [] (by simp) (by simp) i (by simpa using hi)
  have lt_of : ∀ {i : Nat} {o : Oper}, ops[i]? = some o → i < ops.size := fun h => (Array.getElem?_eq_some_iff.1 h).1
  obtain ⟨t1, t2⟩ := ztl_ok h5
  refine ⟨fun i hi => ?_, fun j j' it it' hj hj' e => nodup_inj (f := fun it => it.1) (nodupB_ok h1) hj hj' e, fun j j' it it' hj hj' e => nodup_inj (f := fun it => it.2.2.dst) (nodupB_ok h2) hj hj' e,
    fun j it hj => ?_, fun i o ho e he hb => by have := zedge_ok h6 i o (by simpa using ho) e he hb; omega, t1, fun i l hl => (t2 i l hl).1, fun i o L hi ho hL he j hj => ?_⟩
  · have := List.all_eq_true.1 h3 i (by simpa using hi)
    obtain ⟨it, hit, e⟩ := List.mem_map.1 (List.contains_iff_mem.1 this)
    obtain ⟨j, hj, rfl⟩ := List.getElem_of_mem hit
    exact ⟨j, _, List.getElem?_eq_getElem hj, e⟩
  · have hc := zall_ok h4 j it hj
    rw [Nat.zero_add] at hc
    unfold chkZ1 at hc
    split at hc
    · rename_i o ho
      simp only [Bool.and_eq_true, decide_eq_true_eq] at hc
      obtain ⟨⟨⟨⟨c1, c2⟩, c3⟩, c4⟩, c5⟩ := hc
      refine ⟨c1, o, ho, c2, c3, fun L hL he => ⟨fun j' it' hj' hr => ?_, fun j' it' hj' hf hlt => ?_⟩⟩
      · obtain ⟨b, q⟩ := zrd_ok c4 j' it' hj' hr
        exact ⟨hm it.1 (lt_of ho) L hL (fun o' ho' => by rw [ho] at ho'; cases ho'; exact he) _ b, by omega⟩
      · exact hm it.1 (lt_of ho) L hL (fun o' ho' => by rw [ho] at ho'; cases ho'; exact he) _ (zeff_ok c5 j' it' hj' hf (by omega))
    · cases hc
  · have hi' : i < ops.size := lt_of ho
    have hil : i - items.length < tl.length := by omega
    obtain ⟨_, b⟩ := t2 (i - items.length) _ (List.getElem?_eq_getElem hil)
    rw [show items.length + (i - items.length) = i by omega] at b
    exact hm i hi' L hL (fun o' ho' => by rw [ho] at ho'; cases ho'; exact he) j (allBits_ok b j hj)

/-- What a pure operation yields. -/
def Yz (P : Program) (l : LOp) (s : St) (v : AV) : Prop := ∀ s', (∀ t, t ∈ l.rds → s'.e t = s.e t) → (∀ k cs, k < 1000000000 → s.bx k = some cs → kfL (bO s) cs = true → s'.bx k = some cs) → ∀ K : St → Prop, K (s'.set l.dst v) → wop P l K s'
theorem yz_of {P : Program} {l : LOp} {s : St} {v : AV} (h : Yld P l s.strip v) : Yz P l s v := by
  intro s' h1 h2 K hK
  refine h s' ⟨h1, fun k cs hk => ?_, fun k r hr => by cases hr⟩ K hK
  simp only [St.strip] at hk
  split at hk
  · rename_i hlt
    split at hk
    · rename_i c0 h0
      split at hk
      · rename_i hf; cases hk; exact h2 k cs hlt h0 hf
      · cases hk
    · cases hk
  · cases hk
section
variable {P : Program} {c : Cx} {ops : Array Oper} {items : List ZI} {tl : List LOp} {K : St → Prop} {Q' : Exit → Act → World → Prop}
/-- The state sv knows what the pending operations will yield; s is the machine's. -/
structure Z (P : Program) (items : List ZI) (K : St → Prop) (L : Nat → Prop) (q : Nat) (s sv : St) : Prop where
  bx : sv.bx = s.bx
  rw : sv.rw = s.rw
  hi : ∀ (j : Nat) (it : ZI), items[j]? = some it → q ≤ j → ¬ L it.1
  ef : ∀ (j : Nat) (it : ZI), items[j]? = some it → j < q → it.2.1 = true → L it.1
  same : ∀ t, (∀ (j : Nat) (it : ZI), items[j]? = some it → j < q → ¬ L it.1 → it.2.2.dst ≠ t) → sv.e t = s.e t
  pen : ∀ (j : Nat) (it : ZI), items[j]? = some it → j < q → ¬ L it.1 → (sv.e it.2.2.dst).kf (bO sv) = true ∧ (∀ t, t ∈ it.2.2.rds → (sv.e t).kf (bO sv) = true) ∧ Yz P it.2.2 sv (sv.e it.2.2.dst)
  go : zwops P ((items.drop q).map Prod.snd) K sv
theorem rdz_false {it : ZI} (h : it.2.1 = false) : rdz it = it.2.2.rds := by unfold rdz; rw [h]; rfl
theorem rdz_true {it : ZI} (h : it.2.1 = true) : rdz it = it.2.2.rdE := by unfold rdz; rw [h]; rfl
/-- All operations are listed: reads come earlier in the canonical order. -/
theorem OkZ.before (H : OkZ P c.nt ops items tl) {j j' : Nat} {it it' : ZI} (hj : items[j]? = some it) (hj' : items[j']? = some it') (h : it'.2.2.dst ∈ rdz it) : j' < j := by
  obtain ⟨_, o, _, _, _, h3⟩ := H.item j it hj
  exact ((h3 (fun _ => True) (fun _ _ _ _ _ _ _ => trivial) (fun _ _ _ => trivial)).1 j' it' hj' h).2
theorem Z_adv (H : OkZ P c.nt ops items tl) {L : Nat → Prop} {q : Nat} {s sv : St} (z : Z P items K L q s sv) {it : ZI} (hq : items[q]? = some it) (hf : it.2.1 = false) : ∃ sv', Z P items K L (q + 1) s sv' := by
  obtain ⟨i, f, l⟩ := it
  simp only at hf
  subst hf
  have hlt := (List.getElem?_eq_some_iff.1 hq).1
  have he := (List.getElem?_eq_some_iff.1 hq).2
  have hg := z.go
  rw [List.drop_eq_getElem_cons hlt, he] at hg
  simp only [List.map_cons, zwops] at hg
  obtain ⟨g1, g2, g3⟩ := hg
  obtain ⟨_, o, _, _, hQ, _⟩ := H.item q _ hq
  simp only [Bool.false_eq_true, if_false] at hQ
  obtain ⟨v, ⟨k1, k2⟩, y⟩ := quiet hQ g2 g3
  rw [set_e] at k1 k2
  have notrd : ∀ (j : Nat) (it : ZI), items[j]? = some it → j < q + 1 → it.2.1 = false → l.dst ∉ it.2.2.rds := fun j it hj hjq hff hr => by
    have := H.before hj hq (by rw [rdz_false hff]; exact hr)
    omega
  have yq : Yz P l sv v := yz_of y
  have eset : ∀ t, t ≠ l.dst → (sv.set l.dst v).e t = sv.e t := fun t ht => by simp [St.set, upd, ht]
  have pure : ∀ (j : Nat) (it : ZI), items[j]? = some it → j < q → ¬ L it.1 → it.2.1 = false := fun j it hj hjq hn => by
    cases hx : it.2.1 with
    | false => rfl
    | true => exact absurd (z.ef j it hj hjq hx) hn
  have ymono : ∀ (l' : LOp) (v' : AV), l.dst ∉ l'.rds → Yz P l' sv v' → Yz P l' (sv.set l.dst v) v' := fun l' v' hn hy s' h1 h2 K' hK' => hy s' (fun t ht => by rw [h1 t ht, eset t (fun e => hn (by rw [← e]; exact ht))]) h2 K' hK'
  refine ⟨sv.set l.dst v, z.bx, z.rw, fun j it hj hle => z.hi j it hj (by omega), fun j it hj hlt' hE => ?_, fun t ht => ?_, fun j it hj hlt' hn => ?_, k2⟩
  · rcases Nat.lt_or_ge j q with h | h
    · exact z.ef j it hj h hE
    · have : j = q := by omega
      subst this; rw [hq] at hj; cases hj; cases hE
  · have htd : t ≠ l.dst := fun e => ht q _ hq (by omega) (z.hi q _ hq (by omega)) e.symm
    rw [eset t htd]
    exact z.same t fun j it hj hjq hn => ht j it hj (by omega) hn
  · rcases Nat.lt_or_ge j q with h | h
    · obtain ⟨p1, p2, p3⟩ := z.pen j it hj h hn
      have hd : it.2.2.dst ≠ l.dst := fun e => by have := H.dst j q it _ hj hq e; omega
      have hr := notrd j it hj (by omega) (pure j it hj h hn)
      rw [eset _ hd]
      exact ⟨p1, fun t ht => by rw [eset t (fun e => hr (by rw [← e]; exact ht))]; exact p2 t ht, ymono _ _ hr p3⟩
    · have : j = q := by omega
      subst this
      rw [hq] at hj; cases hj
      have hr := notrd j _ hq (by omega) rfl
      rw [set_e]
      exact ⟨k1, fun t ht => by rw [eset t (fun e => hr (by rw [← e]; exact ht))]; exact g1 t ht, ymono _ _ hr yq⟩
theorem Z_norm (H : OkZ P c.nt ops items tl) {L : Nat → Prop} {s : St} : ∀ (n q : Nat) (sv : St), items.length - q ≤ n → Z P items K L q s sv →
    ∃ (p : Nat) (sv' : St), Z P items K L p s sv' ∧ (items.length ≤ p ∨ ∃ it, items[p]? = some it ∧ it.2.1 = true) := by
  intro n
  induction n with
  | zero => intro q sv hn z; exact ⟨q, sv, z, .inl (by omega)⟩
  | succ n ih =>
    intro q sv hn z
    rcases Nat.lt_or_ge q items.length with h | h
    · have hq := List.getElem?_eq_getElem h
      cases hf : (items[q]).2.1 with
      | true => exact ⟨q, sv, z, .inr ⟨_, hq, hf⟩⟩
      | false =>
        obtain ⟨sv', z'⟩ := Z_adv H z hq hf
        exact ih (q + 1) sv' (by omega) z'
    · exact ⟨q, sv, z, .inl h⟩

theorem tail_z (H : OkZ P c.nt ops items tl) (hK : ∀ g' s' a' w', Inv c g' s' a' w' → K s' → Q' .normal a' w') : ∀ (fuel i : Nat) (listed : Array Bool) (g : Gh) (s : St) (a : Act) (w : World),
    listed.size = ops.size → items.length ≤ i → (∀ j, Lst listed j ↔ j < i ∧ j < ops.size) → listed.toList.count false ≤ fuel → Inv c g s a w → wops P (tl.drop (i - items.length)) K s → wpAny P .any ops Q' fuel listed a w := by
  intro fuel
  have hlen := H.tlen
  induction fuel with
  | zero =>
    intro i listed g s a w hs hm hL hc I h
    have hi : ops.size ≤ i := by
      rcases Nat.lt_or_ge i ops.size with hi | hi
      · have := count_pos (listed := listed) (i := i) (by omega) (fun h => by have := ((hL i).1 h).1; omega); omega
      · exact hi
    have hr : Region.ready .any ops listed = [] := by
      cases hr : Region.ready .any ops listed with
      | nil => rfl
      | cons j _ =>
        obtain ⟨h1, h2, _⟩ := ready_lst hs (j := j) (by rw [hr]; simp)
        exact absurd ((hL j).2 ⟨by omega, h1⟩) h2
    rw [List.drop_eq_nil_of_le (by omega)] at h
    exact ⟨hr, hK _ _ _ _ I h⟩
  | succ fuel ih =>
    intro i listed g s a w hs hm hL hc I h
    rcases Nat.lt_or_ge i ops.size with hi | hi
    · have hil : i - items.length < tl.length := by omega
      obtain ⟨o, ho, hch⟩ := H.tone (i - items.length) _ (List.getElem?_eq_getElem hil)
      rw [show items.length + (i - items.length) = i by omega] at ho
      have hui : ¬ Lst listed i := fun h => by have := ((hL i).1 h).1; omega
      have hclo : Clo ops (Lst listed) := fun i' o' ho' hi' e' he' hb' => (hL e'.on).2 ⟨by have := H.edge i' o' ho' e' he' hb'; have := ((hL i').1 hi').1; omega, by have := H.edge i' o' ho' e' he' hb'; have := (Array.getElem?_eq_some_iff.1 ho').1; omega⟩
      have hri : i ∈ Region.ready .any ops listed := lst_ready hs hui ho (fun e he hb => by have := H.edge i _ ho e he hb; exact (hL e.on).2 ⟨this, by omega⟩)
      refine ⟨fun h0 => (by rw [h0] at hri; cases hri), fun j hj => ?_⟩
      obtain ⟨hj1, hj2, oj, hoj, hje⟩ := ready_lst hs hj
      have hji : j = i := by
        rcases Nat.lt_trichotomy j i with h | h | h
        · exact absurd ((hL j).2 ⟨h, hj1⟩) hj2
        · exact h
        · exact absurd (H.tl j oj (Lst listed) (by omega) hoj hclo hje i h) hui
      subst hji
      refine wpOp_of ho ?_
      rw [← List.getElem_cons_drop hil] at h
      simp only [wops] at h
      refine one_sound (fun g' s' a' w' I' h' => ?_) hch I h
      refine ih (j + 1) _ g' s' a' w' (by simpa using hs) (by omega) (fun j' => ?_) (count_set_lt (by omega) hui hc) I' (by rwa [show j + 1 - items.length = j - items.length + 1 by omega])
      rw [lst_set (by omega), hL j']
      omega
    · have hr : Region.ready .any ops listed = [] := by
        cases hr : Region.ready .any ops listed with
        | nil => rfl
        | cons j _ =>
          obtain ⟨h1, h2, _⟩ := ready_lst hs (j := j) (by rw [hr]; simp)
          exact absurd ((hL j).2 ⟨by omega, h1⟩) h2
      rw [List.drop_eq_nil_of_le (by omega)] at h
      exact wpAny_done hr (hK _ _ _ _ I h) _

theorem any_z (H : OkZ P c.nt ops items tl) (hK : ∀ g' s' a' w', Inv c g' s' a' w' → K s' → Q' .normal a' w') : ∀ (fuel : Nat) (listed : Array Bool) (q : Nat) (sv : St) (g : Gh) (s : St) (a : Act) (w : World),
    listed.size = ops.size → Clo ops (Lst listed) → (∀ j, Lst listed j → j < items.length) → listed.toList.count false ≤ fuel → Z P items (wops P tl K) (Lst listed) q s sv → Inv c g s a w → wpAny P .any ops Q' fuel listed a w := by
  have hlen := H.tlen
  have nt9 := c.ntb
  intro fuel
  induction fuel with
  | zero =>
    intro listed q sv g s a w hs hclo hm hc z I
    have hall : ∀ j, j < ops.size → Lst listed j := fun j hj => Classical.byContradiction fun hn => by have := count_pos (listed := listed) (i := j) (by omega) hn; omega
    obtain ⟨p, sv', z', hp⟩ := Z_norm H _ q sv (Nat.le_refl _) z
    have hp' : items.length ≤ p := by
      rcases hp with h | ⟨it, h1, h2⟩
      · exact h
      · have := (H.item p it h1).1
        exact absurd (hall it.1 (by omega)) (z'.hi p it h1 (Nat.le_refl _))
    have hsv : sv' = s := mix_ext (fun t => z'.same t fun j it hj hjp hn => absurd (hall it.1 (by have := (H.item j it hj).1; omega)) hn) (fun t => by rw [z'.bx]) z'.rw
    have hg := z'.go
    rw [List.drop_eq_nil_of_le hp'] at hg
    rw [hsv] at hg
    refine tail_z H hK 0 items.length listed g s a w hs (Nat.le_refl _) (fun j => ⟨fun h => ⟨hm j h, by have := hm j h; omega⟩, fun h => hall j h.2⟩) hc I (by simpa [zwops] using hg)
  | succ fuel ih =>
    intro listed q sv g s a w hs hclo hm hc z I
    obtain ⟨p, sv', z', hp⟩ := Z_norm H _ q sv (Nat.le_refl _) z
    clear z
    by_cases hall : ∀ j, j < items.length → Lst listed j
    · have hp' : items.length ≤ p := by
        rcases hp with h | ⟨it, h1, h2⟩
        · exact h
        · exact absurd (hall it.1 (H.item p it h1).1) (z'.hi p it h1 (Nat.le_refl _))
      have hsv : sv' = s := mix_ext (fun t => z'.same t fun j it hj hjp hn => absurd (hall it.1 (H.item j it hj).1) hn) (fun t => by rw [z'.bx]) z'.rw
      have hg := z'.go
      rw [List.drop_eq_nil_of_le hp'] at hg
      rw [hsv] at hg
      exact tail_z H hK (fuel + 1) items.length listed g s a w hs (Nat.le_refl _) (fun j => ⟨fun h => ⟨hm j h, by have := hm j h; omega⟩, fun h => hall j h.1⟩) hc I (by simpa [zwops] using hg)
    · have hex : ∃ j, j < items.length ∧ ¬ Lst listed j := Classical.byContradiction fun hn => hall fun j hj => Classical.byContradiction fun hl => hn ⟨j, hj, hl⟩
      obtain ⟨j1, hj1, hj1u⟩ := hex
      have hleast : ∀ n j, j ≤ n → j < items.length → ¬ Lst listed j → ∃ j, j < items.length ∧ ¬ Lst listed j ∧ ∀ j', j' < j → Lst listed j' := by
        intro n
        induction n with
        | zero => intro j hj h1 h2; exact ⟨j, h1, h2, fun j' hj' => by omega⟩
        | succ n ihn =>
          intro j hj h1 h2
          by_cases hb : ∃ j', j' < j ∧ ¬ Lst listed j'
          · obtain ⟨j', q1, q2⟩ := hb
            exact ihn j' (by omega) (by omega) q2
          · exact ⟨j, h1, h2, fun j' hj' => Classical.byContradiction fun hn => hb ⟨j', hj', hn⟩⟩
      obtain ⟨j0, hj0, hj0u, hj0l⟩ := hleast j1 j1 (Nat.le_refl _) hj1 hj1u
      have ho0 := Array.getElem?_eq_getElem (xs := ops) (i := j0) (by omega)
      have hr0 : j0 ∈ Region.ready .any ops listed := lst_ready hs hj0u ho0 (fun e he hb => hj0l e.on (H.edge j0 _ ho0 e he hb))
      refine ⟨fun h0 => (by rw [h0] at hr0; cases hr0), fun i hi => ?_⟩
      obtain ⟨hi1, hi2, o, ho, he⟩ := ready_lst hs hi
      have him : i < items.length := by
        rcases Nat.lt_or_ge i items.length with h | h
        · exact h
        · exact absurd (H.tl i o (Lst listed) h ho hclo he j1 (by omega)) hj1u
      obtain ⟨j, it, hj, hji⟩ := H.surj i him
      obtain ⟨_, o', ho', hch, hkind, hsem⟩ := H.item j it hj
      rw [hji] at ho'
      rw [ho] at ho'; cases ho'
      obtain ⟨hrd, hE⟩ := hsem (Lst listed) hclo he
      have hdn : it.2.2.dst < c.nt := by
        have hch' := hch
        unfold chk1 at hch'
        split at hch'
        · rename_i t want l' el
          simp only [Bool.and_eq_true] at hch'
          rw [el]
          exact (chkDst_ok hch'.1.1.2).1
        · simp only [Bool.and_eq_true] at hch'
          exact (chkDst_ok hch'.1.2).1
      have eL : Lst (listed.setIfInBounds i true) = fun j => Lst listed j ∨ j = i := funext fun j => propext (lst_set (by omega))
      have hclo' : Clo ops (Lst (listed.setIfInBounds i true)) := by
        rw [eL]
        intro i' o' ho' hi' e' he' hb'
        rcases hi' with hi' | rfl
        · exact .inl (hclo i' o' ho' hi' e' he' hb')
        · rw [ho] at ho'; cases ho'; exact .inl (he e' he' hb')
      have hm' : ∀ j, Lst (listed.setIfInBounds i true) j → j < items.length := by
        intro j hj
        rw [eL] at hj
        rcases hj with hj | rfl
        · exact hm j hj
        · exact him
      have other : ∀ (j' : Nat) (it' : ZI), items[j']? = some it' → it'.1 = i → j' = j ∧ it' = it := fun j' it' hj' e => by
        have := H.inj j' j it' it hj' hj (by rw [e, hji])
        subst this; rw [hj] at hj'; cases hj'; exact ⟨rfl, rfl⟩
      have jp : ¬ p < j := fun hlt => by
        rcases hp with h | ⟨itp, h1, h2⟩
        · have := (List.getElem?_eq_some_iff.1 hj).1; omega
        · exact z'.hi p itp h1 (Nat.le_refl _) (hE p itp h1 h2 hlt)
      refine wpOp_of ho ?_
      rcases Nat.lt_or_ge j p with hjp | hjp
      · -- a pending pure operation
        have hnl : ¬ Lst listed it.1 := by rw [hji]; exact hi2
        have hf : it.2.1 = false := by
          cases hx : it.2.1 with
          | false => rfl
          | true => exact absurd (z'.ef j it hj hjp hx) hnl
        obtain ⟨p1, p2, p3⟩ := z'.pen j it hj hjp hnl
        have hw : wop P it.2.2 (fun s' => s' = s.set it.2.2.dst (sv'.e it.2.2.dst)) s := by
          refine p3 s (fun t ht => (z'.same t fun j' it' hj' hlt' hn' e => ?_).symm) (fun k cs _ hk _ => by rw [← z'.bx]; exact hk) _ rfl
          subst e
          exact hn' (hrd j' it' hj' (by rw [rdz_false hf]; exact ht)).1
        refine one_sound (fun g' s' a' w' I' h' => ?_) hch I hw
        subst h'
        refine ih _ p sv' g' _ a' w' (by simpa using hs) hclo' hm' (count_set_lt (by omega) hi2 hc) ?_ I'
        rw [eL]
        refine ⟨z'.bx, z'.rw, fun j' it' hj' hle hl => ?_, fun j' it' hj' hlt hx => .inl (z'.ef j' it' hj' hlt hx), fun t ht => ?_, fun j' it' hj' hlt hn => z'.pen j' it' hj' hlt (fun h => hn (.inl h)), z'.go⟩
        · rcases hl with hl | hl
          · exact z'.hi j' it' hj' hle hl
          · have := (other j' it' hj' hl).1; omega
        · by_cases htd : t = it.2.2.dst
          · subst htd; rw [set_e]
          · have : (s.set it.2.2.dst (sv'.e it.2.2.dst)).e t = s.e t := by simp [St.set, upd, htd]
            rw [this]
            refine z'.same t fun j' it' hj' hlt hn e => ?_
            by_cases hx : it'.1 = i
            · obtain ⟨_, rfl⟩ := other j' it' hj' hx; exact htd e.symm
            · exact ht j' it' hj' hlt (fun h => h.elim hn hx) e
      · -- the next operation that changes the state
        have hjp' : j = p := by omega
        subst hjp'
        have hEf : it.2.1 = true := by
          rcases hp with h | ⟨itp, h1, h2⟩
          · have := (List.getElem?_eq_some_iff.1 hj).1; omega
          · rw [hj] at h1; cases h1; exact h2
        have hgo := z'.go
        have hlt := (List.getElem?_eq_some_iff.1 hj).1
        rw [List.drop_eq_getElem_cons hlt, (List.getElem?_eq_some_iff.1 hj).2] at hgo
        obtain ⟨i0, f0, l0⟩ := it
        simp only at hEf hji hch hkind hdn hrd
        subst hEf
        simp only [List.map_cons, zwops] at hgo
        simp only [if_true] at hkind
        classical
        let pd : Nat → Option AV := fun t => if ∃ (j' : Nat) (it' : ZI), items[j']? = some it' ∧ j' < j ∧ ¬ Lst listed it'.1 ∧ it'.2.2.dst = t then some (sv'.e t) else none
        have hpd : ∀ t v, pd t = some v → ∃ (j' : Nat) (it' : ZI), items[j']? = some it' ∧ j' < j ∧ ¬ Lst listed it'.1 ∧ it'.2.2.dst = t ∧ v = sv'.e t := fun t v h => by
          simp only [pd] at h
          split at h
          · rename_i hx
            obtain ⟨j', it', q1, q2, q3, q4⟩ := hx
            exact ⟨j', it', q1, q2, q3, q4, (Option.some.inj h).symm⟩
          · cases h
        have esv : sv' = s.ov pd := by
          refine mix_ext (fun t => ?_) (fun t => by rw [z'.bx]; rfl) z'.rw
          simp only [St.ov, pd]
          split
          · rfl
          · rename_i hx
            exact z'.same t fun j' it' hj' hlt' hn e => hx ⟨j', it', hj', hlt', hn, e⟩
        have pdof : ∀ (j' : Nat) (it' : ZI), items[j']? = some it' → j' < j → ¬ Lst listed it'.1 → pd it'.2.2.dst = some (sv'.e it'.2.2.dst) := fun j' it' h1 h2 h3 => if_pos ⟨j', it', h1, h2, h3, rfl⟩
        rw [esv] at hgo
        have hgo' := eff hkind (by omega) (fun t v hv => by
          obtain ⟨j', it', q1, q2, q3, q4, q5⟩ := hpd t v hv
          refine ⟨fun hr => q3 (hrd j' it' q1 (by rw [q4]; exact hr)).1, fun e => ?_, by rw [q5, ← q4, ← show bO sv' = bO s from funext fun k => by simp only [bO, z'.bx]]; exact (z'.pen j' it' q1 q2 q3).1⟩
          have := H.dst j' j it' _ q1 hj (by rw [q4, e])
          omega) hgo
        refine one_sound (fun g' s' a' w' I' h' => ?_) hch I (zw_wop hgo')
        obtain ⟨h1', h2'⟩ := h'
        refine ih _ (j + 1) (s'.ov pd) g' s' a' w' (by simpa using hs) hclo' hm' (count_set_lt (by omega) hi2 hc) ?_ I'
        rw [eL]
        have ebO : bO sv' = bO s := funext fun k => by simp only [bO, z'.bx]
        have sveq : ∀ t, t ≠ l0.dst → (sv'.e t).kf (bO sv') = true → (s'.ov pd).e t = sv'.e t := fun t ht hf => by
          cases hx : pd t with
          | some v =>
            obtain ⟨_, _, _, _, _, _, q5⟩ := hpd t v hx
            simp only [St.ov, hx, Option.getD_some]; exact q5
          | none =>
            simp only [St.ov, hx, Option.getD_none]
            have e1 : sv'.e t = s.e t := by rw [esv]; simp only [St.ov, hx, Option.getD_none]
            rw [e1, ebO] at hf
            rw [e1]
            exact h2'.e t ht hf
        have pureof : ∀ (j' : Nat) (it' : ZI), items[j']? = some it' → j' < j → ¬ Lst listed it'.1 → it'.2.1 = false := fun j' it' q1 q2 q3 => by
          cases hx : it'.2.1 with
          | false => rfl
          | true => exact absurd (z'.ef j' it' q1 q2 hx) q3
        refine ⟨rfl, rfl, fun j' it' hj' hle hl => ?_, fun j' it' hj' hlt' hx => ?_, fun t ht => ?_, fun j' it' hj' hlt' hn => ?_, h1'⟩
        · rcases hl with hl | hl
          · exact z'.hi j' it' hj' (by omega) hl
          · have := (other j' it' hj' hl).1; omega
        · rcases Nat.lt_or_ge j' j with h | h
          · exact .inl (z'.ef j' it' hj' h hx)
          · have : j' = j := by omega
            subst this; rw [hj] at hj'; cases hj'; exact .inr hji
        · have : pd t = none := by
            cases hx : pd t with
            | none => rfl
            | some v =>
              obtain ⟨j', it', q1, q2, q3, q4, _⟩ := hpd t v hx
              refine absurd q4 (ht j' it' q1 (by omega) (fun h => h.elim q3 fun h => ?_))
              have := (other j' it' q1 h).1; omega
          simp only [St.ov, this, Option.getD_none]
        · have hj'j : j' < j := by
            rcases Nat.lt_or_ge j' j with h | h
            · exact h
            · have : j' = j := by omega
              subst this; rw [hj] at hj'; cases hj'; exact absurd (.inr hji) hn
          have hn' : ¬ Lst listed it'.1 := fun h => hn (.inl h)
          obtain ⟨p1, p2, p3⟩ := z'.pen j' it' hj' hj'j hn'
          have hd : it'.2.2.dst ≠ l0.dst := fun e => by have := H.dst j' j it' _ hj' hj e; omega
          have hr : l0.dst ∉ it'.2.2.rds := fun h => by
            have := H.before hj' hj (by rw [rdz_false (pureof j' it' hj' hj'j hn')]; exact h)
            omega
          rw [sveq _ hd p1]
          have bm : ∀ k, bO sv' k = true → bO (s'.ov pd) k = true := fun k hk => h2'.b k (by rw [← ebO]; exact hk)
          refine ⟨kf_mono bm _ p1, fun t ht => by rw [sveq t (fun e => hr (by rw [← e]; exact ht)) (p2 t ht)]; exact kf_mono bm _ (p2 t ht), fun s'' q1 q2 K' hK' => ?_⟩
          refine p3 s'' (fun t ht => by rw [q1 t ht, sveq t (fun e => hr (by rw [← e]; exact ht)) (p2 t ht)]) (fun k cs hk hcs hf => ?_) K' hK'
          refine q2 k cs hk ?_ (kfL_mono bm cs hf)
          rw [z'.bx] at hcs
          rw [ebO] at hf
          exact h2'.bx k cs hk hcs hf

theorem region_z {id : Nat} {g : Gh} {s : St} {a : Act} {w : World} (hmo : P.follows .mixedOrders = true) (hc : chkZ P c.nt ops items tl = true) (hK : ∀ g' s' a' w', Inv c g' s' a' w' → K s' → Q' .normal a' w')
    (I : Inv c g s a w) (h : zwops P (items.map Prod.snd) (fun s' => wops P tl K s') s) : (Code.region id ops true).wp P Q' a w := by
  have H := chkZ_ok hc
  refine wp_region_any hmo ?_
  have hnone : Lst (Array.replicate ops.size false) = fun _ => False := by
    funext j
    apply propext
    simp only [Lst, Array.getD_eq_getD_getElem?, Array.getElem?_replicate, iff_false]
    split <;> simp
  refine any_z H hK ops.size _ 0 s g s a _ (by simp) ?_ ?_ ?_ ?_ (I.drawn (w.drawn + 1))
  · rw [hnone]; intro i o _ hi; exact hi.elim
  · rw [hnone]; intro j hj; exact hj.elim
  · simp [Array.toList_replicate]
  · rw [hnone]
    exact ⟨rfl, rfl, fun _ _ _ _ h => h, fun j it _ h => by omega, fun _ _ => rfl, fun j it _ h => by omega, by simpa using h⟩
end
end Go.Proofs.Ythbbieobcokgbaa.Eng
