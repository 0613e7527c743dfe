/-
  The engine, part 18: quiet operations, whose value rests on what they read alone.
-/
import Derived.Test.YthbbieobcokgbaaEng17
namespace Go.Proofs.Ythbbieobcokgbaa.Eng
open Go Go.RowKit

def X.rd : X → List Nat
  | .t i => [i]
  | .c _ => []
def rdO : Option X → List Nat
  | some x => x.rd
  | none => []
def LOp.rds : LOp → List Nat
  | .mv _ x | .un _ x | .cv _ _ x | .fa _ x _ | .ld _ x _ _ | .ls _ x | .lq _ x | .ex _ x _ | .fd _ x _ _ _ | .nc _ x | .b2s _ x | .s2b _ x => x.rd
  | .pk _ x y z => x.rd ++ y.rd ++ z.rd
  | .bi _ _ x y | .eb _ _ x y | .es _ _ _ x y | .sa _ x y | .ia _ x y _ | .ix _ x y | .mm _ _ x y => x.rd ++ y.rd
  | .bd _ _ ps => ps.flatMap fun p => p.2.2.rd
  | .bs _ _ ps _ => ps.flatMap X.rd
  | .sc _ x lo hi _ | .ss _ x lo hi => x.rd ++ rdO lo ++ rdO hi
  | .mf _ _ xs | .cq _ _ xs => xs.flatMap X.rd
  | .cc _ f xs => f.rd ++ xs.flatMap X.rd
  | .g t _ o => t :: o.rds
  | _ => []

def isQ1 : LOp → Bool
  | .mv _ _ | .un _ _ | .cv _ _ _ | .fa _ _ _ | .ld _ _ _ _ | .ls _ _ | .lq _ _ | .ex _ _ _ | .fd _ _ _ _ _ | .nc _ _ | .b2s _ _ | .s2b _ _
  | .pk _ _ _ _ | .bi _ _ _ _ | .eb _ _ _ _ | .es _ _ _ _ _ | .sa _ _ _ | .ia _ _ _ _ | .ix _ _ _ | .mm _ _ _ _ | .bd _ _ _ | .bs _ _ _ false
  | .sc _ _ _ _ _ | .ss _ _ _ _ | .mf _ _ _ | .cq _ _ _ | .cc _ _ _ => true
  | _ => false
def isQ : LOp → Bool
  | .g _ _ o => isQ1 o
  | o => isQ1 o

def norow : AV → Bool | .sref _ => false | _ => true
/-- A row that is cut would be marked as shared: in a drawn region data alone are cut. -/
def scOk (s : St) : LOp → Prop
  | .sc _ x _ _ _ => norow (s.get x) = true
  | .g _ _ (.sc _ x _ _ _) => norow (s.get x) = true
  | _ => True

/-- s' knows all that s knows of what is read. -/
structure Ag (l : List Nat) (s s' : St) : Prop where
  e : ∀ t, t ∈ l → s'.e t = s.e t
  bx : ∀ k cs, s.bx k = some cs → s'.bx k = some cs
  rw : ∀ k r, s.rw k = some r → s'.rw k = some r

section
variable {P : Program} {s s' : St}

theorem Ag.sub {l l' : List Nat} (A : Ag l s s') (h : ∀ t, t ∈ l' → t ∈ l) : Ag l' s s' := ⟨fun t ht => A.e t (h t ht), A.bx, A.rw⟩
theorem Ag.get {l : List Nat} (A : Ag l s s') {x : X} (h : ∀ t, t ∈ x.rd → t ∈ l) : s'.get x = s.get x := by
  cases x with
  | t i => exact A.e i (h i (by simp [X.rd]))
  | c a => rfl
theorem Ag.gets {l : List Nat} (A : Ag l s s') {xs : List X} (h : ∀ t, t ∈ xs.flatMap X.rd → t ∈ l) : xs.map s'.get = xs.map s.get := by
  apply List.map_congr_left
  intro x hx
  exact A.get fun t ht => h t (List.mem_flatMap.2 ⟨x, hx, ht⟩)

mutual
theorem dt_ag (h : ∀ k r, s.rw k = some r → s'.rw k = some r) : ∀ a x, s.dt a = some x → s'.dt a = some x
  | .bool _, x, hx | .int _ _, x, hx | .str _, x, hx | .nl, x, hx | .sl _ _ _, x, hx | .ept _ _, x, hx => by simpa [St.dt] using hx
  | .tup _, x, hx | .ptr _ _, x, hx | .rpt _ _ _, x, hx | .und, x, hx | .bad, x, hx => by simp [St.dt] at hx
  | .sref k, x, hx => by
    simp only [St.dt, Option.map_eq_some_iff] at hx ⊢
    obtain ⟨r, h1, h2⟩ := hx
    exact ⟨r, h k r h1, h2⟩
  | .agg cs, x, hx => by
    rw [St.dt, Option.map_eq_some_iff] at hx ⊢
    obtain ⟨y, h1, h2⟩ := hx
    exact ⟨y, dtL_ag h cs y h1, h2⟩
  | .fn f cs, x, hx => by
    rw [St.dt, Option.map_eq_some_iff] at hx ⊢
    obtain ⟨y, h1, h2⟩ := hx
    exact ⟨y, dtL_ag h cs y h1, h2⟩
theorem dtL_ag (h : ∀ k r, s.rw k = some r → s'.rw k = some r) : ∀ l y, s.dtL l = some y → s'.dtL l = some y
  | [], y, hy => by simpa [St.dtL] using hy
  | a :: l, y, hy => by
    rw [St.dtL] at hy ⊢
    split at hy
    · rename_i u v h1 h2
      rw [dt_ag h a u h1, dtL_ag h l v h2]; exact hy
    · cases hy
end
theorem args_ag {l : List Nat} (A : Ag l s s') {xs : List X} {as : List AV} (h : ∀ t, t ∈ xs.flatMap X.rd → t ∈ l) (ha : s.args xs = some as) : s'.args xs = some as := by
  unfold St.args at *
  rw [A.gets h]
  split at ha
  · rename_i l' e
    rw [dtL_ag A.rw _ _ e]; exact ha
  · cases ha

theorem ld_ag {l : List Nat} (A : Ag l s s') {p v : AV} {n : Nat} {ag : Bool} (h : s.ld p n ag = some v) : s'.ld p n ag = some v := by
  unfold St.ld at *
  split at h
  · exact h
  · split at h
    · rename_i cs hk; simp only [A.bx _ _ hk]; exact h
    · cases h
  · split at h
    · rename_i r hr; simp only [A.rw _ _ hr]; exact h
    · cases h
  · cases h

theorem lo_ag {l : List Nat} (A : Ag l s s') {o : Option X} (h : ∀ t, t ∈ rdO o → t ∈ l) (n : Nat) : s'.lo o n = s.lo o n := by
  cases o with
  | none => rfl
  | some x => simp only [St.lo]; rw [A.get h]
theorem hi_ag {l : List Nat} (A : Ag l s s') {o : Option X} (h : ∀ t, t ∈ rdO o → t ∈ l) (n : Nat) : s'.hi o n = s.hi o n := by
  cases o with
  | none => rfl
  | some x => simp only [St.hi]; rw [A.get h]

theorem set_e {t : Nat} {v : AV} : (s.set t v).e t = v := by simp [St.set, upd]

/-- What a quiet operation yields. -/
def Yld (P : Program) (l : LOp) (s : St) (v : AV) : Prop := ∀ s', Ag l.rds s s' → ∀ K : St → Prop, K (s'.set l.dst v) → wop P l K s'

theorem quiet1 {K : St → Prop} {l : LOp} (hq : isQ1 l = true) (hsc : scOk s l) (h : wop P l K s) : ∃ v, K (s.set l.dst v) ∧ Yld P l s v := by
  cases l with
  | mv d x =>
    exact ⟨_, h, fun s' A K' hK => by have e := A.get (x := x) (fun t h => h); simp only [wop, e]; exact hK⟩
  | pk d x y z =>
    simp only [wop] at h
    split at h
    · rename_i t ht
      refine ⟨_, h, fun s' A K' hK => ?_⟩
      have e1 := A.get (x := x) (fun t h => by simp [LOp.rds, h])
      have e2 := A.get (x := y) (fun t h => by simp [LOp.rds, h])
      have e3 := A.get (x := z) (fun t h => by simp [LOp.rds, h])
      simp only [wop, e1, e2, e3, ht]; exact hK
    · exact h.elim
  | un d x =>
    simp only [wop] at h
    split at h
    · rename_i t ht
      refine ⟨_, h, fun s' A K' hK => ?_⟩
      have e1 := A.get (x := x) (fun t h => h)
      simp only [wop, e1, ht]; exact hK
    · exact h.elim
  | bi d op x y =>
    simp only [wop] at h
    split at h
    · rename_i t ht
      refine ⟨_, h, fun s' A K' hK => ?_⟩
      have e1 := A.get (x := x) (fun t h => by simp [LOp.rds, h])
      have e2 := A.get (x := y) (fun t h => by simp [LOp.rds, h])
      simp only [wop, e1, e2, ht]; exact hK
    · exact h.elim
  | eb d ne x y =>
    simp only [wop] at h
    split at h
    · rename_i t ht ht2
      refine ⟨_, h, fun s' A K' hK => ?_⟩
      have e1 := A.get (x := x) (fun t h => by simp [LOp.rds, h])
      have e2 := A.get (x := y) (fun t h => by simp [LOp.rds, h])
      simp only [wop, e1, e2, ht, ht2]; exact hK
    · exact h.elim
  | es d ne ks x y =>
    simp only [wop] at h
    split at h
    · rename_i t1 t2 ht ht2
      split at h
      · rename_i r hr
        refine ⟨_, h, fun s' A K' hK => ?_⟩
        have e1 := A.get (x := x) (fun t h => by simp [LOp.rds, h])
        have e2 := A.get (x := y) (fun t h => by simp [LOp.rds, h])
        simp only [wop, e1, e2, ht, ht2, hr]; exact hK
      · exact h.elim
    · exact h.elim
  | sa d x y =>
    simp only [wop] at h
    split at h
    · rename_i t ht ht2
      refine ⟨_, h.2, fun s' A K' hK => ?_⟩
      have e1 := A.get (x := x) (fun t h => by simp [LOp.rds, h])
      have e2 := A.get (x := y) (fun t h => by simp [LOp.rds, h])
      simp only [wop, e1, e2, ht, ht2]; exact ⟨h.1, hK⟩
    · exact h.elim
  | cv d k x =>
    simp only [wop] at h
    split at h
    · rename_i k' t ht
      refine ⟨_, h, fun s' A K' hK => ?_⟩
      have e1 := A.get (x := x) (fun t h => h)
      simp only [wop, e1, ht]; exact hK
    · exact h.elim
  | fa d x off =>
    simp only [wop] at h
    split at h
    · rename_i k o ht
      refine ⟨_, h.2, fun s' A K' hK => ?_⟩
      have e1 := A.get (x := x) (fun t h => h)
      obtain ⟨cs, hcs⟩ := Option.isSome_iff_exists.1 h.1
      simp only [wop, e1, ht]; exact ⟨by rw [A.bx _ _ hcs]; rfl, hK⟩
    · rename_i e o ht
      refine ⟨_, h, fun s' A K' hK => ?_⟩
      have e1 := A.get (x := x) (fun t h => h)
      simp only [wop, e1, ht]; exact hK
    · rename_i k i o ht
      refine ⟨_, h.2, fun s' A K' hK => ?_⟩
      have e1 := A.get (x := x) (fun t h => h)
      obtain ⟨r, hr⟩ := Option.isSome_iff_exists.1 h.1
      simp only [wop, e1, ht]; exact ⟨by rw [A.rw _ _ hr]; rfl, hK⟩
    · exact h.elim
  | ia d x i n =>
    simp only [wop] at h
    split at h
    · rename_i t sz es ht
      split at h
      · rename_i j hj
        split at h
        · rename_i e he
          refine ⟨_, h.2, fun s' A K' hK => ?_⟩
          have e1 := A.get (x := x) (fun t h => by simp [LOp.rds, h])
          have e2 := A.get (x := i) (fun t h => by simp [LOp.rds, h])
          simp only [wop, e1, e2, ht, hj, he]; exact ⟨h.1, hK⟩
        · exact h.elim
      · exact h.elim
    · rename_i k ht
      split at h
      · rename_i r hr
        split at h
        · rename_i j hj
          refine ⟨_, h.2, fun s' A K' hK => ?_⟩
          have e1 := A.get (x := x) (fun t h => by simp [LOp.rds, h])
          have e2 := A.get (x := i) (fun t h => by simp [LOp.rds, h])
          simp only [wop, e1, e2, ht, A.rw _ _ hr, hj]; exact ⟨h.1, hK⟩
        · exact h.elim
      · exact h.elim
    · exact h.elim
  | ix d x i =>
    simp only [wop] at h
    split at h
    · rename_i l ht
      split at h
      · rename_i j hj
        split at h
        · rename_i b hb
          refine ⟨_, h, fun s' A K' hK => ?_⟩
          have e1 := A.get (x := x) (fun t h => by simp [LOp.rds, h])
          have e2 := A.get (x := i) (fun t h => by simp [LOp.rds, h])
          simp only [wop, e1, e2, ht, hj, hb]; exact hK
        · exact h.elim
      · exact h.elim
    · exact h.elim
  | ld d p n ag =>
    simp only [wop] at h
    split at h
    · rename_i v hv
      refine ⟨_, h, fun s' A K' hK => ?_⟩
      have e1 := A.get (x := p) (fun t h => h)
      simp only [wop, e1, ld_ag A hv]; exact hK
    · exact h.elim
  | bd d z ps =>
    simp only [wop] at h
    split at h
    · rename_i cs hcs
      refine ⟨_, h.2, fun s' A K' hK => ?_⟩
      have e1 : (ps.map fun (off, n, x) => (off, n, s'.get x)) = ps.map fun (off, n, x) => (off, n, s.get x) := by
        apply List.map_congr_left
        rintro ⟨off, n, x⟩ hx
        simp only [Prod.mk.injEq, true_and]
        exact A.get fun t ht => List.mem_flatMap.2 ⟨_, hx, ht⟩
      simp only [wop, e1, hcs]; exact ⟨h.1, hK⟩
    · exact h.elim
  | bs d sz ps own =>
    cases own with
    | true => simp [isQ1] at hq
    | false =>
      simp only [wop] at h
      split at h
      · rename_i es hes
        simp only [Bool.false_eq_true, if_false] at h
        obtain ⟨h1, h2, h3, h4, h5⟩ := h
        refine ⟨_, h5, fun s' A K' hK => ?_⟩
        have e1 := A.gets (xs := ps) (fun t h => h)
        simp only [wop, e1, dtL_ag A.rw _ _ hes, Bool.false_eq_true, if_false]; exact ⟨h1, h2, h3, h4, hK⟩
      · exact h.elim
  | ls d x =>
    simp only [wop] at h
    split at h
    · rename_i t ht
      refine ⟨_, h, fun s' A K' hK => ?_⟩
      have e1 := A.get (x := x) (fun t h => h)
      simp only [wop, e1, ht]; exact hK
    · exact h.elim
  | lq d x =>
    simp only [wop] at h
    split at h
    · rename_i t sz es ht
      refine ⟨_, h.2, fun s' A K' hK => ?_⟩
      have e1 := A.get (x := x) (fun t h => h)
      simp only [wop, e1, ht]; exact ⟨h.1, hK⟩
    · rename_i ht
      refine ⟨_, h, fun s' A K' hK => ?_⟩
      have e1 := A.get (x := x) (fun t h => h)
      simp only [wop, e1, ht]; exact hK
    · exact h.elim
  | sc d x lo hi n =>
    simp only [wop] at h
    split at h
    · rename_i t sz es ht
      split at h
      · rename_i hh e2
        split at h
        · rename_i ll e3
          refine ⟨_, h.2, fun s' A K' hK => ?_⟩
          have e1 := A.get (x := x) (fun t h => by simp [LOp.rds, h])
          have q2 := hi_ag A (o := hi) (fun t h => by simp [LOp.rds, h]) es.length
          have q3 := lo_ag A (o := lo) (fun t h => by simp [LOp.rds, h]) hh
          simp only [wop, e1, ht, q2, q3, e2, e3]; exact ⟨h.1, hK⟩
        · exact h.elim
      · exact h.elim
    · rename_i k ht
      simp only [scOk, ht, norow, Bool.false_eq_true] at hsc
    · rename_i ht
      split at h
      · rename_i hh e2
        split at h
        · rename_i ll e3
          refine ⟨_, h, fun s' A K' hK => ?_⟩
          have e1 := A.get (x := x) (fun t h => by simp [LOp.rds, h])
          have q2 := hi_ag A (o := hi) (fun t h => by simp [LOp.rds, h]) 0
          have q3 := lo_ag A (o := lo) (fun t h => by simp [LOp.rds, h]) hh
          simp only [wop, e1, ht, q2, q3, e2, e3]; exact hK
        · exact h.elim
      · exact h.elim
    · exact h.elim
  | ss d x lo hi =>
    simp only [wop] at h
    split at h
    · rename_i b ht
      split at h
      · rename_i hh e2
        split at h
        · rename_i ll e3
          refine ⟨_, h, fun s' A K' hK => ?_⟩
          have e1 := A.get (x := x) (fun t h => by simp [LOp.rds, h])
          have q2 := hi_ag A (o := hi) (fun t h => by simp [LOp.rds, h]) b.length
          have q3 := lo_ag A (o := lo) (fun t h => by simp [LOp.rds, h]) hh
          simp only [wop, e1, ht, q2, q3, e2, e3]; exact hK
        · exact h.elim
      · exact h.elim
    · exact h.elim
  | ex d x i =>
    simp only [wop] at h
    split at h
    · rename_i vs ht
      split at h
      · rename_i v hv
        refine ⟨_, h, fun s' A K' hK => ?_⟩
        have e1 := A.get (x := x) (fun t h => h)
        simp only [wop, e1, ht, hv]; exact hK
      · exact h.elim
    · exact h.elim
  | fd d x off n ag =>
    simp only [wop] at h
    split at h
    · rename_i vs ht
      split at h
      · rename_i v hv
        refine ⟨_, h, fun s' A K' hK => ?_⟩
        have e1 := A.get (x := x) (fun t h => h)
        simp only [wop, e1, ht, hv]; exact hK
      · exact h.elim
    · exact h.elim
  | nc d x =>
    simp only [wop] at h
    split at h
    · rename_i k o ht
      refine ⟨_, h.2, fun s' A K' hK => ?_⟩
      have e1 := A.get (x := x) (fun t h => h)
      obtain ⟨cs, hcs⟩ := Option.isSome_iff_exists.1 h.1
      simp only [wop, e1, ht]; exact ⟨by rw [A.bx _ _ hcs]; rfl, hK⟩
    · rename_i f cs ht
      refine ⟨_, h, fun s' A K' hK => ?_⟩
      have e1 := A.get (x := x) (fun t h => h)
      simp only [wop, e1, ht]; exact hK
    · exact h.elim
  | mm d mx x y =>
    simp only [wop] at h
    split at h
    · rename_i k a k' b ht ht2
      refine ⟨_, h.2, fun s' A K' hK => ?_⟩
      have e1 := A.get (x := x) (fun t h => by simp [LOp.rds, h])
      have e2 := A.get (x := y) (fun t h => by simp [LOp.rds, h])
      simp only [wop, e1, e2, ht, ht2]; exact ⟨h.1, hK⟩
    · exact h.elim
  | b2s d x =>
    simp only [wop] at h
    split at h
    · rename_i t sz es ht
      obtain ⟨l, hl, h⟩ := h
      refine ⟨_, h, fun s' A K' hK => ?_⟩
      have e1 := A.get (x := x) (fun t h => h)
      simp only [wop, e1, dt_ag A.rw _ _ ht]; exact ⟨l, hl, hK⟩
    · rename_i ht
      refine ⟨_, h, fun s' A K' hK => ?_⟩
      have e1 := A.get (x := x) (fun t h => h)
      simp only [wop, e1, dt_ag A.rw _ _ ht]; exact hK
    · exact h.elim
  | s2b d x =>
    simp only [wop] at h
    split at h
    · rename_i l ht
      refine ⟨_, h.2, fun s' A K' hK => ?_⟩
      have e1 := A.get (x := x) (fun t h => h)
      simp only [wop, e1, ht]; exact ⟨h.1, hK⟩
    · exact h.elim
  | mf d f xs =>
    simp only [wop] at h
    refine ⟨_, h, fun s' A K' hK => ?_⟩
    simp only [wop, A.gets (xs := xs) (fun t h => h)]; exact hK
  | cq d f xs =>
    simp only [wop] at h
    obtain ⟨as, has, res, rows, hs, h⟩ := h
    refine ⟨_, h, fun s' A K' hK => ?_⟩
    simp only [wop]; exact ⟨as, args_ag A (xs := xs) (fun t h => h) has, res, rows, hs, hK⟩
  | cc d fx xs =>
    simp only [wop] at h
    obtain ⟨as, has, f, cap, as', e, hf, res, rows, hs, h⟩ := h
    refine ⟨_, h, fun s' A K' hK => ?_⟩
    simp only [wop]; exact ⟨as, args_ag A (xs := fx :: xs) (fun t h => by simpa [LOp.rds] using h) has, f, cap, as', e, hf, res, rows, hs, hK⟩
  | _ => simp [isQ1] at hq

theorem quiet {K : St → Prop} {l : LOp} (hq : isQ l = true) (hsc : scOk s l) (h : wop P l K s) : ∃ v, K (s.set l.dst v) ∧ Yld P l s v := by
  cases l with
  | g t want o =>
    simp only [isQ] at hq
    simp only [wop] at h
    have hsc' : scOk s o := by cases o <;> first | exact hsc | trivial
    have skip : (s.e t = .und ∨ ∃ b, s.e t = .bool b ∧ b ≠ want) → K (s.set o.dst .und) → ∃ v, K (s.set (LOp.g t want o).dst v) ∧ Yld P (.g t want o) s v := by
      intro ht hk
      refine ⟨.und, hk, fun s' A K' hK => ?_⟩
      have e1 := A.e t (by simp [LOp.rds])
      rcases ht with ht | ⟨b, ht, hb⟩
      · simp only [wop, e1, ht]; exact hK
      · simp only [wop, e1, ht, hb, if_false]; exact hK
    split at h
    · rename_i b ht
      split at h
      · rename_i hb
        obtain ⟨v, h1, h2⟩ := quiet1 hq hsc' h
        refine ⟨v, h1, fun s' A K' hK => ?_⟩
        have e1 := A.e t (by simp [LOp.rds])
        simp only [wop, e1, ht, hb, if_true]
        exact h2 s' (A.sub fun t ht => by simp [LOp.rds, ht]) K' hK
      · rename_i hb
        exact skip (.inr ⟨b, ht, hb⟩) h
    · rename_i ht
      exact skip (.inl ht) h
    · exact h.elim
  | _ => exact quiet1 hq hsc h
end
end Go.Proofs.Ythbbieobcokgbaa.Eng
