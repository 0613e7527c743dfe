/-
  The engine, part 23: code as a stack of items, and the rules by which 'simp' walks it.
-/
import Derived.Test.YthbbieobcokgbaaEng22
namespace Go.Proofs.Ythbbieobcokgbaa.Eng
open Go Go.RowKit

inductive It
  | l (c : L)
  | mk (id : Nat)
  | lp (I : Nat → St → Prop) (m : Nat)
  | jn (J : St → Prop)

def denK (P : Program) (R : Ex → St → Prop) : List It → Ex → St → Prop
  | [], e, s => R e s
  | .l c :: k, e, s => match e with
    | .nrm => den P c (denK P R k) s
    | e => denK P R k e s
  | .mk id :: k, e, s => match e with
    | .ext id' => if id' = id then denK P R k .nrm s else denK P R k (.ext id') s
    | e => denK P R k e s
  | .lp I m :: k, e, s => match e with
    | .nrm => ∃ m', m' < m ∧ I m' s
    | e => denK P R k e s
  | .jn J :: k, e, s => match e with
    | .nrm => J s
    | e => denK P R k e s

/-- What must hold ahead of a stack of items. -/
def W (P : Program) (R : Ex → St → Prop) (k : List It) (s : St) : Prop := denK P R k .nrm s

section
variable {P : Program} {R : Ex → St → Prop} {k : List It} {s : St}

theorem den_mono {K K' : Ex → St → Prop} (h : ∀ e s, K e s → K' e s) : ∀ {l : L} {s : St}, den P l K s → den P l K' s := by
  have wop_mono : ∀ (o : LOp) (K K' : St → Prop) (s : St), (∀ s, K s → K' s) → wop P o K s → wop P o K' s := by
    intro o
    induction o with
    | g t want o ih =>
      intro K K' s h hw
      simp only [wop] at hw ⊢
      split at hw
      · split at hw
        · rename_i e; rw [if_pos e]; exact ih K K' s h hw
        · rename_i e; rw [if_neg e]; exact h _ hw
      · exact h _ hw
      · exact hw
    | pk d x y z =>
      intro K K' s h hw
      simp only [wop] at hw ⊢
      cases hx : s.get x <;> rw [hx] at hw <;> first | exact hw | exact h _ hw
    | eb d ne x y =>
      intro K K' s h hw
      simp only [wop] at hw ⊢
      cases hx : s.get x <;> rw [hx] at hw <;> cases hy : s.get y <;> rw [hy] at hw <;> first | exact hw | exact h _ hw
    | es d ne ks x y =>
      intro K K' s h hw
      simp only [wop] at hw ⊢
      cases hx : s.get x <;> rw [hx] at hw <;> cases hy : s.get y <;> rw [hy] at hw <;> first
        | exact hw
        | (rename_i a b; cases hz : eqCells ks a b <;> simp only [hz] at hw ⊢ <;> first | exact hw | exact h _ hw)
    | st p x n =>
      intro K K' s h hw
      simp only [wop] at hw ⊢
      cases hp : s.get p <;> rw [hp] at hw <;> first
        | exact hw
        | (rename_i k off; cases hk : s.bx k <;> simp only [hk] at hw ⊢ <;> first | exact hw | exact ⟨hw.1, hw.2.1, hw.2.2.1, h _ hw.2.2.2⟩)
        | (rename_i k i off
           cases hk : s.rw k <;> simp only [hk] at hw ⊢ <;> first
             | exact hw
             | (rename_i r
                cases he : r.es[i]? <;> cases hd : s.dt (s.get x) <;> simp only [he, hd] at hw ⊢ <;> first | exact hw | exact ⟨hw.1, hw.2.1, hw.2.2.1, hw.2.2.2.1, h _ hw.2.2.2.2⟩))
    | ms d sz by' z x =>
      intro K K' s h hw
      simp only [wop] at hw ⊢
      cases hx : s.get x <;> rw [hx] at hw <;> first | exact hw | exact ⟨hw.1, hw.2.1, hw.2.2.1, h _ hw.2.2.2⟩
    | mm d mx x y =>
      intro K K' s h hw
      simp only [wop] at hw ⊢
      cases hx : s.get x <;> rw [hx] at hw <;> cases hy : s.get y <;> rw [hy] at hw <;> first | exact hw | exact ⟨hw.1, h _ hw.2⟩
    | ln d x =>
      intro K K' s h hw
      simp only [wop] at hw ⊢
      split at hw
      · exact fun q => h _ (hw q)
      · split at hw
        · exact fun q => h _ (hw q)
        · exact hw
      · exact h _ hw
      · exact hw
    | cl d f xs =>
      intro K K' s h hw
      simp only [wop] at hw ⊢
      obtain ⟨as, h1, res, rows, h2, hr, h3⟩ := hw
      exact ⟨as, h1, res, rows, h2, hr, h _ h3⟩
    | cq d f xs =>
      intro K K' s h hw
      simp only [wop] at hw ⊢
      obtain ⟨as, h1, res, rows, h2, h3⟩ := hw
      exact ⟨as, h1, res, rows, h2, h _ h3⟩
    | cc d f xs =>
      intro K K' s h hw
      simp only [wop] at hw ⊢
      obtain ⟨as, h1, f, cap, as', e, hf, res, rows, h2, h3⟩ := hw
      exact ⟨as, h1, f, cap, as', e, hf, res, rows, h2, h _ h3⟩
    | cm d f xs =>
      intro K K' s h hw
      simp only [wop] at hw ⊢
      obtain ⟨bks, rks, bin, rin, h1, h2, h3, Φ, h4, h5⟩ := hw
      exact ⟨bks, rks, bin, rin, h1, h2, h3, Φ, h4, fun res bout upd new q1 q2 q3 => ⟨(h5 res bout upd new q1 q2 q3).1, (h5 res bout upd new q1 q2 q3).2.1, (h5 res bout upd new q1 q2 q3).2.2.1, h _ (h5 res bout upd new q1 q2 q3).2.2.2⟩⟩
    | lq d x =>
      intro K K' s h hw
      simp only [wop] at hw ⊢
      split at hw
      · rename_i e; exact ⟨hw.1, h _ hw.2⟩
      · exact h _ hw
      · exact hw
    | cn d f xs =>
      intro K K' s h hw
      simp only [wop] at hw ⊢
      obtain ⟨as, h1, h2, Ψ, h3, h4⟩ := hw
      exact ⟨as, h1, h2, Ψ, h3, fun cs q => h _ (h4 cs q)⟩
    | b2s d x =>
      intro K K' s h hw
      simp only [wop] at hw ⊢
      split at hw
      · obtain ⟨l, h1, h2⟩ := hw; exact ⟨l, h1, h _ h2⟩
      · exact h _ hw
      · exact hw
    | cs t =>
      intro K K' s h hw
      simp only [wop] at hw ⊢
      split at hw
      · exact ⟨fun q => h _ (hw.1 q), fun q => h _ (hw.2 q)⟩
      · exact hw
    | bs d sz ps own =>
      intro K K' s h hw
      simp only [wop] at hw ⊢
      split at hw
      · obtain ⟨h1, h2, h3, h4, h5⟩ := hw
        refine ⟨h1, h2, h3, h4, ?_⟩
        split at h5
        · rename_i e; rw [if_pos e]; exact h _ h5
        · rename_i e; rw [if_neg e]; exact h _ h5
      · exact hw
    | _ =>
      intro K K' s h hw
      simp only [wop] at hw ⊢
      repeat' split at hw
      all_goals first
        | exact hw
        | exact h _ hw
        | exact ⟨hw.1, h _ hw.2⟩
        | exact ⟨hw.1, hw.2.1, h _ hw.2.2⟩
        | exact ⟨hw.1, hw.2.1, hw.2.2.1, h _ hw.2.2.2⟩
        | exact ⟨hw.1, hw.2.1, hw.2.2.1, hw.2.2.2.1, h _ hw.2.2.2.2⟩
  have wops_mono : ∀ (ls : List LOp) (K K' : St → Prop) (s : St), (∀ s, K s → K' s) → wops P ls K s → wops P ls K' s := by
    intro ls
    induction ls with
    | nil => exact fun K K' s h hw => h _ hw
    | cons l ls ih => exact fun K K' s h hw => wop_mono l _ _ s (fun s' q => ih K K' s' h q) hw
  have qwops_mono : ∀ (ls : List LOp) (acc : List AV) (K K' : St → Prop) (s : St), (∀ s, K s → K' s) → qwops P ls acc K s → qwops P ls acc K' s := by
    intro ls
    induction ls with
    | nil => exact fun acc K K' s h hw => h _ hw
    | cons l ls ih =>
      intro acc K K' s h hw
      cases l with
      | al d z => simp only [qwops] at hw ⊢; exact ⟨hw.1, ih _ K K' _ h hw.2⟩
      | _ => simp only [qwops] at hw ⊢; exact ⟨hw.1, wop_mono _ _ _ s (fun s' q => ih _ K K' s' h q) hw.2⟩
  have zw_mono : ∀ (l : LOp) (K K' : St → Prop) (s : St), (∀ s, K s → K' s) → zw P l K s → zw P l K' s := by
    intro l K K' s h hw
    cases l with
    | cm d f xs =>
      obtain ⟨bks, bin, h1, h2, h3, Φ, hC, hk⟩ := hw
      exact ⟨bks, bin, h1, h2, h3, Φ, hC, fun res bout us new q1 q2 => ⟨(hk res bout us new q1 q2).1, h _ (hk res bout us new q1 q2).2⟩⟩
    | bs d sz ps own => exact ⟨hw.1, wop_mono _ _ _ s h hw.2⟩
    | ap d x y sz b => exact ⟨hw.1, wop_mono _ _ _ s h hw.2⟩
    | _ => exact wop_mono _ _ _ s h hw
  have zwops_mono : ∀ (ls : List (Bool × LOp)) (K K' : St → Prop) (s : St), (∀ s, K s → K' s) → zwops P ls K s → zwops P ls K' s := by
    intro ls
    induction ls with
    | nil => exact fun K K' s h hw => h _ hw
    | cons it ls ih =>
      intro K K' s h hw
      obtain ⟨f, l⟩ := it
      cases f with
      | true => exact zw_mono l _ _ s (fun s' q => ih K K' s' h q) hw
      | false => exact ⟨hw.1, hw.2.1, wop_mono l _ _ _ (fun s' q => ⟨q.1, ih K K' _ h q.2⟩) hw.2.2⟩
  intro l
  induction l generalizing K K' with
  | skip => exact fun hw => h _ _ hw
  | rz items tl => exact fun hw => zwops_mono _ _ _ _ (fun s' q => wops_mono _ _ _ _ (fun s' q => h _ _ q) q) hw
  | reg ls => exact fun hw => wops_mono ls _ _ _ (fun s' q => h _ _ q) hw
  | rq m ls => exact fun hw => qwops_mono _ _ _ _ _ (fun s' q => wops_mono _ _ _ _ (fun s' q => h _ _ q) q) hw
  | seq x y ihx ihy =>
    intro s hw
    simp only [den] at hw ⊢
    refine ihx (fun e s' q => ?_) hw
    cases e with
    | nrm => exact ihy h q
    | _ => exact h _ _ q
  | cond c x y ihx ihy =>
    intro s hw
    simp only [den] at hw ⊢
    split at hw
    · exact ⟨fun q => ihx h (hw.1 q), fun q => ihy h (hw.2 q)⟩
    · exact hw
  | blk id x ih =>
    intro s hw
    simp only [den] at hw ⊢
    refine ih (fun e s' q => ?_) hw
    cases e with
    | ext id' => simp only at q ⊢; split <;> rename_i e <;> simp only [e, if_true, if_false] at q <;> exact h _ _ q
    | _ => exact h _ _ q
  | loop x ih =>
    intro s hw
    simp only [den] at hw ⊢
    obtain ⟨I, n, h0, hr⟩ := hw
    refine ⟨I, n, h0, fun m s' hI => ih (fun e s'' q => ?_) (hr m s' hI)⟩
    cases e with
    | nrm => exact q
    | _ => exact h _ _ q
  | exit id => exact fun hw => h _ _ hw
  | ret => exact fun hw => h _ _ hw
  | scope x ih => exact fun hw => ih h hw

@[simp] theorem W_nil : W P R [] s = R .nrm s := _root_.id rfl
@[simp] theorem W_skip : W P R (.l .skip :: k) s = W P R k s := _root_.id rfl
@[simp] theorem W_reg {ls : List LOp} : W P R (.l (.reg ls) :: k) s = wops P ls (W P R k) s := _root_.id rfl
@[simp] theorem W_rq {m : Nat} {ls : List LOp} : W P R (.l (.rq m ls) :: k) s = qwops P (ls.take m) [] (wops P (ls.drop m) (W P R k)) (s.kills (alKeys (ls.take m))) := _root_.id rfl
@[simp] theorem W_rz {items : List ZI} {tl : List LOp} : W P R (.l (.rz items tl) :: k) s = zwops P (items.map Prod.snd) (wops P tl (W P R k)) s := _root_.id rfl
@[simp] theorem W_seq {x y : L} : W P R (.l (.seq x y) :: k) s = W P R (.l x :: .l y :: k) s := by
  show den P x _ s = den P x _ s
  congr 1
@[simp] theorem W_cond {c : X} {x y : L} : W P R (.l (.cond c x y) :: k) s = match s.get c with
    | .bool t => (t = true → W P R (.l x :: k) s) ∧ (t = false → W P R (.l y :: k) s)
    | _ => False := _root_.id rfl
@[simp] theorem W_blk {id : Nat} {x : L} : W P R (.l (.blk id x) :: k) s = W P R (.l x :: .mk id :: k) s := by
  show den P x _ s = den P x _ s
  congr 1
@[simp] theorem W_scope {x : L} : W P R (.l (.scope x) :: k) s = W P R (.l x :: k) s := _root_.id rfl
@[simp] theorem W_exit {id : Nat} : W P R (.l (.exit id) :: k) s = denK P R k (.ext id) s := _root_.id rfl
@[simp] theorem W_ret : W P R (.l .ret :: k) s = denK P R k .ret s := _root_.id rfl
@[simp] theorem W_mk {id : Nat} : W P R (.mk id :: k) s = W P R k s := _root_.id rfl
@[simp] theorem W_lp {I : Nat → St → Prop} {m : Nat} : W P R (.lp I m :: k) s = ∃ m', m' < m ∧ I m' s := _root_.id rfl
@[simp] theorem W_jn {J : St → Prop} : W P R (.jn J :: k) s = J s := _root_.id rfl
@[simp] theorem denK_nil {e : Ex} : denK P R [] e s = R e s := _root_.id rfl
@[simp] theorem denK_l_ext {c : L} {id : Nat} : denK P R (.l c :: k) (.ext id) s = denK P R k (.ext id) s := _root_.id rfl
@[simp] theorem denK_l_ret {c : L} : denK P R (.l c :: k) .ret s = denK P R k .ret s := _root_.id rfl
@[simp] theorem denK_mk_ext {id id' : Nat} : denK P R (.mk id :: k) (.ext id') s = if id' = id then W P R k s else denK P R k (.ext id') s := _root_.id rfl
@[simp] theorem denK_mk_ret {id : Nat} : denK P R (.mk id :: k) .ret s = denK P R k .ret s := _root_.id rfl
@[simp] theorem denK_lp_ext {I : Nat → St → Prop} {m id : Nat} : denK P R (.lp I m :: k) (.ext id) s = denK P R k (.ext id) s := _root_.id rfl
@[simp] theorem denK_lp_ret {I : Nat → St → Prop} {m : Nat} : denK P R (.lp I m :: k) .ret s = denK P R k .ret s := _root_.id rfl
@[simp] theorem denK_jn_ext {J : St → Prop} {id : Nat} : denK P R (.jn J :: k) (.ext id) s = denK P R k (.ext id) s := _root_.id rfl
@[simp] theorem denK_jn_ret {J : St → Prop} : denK P R (.jn J :: k) .ret s = denK P R k .ret s := _root_.id rfl

/-- A LOOP: an invariant with a measure. -/
theorem W_loop {x : L} (I : Nat → St → Prop) (n : Nat) (h0 : I n s) (h : ∀ m s', I m s' → W P R (.l x :: .lp I m :: k) s') : W P R (.l (.loop x) :: k) s := by
  refine ⟨I, n, h0, fun m s' hI => ?_⟩
  refine den_mono (fun e s'' q => ?_) (h m s' hI)
  cases e <;> exact q

/-- TWO BRANCHES JOIN: what holds behind the code c. -/
theorem W_join {c : L} (J : St → Prop) (h1 : W P R (.l c :: .jn J :: k) s) (h2 : ∀ s', J s' → W P R k s') : W P R (.l c :: k) s := by
  refine den_mono (fun e s'' q => ?_) h1
  cases e with
  | nrm => exact h2 _ q
  | _ => exact q

theorem den_W {l : L} (h : W P R [.l l] s) : den P l R s := by
  refine den_mono (fun e s'' q => ?_) h
  cases e <;> exact q

@[simp] theorem wops_nil {K : St → Prop} : wops P [] K s = K s := _root_.id rfl
@[simp] theorem wops_cons {K : St → Prop} {l : LOp} {ls : List LOp} : wops P (l :: ls) K s = wop P l (wops P ls K) s := _root_.id rfl

@[simp] theorem wop_g_hit {t : Nat} {want : Bool} {o : LOp} {K : St → Prop} (h : s.e t = .bool want) : wop P (.g t want o) K s = wop P o K s := by simp [wop, h]
@[simp] theorem wop_g_t {t : Nat} {o : LOp} {K : St → Prop} (h : s.e t = .bool false) : wop P (.g t true o) K s = K (s.set o.dst .und) := by simp [wop, h]
@[simp] theorem wop_g_f {t : Nat} {o : LOp} {K : St → Prop} (h : s.e t = .bool true) : wop P (.g t false o) K s = K (s.set o.dst .und) := by simp [wop, h]
@[simp] theorem wop_g_und {t : Nat} {want : Bool} {o : LOp} {K : St → Prop} (h : s.e t = .und) : wop P (.g t want o) K s = K (s.set o.dst .und) := by simp [wop, h]
@[simp] theorem isAl_mv {a0 : Nat} {a1 : X} : isAl (.mv a0 a1) = false := _root_.id rfl
@[simp] theorem isAl_pk {a0 : Nat} {a1 : X} {a2 : X} {a3 : X} : isAl (.pk a0 a1 a2 a3) = false := _root_.id rfl
@[simp] theorem isAl_un {a0 : Nat} {a1 : X} : isAl (.un a0 a1) = false := _root_.id rfl
@[simp] theorem isAl_bi {a0 : Nat} {a1 : BinOp} {a2 : X} {a3 : X} : isAl (.bi a0 a1 a2 a3) = false := _root_.id rfl
@[simp] theorem isAl_eb {a0 : Nat} {a1 : Bool} {a2 : X} {a3 : X} : isAl (.eb a0 a1 a2 a3) = false := _root_.id rfl
@[simp] theorem isAl_es {a0 : Nat} {a1 : Bool} {a2 : List Nat} {a3 : X} {a4 : X} : isAl (.es a0 a1 a2 a3 a4) = false := _root_.id rfl
@[simp] theorem isAl_sa {a0 : Nat} {a1 : X} {a2 : X} : isAl (.sa a0 a1 a2) = false := _root_.id rfl
@[simp] theorem isAl_cv {a0 : Nat} {a1 : IntKind} {a2 : X} : isAl (.cv a0 a1 a2) = false := _root_.id rfl
@[simp] theorem isAl_fa {a0 : Nat} {a1 : X} {a2 : Nat} : isAl (.fa a0 a1 a2) = false := _root_.id rfl
@[simp] theorem isAl_ia {a0 : Nat} {a1 : X} {a2 : X} {a3 : Nat} : isAl (.ia a0 a1 a2 a3) = false := _root_.id rfl
@[simp] theorem isAl_ix {a0 : Nat} {a1 : X} {a2 : X} : isAl (.ix a0 a1 a2) = false := _root_.id rfl
@[simp] theorem isAl_ld {a0 : Nat} {a1 : X} {a2 : Nat} {a3 : Bool} : isAl (.ld a0 a1 a2 a3) = false := _root_.id rfl
@[simp] theorem isAl_st {a0 : X} {a1 : X} {a2 : Nat} : isAl (.st a0 a1 a2) = false := _root_.id rfl
@[simp] theorem isAl_bx {a0 : Nat} {a1 : X} : isAl (.bx a0 a1) = false := _root_.id rfl
@[simp] theorem isAl_bd {a0 : Nat} {a1 : List AV} {a2 : List (Nat × Nat × X)} : isAl (.bd a0 a1 a2) = false := _root_.id rfl
@[simp] theorem isAl_bs {a0 : Nat} {a1 : Nat} {a2 : List X} {a3 : Bool} : isAl (.bs a0 a1 a2 a3) = false := _root_.id rfl
@[simp] theorem isAl_ms {a0 : Nat} {a1 : Nat} {a2 : Nat} {a3 : List AV} {a4 : X} : isAl (.ms a0 a1 a2 a3 a4) = false := _root_.id rfl
@[simp] theorem isAl_ln {a0 : Nat} {a1 : X} : isAl (.ln a0 a1) = false := _root_.id rfl
@[simp] theorem isAl_ls {a0 : Nat} {a1 : X} : isAl (.ls a0 a1) = false := _root_.id rfl
@[simp] theorem isAl_ap {a0 : Nat} {a1 : X} {a2 : X} {a3 : Nat} {a4 : Nat} : isAl (.ap a0 a1 a2 a3 a4) = false := _root_.id rfl
@[simp] theorem isAl_sc {a0 : Nat} {a1 : X} {a2 : Option X} {a3 : Option X} {a4 : Nat} : isAl (.sc a0 a1 a2 a3 a4) = false := _root_.id rfl
@[simp] theorem isAl_ss {a0 : Nat} {a1 : X} {a2 : Option X} {a3 : Option X} : isAl (.ss a0 a1 a2 a3) = false := _root_.id rfl
@[simp] theorem isAl_ex {a0 : Nat} {a1 : X} {a2 : Nat} : isAl (.ex a0 a1 a2) = false := _root_.id rfl
@[simp] theorem isAl_fd {a0 : Nat} {a1 : X} {a2 : Nat} {a3 : Nat} {a4 : Bool} : isAl (.fd a0 a1 a2 a3 a4) = false := _root_.id rfl
@[simp] theorem isAl_nc {a0 : Nat} {a1 : X} : isAl (.nc a0 a1) = false := _root_.id rfl
@[simp] theorem isAl_mm {a0 : Nat} {a1 : Bool} {a2 : X} {a3 : X} : isAl (.mm a0 a1 a2 a3) = false := _root_.id rfl
@[simp] theorem isAl_b2s {a0 : Nat} {a1 : X} : isAl (.b2s a0 a1) = false := _root_.id rfl
@[simp] theorem isAl_s2b {a0 : Nat} {a1 : X} : isAl (.s2b a0 a1) = false := _root_.id rfl
@[simp] theorem isAl_mf {a0 : Nat} {a1 : Nat} {a2 : List X} : isAl (.mf a0 a1 a2) = false := _root_.id rfl
@[simp] theorem isAl_cl {a0 : Nat} {a1 : Nat} {a2 : List X} : isAl (.cl a0 a1 a2) = false := _root_.id rfl
@[simp] theorem isAl_cq {a0 : Nat} {a1 : Nat} {a2 : List X} : isAl (.cq a0 a1 a2) = false := _root_.id rfl
@[simp] theorem isAl_cc {a0 : Nat} {a1 : X} {a2 : List X} : isAl (.cc a0 a1 a2) = false := _root_.id rfl
@[simp] theorem isAl_cm {a0 : Nat} {a1 : Nat} {a2 : List X} : isAl (.cm a0 a1 a2) = false := _root_.id rfl
@[simp] theorem isAl_g {a0 : Nat} {a1 : Bool} {a2 : LOp} : isAl (.g a0 a1 a2) = false := _root_.id rfl
@[simp] theorem isAl_cs {a0 : Nat} : isAl (.cs a0) = false := _root_.id rfl
@[simp] theorem isAl_lq {a0 : Nat} {a1 : X} : isAl (.lq a0 a1) = false := _root_.id rfl
@[simp] theorem isAl_cn {a0 a1 : Nat} {a2 : List X} : isAl (.cn a0 a1 a2) = false := _root_.id rfl
@[simp] theorem isAl_fb {a0 : Nat} : isAl (.fb a0) = false := _root_.id rfl
@[simp] theorem isAl_fz {a0 : Nat} : isAl (.fz a0) = false := _root_.id rfl
def qnext (P : Program) (d : Nat) (ls : List LOp) (acc : List AV) (K : St → Prop) (s' : St) : Prop := qwops P ls (s'.e d :: acc) K s'
@[simp] theorem qnext_ap {d : Nat} {ls : List LOp} {acc : List AV} {K : St → Prop} : qnext P d ls acc K s = qwops P ls (s.e d :: acc) K s := _root_.id rfl
@[simp] theorem qwops_nil {acc : List AV} {K : St → Prop} : qwops P [] acc K s = K s := _root_.id rfl
@[simp] theorem qwops_al {d : Nat} {z : List AV} {ls : List LOp} {acc : List AV} {K : St → Prop} : qwops P (.al d z :: ls) acc K s = ((∀ v ∈ acc, v.dead d = v) ∧ qwops P ls (.ptr d 0 :: deadL d z ++ acc) K (alSt s d z)) := _root_.id rfl
@[simp] theorem qwops_cons {l : LOp} {ls : List LOp} {acc : List AV} {K : St → Prop} (h : isAl l = false) : qwops P (l :: ls) acc K s = (scOk s l ∧ wop P l (qnext P l.dst ls acc K) s) := by
  cases l <;> first | rfl | simp [isAl] at h
def znext (P : Program) (d : Nat) (r : List (Bool × LOp)) (K : St → Prop) (s s' : St) : Prop := (s'.e d).kf (bO s) = true ∧ zwops P r K (s.set d (s'.e d))
@[simp] theorem znext_ap {d : Nat} {r : List (Bool × LOp)} {K : St → Prop} {s' : St} : znext P d r K s s' = ((s'.e d).kf (bO s) = true ∧ zwops P r K (s.set d (s'.e d))) := _root_.id rfl
@[simp] theorem zwops_nil {K : St → Prop} : zwops P [] K s = K s := _root_.id rfl
@[simp] theorem zwops_p {l : LOp} {r : List (Bool × LOp)} {K : St → Prop} : zwops P ((false, l) :: r) K s = ((∀ t ∈ l.rds, (s.e t).kf (bO s) = true) ∧ scOk s.strip l ∧ wop P l (znext P l.dst r K s) s.strip) := _root_.id rfl
@[simp] theorem zwops_e {l : LOp} {r : List (Bool × LOp)} {K : St → Prop} : zwops P ((true, l) :: r) K s = zw P l (zwops P r K) s := _root_.id rfl
@[simp] theorem zw_bs {d sz : Nat} {ps : List X} {own : Bool} {K : St → Prop} : zw P (.bs d sz ps own) K s = (s.bx d = none ∧ wop P (.bs d sz ps own) K s) := _root_.id rfl
@[simp] theorem zw_ap {d : Nat} {x y : X} {sz b : Nat} {K : St → Prop} : zw P (.ap d x y sz b) K s = ((match s.get x with | .sref k => s.bx k = none | _ => s.bx d = none) ∧ wop P (.ap d x y sz b) K s) := _root_.id rfl
@[simp] theorem zw_mv {d : Nat} {x : X} {K : St → Prop} : zw P (.mv d x) K s = wop P (.mv d x) K s := _root_.id rfl
@[simp] theorem zw_ex {d : Nat} {x : X} {i : Nat} {K : St → Prop} : zw P (.ex d x i) K s = wop P (.ex d x i) K s := _root_.id rfl
theorem strip_eta : s.strip.e = s.e := _root_.id rfl
@[simp] theorem e_strip (i : Nat) : s.strip.e i = s.e i := _root_.id rfl
@[simp] theorem rw_strip (i : Nat) : s.strip.rw i = none := _root_.id rfl
theorem bx_strip {i : Nat} {cs : List AV} (hi : i < 1000000000) (h : s.bx i = some cs) (hf : kfL (bO s) cs = true) : s.strip.bx i = some cs := by
  simp only [St.strip, if_pos hi, h, hf, if_true]
theorem do_cn {d f : Nat} {xs : List X} {K : St → Prop} {as : List AV} {Ψ : List AV → Prop} (hs : SndB P f as Ψ) (ha : s.args xs = some as) (hn : (xs.map s.get).all nosr = true)
    (h : ∀ cs, Ψ cs → K (St.set { s.kill d with bx := fun j => if j = d then some (deadL d cs) else (s.kill d).bx j } d (.ptr d 0))) : wop P (.cn d f xs) K s :=
  ⟨as, ha, hn, Ψ, hs, h⟩
@[simp] theorem bx_strip' {i : Nat} : s.strip.bx i = if i < 1000000000 then (match s.bx i with | some cs => if kfL (bO s) cs = true then some cs else none | none => none) else none := _root_.id rfl
/-- A call that is handed boxes, in a region whose order is drawn. -/
theorem do_zm {d f : Nat} {xs : List X} {K : St → Prop} (bks : List Nat) {bin : List (List AV)} {Φ : AV → List (List AV) → List (Option (List AV)) → List Row → Prop}
    (h1 : ∀ k ∈ bks, 1000000000 ≤ k) (h2 : nodupB bks = true) (h3 : atBoxes s (ix bks) (ix []) bks bin) (hC : Con P f (xs.map fun x => ((s.get x).mp (ix bks) (ix [])).rdt) bin [] Φ)
    (h : ∀ res bout us new, bout.map List.length = bin.map List.length → Φ res bout us new → new = [] ∧ K (afterM s d bks [] res bout [] [])) : zw P (.cm d f xs) K s :=
  ⟨bks, bin, h1, nodupB_ok h2, h3, Φ, hC, h⟩
theorem do_cc {d f : Nat} {fx : X} {xs : List X} {K : St → Prop} {cap as : List AV} {res : AV} {rows : List Row} (hs : Snd P f (as ++ cap) res rows) (ha : s.args (fx :: xs) = some (.fn f cap :: as)) (hf : isFn P f = true)
    (h : K (s.set d (res.nwd rows))) : wop P (.cc d fx xs) K s :=
  ⟨_, ha, f, cap, as, rfl, hf, res, rows, hs, h⟩

@[simp] theorem get_t (i : Nat) : s.get (.t i) = s.e i := rfl
@[simp] theorem get_c (a : AV) : s.get (.c a) = a := rfl
@[simp] theorem e_set (d i : Nat) (v : AV) : (s.set d v).e i = if i = d then v else s.e i := rfl
@[simp] theorem bx_set (d : Nat) (v : AV) : (s.set d v).bx = s.bx := rfl
@[simp] theorem rw_set (d : Nat) (v : AV) : (s.set d v).rw = s.rw := rfl
@[simp] theorem e_kill (d i : Nat) : (s.kill d).e i = (s.e i).dead d := rfl
@[simp] theorem bx_kill (d i : Nat) : (s.kill d).bx i = if i = d then none else (s.bx i).map (deadL d) := rfl
@[simp] theorem rw_kill (d i : Nat) : (s.kill d).rw i = if i = d then none else s.rw i := rfl
@[simp] theorem e_st0 (l : List AV) (i : Nat) : (st0 l).e i = l.getD i .und := rfl
@[simp] theorem bx_st0 (l : List AV) (i : Nat) : (st0 l).bx i = none := rfl
@[simp] theorem rw_st0 (l : List AV) (i : Nat) : (st0 l).rw i = none := rfl

section wks
variable {p : Nat → Prop}
@[simp] theorem wk1_refl (a : AV) : AV.wk1 p a a ↔ True := by cases a <;> simp [AV.wk1]
@[simp] theorem wk1_nl_sl (t : Tag) (sz : Nat) (es : List AV) : AV.wk1 p .nl (.sl t sz es) ↔ es = [] := Iff.rfl
@[simp] theorem wk1_nl_sref (i : Nat) : AV.wk1 p .nl (.sref i) ↔ p i := Iff.rfl
@[simp] theorem wk1_bool (b : Bool) (x : AV) : AV.wk1 p (.bool b) x ↔ .bool b = x := by simp [AV.wk1]
@[simp] theorem wk1_int (k : IntKind) (n : Int) (x : AV) : AV.wk1 p (.int k n) x ↔ .int k n = x := by simp [AV.wk1]
@[simp] theorem wk1_str (l : List UInt8) (x : AV) : AV.wk1 p (.str l) x ↔ .str l = x := by simp [AV.wk1]
@[simp] theorem wk1_sl (t : Tag) (sz : Nat) (es : List AV) (x : AV) : AV.wk1 p (.sl t sz es) x ↔ .sl t sz es = x := by simp [AV.wk1]
@[simp] theorem wk1_sref (k : Nat) (x : AV) : AV.wk1 p (.sref k) x ↔ .sref k = x := by simp [AV.wk1]
@[simp] theorem wk1_fn (f : Nat) (cs : List AV) (x : AV) : AV.wk1 p (.fn f cs) x ↔ .fn f cs = x := by simp [AV.wk1]
@[simp] theorem wk1_agg (cs : List AV) (x : AV) : AV.wk1 p (.agg cs) x ↔ .agg cs = x := by simp [AV.wk1]
theorem wkLs_refl {R : AV → AV → Prop} (h : ∀ a, R a a) : ∀ l, wkLs R l l
  | [] => trivial
  | a :: l => ⟨h a, wkLs_refl h l⟩
@[simp] theorem wkA_refl (a : AV) : AV.wkA p a a ↔ True := by
  cases a <;> simp only [AV.wkA, wk1_refl]
  rename_i cs; simpa using wkLs_refl (fun a => (wk1_refl (p := p) a).2 trivial) cs
@[simp] theorem wkA_agg (cs ds : List AV) : AV.wkA p (.agg cs) (.agg ds) ↔ wkLs (AV.wk1 p) cs ds := Iff.rfl
@[simp] theorem wkA_nl (x : AV) : AV.wkA p .nl x ↔ AV.wk1 p .nl x := by cases x <;> rfl
@[simp] theorem wkA_bool (b : Bool) (x : AV) : AV.wkA p (.bool b) x ↔ .bool b = x := by simp [AV.wkA]
@[simp] theorem wkA_int (k : IntKind) (n : Int) (x : AV) : AV.wkA p (.int k n) x ↔ .int k n = x := by simp [AV.wkA]
@[simp] theorem wkA_str (l : List UInt8) (x : AV) : AV.wkA p (.str l) x ↔ .str l = x := by simp [AV.wkA]
@[simp] theorem wkA_sl (t : Tag) (sz : Nat) (es : List AV) (x : AV) : AV.wkA p (.sl t sz es) x ↔ .sl t sz es = x := by simp [AV.wkA]
@[simp] theorem wkA_sref (k : Nat) (x : AV) : AV.wkA p (.sref k) x ↔ .sref k = x := by simp [AV.wkA]
@[simp] theorem wkA_fn (f : Nat) (cs : List AV) (x : AV) : AV.wkA p (.fn f cs) x ↔ .fn f cs = x := by simp [AV.wkA]
@[simp] theorem wk_refl (a : AV) : AV.wk p a a ↔ True := by
  cases a <;> simp only [AV.wk, wkA_refl]
  rename_i cs; simpa using wkLs_refl (fun a => (wkA_refl (p := p) a).2 trivial) cs
@[simp] theorem wk_tup (cs ds : List AV) : AV.wk p (.tup cs) (.tup ds) ↔ wkLs (AV.wkA p) cs ds := Iff.rfl
@[simp] theorem wk_agg (cs : List AV) (x : AV) : AV.wk p (.agg cs) x ↔ AV.wkA p (.agg cs) x := by cases x <;> rfl
@[simp] theorem wk_nl (x : AV) : AV.wk p .nl x ↔ AV.wk1 p .nl x := by cases x <;> rfl
@[simp] theorem wk_bool (b : Bool) (x : AV) : AV.wk p (.bool b) x ↔ .bool b = x := by simp [AV.wk]
@[simp] theorem wk_int (k : IntKind) (n : Int) (x : AV) : AV.wk p (.int k n) x ↔ .int k n = x := by simp [AV.wk]
@[simp] theorem wk_str (l : List UInt8) (x : AV) : AV.wk p (.str l) x ↔ .str l = x := by simp [AV.wk]
@[simp] theorem wk_sl (t : Tag) (sz : Nat) (es : List AV) (x : AV) : AV.wk p (.sl t sz es) x ↔ .sl t sz es = x := by simp [AV.wk]
@[simp] theorem wk_sref (k : Nat) (x : AV) : AV.wk p (.sref k) x ↔ .sref k = x := by simp [AV.wk]
@[simp] theorem wk_fn (f : Nat) (cs : List AV) (x : AV) : AV.wk p (.fn f cs) x ↔ .fn f cs = x := by simp [AV.wk]
attribute [simp] wkLs
end wks
def argsW (s : St) (xs : List X) (as : List AV) : Prop := match s.args xs with | some l => wkLs (AV.wkA fun _ => False) l as | none => False
attribute [simp] argsW
theorem argsW_ok {xs : List X} {as : List AV} {f : FuncId} {res : AV} {rows : List Row} (h : argsW s xs as) (hs : Snd P f as res rows) : ∃ l, s.args xs = some l ∧ Snd P f l res rows := by
  simp only [argsW] at h
  split at h
  · rename_i l e; exact ⟨l, e, hs.wk h⟩
  · exact h.elim
theorem do_cq {d f : Nat} {xs : List X} {K : St → Prop} {as : List AV} {res : AV} {rows : List Row} (hs : Snd P f as res rows) (ha : argsW s xs as) (h : K (s.set d (res.nwd rows))) : wop P (.cq d f xs) K s := by
  obtain ⟨l, e, hs⟩ := argsW_ok ha hs
  exact ⟨l, e, res, rows, hs, h⟩
theorem do_cl {d f : Nat} {xs : List X} {K : St → Prop} {as : List AV} {res : AV} {rows : List Row} (hs : Snd P f as res rows) (ha : argsW s xs as) (hr : rows.length ≤ 1000)
    (h : K ((s.addrows (1000 * d + 1000) rows).set d (res.ren (1000 * d + 1000) rows.length))) : wop P (.cl d f xs) K s := by
  obtain ⟨l, e, hs⟩ := argsW_ok ha hs
  exact ⟨l, e, res, rows, hs, hr, h⟩

@[simp] theorem post_nil (rs : List Rv) (res : AV) (e : Ex) : post rs res [] e s ↔ (match e with | .ext _ => False | _ => True) ∧ ∃ l, s.rvs rs = some l ∧ AV.wk (fun _ => False) ((resOf l).out []) res ∧ Nw (resOf l) := by
  constructor
  · rintro ⟨h, l, ks, h1, h2, h3, _, h5⟩
    cases ks with
    | nil => exact ⟨h, l, h1, by simpa using h2, h3⟩
    | cons k ks => cases k <;> exact h5.elim
  · rintro ⟨h, l, h1, h2, h3⟩
    exact ⟨h, l, [], h1, by simpa using h2, h3, .nil, trivial⟩

theorem post_retO {rs : List Rv} {res : AV} {rows : List Row} (ks : List (Option Nat)) (h : ∃ l, s.rvs rs = some l ∧ AV.wk (fun i => ks[i]? = some none) ((resOf l).out ks) res ∧ Nw (resOf l) ∧ nodupB (keysO ks) = true ∧ rowsAt s ks rows) : post rs res rows .ret s := by
  obtain ⟨l, h1, h2, h3, h4, h5⟩ := h
  exact ⟨trivial, l, ks, h1, h2, h3, nodupB_ok h4, h5⟩
theorem post_ret {rs : List Rv} {res : AV} {rows : List Row} (ks : List Nat) (h : ∃ l, s.rvs rs = some l ∧ AV.wk (fun i => (ks.map some)[i]? = some none) ((resOf l).out (ks.map some)) res ∧ Nw (resOf l) ∧ nodupB (keysO (ks.map some)) = true ∧ rowsAt s (ks.map some) rows) : post rs res rows .ret s :=
  post_retO _ h

section ev
variable (a b : Int) (x y : List UInt8) (k : IntKind)
@[simp] theorem ev_add : evB .add (.int k a) (.int k b) = some (.int k (k.wrap (a + b))) := by simp [evB]
@[simp] theorem ev_sub : evB .sub (.int k a) (.int k b) = some (.int k (k.wrap (a - b))) := by simp [evB]
@[simp] theorem ev_mul : evB .mul (.int k a) (.int k b) = some (.int k (k.wrap (a * b))) := by simp [evB]
@[simp] theorem ev_and : evB .and (.int k a) (.int k b) = some (.int k (bAnd k a b)) := by simp [evB]
@[simp] theorem ev_xor : evB .xor (.int k a) (.int k b) = some (.int k (bXor k a b)) := by simp [evB]
@[simp] theorem ev_shr (k' : IntKind) : evB .shr (.int k a) (.int k' b) = if 0 ≤ b then some (.int k (bShr k a b)) else none := by simp [evB]
@[simp] theorem ev_quo : evB .quo (.int k a) (.int k b) = if b ≠ 0 then some (.int k (k.wrap (a.tdiv b))) else none := by simp [evB]
@[simp] theorem ev_rem : evB .rem (.int k a) (.int k b) = if b ≠ 0 then some (.int k (a.tmod b)) else none := by simp [evB]
@[simp] theorem ev_eql : evB .eql (.int k a) (.int k b) = some (.bool (decide (a = b))) := by simp [evB]; exact (Bool.beq_eq_decide_eq a b)
@[simp] theorem ev_neq : evB .neq (.int k a) (.int k b) = some (.bool (!decide (a = b))) := by
  simp only [evB, if_true, bne, Option.some.injEq, AV.bool.injEq]
  rw [Bool.beq_eq_decide_eq a b]
@[simp] theorem ev_lss : evB .lss (.int k a) (.int k b) = some (.bool (decide (a < b))) := by simp [evB]
@[simp] theorem ev_leq : evB .leq (.int k a) (.int k b) = some (.bool (decide (a ≤ b))) := by simp [evB]
@[simp] theorem ev_gtr : evB .gtr (.int k a) (.int k b) = some (.bool (decide (b < a))) := by simp [evB]
@[simp] theorem ev_geq : evB .geq (.int k a) (.int k b) = some (.bool (decide (b ≤ a))) := by simp [evB]
@[simp] theorem ev_seql : evB .eql (.str x) (.str y) = some (.bool (decide (x = y))) := by
  simp only [evB, Option.some.injEq, AV.bool.injEq]
  rw [Bool.beq_eq_decide_eq x y]
@[simp] theorem ev_sneq : evB .neq (.str x) (.str y) = some (.bool (!decide (x = y))) := by
  simp only [evB, bne, Option.some.injEq, AV.bool.injEq]
  rw [Bool.beq_eq_decide_eq x y]
@[simp] theorem ev_slss : evB .lss (.str x) (.str y) = some (.bool (Op.bytesLess x y)) := by simp [evB]
@[simp] theorem ev_sgtr : evB .gtr (.str x) (.str y) = some (.bool (!(Op.bytesLess x y || x == y))) := by simp [evB]
@[simp] theorem ev_sleq : evB .leq (.str x) (.str y) = some (.bool (Op.bytesLess x y || x == y)) := by simp [evB]
@[simp] theorem ev_sgeq : evB .geq (.str x) (.str y) = some (.bool (!(Op.bytesLess x y))) := by simp [evB]
end ev

@[simp] theorem isIdx_nat (k : IntKind) (i n : Nat) : isIdx (.int k (i : Int)) n = if i < n then some i else none := by
  simp only [isIdx]
  by_cases h : i < n
  · rw [if_pos ⟨by omega, by omega⟩, if_pos h]; simp
  · rw [if_neg (by omega), if_neg h]
theorem isIdx_int (k : IntKind) {i : Int} {n : Nat} (h0 : 0 ≤ i) (h1 : i < n) : isIdx (.int k i) n = some i.toNat := by
  simp only [isIdx]; rw [if_pos ⟨h0, h1⟩]
@[simp] theorem isBnd_nat (k : IntKind) (i n : Nat) : isBnd (.int k (i : Int)) n = if i ≤ n then some i else none := by
  simp only [isBnd]
  by_cases h : i ≤ n
  · rw [if_pos ⟨by omega, by omega⟩, if_pos h]; simp
  · rw [if_neg (by omega), if_neg h]
theorem isBnd_int (k : IntKind) {i : Int} {n : Nat} (h0 : 0 ≤ i) (h1 : i ≤ n) : isBnd (.int k i) n = some i.toNat := by
  simp only [isBnd]; rw [if_pos ⟨h0, h1⟩]

theorem wrap_id {n : Int} (h0 : -9223372036854775808 ≤ n) (h1 : n ≤ 9223372036854775807) : IntKind.i64.wrap n = n := by
  unfold IntKind.wrap
  simp [IntKind.bits, IntKind.signed]
  omega
@[simp] theorem wrap_succ {i n : Nat} (h : i < n) (hn : n ≤ 9223372036854775807) : IntKind.i64.wrap ((i : Int) + 1) = ((i + 1 : Nat) : Int) := by
  rw [wrap_id (by omega) (by omega)]; simp

end
attribute [simp] wop.eq_1 wop.eq_2 wop.eq_3 wop.eq_4 wop.eq_5 wop.eq_6 wop.eq_7 wop.eq_8 wop.eq_9 wop.eq_10 wop.eq_11 wop.eq_12 wop.eq_13 wop.eq_14 wop.eq_15 wop.eq_16 wop.eq_17 wop.eq_18 wop.eq_19 wop.eq_20 wop.eq_21 wop.eq_22 wop.eq_23 wop.eq_24 wop.eq_25 wop.eq_26 wop.eq_27 wop.eq_28 wop.eq_29 wop.eq_30 wop.eq_36 wop.eq_37
attribute [simp] LOp.dst scOk norow alSt LOp.rds X.rd rdO AV.kf kfL bO
attribute [simp] AV.nwd nwdL AV.ren renL St.addrows resOf ix nodupB
attribute [simp] ixO keysO
attribute [simp] St.rvs St.rv1 resOf AV.out outL Nw NwL rowsAt St.ld pickC allOne AV.one AV.cells deadL AV.dead AV.rdt rdtL St.dt St.dtL buildC putC nosr plain St.kills alKeys
end Go.Proofs.Ythbbieobcokgbaa.Eng
