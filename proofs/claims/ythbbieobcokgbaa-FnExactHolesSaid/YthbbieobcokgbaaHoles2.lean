/-
  Holes, of the specification and of the program.
-/
import Derived.Test.YthbbieobcokgbaaProfLaw
import Derived.Test.YthbbieobcokgbaaMeet
namespace Go.Proofs.Ythbbieobcokgbaa
open Go Go.RowKit Eng
/-- From time to time. -/
def holesS (v : Vec) (l : List Pt) (a b : Int) : List Int → List Hole → List Hole
  | t :: t' :: r, out => holesS v l a b (t' :: r) (if a ≤ t ∧ t < b ∧ vecFits v (profAt l t) = true then addH out ⟨t, t'⟩ else out)
  | _, out => out
def endOf (b : Int) : List Pt → Int
  | [] => b
  | y :: _ => min b y.t
/-- From point to point. -/
def holesI (v : Vec) (a b : Int) : List Pt → List Hole → List Hole
  | [], out => out
  | x :: r, out => holesI v a b r (if max a x.t < endOf b r ∧ vecFits v x.free = true then addH out ⟨max a x.t, endOf b r⟩ else out)
def holesOf (l : List Pt) (v : Vec) (a b : Int) : List Hole := if profOk l = true ∧ span a b = true ∧ vecOk v = true then holesI v a b l [] else []
theorem addH_len (l : List Hole) (h : Hole) : (addH l h).length ≤ l.length + 1 := by
  unfold addH; split
  · split <;> simp <;> omega
  · simp
theorem holesI_len (v : Vec) (a b : Int) : ∀ (l : List Pt) (out : List Hole), (holesI v a b l out).length ≤ out.length + l.length
  | [], out => by simp [holesI]
  | x :: r, out => by
    have := holesI_len v a b r (if max a x.t < endOf b r ∧ vecFits v x.free = true then addH out ⟨max a x.t, endOf b r⟩ else out)
    have h2 := addH_len out ⟨max a x.t, endOf b r⟩
    rw [holesI, List.length_cons]
    generalize hg : (if max a x.t < endOf b r ∧ vecFits v x.free = true then addH out ⟨max a x.t, endOf b r⟩ else out) = o at this ⊢
    have h3 : o.length ≤ out.length + 1 := by
      rw [← hg]; split
      · exact h2
      · omega
    omega
theorem holesOf_len (l : List Pt) (v : Vec) (a b : Int) : (holesOf l v a b).length ≤ l.length := by
  unfold holesOf; split
  · simpa using holesI_len v a b l []
  · simp
/-- Behind b nothing is added. -/
theorem holesI_behind {v : Vec} {a b : Int} : ∀ {l : List Pt} (out : List Hole), (∀ x ∈ l, b ≤ x.t) → holesI v a b l out = out
  | [], out, _ => rfl
  | x :: r, out, h => by
    have hx := h x (by simp)
    have he : endOf b r ≤ b := by cases r <;> simp only [endOf] <;> omega
    rw [holesI, if_neg (fun q => by omega), holesI_behind out fun y hy => h y (by simp [hy])]
theorem holesS_ahead {v : Vec} {l : List Pt} {a b : Int} (t : Int) (r : List Int) (out : List Hole) : ∀ (L : List Int), (∀ x ∈ L, x < a) → holesS v l a b (L ++ t :: r) out = holesS v l a b (t :: r) out
  | [], _ => rfl
  | [x], h => by
    have := h x (by simp)
    show holesS v l a b (x :: t :: r) out = _
    rw [holesS, if_neg (fun q => by omega)]
  | x :: y :: L, h => by
    have := h x (by simp)
    show holesS v l a b (x :: y :: (L ++ t :: r)) out = _
    rw [holesS, if_neg (fun q => by omega)]
    exact holesS_ahead t r out (y :: L) fun z hz => h z (by simp [hz])
theorem holesS_behind {v : Vec} {l : List Pt} {a b : Int} (out : List Hole) : ∀ (L : List Int), (∀ x ∈ L, b ≤ x) → holesS v l a b L out = out
  | [], _ => rfl
  | [x], h => rfl
  | x :: y :: L, h => by
    have := h x (by simp)
    rw [holesS, if_neg (fun q => by omega)]
    exact holesS_behind out (y :: L) fun z hz => h z (by simp [hz])
/-- Inside: from a point on. -/
theorem holes_in {v : Vec} {l : List Pt} {a b : Int} (R : List Int) (hR : ∀ x ∈ R, b < x) : ∀ (s : List Pt) (pre : List Pt) (y : Pt) (out : List Hole), l = pre ++ y :: s → (y :: s).Pairwise ptUp → a < y.t → y.t < b →
    holesS v l a b (y.t :: ((s.map Pt.t).filter (fun x => decide (x < b)) ++ b :: R)) out = holesI v a b (y :: s) out
  | [], pre, y, out, hl, hs, h1, h2 => by
    have hp : profAt l y.t = y.free := profAt_at hl (Int.le_refl _) (fun z hz => by simp at hz)
    show holesS v l a b (y.t :: b :: R) out = _
    rw [holesS, hp, holesS_behind _ _ (by intro x hx; rcases List.mem_cons.1 hx with rfl | hx; exact Int.le_refl _; exact Int.le_of_lt (hR x hx))]
    have hm : max a y.t = y.t := by omega
    have h3 : a ≤ y.t := by omega
    simp only [holesI, endOf, hm, h2, h3, true_and]
  | z :: s, pre, y, out, hl, hs, h1, h2 => by
    rw [List.pairwise_cons] at hs
    have hyz : y.t < z.t := hs.1 z (by simp)
    have hp : profAt l y.t = y.free := profAt_at hl (Int.le_refl _) (fun w hw => hs.1 w hw)
    have hm : max a y.t = y.t := by omega
    have h3 : a ≤ y.t := by omega
    by_cases hz : z.t < b
    · have hz' : min b z.t = z.t := by omega
      rw [List.map_cons, List.filter_cons, if_pos (by simpa using hz), List.cons_append, holesS, hp, holes_in R hR s (pre ++ [y]) z _ (by rw [hl]; simp) hs.2 (by omega) hz]
      show _ = holesI v a b (z :: s) (if max a y.t < min b z.t ∧ vecFits v y.free = true then addH out ⟨max a y.t, min b z.t⟩ else out)
      simp only [hm, hz', hyz, h2, h3, true_and]
    · have hz' : min b z.t = b := by omega
      have hf : ((z :: s).map Pt.t).filter (fun x => decide (x < b)) = [] := List.filter_eq_nil_iff.2 fun w hw => by
        obtain ⟨u, hu, rfl⟩ := List.mem_map.1 hw
        rcases List.mem_cons.1 hu with rfl | hu
        · simpa using hz
        · have : z.t < u.t := (List.pairwise_cons.1 hs.2).1 u hu
          simp; omega
      rw [hf, List.nil_append, holesS, hp, holesS_behind _ _ (by intro x hx; rcases List.mem_cons.1 hx with rfl | hx; exact Int.le_refl _; exact Int.le_of_lt (hR x hx))]
      show _ = holesI v a b (z :: s) (if max a y.t < min b z.t ∧ vecFits v y.free = true then addH out ⟨max a y.t, min b z.t⟩ else out)
      rw [holesI_behind _ fun w hw => by
        rcases List.mem_cons.1 hw with rfl | hw
        · omega
        · have : z.t < w.t := (List.pairwise_cons.1 hs.2).1 w hw
          omega]
      simp only [hm, hz', h2, h3, true_and]
/-- From a point that is not later than a. -/
theorem holes_from {v : Vec} {l : List Pt} {a b : Int} (hab : a < b) (R : List Int) (hR : ∀ x ∈ R, b < x) : ∀ (s : List Pt) (pre : List Pt) (y : Pt) (out : List Hole), l = pre ++ y :: s → (y :: s).Pairwise ptUp → y.t ≤ a →
    holesS v l a b (a :: ((s.map Pt.t).filter (fun x => decide (a < x) && decide (x < b)) ++ b :: R)) out = holesI v a b (y :: s) out
  | [], pre, y, out, hl, hs, h1 => by
    have hp : profAt l a = y.free := profAt_at hl h1 (fun z hz => by simp at hz)
    show holesS v l a b (a :: b :: R) out = _
    rw [holesS, hp, holesS_behind _ _ (by intro x hx; rcases List.mem_cons.1 hx with rfl | hx; exact Int.le_refl _; exact Int.le_of_lt (hR x hx))]
    have hm : max a y.t = a := by omega
    simp only [holesI, endOf, hm, hab, Int.le_refl, true_and]
  | z :: s, pre, y, out, hl, hs, h1 => by
    rw [List.pairwise_cons] at hs
    have hm : max a y.t = a := by omega
    have hgt : ∀ w ∈ s, z.t < w.t := (List.pairwise_cons.1 hs.2).1
    show _ = holesI v a b (z :: s) (if max a y.t < min b z.t ∧ vecFits v y.free = true then addH out ⟨max a y.t, min b z.t⟩ else out)
    by_cases hz : z.t ≤ a
    · rw [List.map_cons, List.filter_cons, if_neg (by simp; omega), holes_from hab R hR s (pre ++ [y]) z out (by rw [hl]; simp) hs.2 hz]
      rw [if_neg (fun q => by omega)]
    · have hp : profAt l a = y.free := profAt_at hl h1 (fun w hw => by
        rcases List.mem_cons.1 hw with rfl | hw
        · omega
        · have := hgt w hw; omega)
      have hf : ((z :: s).map Pt.t).filter (fun x => decide (a < x) && decide (x < b)) = ((z :: s).map Pt.t).filter (fun x => decide (x < b)) := List.filter_congr fun w hw => by
        obtain ⟨u, hu, rfl⟩ := List.mem_map.1 hw
        have : a < u.t := by
          rcases List.mem_cons.1 hu with rfl | hu
          · omega
          · have := hgt u hu; omega
        simp [this]
      rw [hf]
      by_cases hzb : z.t < b
      · have hz' : min b z.t = z.t := by omega
        rw [List.map_cons, List.filter_cons, if_pos (by simpa using hzb), List.cons_append, holesS, hp, holes_in R hR s (pre ++ [y]) z _ (by rw [hl]; simp) hs.2 (by omega) hzb]
        have h4 : a < z.t := by omega
        simp only [hm, hz', hab, h4, Int.le_refl, true_and]
      · have hz' : min b z.t = b := by omega
        have hf2 : ((z :: s).map Pt.t).filter (fun x => decide (x < b)) = [] := List.filter_eq_nil_iff.2 fun w hw => by
          obtain ⟨u, hu, rfl⟩ := List.mem_map.1 hw
          rcases List.mem_cons.1 hu with rfl | hu
          · simpa using hzb
          · have := hgt u hu
            simp; omega
        rw [hf2, List.nil_append, holesS, hp, holesS_behind _ _ (by intro x hx; rcases List.mem_cons.1 hx with rfl | hx; exact Int.le_refl _; exact Int.le_of_lt (hR x hx))]
        rw [holesI_behind _ fun w hw => by
          rcases List.mem_cons.1 hw with rfl | hw
          · omega
          · have := hgt w hw
            omega]
        simp only [hm, hz', hab, Int.le_refl, true_and]
theorem holes_same {v : Vec} {l : List Pt} {a b : Int} (hp : profOk l = true) (hs : span a b = true) : holesS v l a b (profTimes l a b) [] = holesI v a b l [] := by
  obtain ⟨_, ⟨x, r, rfl, h0⟩, _, hup, _⟩ := profOk_iff.1 hp
  have hab : time a = true ∧ a < b := by unfold span at hs; simp at hs; exact ⟨hs.1.1, hs.2⟩
  have ha0 : x.t ≤ a := by have := hab.1; unfold time at this; simp at this; omega
  rw [profTimes_eq hup hab.2, holesS_ahead _ _ _ _ fun y hy => by simpa using (List.mem_filter.1 hy).2]
  have e : ((x :: r).map Pt.t).filter (fun x => decide (a < x) && decide (x < b)) = (r.map Pt.t).filter (fun x => decide (a < x) && decide (x < b)) := by
    rw [List.map_cons, List.filter_cons, if_neg (by simp; omega)]
  rw [e]
  exact holes_from hab.2 _ (fun y hy => by simpa using (List.mem_filter.1 hy).2) r [] x [] rfl hup ha0
theorem step_bound {T : List Int} {b : Int} {i : Nat} (hs : T.Pairwise up) (hb : b ∈ T) (hi : i < T.length) (h : T[i] < b) : i + 1 < T.length := by
  obtain ⟨j, hj, rfl⟩ := List.getElem_of_mem hb
  rcases Nat.lt_trichotomy i j with q | q | q
  · omega
  · subst q; omega
  · have : T[j] < T[i] := List.pairwise_iff_getElem.1 hs j i hj hi q
    omega
def ir_spec_Holes : L :=
  .seq (
  .reg [.bx 4 (.t 0),
    .bx 5 (.t 1),
    .mv 8 (.c (.nl))]) (
  .seq (
  .reg [.bs 15 2 [] true,
    .mv 9 (.t 15)]) (
  .seq (
  .reg [.ld 17 (.t 4) 1 true,
    .mv 18 (.t 2),
    .mv 19 (.t 3),
    .cq 20 F.spec_ProfMin [(.t 17), (.t 18), (.t 19)],
    .mv 16 (.t 20),
    .ex 21 (.t 16) 0,
    .ex 22 (.t 16) 1,
    .al 10 [.int .i64 0, .int .i64 0, .int .i64 0],
    .st (.t 10) (.t 21) 3,
    .mv 11 (.t 22)]) (
  .seq (
  .seq (
  .reg [.mv 23 (.t 11),
    .un 24 (.t 23),
    .mv 25 (.t 24),
    .g 25 false (.ld 26 (.t 5) 3 true),
    .g 25 false (.cq 27 F.spec_VecOk [(.t 26)]),
    .g 25 false (.un 28 (.t 27)),
    .pk 29 (.t 25) (.c (.bool true)) (.t 28)]) (
  .cond (.t 29) (
    .seq (
    .reg [.mv 30 (.t 9),
      .mv 8 (.t 30)]) (
    .ret)) (
    .skip))) (
  .seq (
  .reg [.ld 31 (.t 4) 1 true,
    .mv 32 (.t 2),
    .mv 33 (.t 3),
    .cq 34 F.spec_l03Times [(.t 31), (.t 32), (.t 33)],
    .mv 12 (.t 34)]) (
  .seq (
  .seq (
  .reg [.mv 35 (.t 12),
    .ln 36 (.t 35),
    .mv 37 (.c (.int .i64 0))]) (
  .blk 0 (
    .loop (
      .seq (
      .reg [.bi 38 .lss (.t 37) (.t 36)]) (
      .seq (
      .cond (.t 38) (
        .skip) (
        .exit 0)) (
      .seq (
      .blk 1 (
        .seq (
        .reg [.mv 39 (.t 37),
          .ia 40 (.t 35) (.t 37) 1,
          .ld 41 (.t 40) 1 false,
          .mv 13 (.t 39),
          .mv 14 (.t 41)]) (
        .seq (
        .rq 15 [.mv 42 (.t 14),
          .mv 43 (.t 2),
          .bi 44 .geq (.t 42) (.t 43),
          .mv 45 (.t 44),
          .g 45 true (.mv 46 (.t 14)),
          .g 45 true (.mv 47 (.t 3)),
          .g 45 true (.bi 48 .lss (.t 46) (.t 47)),
          .pk 49 (.t 45) (.t 48) (.c (.bool false)),
          .mv 50 (.t 49),
          .g 50 true (.ld 51 (.t 5) 3 true),
          .g 50 true (.ld 52 (.t 4) 1 true),
          .g 50 true (.mv 53 (.t 14)),
          .g 50 true (.cq 54 F.spec_l03At [(.t 52), (.t 53)]),
          .g 50 true (.cq 55 F.spec_VecFits [(.t 51), (.t 54)]),
          .pk 56 (.t 50) (.t 55) (.c (.bool false))]) (
        .cond (.t 56) (
          .reg [.mv 57 (.t 9),
            .mv 58 (.t 14),
            .mv 59 (.t 12),
            .mv 60 (.t 13),
            .bi 61 .add (.t 60) (.c (.int .i64 1)),
            .ia 62 (.t 59) (.t 61) 1,
            .ld 63 (.t 62) 1 false,
            .bd 64 [.int .i64 0, .int .i64 0] [(0, 1, (.t 58)), (1, 1, (.t 63))],
            .cm 65 F.spec_l23Add [(.t 57), (.t 64)],
            .mv 9 (.t 65)]) (
          .skip))))) (
      .reg [.bi 66 .add (.t 37) (.c (.int .i64 1)),
        .mv 37 (.t 66)]))))))) (
  .seq (
  .reg [.mv 67 (.t 9),
    .mv 8 (.t 67)]) (
  .ret)))))))
def rs_spec_Holes : List Rv := [.t 8]
theorem ck_spec_Holes : chkFn Try.prog F.spec_Holes 4 ir_spec_Holes rs_spec_Holes = true := by kernel_rfl
set_option maxRecDepth 10000 in
theorem spec_Holes_ok (l : List Pt) (v : Vec) (a b : Int) (hl : l.length ≤ 1048576) : Snd Try.prog F.spec_Holes [ePr l, eVec v, .int .i64 a, .int .i64 b] (.sref 0) [⟨2, (holesOf l v a b).map eHole, false⟩] := by
  refine snd_by ck_spec_Holes rfl (by simp) (den_W ?_)
  unfold ir_spec_Holes rs_spec_Holes
  simp
  refine do_cq (spec_ProfMin_ok l a b) (by simp [St.args]) ?_
  cases hp : profOk l
  · simp
    exact post_ret [15] (by simp [holesOf, hp])
  cases hs : span a b
  · simp
    exact post_ret [15] (by simp [holesOf, hs])
  simp
  refine do_cq (spec_VecOk_ok v) (by simp [St.args]) ?_
  cases hv : vecOk v
  · simp
    exact post_ret [15] (by simp [holesOf, hv])
  simp
  have hup := (profOk_iff.1 hp).2.2.2.1
  refine do_cq (l03Times_ok l a b hl) (by simp [St.args]) ?_
  have hT := profTimes_len l a b
  have hTs : (profTimes l a b).Pairwise up := profTimes_up hup
  have hbT : b ∈ profTimes l a b := (mem_profTimes hup).2 (.inl rfl)
  have hsame : holesS v l a b (profTimes l a b) [] = holesOf l v a b := by rw [holes_same hp hs]; simp [holesOf, hp, hs, hv]
  generalize hTe : profTimes l a b = T at hT hTs hbT hsame
  simp
  intro hTl
  refine W_rngJ T.length (fun i s => ∃ k out, (k = 15 ∨ k = 66000) ∧ holesS v l a b (T.drop i) out = holesS v l a b T [] ∧ out.length ≤ i ∧ s.e 2 = .int .i64 a ∧ s.e 3 = .int .i64 b ∧ s.e 9 = .sref k ∧ s.rw k = some ⟨2, out.map eHole, false⟩ ∧
      s.e 4 = .ptr 4 0 ∧ s.bx 4 = some [.sl .rd 4 (l.map ePt)] ∧ s.e 5 = .ptr 5 0 ∧ s.bx 5 = some (eVec v).cells ∧ s.e 12 = .sl .nw 1 (T.map eI) ∧ s.e 35 = .sl .nw 1 (T.map eI) ∧ s.e 36 = .int .i64 T.length ∧ s.e 37 = .int .i64 (i : Nat))
    (fun s => ∃ k, (k = 15 ∨ k = 66000) ∧ s.e 9 = .sref k ∧ s.rw k = some ⟨2, (holesOf l v a b).map eHole, false⟩) ?_ ?_ ?_
  · exact ⟨15, [], by simp⟩
  · rintro i s hi ⟨k, out, hk, ho, hol, e2, e3, e9, r9, e4, b4, e5, b5, e12, e35, e36, e37⟩
    by_cases h : i < T.length
    · have hws := wrap_succ h hTl
      by_cases c1 : a ≤ T[i]
      rotate_left
      · have ho' : holesS v l a b (T.drop (i + 1)) out = holesS v l a b T [] := by
          rw [← ho, drop_cons h]
          cases hd : T.drop (i + 1) with
          | nil => rfl
          | cons t' r => rw [holesS, if_neg (fun q => c1 q.1)]
        simp [e2, e35, e36, e37, h, c1]
        refine rng_next h ⟨k, out, hk, ho', by omega, ?_⟩
        rcases hk with rfl | rfl <;> simp [e2, e3, e9, r9, e4, b4, e5, b5, e12, e35, e36, hws]
      by_cases c2 : T[i] < b
      rotate_left
      · have ho' : holesS v l a b (T.drop (i + 1)) out = holesS v l a b T [] := by
          rw [← ho, drop_cons h]
          cases hd : T.drop (i + 1) with
          | nil => rfl
          | cons t' r => rw [holesS, if_neg (fun q => c2 q.2.1)]
        simp [e2, e3, e35, e36, e37, h, c1, c2]
        refine rng_next h ⟨k, out, hk, ho', by omega, ?_⟩
        rcases hk with rfl | rfl <;> simp [e2, e3, e9, r9, e4, b4, e5, b5, e12, e35, e36, hws]
      have hi1 := step_bound hTs hbT h c2
      have ho' : holesS v l a b (T.drop (i + 1)) (if vecFits v (profAt l T[i]) = true then addH out ⟨T[i], T[i + 1]⟩ else out) = holesS v l a b T [] := by
        rw [← ho, drop_cons h, drop_cons hi1, holesS]
        simp only [c1, c2, true_and]
      simp [e2, e3, e4, b4, e5, b5, e35, e36, e37, h, c1, c2]
      refine do_cq (l03At_ok l T[i]) (by simp [St.args]) ?_
      simp
      refine do_cq (spec_VecFits_ok v (profAt l T[i])) (by simp [St.args]) ?_
      cases c3 : vecFits v (profAt l T[i])
      · rw [c3, if_neg (by simp)] at ho'
        simp [e37]
        refine rng_next h ⟨k, out, hk, ho', by omega, ?_⟩
        rcases hk with rfl | rfl <;> simp [e2, e3, e9, r9, e4, b4, e5, b5, e12, e35, e36, hws]
      · rw [c3, if_pos rfl] at ho'
        have hw : IntKind.i64.wrap ((i : Int) + 1) = ((i + 1 : Nat) : Int) := hws
        have hol2 := addH_len out ⟨T[i], T[i + 1]⟩
        simp [e9, e12, hw, hi1]
        rcases hk with rfl | rfl
        · have hC := l23Add_ok out ⟨T[i], T[i + 1]⟩ (by omega)
          refine do_cm [] [15] hC rfl ?_ ?_ ?_ ?_
          · simp
          · simp [r9]
          · simp
          rintro _ _ _ _ _ _ ⟨rfl, rfl, rfl, rfl⟩
          simp [e37]
          refine rng_next h ⟨66000, _, by simp, ho', by omega, ?_⟩
          simp [e2, e3, e4, b4, e5, b5, e12, e35, e36, hws]
        · have hC := l23Add_ok out ⟨T[i], T[i + 1]⟩ (by omega)
          refine do_cm [] [66000] hC rfl ?_ ?_ ?_ ?_
          · simp
          · simp [r9]
          · simp
          rintro _ _ _ _ _ _ ⟨rfl, rfl, rfl, rfl⟩
          simp [e37]
          refine rng_next h ⟨66000, _, by simp, ho', by omega, ?_⟩
          simp [e2, e3, e4, b4, e5, b5, e12, e35, e36, hws]
    · have : i = T.length := by omega
      subst this
      simp only [List.drop_length, holesS] at ho
      rw [hsame] at ho
      subst ho
      simp [e36, e37]
      refine beh_of ⟨k, hk, ?_⟩
      simp [e9, r9]
  rintro s ⟨k, hk, e9, r9⟩
  simp [e9]
  exact post_ret [k] (by simp [r9])
theorem set_last {α : Type} {l : List α} {x : α} (h : 0 < l.length) : l.set (l.length - 1) x = l.take (l.length - 1) ++ [x] := by
  have h1 : l.length - 1 < l.length := by omega
  rw [List.set_eq_take_append_cons_drop, if_pos h1, show l.length - 1 + 1 = l.length by omega, List.drop_length]
def ir_impl_Holes : L :=
  .seq (
  .reg [.bx 4 (.t 0),
    .bx 5 (.t 1),
    .mv 8 (.c (.nl))]) (
  .seq (
  .seq (
  .reg [.ld 15 (.t 4) 1 true,
    .cq 16 F.impl_ProfOk [(.t 15)],
    .un 17 (.t 16),
    .mv 18 (.t 17),
    .g 18 false (.mv 19 (.t 2)),
    .g 18 false (.mv 20 (.t 3)),
    .g 18 false (.cq 21 F.impl_isSpan [(.t 19), (.t 20)]),
    .g 18 false (.un 22 (.t 21)),
    .pk 23 (.t 18) (.c (.bool true)) (.t 22),
    .mv 24 (.t 23),
    .g 24 false (.ld 25 (.t 5) 3 true),
    .g 24 false (.cq 26 F.impl_VecOk [(.t 25)]),
    .g 24 false (.un 27 (.t 26)),
    .pk 28 (.t 24) (.c (.bool true)) (.t 27)]) (
  .cond (.t 28) (
    .seq (
    .reg [.mv 8 (.c (.nl))]) (
    .ret)) (
    .skip))) (
  .seq (
  .reg [.bs 29 2 [] true,
    .mv 9 (.t 29)]) (
  .seq (
  .seq (
  .reg [.fa 30 (.t 4) 0,
    .ld 31 (.t 30) 1 false,
    .ln 32 (.t 31),
    .mv 33 (.c (.int .i64 0))]) (
  .blk 0 (
    .loop (
      .seq (
      .reg [.bi 34 .lss (.t 33) (.t 32)]) (
      .seq (
      .cond (.t 34) (
        .skip) (
        .exit 0)) (
      .seq (
      .blk 1 (
        .seq (
        .reg [.mv 35 (.t 33),
          .ia 36 (.t 31) (.t 33) 4,
          .ld 37 (.t 36) 4 true,
          .al 11 [.int .i64 0, .int .i64 0, .int .i64 0, .int .i64 0],
          .mv 10 (.t 35),
          .st (.t 11) (.t 37) 4]) (
        .seq (
        .reg [.mv 38 (.t 3),
          .mv 12 (.t 38)]) (
        .seq (
        .seq (
        .reg [.mv 39 (.t 10),
          .bi 40 .add (.t 39) (.c (.int .i64 1)),
          .fa 41 (.t 4) 0,
          .ld 42 (.t 41) 1 false,
          .ln 43 (.t 42),
          .bi 44 .lss (.t 40) (.t 43)]) (
        .cond (.t 44) (
          .reg [.mv 45 (.t 3),
            .fa 46 (.t 4) 0,
            .ld 47 (.t 46) 1 false,
            .mv 48 (.t 10),
            .bi 49 .add (.t 48) (.c (.int .i64 1)),
            .ia 50 (.t 47) (.t 49) 4,
            .fa 51 (.t 50) 0,
            .ld 52 (.t 51) 1 false,
            .mm 53 false (.t 45) (.t 52),
            .mv 12 (.t 53)]) (
          .skip))) (
        .seq (
        .reg [.mv 54 (.t 2),
          .fa 55 (.t 11) 0,
          .ld 56 (.t 55) 1 false,
          .mm 57 true (.t 54) (.t 56),
          .mv 13 (.t 57)]) (
        .seq (
        .seq (
        .reg [.mv 58 (.t 13),
          .mv 59 (.t 12),
          .bi 60 .geq (.t 58) (.t 59),
          .mv 61 (.t 60),
          .g 61 false (.ld 62 (.t 5) 3 true),
          .g 61 false (.fa 63 (.t 11) 1),
          .g 61 false (.ld 64 (.t 63) 3 true),
          .g 61 false (.cq 65 F.impl_VecFits [(.t 62), (.t 64)]),
          .g 61 false (.un 66 (.t 65)),
          .pk 67 (.t 61) (.c (.bool true)) (.t 66)]) (
        .cond (.t 67) (
          .exit 1) (
          .skip))) (
        .seq (
        .reg [.mv 68 (.t 9),
          .ln 69 (.t 68),
          .mv 14 (.t 69)]) (
        .seq (
        .reg [.mv 70 (.t 14),
          .bi 71 .gtr (.t 70) (.c (.int .i64 0)),
          .mv 72 (.t 71),
          .g 72 true (.mv 73 (.t 9)),
          .g 72 true (.mv 74 (.t 14)),
          .g 72 true (.bi 75 .sub (.t 74) (.c (.int .i64 1))),
          .g 72 true (.ia 76 (.t 73) (.t 75) 2),
          .g 72 true (.fa 77 (.t 76) 1),
          .g 72 true (.ld 78 (.t 77) 1 false),
          .g 72 true (.mv 79 (.t 13)),
          .g 72 true (.bi 80 .eql (.t 78) (.t 79)),
          .pk 81 (.t 72) (.t 80) (.c (.bool false))]) (
        .cond (.t 81) (
          .reg [.mv 82 (.t 9),
            .mv 83 (.t 14),
            .bi 84 .sub (.t 83) (.c (.int .i64 1)),
            .mv 85 (.t 12),
            .ia 86 (.t 82) (.t 84) 2,
            .fa 87 (.t 86) 1,
            .st (.t 87) (.t 85) 1]) (
          .reg [.mv 88 (.t 9),
            .mv 89 (.t 13),
            .mv 90 (.t 12),
            .bd 91 [.int .i64 0, .int .i64 0] [(0, 1, (.t 89)), (1, 1, (.t 90))],
            .bs 92 2 [(.t 91)] false,
            .ap 93 (.t 88) (.t 92) 2 16,
            .mv 9 (.t 93)])))))))))) (
      .reg [.bi 94 .add (.t 33) (.c (.int .i64 1)),
        .mv 33 (.t 94)]))))))) (
  .seq (
  .reg [.mv 95 (.t 9),
    .mv 8 (.t 95)]) (
  .ret)))))
def rs_impl_Holes : List Rv := [.t 8]
theorem ck_impl_Holes : chkFn Try.prog F.impl_Holes 4 ir_impl_Holes rs_impl_Holes = true := by kernel_rfl
set_option maxRecDepth 10000 in
theorem impl_Holes_ok (l : List Pt) (v : Vec) (a b : Int) (hl : l.length ≤ 1048576) : Snd Try.prog F.impl_Holes [ePr l, eVec v, .int .i64 a, .int .i64 b] (.sref 0) [⟨2, (holesOf l v a b).map eHole, false⟩] := by
  refine snd_by ck_impl_Holes rfl (by simp) (den_W ?_)
  unfold ir_impl_Holes rs_impl_Holes
  simp
  refine do_cq (impl_ProfOk_ok l) (by simp [St.args]) ?_
  cases hp : profOk l
  · simp
    exact post_retO [none] (by simp [holesOf, hp])
  simp
  refine do_cq (isSpan_ok a b) (by simp [St.args]) ?_
  rw [show (time a && time b && decide (a < b)) = span a b from rfl]
  cases hs : span a b
  · simp
    exact post_retO [none] (by simp [holesOf, hs])
  simp
  refine do_cq (impl_VecOk_ok v) (by simp [St.args]) ?_
  cases hv : vecOk v
  · simp
    exact post_retO [none] (by simp [holesOf, hv])
  simp
  intro hlen
  have hsame : holesI v a b l [] = holesOf l v a b := by simp [holesOf, hp, hs, hv]
  refine W_rngJ l.length (fun i s => ∃ out, holesI v a b (l.drop i) out = holesI v a b l [] ∧ out.length ≤ i ∧ s.e 2 = .int .i64 a ∧ s.e 3 = .int .i64 b ∧ s.e 9 = .sref 29 ∧ s.rw 29 = some ⟨2, out.map eHole, false⟩ ∧
      s.e 4 = .ptr 4 0 ∧ s.bx 4 = some [.sl .rd 4 (l.map ePt)] ∧ s.e 5 = .ptr 5 0 ∧ s.bx 5 = some (eVec v).cells ∧ s.e 31 = .sl .rd 4 (l.map ePt) ∧ s.e 32 = .int .i64 l.length ∧ s.e 33 = .int .i64 (i : Nat))
    (fun s => s.e 9 = .sref 29 ∧ s.rw 29 = some ⟨2, (holesOf l v a b).map eHole, false⟩) ?_ ?_ ?_
  · exact ⟨[], by simp⟩
  · rintro i s hi ⟨out, ho, hol, e2, e3, e9, r9, e4, b4, e5, b5, e31, e32, e33⟩
    by_cases h : i < l.length
    · have hws := wrap_succ h hlen
      have hw : IntKind.i64.wrap ((i : Int) + 1) = ((i + 1 : Nat) : Int) := hws
      rw [drop_cons h, holesI] at ho
      generalize hr : l.drop (i + 1) = r at ho
      have hE : ∃ e, endOf b r = e ∧ ((i + 1 < l.length ∧ ∀ h' : i + 1 < l.length, e = min b (l[i + 1]'h').t) ∨ (¬ i + 1 < l.length ∧ e = b)) := by
        refine ⟨_, rfl, ?_⟩
        by_cases h1 : i + 1 < l.length
        · left; refine ⟨h1, fun _ => ?_⟩
          rw [← hr, drop_cons h1]; rfl
        · right; refine ⟨h1, ?_⟩
          rw [← hr, List.drop_eq_nil_of_le (by omega)]; rfl
      obtain ⟨e, he, hE⟩ := hE
      rw [he] at ho
      rcases hE with ⟨h1, he'⟩ | ⟨h1, he'⟩
      · have h1c : (i : Int) + 1 < l.length := by omega
        simp [e2, e3, e4, b4, e31, e32, e33, h, hw, h1, h1c]
        intro _
        try rw [← he' h1]
        by_cases c1 : max a l[i].t < e
        rotate_left
        · have c1' : e ≤ max a l[i].t := by omega
          rw [if_neg (fun q => c1 q.1)] at ho
          simp [e33, c1']
          refine rng_next h ⟨out, by rw [hr]; exact ho, by omega, ?_⟩
          simp [e2, e3, e9, r9, e4, b4, e5, b5, e31, e32, hws]
        have c1' : ¬ e ≤ max a l[i].t := by omega
        simp [e5, b5, c1']
        refine do_cq (impl_VecFits_ok v l[i].free) (by simp [St.args]) ?_
        cases c3 : vecFits v l[i].free
        · rw [c3, if_neg (by simp)] at ho
          simp [e33]
          refine rng_next h ⟨out, by rw [hr]; exact ho, by omega, ?_⟩
          simp [e2, e3, e9, r9, e4, b4, e5, b5, e31, e32, hws]
        rw [c3, if_pos ⟨c1, rfl⟩] at ho
        have hol2 := addH_len out ⟨max a l[i].t, e⟩
        simp [e9, r9]
        intro _
        by_cases c4 : 0 < out.length
        rotate_left
        · have ha : addH out ⟨max a l[i].t, e⟩ = out ++ [⟨max a l[i].t, e⟩] := by simp [addH, c4]
          simp [e9, r9, e33, c4]
          refine ⟨by omega, rng_next h ⟨_, by rw [hr]; exact ho, by omega, ?_⟩⟩
          simp [e2, e3, e4, b4, e5, b5, e31, e32, hws, ha]
        have hi1 : out.length - 1 < out.length := by omega
        have hwo : IntKind.i64.wrap ((out.length : Int) - 1) = ((out.length - 1 : Nat) : Int) := by rw [wrap_id (by omega) (by omega)]; omega
        by_cases c5 : out[out.length - 1].b = max a l[i].t
        · have ha : addH out ⟨max a l[i].t, e⟩ = out.set (out.length - 1) ⟨out[out.length - 1].a, e⟩ := by rw [set_last c4]; simp [addH, c4, c5]
          simp [e9, r9, e33, c4, hwo, hi1, c5]
          refine rng_next h ⟨_, by rw [hr]; exact ho, by omega, ?_⟩
          simp [e2, e3, e9, e4, b4, e5, b5, e31, e32, hws, ha, List.map_set]
        · have ha : addH out ⟨max a l[i].t, e⟩ = out ++ [⟨max a l[i].t, e⟩] := by simp [addH, c4, c5]
          simp [e9, r9, e33, c4, hwo, hi1, c5]
          refine ⟨by omega, rng_next h ⟨_, by rw [hr]; exact ho, by omega, ?_⟩⟩
          simp [e2, e3, e4, b4, e5, b5, e31, e32, hws, ha]
      · have h1c : ¬ (i : Int) + 1 < l.length := by omega
        simp [e2, e3, e4, b4, e31, e32, e33, h, hw, h1c]
        intro _
        subst he'
        by_cases c1 : max a l[i].t < e
        rotate_left
        · have c1' : e ≤ max a l[i].t := by omega
          rw [if_neg (fun q => c1 q.1)] at ho
          simp [e33, c1']
          refine rng_next h ⟨out, by rw [hr]; exact ho, by omega, ?_⟩
          simp [e2, e3, e9, r9, e4, b4, e5, b5, e31, e32, hws]
        have c1' : ¬ e ≤ max a l[i].t := by omega
        simp [e5, b5, c1']
        refine do_cq (impl_VecFits_ok v l[i].free) (by simp [St.args]) ?_
        cases c3 : vecFits v l[i].free
        · rw [c3, if_neg (by simp)] at ho
          simp [e33]
          refine rng_next h ⟨out, by rw [hr]; exact ho, by omega, ?_⟩
          simp [e2, e3, e9, r9, e4, b4, e5, b5, e31, e32, hws]
        rw [c3, if_pos ⟨c1, rfl⟩] at ho
        have hol2 := addH_len out ⟨max a l[i].t, e⟩
        simp [e9, r9]
        intro _
        by_cases c4 : 0 < out.length
        rotate_left
        · have ha : addH out ⟨max a l[i].t, e⟩ = out ++ [⟨max a l[i].t, e⟩] := by simp [addH, c4]
          simp [e9, r9, e33, c4]
          refine ⟨by omega, rng_next h ⟨_, by rw [hr]; exact ho, by omega, ?_⟩⟩
          simp [e2, e3, e4, b4, e5, b5, e31, e32, hws, ha]
        have hi1 : out.length - 1 < out.length := by omega
        have hwo : IntKind.i64.wrap ((out.length : Int) - 1) = ((out.length - 1 : Nat) : Int) := by rw [wrap_id (by omega) (by omega)]; omega
        by_cases c5 : out[out.length - 1].b = max a l[i].t
        · have ha : addH out ⟨max a l[i].t, e⟩ = out.set (out.length - 1) ⟨out[out.length - 1].a, e⟩ := by rw [set_last c4]; simp [addH, c4, c5]
          simp [e9, r9, e33, c4, hwo, hi1, c5]
          refine rng_next h ⟨_, by rw [hr]; exact ho, by omega, ?_⟩
          simp [e2, e3, e9, e4, b4, e5, b5, e31, e32, hws, ha, List.map_set]
        · have ha : addH out ⟨max a l[i].t, e⟩ = out ++ [⟨max a l[i].t, e⟩] := by simp [addH, c4, c5]
          simp [e9, r9, e33, c4, hwo, hi1, c5]
          refine ⟨by omega, rng_next h ⟨_, by rw [hr]; exact ho, by omega, ?_⟩⟩
          simp [e2, e3, e4, b4, e5, b5, e31, e32, hws, ha]
    · have : i = l.length := by omega
      subst this
      rw [List.drop_length, hsame] at ho
      change out = _ at ho
      subst ho
      simp [e32, e33]
      refine beh_of ?_
      simp [e9, r9]
  rintro s ⟨e9, r9⟩
  simp [e9]
  exact post_ret [29] (by simp [r9])
end Go.Proofs.Ythbbieobcokgbaa
