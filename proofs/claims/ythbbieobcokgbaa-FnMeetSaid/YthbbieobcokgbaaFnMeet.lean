/-
  The law FnMeet: the times in the intersection are in both.
-/
import Derived.Test.YthbbieobcokgbaaMeet
import Derived.Test.YthbbieobcokgbaaLength
import Derived.Test.YthbbieobcokgbaaDrawMeet
namespace Go.Proofs.Ythbbieobcokgbaa
open Go Go.RowKit Eng
def sumL (l : List Hole) : Int := (l.map fun h => h.b - h.a).sum
def far (p q : Hole) : Prop := p.b < q.a
theorem holesOk_iff {l : List Hole} : holesOk l = true ↔ l.Pairwise far ∧ ∀ p ∈ l, time p.a = true ∧ time p.b = true ∧ p.a < p.b := by
  constructor
  · intro h
    refine ⟨List.pairwise_iff_getElem.2 fun i j hi hj hij => (holes_mono h hij hj).1, fun p hp => ?_⟩
    obtain ⟨i, hi, rfl⟩ := List.getElem_of_mem hp
    have h1 := upto_iff.1 h i hi
    rw [holeGood_eq hi] at h1
    simp only [Bool.and_eq_true, decide_eq_true_eq] at h1
    exact ⟨h1.1.1.1, h1.1.1.2, h1.1.2⟩
  · rintro ⟨h1, h2⟩
    refine upto_iff.2 fun i hi => ?_
    obtain ⟨q1, q2, q3⟩ := h2 _ (List.getElem_mem hi)
    rw [holeGood_eq hi, q1, q2]
    simp only [q3, decide_true, Bool.true_and, Bool.and_true, Bool.or_eq_true, beq_iff_eq]
    by_cases h0 : i = 0
    · exact .inl h0
    · right
      have hi1 : i - 1 < l.length := by omega
      rw [List.getElem?_eq_getElem hi1]
      have := List.pairwise_iff_getElem.1 h1 (i - 1) i hi1 hi (by omega)
      simpa [far] using this
theorem sorted_eq : ∀ {l k : List Hole}, l.Pairwise far → k.Pairwise far → (∀ p ∈ l, p.a < p.b) → (∀ p, p ∈ l ↔ p ∈ k) → l = k
  | [], k, _, _, _, h => by
    cases k with
    | nil => rfl
    | cons y k => exact absurd ((h y).2 (by simp)) (by simp)
  | x :: l, [], _, _, _, h => absurd ((h x).1 (by simp)) (by simp)
  | x :: l, y :: k, hl, hk, hg, h => by
    rw [List.pairwise_cons] at hl hk
    have hxy : x = y := Classical.byContradiction fun hne => by
      have h1 : x ∈ k := by have := (h x).1 (by simp); simpa [hne] using this
      have h2 : y ∈ l := by have := (h y).2 (by simp); simpa [Ne.symm hne] using this
      have r1 := hk.1 x h1
      have r2 := hl.1 y h2
      have g1 := hg x (by simp)
      have g2 := hg y (by simp [h2])
      unfold far at r1 r2
      omega
    subst hxy
    refine congrArg _ (sorted_eq hl.2 hk.2 (fun p hp => hg p (by simp [hp])) fun p => ⟨fun hp => ?_, fun hp => ?_⟩)
    · have := (h p).1 (by simp [hp])
      rcases List.mem_cons.1 this with rfl | q
      · have r := hl.1 p hp; have g := hg p (by simp); unfold far at r; omega
      · exact q
    · have := (h p).2 (by simp [hp])
      rcases List.mem_cons.1 this with rfl | q
      · have r := hk.1 p hp; have g := hg p (by simp); unfold far at r; omega
      · exact q
theorem mem_meetF {a b : List Hole} {p : Hole} : p ∈ meetF a b ↔ ∃ x ∈ a, ∃ y ∈ b, p = piece x y ∧ p.a < p.b := by
  constructor
  · intro h
    obtain ⟨x, hx, hp⟩ := List.mem_flatMap.1 h
    obtain ⟨y, hy, q⟩ := mem_meet1 hp
    exact ⟨x, hx, y, hy, q⟩
  · rintro ⟨x, hx, y, hy, rfl, hlt⟩
    refine List.mem_flatMap.2 ⟨x, hx, List.mem_flatMap.2 ⟨y, hy, ?_⟩⟩
    rw [if_pos hlt]; simp
theorem meetF_sorted {a b : List Hole} (ha : holesOk a = true) (hb : holesOk b = true) : (meetF a b).Pairwise far := by
  obtain ⟨a1, _⟩ := holesOk_iff.1 ha
  obtain ⟨b1, _⟩ := holesOk_iff.1 hb
  unfold meetF
  rw [List.pairwise_flatMap]
  refine ⟨fun x _ => ?_, a1.imp fun {x1 x2} h p hp q hq => ?_⟩
  · unfold meet1
    rw [List.pairwise_flatMap]
    refine ⟨fun y _ => by split <;> simp, b1.imp fun {y1 y2} h p hp q hq => ?_⟩
    split at hp <;> split at hq <;> simp at hp hq
    subst hp; subst hq
    unfold far at *; simp only [piece]; omega
  · obtain ⟨y1, _, rfl, _⟩ := mem_meet1 hp
    obtain ⟨y2, _, rfl, _⟩ := mem_meet1 hq
    unfold far at *; simp only [piece]; omega
theorem meetF_ok {a b : List Hole} (ha : holesOk a = true) (hb : holesOk b = true) : holesOk (meetF a b) = true := by
  refine holesOk_iff.2 ⟨meetF_sorted ha hb, fun p hp => ?_⟩
  obtain ⟨x, hx, y, hy, rfl, hlt⟩ := mem_meetF.1 hp
  obtain ⟨x1, x2, x3⟩ := (holesOk_iff.1 ha).2 x hx
  obtain ⟨y1, y2, y3⟩ := (holesOk_iff.1 hb).2 y hy
  simp [time] at x1 x2 y1 y2
  simp only [piece] at hlt ⊢
  simp only [time, Bool.and_eq_true, decide_eq_true_eq]
  omega
theorem meet_ok (a b : List Hole) : holesOk (meet a b) = true := by
  unfold meet; split
  · rename_i h; exact meetF_ok h.1 h.2
  · rfl
theorem meet_comm (a b : List Hole) : meet a b = meet b a := by
  unfold meet
  by_cases h : holesOk a = true ∧ holesOk b = true
  · rw [if_pos h, if_pos h.symm]
    refine sorted_eq (meetF_sorted h.1 h.2) (meetF_sorted h.2 h.1) (fun p hp => by obtain ⟨x, _, y, _, _, q⟩ := mem_meetF.1 hp; exact q) fun p => ?_
    rw [mem_meetF, mem_meetF]
    have e : ∀ x y, piece x y = piece y x := fun x y => by simp only [piece, Hole.mk.injEq]; omega
    constructor
    · rintro ⟨x, hx, y, hy, hp, hlt⟩; exact ⟨y, hy, x, hx, by rw [hp, e], hlt⟩
    · rintro ⟨x, hx, y, hy, hp, hlt⟩; exact ⟨y, hy, x, hx, by rw [hp, e], hlt⟩
  · rw [if_neg h, if_neg (fun q => h q.symm)]
theorem sumL_app (l k : List Hole) : sumL (l ++ k) = sumL l + sumL k := by simp [sumL]
theorem sumL_nonneg : ∀ {l : List Hole}, (∀ p ∈ l, p.a < p.b) → 0 ≤ sumL l
  | [], _ => by simp [sumL]
  | x :: l, h => by
    have := sumL_nonneg (l := l) fun p hp => h p (by simp [hp])
    have := h x (by simp)
    rw [show sumL (x :: l) = (x.b - x.a) + sumL l by simp [sumL]]; omega
/-- Disjoint pieces from lo to hi add up to no more than hi - lo. -/
theorem sumL_le : ∀ {l : List Hole} {lo hi : Int}, l.Pairwise far → (∀ p ∈ l, lo ≤ p.a ∧ p.a < p.b ∧ p.b ≤ hi) → lo ≤ hi → sumL l ≤ hi - lo
  | [], lo, hi, _, _, h => by simp [sumL]; omega
  | x :: l, lo, hi, hs, hg, h => by
    rw [List.pairwise_cons] at hs
    obtain ⟨g1, g2, g3⟩ := hg x (by simp)
    have := sumL_le (l := l) (lo := x.b) (hi := hi) hs.2 (fun p hp => by
      have := hs.1 p hp; have := hg p (by simp [hp]); unfold far at *; omega) g3
    rw [show sumL (x :: l) = (x.b - x.a) + sumL l by simp [sumL]]; omega
theorem sumL_sub : ∀ {a b : List Hole}, (∀ x ∈ a, x.a < x.b) → holesOk b = true → sumL (meetF a b) ≤ sumL a
  | [], b, _, _ => by simp [meetF, sumL]
  | x :: a, b, ha, hb => by
    have ih := sumL_sub (a := a) (b := b) (fun y hy => ha y (by simp [hy])) hb
    have hx := ha x (by simp)
    have h1 : sumL (meet1 x b) ≤ x.b - x.a := by
      refine sumL_le ?_ (fun p hp => ?_) (by omega)
      · obtain ⟨b1, _⟩ := holesOk_iff.1 hb
        unfold meet1
        rw [List.pairwise_flatMap]
        refine ⟨fun y _ => by split <;> simp, b1.imp fun {y1 y2} h p hp q hq => ?_⟩
        split at hp <;> split at hq <;> simp at hp hq
        subst hp; subst hq
        unfold far at *; simp only [piece]; omega
      · obtain ⟨y, _, rfl, hlt⟩ := mem_meet1 hp
        simp only [piece] at hlt ⊢; omega
    rw [show meetF (x :: a) b = meet1 x b ++ meetF a b from rfl, sumL_app, show sumL (x :: a) = (x.b - x.a) + sumL a by simp [sumL]]
    omega
theorem lenTo_sum {l : List Hole} (h : holesOk l = true) : ∀ {i : Nat}, i ≤ l.length → lenTo l i = sumL (l.take i) ∧ 0 ≤ sumL (l.take i) ∧ sumL (l.take i) ≤ 1000000000 := by
  intro i hi
  obtain ⟨h1, h2⟩ := holesOk_iff.1 h
  have hb : ∀ i, 0 ≤ sumL (l.take i) ∧ sumL (l.take i) ≤ 1000000000 := fun i => by
    refine ⟨sumL_nonneg fun p hp => (h2 p (List.mem_of_mem_take hp)).2.2, ?_⟩
    have := sumL_le (l := l.take i) (lo := 0) (hi := 1000000000) (h1.sublist (List.take_sublist _ _)) (fun p hp => by
      obtain ⟨q1, q2, q3⟩ := h2 p (List.mem_of_mem_take hp)
      simp [time] at q1 q2; omega) (by omega)
    omega
  refine ⟨?_, hb i⟩
  induction i with
  | zero => simp [lenTo, sumL]
  | succ i ih =>
    obtain ⟨q1, q2, q3⟩ := h2 _ (List.getElem_mem (show i < l.length by omega))
    simp [time] at q1 q2
    have hbi := hb i
    rw [lenTo_succ (by omega), ih (by omega), List.take_succ_eq_append_getElem (by omega), sumL_app]
    unfold w64
    rw [wrap_id (n := sumL (l.take i) + l[i].b) (by omega) (by omega), wrap_id (by omega) (by omega)]
    simp [sumL]; omega
theorem lengthOf_sum {l : List Hole} (h : holesOk l = true) : lengthOf l = sumL l := by
  unfold lengthOf
  rw [if_pos h, (lenTo_sum h (Nat.le_refl _)).1, List.take_of_length_le (Nat.le_refl _)]
theorem meet_le (a b : List Hole) : lengthOf (meet a b) ≤ lengthOf a := by
  rw [lengthOf_sum (meet_ok a b)]
  unfold meet
  by_cases h : holesOk a = true ∧ holesOk b = true
  · rw [if_pos h, lengthOf_sum h.1]
    exact sumL_sub (fun x hx => ((holesOk_iff.1 h.1).2 x hx).2.2) h.2
  · rw [if_neg h]
    unfold lengthOf
    split
    · rename_i ha
      have := (lenTo_sum ha (Nat.le_refl _))
      rw [this.1]; simpa [sumL] using this.2.1
    · simp [sumL]
def ir_laws_FnMeet : L :=
  .seq (
  .reg [.mv 2 (.c (.bool false))]) (
  .seq (
  .seq (
  .reg [.mv 8 (.t 0),
    .ln 9 (.t 8),
    .bi 10 .gtr (.t 9) (.c (.int .i64 1048576))]) (
  .cond (.t 10) (
    .seq (
    .reg [.mv 2 (.c (.bool true))]) (
    .ret)) (
    .skip))) (
  .seq (
  .reg [.mv 12 (.t 0),
    .cm 13 F.spec_DrawMeet [(.t 12)],
    .mv 11 (.t 13),
    .ex 14 (.t 11) 0,
    .ex 15 (.t 11) 1,
    .mv 3 (.t 14),
    .mv 4 (.t 15)]) (
  .seq (
  .reg [.mv 16 (.t 3),
    .mv 17 (.t 4),
    .cq 18 F.impl_Meet [(.t 16), (.t 17)],
    .mv 5 (.t 18)]) (
  .seq (
  .seq (
  .reg [.mv 19 (.t 5),
    .ln 20 (.t 19),
    .mv 21 (.t 3),
    .mv 22 (.t 4),
    .cq 23 F.spec_Meet [(.t 21), (.t 22)],
    .ln 24 (.t 23),
    .bi 25 .neq (.t 20) (.t 24),
    .mv 26 (.t 25),
    .g 26 false (.mv 27 (.t 5)),
    .g 26 false (.cq 28 F.impl_HolesOk [(.t 27)]),
    .g 26 false (.un 29 (.t 28)),
    .pk 30 (.t 26) (.c (.bool true)) (.t 29)]) (
  .cond (.t 30) (
    .seq (
    .reg [.mv 2 (.c (.bool false))]) (
    .ret)) (
    .skip))) (
  .seq (
  .reg [.mv 31 (.t 4),
    .mv 32 (.t 3),
    .cq 33 F.impl_Meet [(.t 31), (.t 32)],
    .mv 6 (.t 33)]) (
  .seq (
  .seq (
  .reg [.mv 34 (.t 5),
    .ln 35 (.t 34),
    .mv 36 (.t 6),
    .ln 37 (.t 36),
    .bi 38 .neq (.t 35) (.t 37),
    .mv 39 (.t 38),
    .g 39 false (.mv 40 (.t 5)),
    .g 39 false (.cq 41 F.impl_Length [(.t 40)]),
    .g 39 false (.mv 42 (.t 3)),
    .g 39 false (.cq 43 F.impl_Length [(.t 42)]),
    .g 39 false (.bi 44 .gtr (.t 41) (.t 43)),
    .pk 45 (.t 39) (.c (.bool true)) (.t 44),
    .mv 46 (.t 45),
    .g 46 false (.mv 47 (.t 5)),
    .g 46 false (.cq 48 F.impl_Length [(.t 47)]),
    .g 46 false (.mv 49 (.t 4)),
    .g 46 false (.cq 50 F.impl_Length [(.t 49)]),
    .g 46 false (.bi 51 .gtr (.t 48) (.t 50)),
    .pk 52 (.t 46) (.c (.bool true)) (.t 51)]) (
  .cond (.t 52) (
    .seq (
    .reg [.mv 2 (.c (.bool false))]) (
    .ret)) (
    .skip))) (
  .seq (
  .seq (
  .reg [.mv 53 (.t 5),
    .ln 54 (.t 53),
    .mv 55 (.c (.int .i64 0))]) (
  .blk 0 (
    .loop (
      .seq (
      .reg [.bi 56 .lss (.t 55) (.t 54)]) (
      .seq (
      .cond (.t 56) (
        .skip) (
        .exit 0)) (
      .seq (
      .blk 1 (
        .seq (
        .reg [.mv 57 (.t 55),
          .mv 7 (.t 57)]) (
        .seq (
        .rq 9 [.mv 58 (.t 5),
          .mv 59 (.t 7),
          .ia 60 (.t 58) (.t 59) 2,
          .ld 61 (.t 60) 2 true,
          .mv 62 (.t 6),
          .mv 63 (.t 7),
          .ia 64 (.t 62) (.t 63) 2,
          .ld 65 (.t 64) 2 true,
          .es 66 true [0, 0] (.t 61) (.t 65)]) (
        .cond (.t 66) (
          .seq (
          .reg [.mv 2 (.c (.bool false))]) (
          .ret)) (
          .skip))))) (
      .reg [.bi 67 .add (.t 55) (.c (.int .i64 1)),
        .mv 55 (.t 67)]))))))) (
  .seq (
  .reg [.mv 2 (.c (.bool true))]) (
  .ret)))))))))
def rs_laws_FnMeet : List Rv := [.t 2]
theorem ck_laws_FnMeet : chkFn Try.prog F.laws_FnMeet 1 ir_laws_FnMeet rs_laws_FnMeet = true := by kernel_rfl
set_option maxRecDepth 10000 in
theorem FnMeet_c (bs : List Int) : Snd Try.prog F.laws_FnMeet [.sl .rd 1 (bs.map eB)] (.bool true) [] := by
  refine snd_by ck_laws_FnMeet rfl (by simp) (den_W ?_)
  unfold ir_laws_FnMeet rs_laws_FnMeet
  by_cases hl : (1048576 : Int) < bs.length
  · simp [hl]
  simp [hl]
  intro _
  refine do_cm [] [] (DrawMeet_ok bs (by omega)) rfl (by simp) (by simp) (by simp) ?_
  rintro _ _ _ _ _ _ ⟨a, b, ha, hb, rfl, rfl, rfl, rfl⟩
  have hm : (meet a b).length ≤ 1099511627776 := meet_len (by omega) (by omega)
  have hc := meet_comm a b
  have h1 := meet_le a b
  have h2 := meet_le b a
  rw [← hc] at h2
  simp
  refine do_cq (impl_Meet_ok a b (by omega) (by omega)) (by simp [St.args]) ?_
  simp
  intro _
  refine do_cq (spec_Meet_ok a b (by omega) (by omega)) (by simp [St.args]) ?_
  simp
  intro _
  refine do_cq (impl_HolesOk_ok (meet a b)) (by simp [St.args]) ?_
  simp [meet_ok]
  refine do_cq (impl_Meet_ok b a (by omega) (by omega)) (by simp [St.args]) ?_
  rw [← hc]
  simp
  intro _
  refine do_cq (impl_Length_ok (meet a b)) (by simp [St.args]) ?_
  simp
  refine do_cq (impl_Length_ok a) (by simp [St.args]) ?_
  simp [Int.not_lt.2 h1]
  refine do_cq (impl_Length_ok (meet a b)) (by simp [St.args]) ?_
  simp
  refine do_cq (impl_Length_ok b) (by simp [St.args]) ?_
  simp [Int.not_lt.2 h2]
  intro _
  refine W_rng (meet a b).length (fun i s => s.e 5 = .sl .nw 2 ((meet a b).map eHole) ∧ s.e 6 = .sl .nw 2 ((meet a b).map eHole) ∧ s.e 54 = .int .i64 (meet a b).length ∧ s.e 55 = .int .i64 (i : Nat)) ?_ ?_
  · simp
  · rintro i s hi ⟨h5, h6, h54, h55⟩
    by_cases h : i < (meet a b).length
    · simp [h5, h6, h54, h55, h, eqCells]
      refine rng_next h ?_
      simp [h5, h6, h54, wrap_succ h (by omega : (meet a b).length ≤ 9223372036854775807)]
    · simp [h54, h55, h]
theorem bytes_of {a : AV} (h : (Ty.sl (.int .u8)).okV a) : ∃ l : List Int, AV.wkA (fun _ => False) a (.sl .rd 1 (l.map eB)) := by
  simp only [Ty.okV, Ty.ok] at h
  rcases h with h | ⟨es, h, _, h2⟩
  · exact ⟨[], by rw [(List.cons.inj h).1]; simp⟩
  · obtain ⟨l, rfl⟩ := list_of eB fun x hx => by
      obtain ⟨_, h3, n, h4, _⟩ := h2 x hx
      simp only [Ty.isSt, Bool.false_eq_true, if_false] at h3
      rw [cells_one h3] at h4
      exact ⟨n, (List.cons.inj h4).1⟩
    exact ⟨l, by rw [(List.cons.inj h).1]; simp [Ty.size]⟩
theorem FnMeet_ok (xs : List AV) (h : okVs [.sl (.int .u8)] xs) : Snd Try.prog F.laws_FnMeet xs (.bool true) [] := by
  obtain ⟨a, _, rfl, ha, rfl⟩ := h
  obtain ⟨l, ha⟩ := bytes_of ha
  exact (FnMeet_c l).wk ⟨ha, trivial⟩
end Go.Proofs.Ythbbieobcokgbaa
