/-
  Profiles: ProfOk, what is free at a time.
-/
import Derived.Test.YthbbieobcokgbaaVecs
import Derived.Test.YthbbieobcokgbaaHoles1
import Derived.Test.YthbbieobcokgbaaTyPt
namespace Go.Proofs.Ythbbieobcokgbaa
open Go Go.RowKit Eng
@[simp] def ePr (l : List Pt) : AV := .agg [.sl .rd 4 (l.map ePt)]
def zeroV : Vec := ⟨0, 0, 0⟩
def ptGood (l : List Pt) (i : Nat) : Bool := match l[i]? with
  | none => true
  | some x => time x.t && vecOk x.free && (i == 0 || match l[i - 1]? with | some p => decide (p.t < x.t) && !decide (p.free = x.free) | none => true)
def profOk (l : List Pt) : Bool := decide (1 ≤ l.length) && decide (l.length ≤ 200) && (match l[0]? with | some x => decide (x.t = 0) | none => false) && upto l.length (ptGood l)
theorem ptGood_eq {l : List Pt} {i : Nat} (h : i < l.length) : ptGood l i = (time l[i].t && vecOk l[i].free && (i == 0 || match l[i - 1]? with | some p => decide (p.t < l[i].t) && !decide (p.free = l[i].free) | none => true)) := by
  unfold ptGood; rw [List.getElem?_eq_getElem h]
theorem vec_eq {x y : Vec} : (x.a = y.a ∧ x.b = y.b ∧ x.c = y.c) ↔ x = y := by cases x; cases y; simp
def ir_spec_ProfOk : L :=
  .seq (
  .reg [.bx 1 (.t 0),
    .mv 2 (.c (.bool false))]) (
  .seq (
  .seq (
  .reg [.fa 5 (.t 1) 0,
    .ld 6 (.t 5) 1 false,
    .ln 7 (.t 6),
    .bi 8 .lss (.t 7) (.c (.int .i64 1)),
    .mv 9 (.t 8),
    .g 9 false (.fa 10 (.t 1) 0),
    .g 9 false (.ld 11 (.t 10) 1 false),
    .g 9 false (.ln 12 (.t 11)),
    .g 9 false (.bi 13 .gtr (.t 12) (.c (.int .i64 200))),
    .pk 14 (.t 9) (.c (.bool true)) (.t 13),
    .mv 15 (.t 14),
    .g 15 false (.fa 16 (.t 1) 0),
    .g 15 false (.ld 17 (.t 16) 1 false),
    .g 15 false (.ia 18 (.t 17) (.c (.int .i64 0)) 4),
    .g 15 false (.fa 19 (.t 18) 0),
    .g 15 false (.ld 20 (.t 19) 1 false),
    .g 15 false (.bi 21 .neq (.t 20) (.c (.int .i64 0))),
    .pk 22 (.t 15) (.c (.bool true)) (.t 21)]) (
  .cond (.t 22) (
    .seq (
    .reg [.mv 2 (.c (.bool false))]) (
    .ret)) (
    .skip))) (
  .seq (
  .seq (
  .reg [.fa 23 (.t 1) 0,
    .ld 24 (.t 23) 1 false,
    .ln 25 (.t 24),
    .mv 26 (.c (.int .i64 0))]) (
  .blk 0 (
    .loop (
      .seq (
      .reg [.bi 27 .lss (.t 26) (.t 25)]) (
      .seq (
      .cond (.t 27) (
        .skip) (
        .exit 0)) (
      .seq (
      .blk 1 (
        .seq (
        .reg [.mv 28 (.t 26),
          .ia 29 (.t 24) (.t 26) 4,
          .ld 30 (.t 29) 4 true,
          .al 4 [.int .i64 0, .int .i64 0, .int .i64 0, .int .i64 0],
          .mv 3 (.t 28),
          .st (.t 4) (.t 30) 4]) (
        .seq (
        .rq 38 [.fa 31 (.t 4) 0,
          .ld 32 (.t 31) 1 false,
          .cq 33 F.spec_l01Time [(.t 32)],
          .un 34 (.t 33),
          .mv 35 (.t 34),
          .g 35 false (.fa 36 (.t 4) 1),
          .g 35 false (.ld 37 (.t 36) 3 true),
          .g 35 false (.cq 38 F.spec_VecOk [(.t 37)]),
          .g 35 false (.un 39 (.t 38)),
          .pk 40 (.t 35) (.c (.bool true)) (.t 39),
          .mv 41 (.t 40),
          .g 41 false (.mv 42 (.t 3)),
          .g 41 false (.bi 43 .gtr (.t 42) (.c (.int .i64 0))),
          .g 41 false (.mv 44 (.t 43)),
          .g 44 true (.fa 45 (.t 1) 0),
          .g 44 true (.ld 46 (.t 45) 1 false),
          .g 44 true (.mv 47 (.t 3)),
          .g 44 true (.bi 48 .sub (.t 47) (.c (.int .i64 1))),
          .g 44 true (.ia 49 (.t 46) (.t 48) 4),
          .g 44 true (.fa 50 (.t 49) 0),
          .g 44 true (.ld 51 (.t 50) 1 false),
          .g 44 true (.fa 52 (.t 4) 0),
          .g 44 true (.ld 53 (.t 52) 1 false),
          .g 44 true (.bi 54 .geq (.t 51) (.t 53)),
          .g 44 true (.mv 55 (.t 54)),
          .g 55 false (.fa 56 (.t 1) 0),
          .g 55 false (.ld 57 (.t 56) 1 false),
          .g 55 false (.mv 58 (.t 3)),
          .g 55 false (.bi 59 .sub (.t 58) (.c (.int .i64 1))),
          .g 55 false (.ia 60 (.t 57) (.t 59) 4),
          .g 55 false (.fa 61 (.t 60) 1),
          .g 55 false (.ld 62 (.t 61) 3 true),
          .g 55 false (.fa 63 (.t 4) 1),
          .g 55 false (.ld 64 (.t 63) 3 true),
          .g 55 false (.es 65 false [0, 0, 0] (.t 62) (.t 64)),
          .g 44 true (.pk 66 (.t 55) (.c (.bool true)) (.t 65)),
          .g 41 false (.pk 67 (.t 44) (.t 66) (.c (.bool false))),
          .pk 68 (.t 41) (.c (.bool true)) (.t 67)]) (
        .cond (.t 68) (
          .seq (
          .reg [.mv 2 (.c (.bool false))]) (
          .ret)) (
          .skip))))) (
      .reg [.bi 69 .add (.t 26) (.c (.int .i64 1)),
        .mv 26 (.t 69)]))))))) (
  .seq (
  .reg [.mv 2 (.c (.bool true))]) (
  .ret))))
def rs_spec_ProfOk : List Rv := [.t 2]
theorem ck_spec_ProfOk : chkFn Try.prog F.spec_ProfOk 1 ir_spec_ProfOk rs_spec_ProfOk = true := by kernel_rfl
set_option maxRecDepth 10000 in
theorem spec_ProfOk_ok (l : List Pt) : Snd Try.prog F.spec_ProfOk [ePr l] (.bool (profOk l)) [] := by
  refine snd_by ck_spec_ProfOk rfl (by simp) (den_W ?_)
  unfold ir_spec_ProfOk rs_spec_ProfOk
  simp
  intro hlen
  by_cases h1 : 1 ≤ l.length
  rotate_left
  · have : l = [] := List.eq_nil_of_length_eq_zero (by omega)
    subst this; simp [profOk]
  by_cases h2 : l.length ≤ 200
  rotate_left
  · have h1' : ¬ ((l.length : Int) < 1) := by omega
    have h2' : 200 < (l.length : Int) := by omega
    simp [profOk, h2, h1', h2']
  have h1' : ¬ ((l.length : Int) < 1) := by omega
  have h2' : ¬ (200 < (l.length : Int)) := by omega
  have h3 : 0 < l.length := h1
  simp [h1', h2', h3]
  have hp : profOk l = (decide (l[0].t = 0) && upto l.length (ptGood l)) := by
    unfold profOk; rw [List.getElem?_eq_getElem h3]; simp [h1, h2]
  rw [hp]
  by_cases h0 : l[0].t = 0
  rotate_left
  · simp [h0]
  simp [h0]
  intro _
  refine W_rng l.length (fun i s => upto i (ptGood l) = true ∧ s.e 1 = .ptr 1 0 ∧ s.bx 1 = some [.sl .rd 4 (l.map ePt)] ∧ s.e 24 = .sl .rd 4 (l.map ePt) ∧ s.e 25 = .int .i64 l.length ∧ s.e 26 = .int .i64 (i : Nat)) ?_ ?_
  · simp [upto]
  · rintro i s hi ⟨hu, e1, b1, e5, e6, e7⟩
    by_cases h : i < l.length
    · simp [e5, e6, e7, h]
      have hg := ptGood_eq h
      refine do_cq (spec_time_ok l[i].t) (by simp [St.args]) ?_
      cases ha : time l[i].t
      · simp
        exact upto_false h (by simp [hg, ha])
      simp
      refine do_cq (spec_VecOk_ok l[i].free) (by simp [St.args]) ?_
      cases hb : vecOk l[i].free
      · simp
        exact upto_false h (by simp [hg, hb])
      simp
      by_cases hd : 0 < i
      rotate_left
      · have : i = 0 := by omega
        subst this
        simp [e7]
        refine rng_next h ⟨upto_succ hu (by simp [hg, ha, hb]), ?_⟩
        simp [e1, b1, e5, e6]
        rfl
      have hi1 : i - 1 < l.length := by omega
      have hw : IntKind.i64.wrap ((i : Int) - 1) = ((i - 1 : Nat) : Int) := by rw [wrap_id (by omega) (by omega)]; omega
      simp [hd, e1, b1, hw, hi1]
      by_cases hc : l[i].t ≤ l[i - 1].t
      · simp [hc]
        exact upto_false h (by simp [hg, hi1]; omega)
      simp [hc, e1, b1, e7, hw, hi1, eqCells]
      refine ⟨fun q1 q2 q3 => upto_false h (by simp [hg, hi1, vec_eq.1 ⟨q1, q2, q3⟩]; omega), fun q => ?_⟩
      have q' : ¬ l[i - 1].free = l[i].free := fun e => by simp [e] at q
      refine rng_next h ⟨upto_succ hu (by simp [hg, ha, hb, hi1, q']; omega), ?_⟩
      simp [e1, b1, e5, e6, wrap_succ h hlen]
    · have : i = l.length := by omega
      subst this
      simp [e5, e6, e7, hu]
def ir_impl_ProfOk : L :=
  .seq (
  .reg [.bx 1 (.t 0),
    .mv 2 (.c (.bool false))]) (
  .seq (
  .seq (
  .reg [.fa 5 (.t 1) 0,
    .ld 6 (.t 5) 1 false,
    .ln 7 (.t 6),
    .cq 8 F.impl_within [(.t 7), (.c (.int .i64 1)), (.c (.int .i64 200))],
    .un 9 (.t 8),
    .mv 10 (.t 9),
    .g 10 false (.fa 11 (.t 1) 0),
    .g 10 false (.ld 12 (.t 11) 1 false),
    .g 10 false (.ia 13 (.t 12) (.c (.int .i64 0)) 4),
    .g 10 false (.fa 14 (.t 13) 0),
    .g 10 false (.ld 15 (.t 14) 1 false),
    .g 10 false (.bi 16 .neq (.t 15) (.c (.int .i64 0))),
    .pk 17 (.t 10) (.c (.bool true)) (.t 16)]) (
  .cond (.t 17) (
    .seq (
    .reg [.mv 2 (.c (.bool false))]) (
    .ret)) (
    .skip))) (
  .seq (
  .seq (
  .reg [.fa 18 (.t 1) 0,
    .ld 19 (.t 18) 1 false,
    .ln 20 (.t 19),
    .mv 21 (.c (.int .i64 0))]) (
  .blk 0 (
    .loop (
      .seq (
      .reg [.bi 22 .lss (.t 21) (.t 20)]) (
      .seq (
      .cond (.t 22) (
        .skip) (
        .exit 0)) (
      .seq (
      .blk 1 (
        .seq (
        .reg [.mv 23 (.t 21),
          .ia 24 (.t 19) (.t 21) 4,
          .ld 25 (.t 24) 4 true,
          .al 4 [.int .i64 0, .int .i64 0, .int .i64 0, .int .i64 0],
          .mv 3 (.t 23),
          .st (.t 4) (.t 25) 4]) (
        .seq (
        .rq 38 [.fa 26 (.t 4) 0,
          .ld 27 (.t 26) 1 false,
          .cq 28 F.impl_isTime [(.t 27)],
          .un 29 (.t 28),
          .mv 30 (.t 29),
          .g 30 false (.fa 31 (.t 4) 1),
          .g 30 false (.ld 32 (.t 31) 3 true),
          .g 30 false (.cq 33 F.impl_VecOk [(.t 32)]),
          .g 30 false (.un 34 (.t 33)),
          .pk 35 (.t 30) (.c (.bool true)) (.t 34),
          .mv 36 (.t 35),
          .g 36 false (.mv 37 (.t 3)),
          .g 36 false (.bi 38 .gtr (.t 37) (.c (.int .i64 0))),
          .g 36 false (.mv 39 (.t 38)),
          .g 39 true (.fa 40 (.t 1) 0),
          .g 39 true (.ld 41 (.t 40) 1 false),
          .g 39 true (.mv 42 (.t 3)),
          .g 39 true (.bi 43 .sub (.t 42) (.c (.int .i64 1))),
          .g 39 true (.ia 44 (.t 41) (.t 43) 4),
          .g 39 true (.fa 45 (.t 44) 0),
          .g 39 true (.ld 46 (.t 45) 1 false),
          .g 39 true (.fa 47 (.t 4) 0),
          .g 39 true (.ld 48 (.t 47) 1 false),
          .g 39 true (.bi 49 .geq (.t 46) (.t 48)),
          .g 39 true (.mv 50 (.t 49)),
          .g 50 false (.fa 51 (.t 1) 0),
          .g 50 false (.ld 52 (.t 51) 1 false),
          .g 50 false (.mv 53 (.t 3)),
          .g 50 false (.bi 54 .sub (.t 53) (.c (.int .i64 1))),
          .g 50 false (.ia 55 (.t 52) (.t 54) 4),
          .g 50 false (.fa 56 (.t 55) 1),
          .g 50 false (.ld 57 (.t 56) 3 true),
          .g 50 false (.fa 58 (.t 4) 1),
          .g 50 false (.ld 59 (.t 58) 3 true),
          .g 50 false (.es 60 false [0, 0, 0] (.t 57) (.t 59)),
          .g 39 true (.pk 61 (.t 50) (.c (.bool true)) (.t 60)),
          .g 36 false (.pk 62 (.t 39) (.t 61) (.c (.bool false))),
          .pk 63 (.t 36) (.c (.bool true)) (.t 62)]) (
        .cond (.t 63) (
          .seq (
          .reg [.mv 2 (.c (.bool false))]) (
          .ret)) (
          .skip))))) (
      .reg [.bi 64 .add (.t 21) (.c (.int .i64 1)),
        .mv 21 (.t 64)]))))))) (
  .seq (
  .reg [.mv 2 (.c (.bool true))]) (
  .ret))))
def rs_impl_ProfOk : List Rv := [.t 2]
theorem ck_impl_ProfOk : chkFn Try.prog F.impl_ProfOk 1 ir_impl_ProfOk rs_impl_ProfOk = true := by kernel_rfl
set_option maxRecDepth 10000 in
theorem impl_ProfOk_ok (l : List Pt) : Snd Try.prog F.impl_ProfOk [ePr l] (.bool (profOk l)) [] := by
  refine snd_by ck_impl_ProfOk rfl (by simp) (den_W ?_)
  unfold ir_impl_ProfOk rs_impl_ProfOk
  simp
  intro hlen
  refine do_cq (within_ok l.length 1 200) (by simp [St.args]) ?_
  by_cases h1 : 1 ≤ l.length
  rotate_left
  · have : l = [] := List.eq_nil_of_length_eq_zero (by omega)
    subst this; simp [profOk]
  by_cases h2 : l.length ≤ 200
  rotate_left
  · have h2' : ¬ ((l.length : Int) ≤ 200) := by omega
    simp [profOk, h2, h2']
  have h1' : (1 : Int) ≤ l.length := by omega
  have h2' : (l.length : Int) ≤ 200 := by omega
  have h3 : 0 < l.length := h1
  simp [h1', h2', h3]
  have hp : profOk l = (decide (l[0].t = 0) && upto l.length (ptGood l)) := by
    unfold profOk; rw [List.getElem?_eq_getElem h3]; simp [h1, h2]
  rw [hp]
  by_cases h0 : l[0].t = 0
  rotate_left
  · simp [h0]
  simp [h0]
  intro _
  refine W_rng l.length (fun i s => upto i (ptGood l) = true ∧ s.e 1 = .ptr 1 0 ∧ s.bx 1 = some [.sl .rd 4 (l.map ePt)] ∧ s.e 19 = .sl .rd 4 (l.map ePt) ∧ s.e 20 = .int .i64 l.length ∧ s.e 21 = .int .i64 (i : Nat)) ?_ ?_
  · simp [upto]
  · rintro i s hi ⟨hu, e1, b1, e5, e6, e7⟩
    by_cases h : i < l.length
    · simp [e5, e6, e7, h]
      have hg := ptGood_eq h
      refine do_cq (isTime_ok l[i].t) (by simp [St.args]) ?_
      cases ha : time l[i].t
      · simp
        exact upto_false h (by simp [hg, ha])
      simp
      refine do_cq (impl_VecOk_ok l[i].free) (by simp [St.args]) ?_
      cases hb : vecOk l[i].free
      · simp
        exact upto_false h (by simp [hg, hb])
      simp
      by_cases hd : 0 < i
      rotate_left
      · have : i = 0 := by omega
        subst this
        simp [e7]
        refine rng_next h ⟨upto_succ hu (by simp [hg, ha, hb]), ?_⟩
        simp [e1, b1, e5, e6]
        rfl
      have hi1 : i - 1 < l.length := by omega
      have hw : IntKind.i64.wrap ((i : Int) - 1) = ((i - 1 : Nat) : Int) := by rw [wrap_id (by omega) (by omega)]; omega
      simp [hd, e1, b1, hw, hi1]
      by_cases hc : l[i].t ≤ l[i - 1].t
      · simp [hc]
        exact upto_false h (by simp [hg, hi1]; omega)
      simp [hc, e1, b1, e7, hw, hi1, eqCells]
      refine ⟨fun q1 q2 q3 => upto_false h (by simp [hg, hi1, vec_eq.1 ⟨q1, q2, q3⟩]; omega), fun q => ?_⟩
      have q' : ¬ l[i - 1].free = l[i].free := fun e => by simp [e] at q
      refine rng_next h ⟨upto_succ hu (by simp [hg, ha, hb, hi1, q']; omega), ?_⟩
      simp [e1, b1, e5, e6, wrap_succ h hlen]
    · have : i = l.length := by omega
      subst this
      simp [e5, e6, e7, hu]
end Go.Proofs.Ythbbieobcokgbaa
