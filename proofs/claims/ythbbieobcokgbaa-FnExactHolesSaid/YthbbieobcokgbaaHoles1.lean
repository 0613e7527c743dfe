/-
  HolesOk, of the specification and of the program.
-/
import Derived.Test.YthbbieobcokgbaaTyHole
import Derived.Test.YthbbieobcokgbaaNums
namespace Go.Proofs.Ythbbieobcokgbaa
open Go Go.RowKit Eng

/-- Hole i of l is in order. -/
def holeGood (l : List Hole) (i : Nat) : Bool := match l[i]? with
  | none => true
  | some h => time h.a && time h.b && decide (h.a < h.b) && (i == 0 || match l[i - 1]? with | some p => decide (p.b < h.a) | none => true)
def upto (n : Nat) (p : Nat → Bool) : Bool := (List.range n).all p
def holesOk (l : List Hole) : Bool := upto l.length (holeGood l)

theorem upto_iff {n : Nat} {p : Nat → Bool} : upto n p = true ↔ ∀ i, i < n → p i = true := by simp [upto]
theorem upto_false {n : Nat} {p : Nat → Bool} {i : Nat} (hi : i < n) (h : p i = false) : upto n p = false := by
  cases hu : upto n p with
  | false => rfl
  | true => have := upto_iff.1 hu i hi; rw [h] at this; cases this

theorem upto_succ {n : Nat} {p : Nat → Bool} (h : upto n p = true) (hp : p n = true) : upto (n + 1) p = true := by
  rw [upto_iff] at *
  intro i hi
  by_cases e : i = n
  · subst e; exact hp
  · exact h i (by omega)
theorem holeGood_eq {l : List Hole} {i : Nat} (h : i < l.length) : holeGood l i = (time l[i].a && time l[i].b && decide (l[i].a < l[i].b) && (i == 0 || match l[i - 1]? with | some p => decide (p.b < l[i].a) | none => true)) := by
  unfold holeGood; rw [List.getElem?_eq_getElem h]

def ir_spec_HolesOk : L :=
  .seq (
  .reg [.mv 2 (.c (.bool false))]) (
  .seq (
  .seq (
  .reg [.mv 5 (.t 0),
    .ln 6 (.t 5),
    .mv 7 (.c (.int .i64 0))]) (
  .blk 0 (
    .loop (
      .seq (
      .reg [.bi 8 .lss (.t 7) (.t 6)]) (
      .seq (
      .cond (.t 8) (
        .skip) (
        .exit 0)) (
      .seq (
      .blk 1 (
        .seq (
        .reg [.mv 9 (.t 7),
          .ia 10 (.t 5) (.t 7) 2,
          .ld 11 (.t 10) 2 true,
          .al 4 [.int .i64 0, .int .i64 0],
          .mv 3 (.t 9),
          .st (.t 4) (.t 11) 2]) (
        .seq (
        .rq 32 [.fa 12 (.t 4) 0,
          .ld 13 (.t 12) 1 false,
          .cq 14 F.spec_l01Time [(.t 13)],
          .un 15 (.t 14),
          .mv 16 (.t 15),
          .g 16 false (.fa 17 (.t 4) 1),
          .g 16 false (.ld 18 (.t 17) 1 false),
          .g 16 false (.cq 19 F.spec_l01Time [(.t 18)]),
          .g 16 false (.un 20 (.t 19)),
          .pk 21 (.t 16) (.c (.bool true)) (.t 20),
          .mv 22 (.t 21),
          .g 22 false (.fa 23 (.t 4) 0),
          .g 22 false (.ld 24 (.t 23) 1 false),
          .g 22 false (.fa 25 (.t 4) 1),
          .g 22 false (.ld 26 (.t 25) 1 false),
          .g 22 false (.bi 27 .geq (.t 24) (.t 26)),
          .pk 28 (.t 22) (.c (.bool true)) (.t 27),
          .mv 29 (.t 28),
          .g 29 false (.mv 30 (.t 3)),
          .g 29 false (.bi 31 .gtr (.t 30) (.c (.int .i64 0))),
          .g 29 false (.mv 32 (.t 31)),
          .g 32 true (.mv 33 (.t 0)),
          .g 32 true (.mv 34 (.t 3)),
          .g 32 true (.bi 35 .sub (.t 34) (.c (.int .i64 1))),
          .g 32 true (.ia 36 (.t 33) (.t 35) 2),
          .g 32 true (.fa 37 (.t 36) 1),
          .g 32 true (.ld 38 (.t 37) 1 false),
          .g 32 true (.fa 39 (.t 4) 0),
          .g 32 true (.ld 40 (.t 39) 1 false),
          .g 32 true (.bi 41 .geq (.t 38) (.t 40)),
          .g 29 false (.pk 42 (.t 32) (.t 41) (.c (.bool false))),
          .pk 43 (.t 29) (.c (.bool true)) (.t 42)]) (
        .cond (.t 43) (
          .seq (
          .reg [.mv 2 (.c (.bool false))]) (
          .ret)) (
          .skip))))) (
      .reg [.bi 44 .add (.t 7) (.c (.int .i64 1)),
        .mv 7 (.t 44)]))))))) (
  .seq (
  .reg [.mv 2 (.c (.bool true))]) (
  .ret)))
def rs_spec_HolesOk : List Rv := [.t 2]
theorem ck_spec_HolesOk : chkFn Try.prog F.spec_HolesOk 1 ir_spec_HolesOk rs_spec_HolesOk = true := by kernel_rfl
theorem spec_HolesOk_ok (l : List Hole) : Snd Try.prog F.spec_HolesOk [.sl .rd 2 (l.map eHole)] (.bool (holesOk l)) [] := by
  refine snd_by ck_spec_HolesOk rfl (by simp) (den_W ?_)
  unfold ir_spec_HolesOk rs_spec_HolesOk
  simp
  intro hlen
  refine W_loop (fun m s => ∃ i, m = l.length - i ∧ i ≤ l.length ∧ upto i (holeGood l) = true ∧ s.e 0 = .sl .rd 2 (l.map eHole) ∧ s.e 5 = .sl .rd 2 (l.map eHole) ∧ s.e 6 = .int .i64 l.length ∧ s.e 7 = .int .i64 (i : Nat)) l.length ?_ ?_
  · exact ⟨0, by simp [upto]⟩
  · rintro m s ⟨i, rfl, hi, hu, h0, h5, h6, h7⟩
    by_cases h : i < l.length
    · simp [h5, h6, h7, h]
      refine do_cq (spec_time_ok l[i].a) (by simp [St.args]) ?_
      have hg := holeGood_eq h
      cases ha : time l[i].a <;> simp
      · exact upto_false h (by simp [hg, ha])
      · refine do_cq (spec_time_ok l[i].b) (by simp [St.args]) ?_
        cases hb : time l[i].b <;> simp
        · exact upto_false h (by simp [hg, hb])
        · by_cases hc : l[i].b ≤ l[i].a
          · simp [hc]
            exact upto_false h (by simp [hg]; omega)
          · by_cases hd : 0 < i
            · have hi1 : i - 1 < l.length := by omega
              have hw : IntKind.i64.wrap ((i : Int) - 1) = ((i - 1 : Nat) : Int) := by rw [wrap_id (by omega) (by omega)]; omega
              simp [hc, hd, h0, h5, h6, h7, hw, hi1]
              refine ⟨fun q => upto_false h (by simp [hg, hi1]; omega), fun q => ⟨l.length - (i + 1), by omega, i + 1, by simp, by omega, upto_succ hu (by simp [hg, ha, hb, hi1, q]; omega), by simp [wrap_succ h hlen]⟩⟩
            · have : i = 0 := by omega
              subst this
              simp [hc, h0, h5, h6, h7]
              exact ⟨l.length - (0 + 1), by omega, 0 + 1, rfl, by omega, upto_succ hu (by simp [hg, ha, hb]; omega), wrap_succ h hlen⟩
    · have : i = l.length := by omega
      subst this
      simp [h5, h6, h7, holesOk, hu]

def ir_impl_HolesOk : L :=
  .seq (
  .reg [.mv 2 (.c (.bool false))]) (
  .seq (
  .seq (
  .reg [.mv 5 (.t 0),
    .ln 6 (.t 5),
    .mv 7 (.c (.int .i64 0))]) (
  .blk 0 (
    .loop (
      .seq (
      .reg [.bi 8 .lss (.t 7) (.t 6)]) (
      .seq (
      .cond (.t 8) (
        .skip) (
        .exit 0)) (
      .seq (
      .blk 1 (
        .seq (
        .reg [.mv 9 (.t 7),
          .ia 10 (.t 5) (.t 7) 2,
          .ld 11 (.t 10) 2 true,
          .al 4 [.int .i64 0, .int .i64 0],
          .mv 3 (.t 9),
          .st (.t 4) (.t 11) 2]) (
        .seq (
        .rq 21 [.fa 12 (.t 4) 0,
          .ld 13 (.t 12) 1 false,
          .fa 14 (.t 4) 1,
          .ld 15 (.t 14) 1 false,
          .cq 16 F.impl_isSpan [(.t 13), (.t 15)],
          .un 17 (.t 16),
          .mv 18 (.t 17),
          .g 18 false (.mv 19 (.t 3)),
          .g 18 false (.bi 20 .gtr (.t 19) (.c (.int .i64 0))),
          .g 18 false (.mv 21 (.t 20)),
          .g 21 true (.fa 22 (.t 4) 0),
          .g 21 true (.ld 23 (.t 22) 1 false),
          .g 21 true (.mv 24 (.t 0)),
          .g 21 true (.mv 25 (.t 3)),
          .g 21 true (.bi 26 .sub (.t 25) (.c (.int .i64 1))),
          .g 21 true (.ia 27 (.t 24) (.t 26) 2),
          .g 21 true (.fa 28 (.t 27) 1),
          .g 21 true (.ld 29 (.t 28) 1 false),
          .g 21 true (.bi 30 .leq (.t 23) (.t 29)),
          .g 18 false (.pk 31 (.t 21) (.t 30) (.c (.bool false))),
          .pk 32 (.t 18) (.c (.bool true)) (.t 31)]) (
        .cond (.t 32) (
          .seq (
          .reg [.mv 2 (.c (.bool false))]) (
          .ret)) (
          .skip))))) (
      .reg [.bi 33 .add (.t 7) (.c (.int .i64 1)),
        .mv 7 (.t 33)]))))))) (
  .seq (
  .reg [.mv 2 (.c (.bool true))]) (
  .ret)))
def rs_impl_HolesOk : List Rv := [.t 2]
theorem ck_impl_HolesOk : chkFn Try.prog F.impl_HolesOk 1 ir_impl_HolesOk rs_impl_HolesOk = true := by kernel_rfl
theorem impl_HolesOk_ok (l : List Hole) : Snd Try.prog F.impl_HolesOk [.sl .rd 2 (l.map eHole)] (.bool (holesOk l)) [] := by
  refine snd_by ck_impl_HolesOk rfl (by simp) (den_W ?_)
  unfold ir_impl_HolesOk rs_impl_HolesOk
  simp
  intro hlen
  refine W_loop (fun m s => ∃ i, m = l.length - i ∧ i ≤ l.length ∧ upto i (holeGood l) = true ∧ s.e 0 = .sl .rd 2 (l.map eHole) ∧ s.e 5 = .sl .rd 2 (l.map eHole) ∧ s.e 6 = .int .i64 l.length ∧ s.e 7 = .int .i64 (i : Nat)) l.length ?_ ?_
  · exact ⟨0, by simp [upto]⟩
  · rintro m s ⟨i, rfl, hi, hu, h0, h5, h6, h7⟩
    by_cases h : i < l.length
    · simp [h5, h6, h7, h]
      have hg := holeGood_eq h
      refine do_cq (isSpan_ok l[i].a l[i].b) (by simp [St.args]) ?_
      cases ha : (time l[i].a && time l[i].b && decide (l[i].a < l[i].b)) <;> simp
      · exact upto_false h (by simp [hg, ha])
      · by_cases hd : 0 < i
        · have hi1 : i - 1 < l.length := by omega
          have hw : IntKind.i64.wrap ((i : Int) - 1) = ((i - 1 : Nat) : Int) := by rw [wrap_id (by omega) (by omega)]; omega
          simp [hd, h0, h5, h6, h7, hw, hi1]
          refine ⟨fun q => upto_false h (by simp [hg, hi1]; omega), fun q => ⟨l.length - (i + 1), by omega, i + 1, by simp, by omega, upto_succ hu (by simp only [hg, ha]; simp [hi1, q]), by simp [wrap_succ h hlen]⟩⟩
        · have : i = 0 := by omega
          subst this
          simp [h0, h5, h6, h7]
          exact ⟨l.length - (0 + 1), by omega, 0 + 1, rfl, by omega, upto_succ hu (by simp only [hg, ha]; simp), wrap_succ h hlen⟩
    · have : i = l.length := by omega
      subst this
      simp [h5, h6, h7, holesOk, hu]
end Go.Proofs.Ythbbieobcokgbaa
