/-
  Length, of the specification and of the program.
-/
import Derived.Test.YthbbieobcokgbaaHoles1
import Derived.Test.YthbbieobcokgbaaLaw0
namespace Go.Proofs.Ythbbieobcokgbaa
open Go Go.RowKit Eng
def w64 (n : Int) : Int := IntKind.i64.wrap n
def lenTo (l : List Hole) (i : Nat) : Int := (l.take i).foldl (fun n h => w64 (w64 (n + h.b) - h.a)) 0
def lengthOf (l : List Hole) : Int := if holesOk l = true then lenTo l l.length else 0
theorem lenTo_succ {l : List Hole} {i : Nat} (h : i < l.length) : lenTo l (i + 1) = w64 (w64 (lenTo l i + l[i].b) - l[i].a) := by
  unfold lenTo
  rw [List.take_succ_eq_append_getElem h, List.foldl_append]
  rfl
def ir_spec_Length : L :=
  .seq (
  .reg [.mv 2 (.c (.int .i64 0))]) (
  .seq (
  .reg [.mv 3 (.c (.int .i64 0))]) (
  .seq (
  .seq (
  .reg [.mv 6 (.t 0),
    .cq 7 F.spec_HolesOk [(.t 6)],
    .un 8 (.t 7)]) (
  .cond (.t 8) (
    .seq (
    .reg [.mv 9 (.t 3),
      .mv 2 (.t 9)]) (
    .ret)) (
    .skip))) (
  .seq (
  .seq (
  .reg [.mv 10 (.t 0),
    .ln 11 (.t 10),
    .mv 12 (.c (.int .i64 0))]) (
  .blk 0 (
    .loop (
      .seq (
      .reg [.bi 13 .lss (.t 12) (.t 11)]) (
      .seq (
      .cond (.t 13) (
        .skip) (
        .exit 0)) (
      .seq (
      .blk 1 (
        .seq (
        .reg [.ia 14 (.t 10) (.t 12) 2,
          .ld 15 (.t 14) 2 true,
          .al 5 [.int .i64 0, .int .i64 0],
          .st (.t 5) (.t 15) 2]) (
        .reg [.mv 16 (.t 3),
          .fa 17 (.t 5) 1,
          .ld 18 (.t 17) 1 false,
          .bi 19 .add (.t 16) (.t 18),
          .fa 20 (.t 5) 0,
          .ld 21 (.t 20) 1 false,
          .bi 22 .sub (.t 19) (.t 21),
          .mv 3 (.t 22)]))) (
      .reg [.bi 23 .add (.t 12) (.c (.int .i64 1)),
        .mv 12 (.t 23)]))))))) (
  .seq (
  .reg [.mv 24 (.t 3),
    .mv 2 (.t 24)]) (
  .ret)))))
def rs_spec_Length : List Rv := [.t 2]
theorem ck_spec_Length : chkFn Try.prog F.spec_Length 1 ir_spec_Length rs_spec_Length = true := by kernel_rfl
theorem spec_Length_ok (l : List Hole) : Snd Try.prog F.spec_Length [.sl .rd 2 (l.map eHole)] (.int .i64 (lengthOf l)) [] := by
  refine snd_by ck_spec_Length rfl (by simp) (den_W ?_)
  unfold ir_spec_Length rs_spec_Length
  unfold lengthOf
  simp
  refine do_cq (spec_HolesOk_ok l) (by simp [St.args]) ?_
  cases holesOk l
  · simp
  simp
  intro hl
  refine W_loop (fun m s => ∃ i, m = l.length - i ∧ i ≤ l.length ∧ s.e 0 = .sl .rd 2 (l.map eHole) ∧ s.e 10 = .sl .rd 2 (l.map eHole) ∧ s.e 11 = .int .i64 l.length ∧ s.e 12 = .int .i64 (i : Nat) ∧ s.e 3 = .int .i64 (lenTo l i)) l.length ?_ ?_
  · exact ⟨0, by simp [lenTo]⟩
  · rintro m s ⟨i, rfl, hi, h0, h5, h6, h7, h3⟩
    by_cases h : i < l.length
    · simp [h0, h5, h6, h7, h3, h]
      exact ⟨l.length - (i + 1), by omega, i + 1, by simp, by omega, wrap_succ h hl, (lenTo_succ h).symm⟩
    · have : i = l.length := by omega
      subst this
      simp [h5, h6, h7, h3]
def ir_impl_Length : L :=
  .seq (
  .reg [.mv 2 (.c (.int .i64 0))]) (
  .seq (
  .seq (
  .reg [.mv 6 (.t 0),
    .cq 7 F.impl_HolesOk [(.t 6)],
    .un 8 (.t 7)]) (
  .cond (.t 8) (
    .seq (
    .reg [.mv 2 (.c (.int .i64 0))]) (
    .ret)) (
    .skip))) (
  .seq (
  .reg [.mv 3 (.c (.int .i64 0))]) (
  .seq (
  .seq (
  .reg [.mv 9 (.t 0),
    .ln 10 (.t 9),
    .mv 11 (.c (.int .i64 0))]) (
  .blk 0 (
    .loop (
      .seq (
      .reg [.bi 12 .lss (.t 11) (.t 10)]) (
      .seq (
      .cond (.t 12) (
        .skip) (
        .exit 0)) (
      .seq (
      .blk 1 (
        .seq (
        .reg [.ia 13 (.t 9) (.t 11) 2,
          .ld 14 (.t 13) 2 true,
          .al 5 [.int .i64 0, .int .i64 0],
          .st (.t 5) (.t 14) 2]) (
        .reg [.mv 15 (.t 3),
          .fa 16 (.t 5) 1,
          .ld 17 (.t 16) 1 false,
          .bi 18 .add (.t 15) (.t 17),
          .fa 19 (.t 5) 0,
          .ld 20 (.t 19) 1 false,
          .bi 21 .sub (.t 18) (.t 20),
          .mv 3 (.t 21)]))) (
      .reg [.bi 22 .add (.t 11) (.c (.int .i64 1)),
        .mv 11 (.t 22)]))))))) (
  .seq (
  .reg [.mv 23 (.t 3),
    .mv 2 (.t 23)]) (
  .ret)))))
def rs_impl_Length : List Rv := [.t 2]
theorem ck_impl_Length : chkFn Try.prog F.impl_Length 1 ir_impl_Length rs_impl_Length = true := by kernel_rfl
theorem impl_Length_ok (l : List Hole) : Snd Try.prog F.impl_Length [.sl .rd 2 (l.map eHole)] (.int .i64 (lengthOf l)) [] := by
  refine snd_by ck_impl_Length rfl (by simp) (den_W ?_)
  unfold ir_impl_Length rs_impl_Length
  unfold lengthOf
  simp
  refine do_cq (impl_HolesOk_ok l) (by simp [St.args]) ?_
  cases holesOk l
  · simp
  simp
  intro hl
  refine W_loop (fun m s => ∃ i, m = l.length - i ∧ i ≤ l.length ∧ s.e 0 = .sl .rd 2 (l.map eHole) ∧ s.e 9 = .sl .rd 2 (l.map eHole) ∧ s.e 10 = .int .i64 l.length ∧ s.e 11 = .int .i64 (i : Nat) ∧ s.e 3 = .int .i64 (lenTo l i)) l.length ?_ ?_
  · exact ⟨0, by simp [lenTo]⟩
  · rintro m s ⟨i, rfl, hi, h0, h5, h6, h7, h3⟩
    by_cases h : i < l.length
    · simp [h0, h5, h6, h7, h3, h]
      exact ⟨l.length - (i + 1), by omega, i + 1, by simp, by omega, wrap_succ h hl, (lenTo_succ h).symm⟩
    · have : i = l.length := by omega
      subst this
      simp [h5, h6, h7, h3]
def ir_laws_FnExactLength : L :=
  .seq (
  .reg [.mv 2 (.c (.bool false))]) (
  .seq (
  .reg [.mv 3 (.c (.int .i64 1048576))]) (
  .seq (
  .reg [.mv 7 (.t 0),
    .mv 8 (.t 3),
    .cq 9 F.laws_szHoleS [(.t 7), (.t 8)],
    .mv 3 (.t 9)]) (
  .seq (
  .seq (
  .reg [.mv 10 (.t 3),
    .bi 11 .lss (.t 10) (.c (.int .i64 0))]) (
  .cond (.t 11) (
    .seq (
    .reg [.mv 2 (.c (.bool true))]) (
    .ret)) (
    .skip))) (
  .seq (
  .reg [.mv 12 (.t 0),
    .cq 13 F.laws_toHoleS [(.t 12)],
    .cq 14 F.spec_Length [(.t 13)],
    .mv 4 (.t 14)]) (
  .seq (
  .reg [.mv 15 (.t 0),
    .cq 16 F.laws_toHoleS [(.t 15)],
    .mv 5 (.t 16)]) (
  .seq (
  .reg [.mv 17 (.t 5),
    .cq 18 F.impl_Length [(.t 17)],
    .mv 6 (.t 18)]) (
  .seq (
  .seq (
  .reg [.mv 19 (.t 6),
    .mv 20 (.t 4),
    .bi 21 .neq (.t 19) (.t 20)]) (
  .cond (.t 21) (
    .seq (
    .reg [.mv 2 (.c (.bool false))]) (
    .ret)) (
    .skip))) (
  .seq (
  .seq (
  .reg [.mv 22 (.t 5),
    .mv 23 (.t 0),
    .cq 24 F.laws_toHoleS [(.t 23)],
    .cq 25 F.laws_eqHoleS [(.t 22), (.t 24)],
    .un 26 (.t 25)]) (
  .cond (.t 26) (
    .seq (
    .reg [.mv 2 (.c (.bool false))]) (
    .ret)) (
    .skip))) (
  .seq (
  .reg [.mv 2 (.c (.bool true))]) (
  .ret))))))))))
def rs_laws_FnExactLength : List Rv := [.t 2]
theorem ck_laws_FnExactLength : chkFn Try.prog F.laws_FnExactLength 1 ir_laws_FnExactLength rs_laws_FnExactLength = true := by kernel_rfl
theorem FnExactLength_c (l : List Hole) : Snd Try.prog F.laws_FnExactLength [.sl .rd 2 (l.map eHole)] (.bool true) [] := by
  refine snd_by ck_laws_FnExactLength rfl (by simp) (den_W ?_)
  unfold ir_laws_FnExactLength rs_laws_FnExactLength
  simp
  refine do_cq (szHoleS_ok l 1048576 (by omega) (by omega)) (by simp [St.args]) ?_
  simp
  intro hs
  obtain ⟨hl, _⟩ := szr_nn hs
  have hl : l.length ≤ 1048576 := by omega
  refine do_cq (toHoleS_ok l hl) (by simp [St.args]) ?_
  simp
  refine do_cq (spec_Length_ok l) (by simp [St.args]) ?_
  simp
  refine do_cq (toHoleS_ok l hl) (by simp [St.args]) ?_
  simp
  refine do_cq (impl_Length_ok l) (by simp [St.args]) ?_
  simp
  refine do_cq (toHoleS_ok l hl) (by simp [St.args]) ?_
  simp
  refine do_cq (eqHoleS_ok l l) (by simp [St.args]) ?_
  simp
theorem FnExactLength_ok (xs : List AV) (h : okVs [.sl tyHole] xs) : Snd Try.prog F.laws_FnExactLength xs (.bool true) [] := by
  obtain ⟨a, _, rfl, ha, rfl⟩ := h
  obtain ⟨l, ha⟩ := HoleS_of ha
  exact (FnExactLength_c l).wk ⟨ha, trivial⟩
end Go.Proofs.Ythbbieobcokgbaa
