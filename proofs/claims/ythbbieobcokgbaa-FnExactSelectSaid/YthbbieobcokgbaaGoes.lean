/-
  Goes, of the specification and of the program, and its law.
-/
import Derived.Test.YthbbieobcokgbaaLawTermOk
namespace Go.Proofs.Ythbbieobcokgbaa
open Go Go.RowKit Eng
def goes (t : Term) (j : Job) : Bool :=
  if termOk t = true ∧ jobOk j = true then
    (if t.op = [61] then decide ((fieldV j t.field).1 = t.n) else if t.op = [60] then decide ((fieldV j t.field).1 < t.n) else if t.op = [62] then decide (t.n < (fieldV j t.field).1) else !decide ((fieldV j t.field).1 = t.n))
  else false
def ir_spec_Goes : L :=
  .seq (
  .reg [.bx 2 (.t 0),
    .bx 3 (.t 1),
    .mv 4 (.c (.bool false))]) (
  .seq (
  .seq (
  .reg [.ld 7 (.t 2) 3 true,
    .cq 8 F.spec_TermOk [(.t 7)],
    .un 9 (.t 8),
    .mv 10 (.t 9),
    .g 10 false (.ld 11 (.t 3) 11 true),
    .g 10 false (.cq 12 F.spec_JobOk [(.t 11)]),
    .g 10 false (.un 13 (.t 12)),
    .pk 14 (.t 10) (.c (.bool true)) (.t 13)]) (
  .cond (.t 14) (
    .seq (
    .reg [.mv 4 (.c (.bool false))]) (
    .ret)) (
    .skip))) (
  .seq (
  .reg [.ld 16 (.t 3) 11 true,
    .fa 17 (.t 2) 0,
    .ld 18 (.t 17) 1 false,
    .cq 19 F.spec_l18Field [(.t 16), (.t 18)],
    .mv 15 (.t 19),
    .ex 20 (.t 15) 0,
    .ex 21 (.t 15) 1,
    .mv 5 (.t 20),
    .mv 6 (.t 21)]) (
  .seq (
  .seq (
  .reg [.fa 22 (.t 2) 1,
    .ld 23 (.t 22) 1 false]) (
  .blk 0 (
    .seq (
    .reg [.bi 25 .eql (.t 23) (.c (.str [61])),
      .mv 24 (.t 25)]) (
    .cond (.t 24) (
      .seq (
      .reg [.mv 26 (.t 5),
        .fa 27 (.t 2) 2,
        .ld 28 (.t 27) 1 false,
        .bi 29 .eql (.t 26) (.t 28),
        .mv 4 (.t 29)]) (
      .ret)) (
      .seq (
      .reg [.bi 31 .eql (.t 23) (.c (.str [60])),
        .mv 30 (.t 31)]) (
      .cond (.t 30) (
        .seq (
        .reg [.mv 32 (.t 5),
          .fa 33 (.t 2) 2,
          .ld 34 (.t 33) 1 false,
          .bi 35 .lss (.t 32) (.t 34),
          .mv 4 (.t 35)]) (
        .ret)) (
        .seq (
        .reg [.bi 37 .eql (.t 23) (.c (.str [62])),
          .mv 36 (.t 37)]) (
        .cond (.t 36) (
          .seq (
          .reg [.mv 38 (.t 5),
            .fa 39 (.t 2) 2,
            .ld 40 (.t 39) 1 false,
            .bi 41 .gtr (.t 38) (.t 40),
            .mv 4 (.t 41)]) (
          .ret)) (
          .skip))))))))) (
  .seq (
  .reg [.mv 42 (.t 5),
    .fa 43 (.t 2) 2,
    .ld 44 (.t 43) 1 false,
    .bi 45 .neq (.t 42) (.t 44),
    .mv 4 (.t 45)]) (
  .ret)))))
def rs_spec_Goes : List Rv := [.t 4]
theorem ck_spec_Goes : chkFn Try.prog F.spec_Goes 2 ir_spec_Goes rs_spec_Goes = true := by kernel_rfl
set_option maxRecDepth 10000 in
theorem spec_Goes_ok (t : Term) (j : Job) : Snd Try.prog F.spec_Goes [eTerm t, eJob j] (.bool (goes t j)) [] := by
  refine snd_by ck_spec_Goes rfl (by simp) (den_W ?_)
  unfold ir_spec_Goes rs_spec_Goes
  unfold goes
  simp
  refine do_cq (spec_TermOk_ok t) (by simp [St.args]) ?_
  cases termOk t
  · simp
  simp
  refine do_cq (spec_JobOk_ok j) (by simp [St.args]) ?_
  cases jobOk j
  · simp
  simp
  refine do_cq (spec_l18Field_ok j t.field) (by simp [St.args]) ?_
  simp
  by_cases h1 : t.op = [61]
  · simp [h1]
  by_cases h2 : t.op = [60]
  · simp [h2]
  by_cases h3 : t.op = [62]
  · simp [h3]
  simp [h1, h2, h3]
def ir_impl_Goes : L :=
  .seq (
  .reg [.bx 2 (.t 0),
    .bx 3 (.t 1),
    .mv 4 (.c (.bool false))]) (
  .seq (
  .seq (
  .reg [.ld 7 (.t 2) 3 true,
    .cq 8 F.impl_TermOk [(.t 7)],
    .un 9 (.t 8),
    .mv 10 (.t 9),
    .g 10 false (.ld 11 (.t 3) 11 true),
    .g 10 false (.cq 12 F.impl_JobOk [(.t 11)]),
    .g 10 false (.un 13 (.t 12)),
    .pk 14 (.t 10) (.c (.bool true)) (.t 13)]) (
  .cond (.t 14) (
    .seq (
    .reg [.mv 4 (.c (.bool false))]) (
    .ret)) (
    .skip))) (
  .seq (
  .reg [.ld 16 (.t 3) 11 true,
    .fa 17 (.t 2) 0,
    .ld 18 (.t 17) 1 false,
    .cq 19 F.impl_field [(.t 16), (.t 18)],
    .mv 15 (.t 19),
    .ex 20 (.t 15) 0,
    .ex 21 (.t 15) 1,
    .mv 5 (.t 20),
    .mv 6 (.t 21)]) (
  .seq (
  .seq (
  .reg [.fa 22 (.t 2) 1,
    .ld 23 (.t 22) 1 false]) (
  .blk 0 (
    .seq (
    .reg [.bi 25 .eql (.t 23) (.c (.str [61])),
      .mv 24 (.t 25)]) (
    .cond (.t 24) (
      .seq (
      .reg [.mv 26 (.t 5),
        .fa 27 (.t 2) 2,
        .ld 28 (.t 27) 1 false,
        .bi 29 .eql (.t 26) (.t 28),
        .mv 4 (.t 29)]) (
      .ret)) (
      .seq (
      .reg [.bi 31 .eql (.t 23) (.c (.str [60])),
        .mv 30 (.t 31)]) (
      .cond (.t 30) (
        .seq (
        .reg [.mv 32 (.t 5),
          .fa 33 (.t 2) 2,
          .ld 34 (.t 33) 1 false,
          .bi 35 .lss (.t 32) (.t 34),
          .mv 4 (.t 35)]) (
        .ret)) (
        .seq (
        .reg [.bi 37 .eql (.t 23) (.c (.str [62])),
          .mv 36 (.t 37)]) (
        .cond (.t 36) (
          .seq (
          .reg [.mv 38 (.t 5),
            .fa 39 (.t 2) 2,
            .ld 40 (.t 39) 1 false,
            .bi 41 .gtr (.t 38) (.t 40),
            .mv 4 (.t 41)]) (
          .ret)) (
          .skip))))))))) (
  .seq (
  .reg [.mv 42 (.t 5),
    .fa 43 (.t 2) 2,
    .ld 44 (.t 43) 1 false,
    .bi 45 .neq (.t 42) (.t 44),
    .mv 4 (.t 45)]) (
  .ret)))))
def rs_impl_Goes : List Rv := [.t 4]
theorem ck_impl_Goes : chkFn Try.prog F.impl_Goes 2 ir_impl_Goes rs_impl_Goes = true := by kernel_rfl
set_option maxRecDepth 10000 in
theorem impl_Goes_ok (t : Term) (j : Job) : Snd Try.prog F.impl_Goes [eTerm t, eJob j] (.bool (goes t j)) [] := by
  refine snd_by ck_impl_Goes rfl (by simp) (den_W ?_)
  unfold ir_impl_Goes rs_impl_Goes
  unfold goes
  simp
  refine do_cq (impl_TermOk_ok t) (by simp [St.args]) ?_
  cases termOk t
  · simp
  simp
  refine do_cq (impl_JobOk_ok j) (by simp [St.args]) ?_
  cases jobOk j
  · simp
  simp
  refine do_cq (impl_field_ok j t.field) (by simp [St.args]) ?_
  simp
  by_cases h1 : t.op = [61]
  · simp [h1]
  by_cases h2 : t.op = [60]
  · simp [h2]
  by_cases h3 : t.op = [62]
  · simp [h3]
  simp [h1, h2, h3]
def ir_laws_FnExactGoes : L :=
  .seq (
  .reg [.bx 2 (.t 0),
    .bx 3 (.t 1),
    .mv 4 (.c (.bool false))]) (
  .seq (
  .reg [.mv 5 (.c (.int .i64 1048576))]) (
  .seq (
  .reg [.ld 8 (.t 2) 3 true,
    .mv 9 (.t 5),
    .cq 10 F.laws_szTerm [(.t 8), (.t 9)],
    .mv 5 (.t 10)]) (
  .seq (
  .seq (
  .reg [.mv 11 (.t 5),
    .bi 12 .lss (.t 11) (.c (.int .i64 0))]) (
  .cond (.t 12) (
    .seq (
    .reg [.mv 4 (.c (.bool true))]) (
    .ret)) (
    .skip))) (
  .seq (
  .rq 6 [.ld 13 (.t 2) 3 true,
    .cq 14 F.laws_toTerm [(.t 13)],
    .ld 15 (.t 3) 11 true,
    .cq 16 F.laws_toJob [(.t 15)],
    .cq 17 F.spec_Goes [(.t 14), (.t 16)],
    .mv 6 (.t 17)]) (
  .seq (
  .rq 6 [.ld 18 (.t 2) 3 true,
    .cq 19 F.laws_toTerm [(.t 18)],
    .ld 20 (.t 3) 11 true,
    .cq 21 F.laws_toJob [(.t 20)],
    .cq 22 F.impl_Goes [(.t 19), (.t 21)],
    .mv 7 (.t 22)]) (
  .seq (
  .seq (
  .reg [.mv 23 (.t 7),
    .mv 24 (.t 6),
    .eb 25 true (.t 23) (.t 24)]) (
  .cond (.t 25) (
    .seq (
    .reg [.mv 4 (.c (.bool false))]) (
    .ret)) (
    .skip))) (
  .seq (
  .reg [.mv 4 (.c (.bool true))]) (
  .ret))))))))
def rs_laws_FnExactGoes : List Rv := [.t 4]
theorem ck_laws_FnExactGoes : chkFn Try.prog F.laws_FnExactGoes 2 ir_laws_FnExactGoes rs_laws_FnExactGoes = true := by kernel_rfl
theorem FnExactGoes_c (t : Term) (j : Job) (hf : t.field.length ≤ maxLen) (ho : t.op.length ≤ maxLen) : Snd Try.prog F.laws_FnExactGoes [eTerm t, eJob j] (.bool true) [] := by
  refine snd_by ck_laws_FnExactGoes rfl (by simp) (den_W ?_)
  unfold ir_laws_FnExactGoes rs_laws_FnExactGoes
  simp
  refine do_cq (szTerm_ok t 1048576 (by omega) (by omega) hf ho) (by simp [St.args]) ?_
  simp
  intro _
  refine do_cq (toTerm_ok t) (by simp [St.args]) ?_
  simp
  refine do_cq (toJob_ok j) (by simp [St.args]) ?_
  simp
  refine do_cq (spec_Goes_ok t j) (by simp [St.args]) ?_
  simp
  refine do_cq (toTerm_ok t) (by simp [St.args]) ?_
  simp
  refine do_cq (toJob_ok j) (by simp [St.args]) ?_
  simp
  refine do_cq (impl_Goes_ok t j) (by simp [St.args]) ?_
  simp
theorem FnExactGoes_ok (xs : List AV) (h : okVs [tyTerm, tyJob] xs) : Snd Try.prog F.laws_FnExactGoes xs (.bool true) [] := by
  obtain ⟨a, _, rfl, ha, b, _, rfl, hb, rfl⟩ := h
  obtain ⟨cs, rfl, h⟩ := ha
  simp only [Ty.ok, okL] at h
  obtain ⟨_, _, rfl, ⟨f, rfl, hf⟩, _, _, rfl, ⟨o, rfl, ho⟩, _, _, rfl, ⟨n, rfl, _⟩, rfl⟩ := h
  obtain ⟨j, rfl⟩ := Job_of hb
  exact FnExactGoes_c ⟨f, o, n⟩ j hf ho
end Go.Proofs.Ythbbieobcokgbaa
