/-
  Fields of jobs, terms of queries: TermOk, Goes.
-/
import Derived.Test.YthbbieobcokgbaaVecs
import Derived.Test.YthbbieobcokgbaaTyTerm
namespace Go.Proofs.Ythbbieobcokgbaa
open Go Go.RowKit Eng
def fieldV (j : Job) (s : Str) : Int × Bool :=
  if s = [105, 100] then (j.id, true) else if s = [112, 114, 105, 111] then (j.prio, true) else if s = [110, 111, 100, 101, 115] then (j.nodes, true) else if s = [119, 97, 108, 108] then (j.wall, true)
  else if s = [108, 101, 118, 101, 108] then (j.level, true) else if s = [97] then (j.need.a, true) else if s = [98] then (j.need.b, true) else if s = [99] then (j.need.c, true) else (0, false)
def ir_spec_l18Field : L :=
  .seq (
  .reg [.bx 2 (.t 0),
    .mv 4 (.c (.int .i64 0)),
    .mv 5 (.c (.bool false))]) (
  .seq (
  .seq (
  .reg [.mv 6 (.t 1)]) (
  .blk 0 (
    .seq (
    .reg [.bi 8 .eql (.t 6) (.c (.str [105, 100])),
      .mv 7 (.t 8)]) (
    .cond (.t 7) (
      .seq (
      .reg [.fa 9 (.t 2) 0,
        .ld 10 (.t 9) 1 false,
        .mv 4 (.t 10),
        .mv 5 (.c (.bool true))]) (
      .ret)) (
      .seq (
      .reg [.bi 12 .eql (.t 6) (.c (.str [112, 114, 105, 111])),
        .mv 11 (.t 12)]) (
      .cond (.t 11) (
        .seq (
        .reg [.fa 13 (.t 2) 1,
          .ld 14 (.t 13) 1 false,
          .mv 4 (.t 14),
          .mv 5 (.c (.bool true))]) (
        .ret)) (
        .seq (
        .reg [.bi 16 .eql (.t 6) (.c (.str [110, 111, 100, 101, 115])),
          .mv 15 (.t 16)]) (
        .cond (.t 15) (
          .seq (
          .reg [.fa 17 (.t 2) 2,
            .ld 18 (.t 17) 1 false,
            .mv 4 (.t 18),
            .mv 5 (.c (.bool true))]) (
          .ret)) (
          .seq (
          .reg [.bi 20 .eql (.t 6) (.c (.str [119, 97, 108, 108])),
            .mv 19 (.t 20)]) (
          .cond (.t 19) (
            .seq (
            .reg [.fa 21 (.t 2) 9,
              .ld 22 (.t 21) 1 false,
              .mv 4 (.t 22),
              .mv 5 (.c (.bool true))]) (
            .ret)) (
            .seq (
            .reg [.bi 24 .eql (.t 6) (.c (.str [108, 101, 118, 101, 108])),
              .mv 23 (.t 24)]) (
            .cond (.t 23) (
              .seq (
              .reg [.fa 25 (.t 2) 10,
                .ld 26 (.t 25) 1 false,
                .mv 4 (.t 26),
                .mv 5 (.c (.bool true))]) (
              .ret)) (
              .seq (
              .reg [.bi 28 .eql (.t 6) (.c (.str [97])),
                .mv 27 (.t 28)]) (
              .cond (.t 27) (
                .seq (
                .reg [.fa 29 (.t 2) 3,
                  .fa 30 (.t 29) 0,
                  .ld 31 (.t 30) 1 false,
                  .mv 4 (.t 31),
                  .mv 5 (.c (.bool true))]) (
                .ret)) (
                .seq (
                .reg [.bi 33 .eql (.t 6) (.c (.str [98])),
                  .mv 32 (.t 33)]) (
                .cond (.t 32) (
                  .seq (
                  .reg [.fa 34 (.t 2) 3,
                    .fa 35 (.t 34) 1,
                    .ld 36 (.t 35) 1 false,
                    .mv 4 (.t 36),
                    .mv 5 (.c (.bool true))]) (
                  .ret)) (
                  .seq (
                  .reg [.bi 38 .eql (.t 6) (.c (.str [99])),
                    .mv 37 (.t 38)]) (
                  .cond (.t 37) (
                    .seq (
                    .reg [.fa 39 (.t 2) 3,
                      .fa 40 (.t 39) 2,
                      .ld 41 (.t 40) 1 false,
                      .mv 4 (.t 41),
                      .mv 5 (.c (.bool true))]) (
                    .ret)) (
                    .skip))))))))))))))))))) (
  .seq (
  .reg [.mv 4 (.c (.int .i64 0)),
    .mv 5 (.c (.bool false))]) (
  .ret)))
def rs_spec_l18Field : List Rv := [.t 4, .t 5]
theorem ck_spec_l18Field : chkFn Try.prog F.spec_l18Field 2 ir_spec_l18Field rs_spec_l18Field = true := by kernel_rfl
set_option maxRecDepth 10000 in
theorem spec_l18Field_ok (j : Job) (s : Str) : Snd Try.prog F.spec_l18Field [eJob j, .str s] (.tup [.int .i64 (fieldV j s).1, .bool (fieldV j s).2]) [] := by
  refine snd_by ck_spec_l18Field rfl (by simp) (den_W ?_)
  unfold ir_spec_l18Field rs_spec_l18Field fieldV
  by_cases h0 : s = [105, 100]
  · subst h0; simp
  by_cases h1 : s = [112, 114, 105, 111]
  · subst h1; simp
  by_cases h2 : s = [110, 111, 100, 101, 115]
  · subst h2; simp
  by_cases h3 : s = [119, 97, 108, 108]
  · subst h3; simp
  by_cases h4 : s = [108, 101, 118, 101, 108]
  · subst h4; simp
  by_cases h5 : s = [97]
  · subst h5; simp
  by_cases h6 : s = [98]
  · subst h6; simp
  by_cases h7 : s = [99]
  · subst h7; simp
  simp [h0, h1, h2, h3, h4, h5, h6, h7]
def ir_impl_field : L :=
  .seq (
  .reg [.bx 2 (.t 0),
    .mv 4 (.c (.int .i64 0)),
    .mv 5 (.c (.bool false))]) (
  .seq (
  .seq (
  .reg [.mv 6 (.t 1)]) (
  .blk 0 (
    .seq (
    .reg [.bi 8 .eql (.t 6) (.c (.str [105, 100])),
      .mv 7 (.t 8)]) (
    .cond (.t 7) (
      .seq (
      .reg [.fa 9 (.t 2) 0,
        .ld 10 (.t 9) 1 false,
        .mv 4 (.t 10),
        .mv 5 (.c (.bool true))]) (
      .ret)) (
      .seq (
      .reg [.bi 12 .eql (.t 6) (.c (.str [112, 114, 105, 111])),
        .mv 11 (.t 12)]) (
      .cond (.t 11) (
        .seq (
        .reg [.fa 13 (.t 2) 1,
          .ld 14 (.t 13) 1 false,
          .mv 4 (.t 14),
          .mv 5 (.c (.bool true))]) (
        .ret)) (
        .seq (
        .reg [.bi 16 .eql (.t 6) (.c (.str [110, 111, 100, 101, 115])),
          .mv 15 (.t 16)]) (
        .cond (.t 15) (
          .seq (
          .reg [.fa 17 (.t 2) 2,
            .ld 18 (.t 17) 1 false,
            .mv 4 (.t 18),
            .mv 5 (.c (.bool true))]) (
          .ret)) (
          .seq (
          .reg [.bi 20 .eql (.t 6) (.c (.str [119, 97, 108, 108])),
            .mv 19 (.t 20)]) (
          .cond (.t 19) (
            .seq (
            .reg [.fa 21 (.t 2) 9,
              .ld 22 (.t 21) 1 false,
              .mv 4 (.t 22),
              .mv 5 (.c (.bool true))]) (
            .ret)) (
            .seq (
            .reg [.bi 24 .eql (.t 6) (.c (.str [108, 101, 118, 101, 108])),
              .mv 23 (.t 24)]) (
            .cond (.t 23) (
              .seq (
              .reg [.fa 25 (.t 2) 10,
                .ld 26 (.t 25) 1 false,
                .mv 4 (.t 26),
                .mv 5 (.c (.bool true))]) (
              .ret)) (
              .seq (
              .reg [.bi 28 .eql (.t 6) (.c (.str [97])),
                .mv 27 (.t 28)]) (
              .cond (.t 27) (
                .seq (
                .reg [.fa 29 (.t 2) 3,
                  .fa 30 (.t 29) 0,
                  .ld 31 (.t 30) 1 false,
                  .mv 4 (.t 31),
                  .mv 5 (.c (.bool true))]) (
                .ret)) (
                .seq (
                .reg [.bi 33 .eql (.t 6) (.c (.str [98])),
                  .mv 32 (.t 33)]) (
                .cond (.t 32) (
                  .seq (
                  .reg [.fa 34 (.t 2) 3,
                    .fa 35 (.t 34) 1,
                    .ld 36 (.t 35) 1 false,
                    .mv 4 (.t 36),
                    .mv 5 (.c (.bool true))]) (
                  .ret)) (
                  .seq (
                  .reg [.bi 38 .eql (.t 6) (.c (.str [99])),
                    .mv 37 (.t 38)]) (
                  .cond (.t 37) (
                    .seq (
                    .reg [.fa 39 (.t 2) 3,
                      .fa 40 (.t 39) 2,
                      .ld 41 (.t 40) 1 false,
                      .mv 4 (.t 41),
                      .mv 5 (.c (.bool true))]) (
                    .ret)) (
                    .skip))))))))))))))))))) (
  .seq (
  .reg [.mv 4 (.c (.int .i64 0)),
    .mv 5 (.c (.bool false))]) (
  .ret)))
def rs_impl_field : List Rv := [.t 4, .t 5]
theorem ck_impl_field : chkFn Try.prog F.impl_field 2 ir_impl_field rs_impl_field = true := by kernel_rfl
set_option maxRecDepth 10000 in
theorem impl_field_ok (j : Job) (s : Str) : Snd Try.prog F.impl_field [eJob j, .str s] (.tup [.int .i64 (fieldV j s).1, .bool (fieldV j s).2]) [] := by
  refine snd_by ck_impl_field rfl (by simp) (den_W ?_)
  unfold ir_impl_field rs_impl_field fieldV
  by_cases h0 : s = [105, 100]
  · subst h0; simp
  by_cases h1 : s = [112, 114, 105, 111]
  · subst h1; simp
  by_cases h2 : s = [110, 111, 100, 101, 115]
  · subst h2; simp
  by_cases h3 : s = [119, 97, 108, 108]
  · subst h3; simp
  by_cases h4 : s = [108, 101, 118, 101, 108]
  · subst h4; simp
  by_cases h5 : s = [97]
  · subst h5; simp
  by_cases h6 : s = [98]
  · subst h6; simp
  by_cases h7 : s = [99]
  · subst h7; simp
  simp [h0, h1, h2, h3, h4, h5, h6, h7]
def isOp (s : Str) : Bool := decide (s = [61]) || decide (s = [60]) || decide (s = [62]) || decide (s = [33])
def ir_impl_isOp : L :=
  .seq (
  .reg [.mv 2 (.c (.bool false))]) (
  .seq (
  .reg [.mv 3 (.t 0),
    .bi 4 .eql (.t 3) (.c (.str [61])),
    .mv 5 (.t 4),
    .g 5 false (.mv 6 (.t 0)),
    .g 5 false (.bi 7 .eql (.t 6) (.c (.str [60]))),
    .pk 8 (.t 5) (.c (.bool true)) (.t 7),
    .mv 9 (.t 8),
    .g 9 false (.mv 10 (.t 0)),
    .g 9 false (.bi 11 .eql (.t 10) (.c (.str [62]))),
    .pk 12 (.t 9) (.c (.bool true)) (.t 11),
    .mv 13 (.t 12),
    .g 13 false (.mv 14 (.t 0)),
    .g 13 false (.bi 15 .eql (.t 14) (.c (.str [33]))),
    .pk 16 (.t 13) (.c (.bool true)) (.t 15),
    .mv 2 (.t 16)]) (
  .ret))
def rs_impl_isOp : List Rv := [.t 2]
theorem ck_impl_isOp : chkFn Try.prog F.impl_isOp 1 ir_impl_isOp rs_impl_isOp = true := by kernel_rfl
theorem isOp_ok (s : Str) : Snd Try.prog F.impl_isOp [.str s] (.bool (isOp s)) [] := by
  refine snd_by ck_impl_isOp rfl (by simp) (den_W ?_)
  unfold ir_impl_isOp rs_impl_isOp
  unfold isOp
  by_cases h1 : s = [61]
  · simp [h1]
  by_cases h2 : s = [60]
  · simp [h2]
  by_cases h3 : s = [62]
  · simp [h3]
  simp [h1, h2, h3]
def job0 : Job := ⟨0, 0, 0, ⟨0, 0, 0⟩, ⟨0, 0, 0⟩, 0, 0⟩
def termOk (t : Term) : Bool := (fieldV job0 t.field).2 && isOp t.op && time t.n
def ir_impl_TermOk : L :=
  .seq (
  .reg [.bx 1 (.t 0),
    .mv 2 (.c (.bool false))]) (
  .seq (
  .reg [.bd 6 [.int .i64 0, .int .i64 0, .int .i64 0, .int .i64 0, .int .i64 0, .int .i64 0, .int .i64 0, .int .i64 0, .int .i64 0, .int .i64 0, .int .i64 0] [],
    .fa 7 (.t 1) 0,
    .ld 8 (.t 7) 1 false,
    .cq 9 F.impl_field [(.t 6), (.t 8)],
    .mv 5 (.t 9),
    .ex 10 (.t 5) 0,
    .ex 11 (.t 5) 1,
    .mv 3 (.t 10),
    .mv 4 (.t 11)]) (
  .seq (
  .reg [.mv 12 (.t 4),
    .mv 13 (.t 12),
    .g 13 true (.fa 14 (.t 1) 1),
    .g 13 true (.ld 15 (.t 14) 1 false),
    .g 13 true (.cq 16 F.impl_isOp [(.t 15)]),
    .pk 17 (.t 13) (.t 16) (.c (.bool false)),
    .mv 18 (.t 17),
    .g 18 true (.fa 19 (.t 1) 2),
    .g 18 true (.ld 20 (.t 19) 1 false),
    .g 18 true (.cq 21 F.impl_isTime [(.t 20)]),
    .pk 22 (.t 18) (.t 21) (.c (.bool false)),
    .mv 2 (.t 22)]) (
  .ret)))
def rs_impl_TermOk : List Rv := [.t 2]
theorem ck_impl_TermOk : chkFn Try.prog F.impl_TermOk 1 ir_impl_TermOk rs_impl_TermOk = true := by kernel_rfl
theorem impl_TermOk_ok (t : Term) : Snd Try.prog F.impl_TermOk [eTerm t] (.bool (termOk t)) [] := by
  refine snd_by ck_impl_TermOk rfl (by simp) (den_W ?_)
  unfold ir_impl_TermOk rs_impl_TermOk
  unfold termOk
  simp
  refine do_cq (impl_field_ok job0 t.field) (by simp [St.args, job0]) ?_
  simp
  cases (fieldV job0 t.field).2 <;> simp
  refine do_cq (isOp_ok t.op) (by simp [St.args]) ?_
  cases isOp t.op <;> simp
  refine do_cq (isTime_ok t.n) (by simp [St.args]) ?_
  cases time t.n <;> simp
def ir_spec_TermOk : L :=
  .seq (
  .reg [.bx 1 (.t 0),
    .mv 2 (.c (.bool false))]) (
  .seq (
  .reg [.bd 6 [.int .i64 0, .int .i64 0, .int .i64 0, .int .i64 0, .int .i64 0, .int .i64 0, .int .i64 0, .int .i64 0, .int .i64 0, .int .i64 0, .int .i64 0] [],
    .fa 7 (.t 1) 0,
    .ld 8 (.t 7) 1 false,
    .cq 9 F.spec_l18Field [(.t 6), (.t 8)],
    .mv 5 (.t 9),
    .ex 10 (.t 5) 0,
    .ex 11 (.t 5) 1,
    .mv 3 (.t 10),
    .mv 4 (.t 11)]) (
  .seq (
  .reg [.mv 12 (.t 4),
    .mv 13 (.t 12),
    .g 13 true (.fa 14 (.t 1) 1),
    .g 13 true (.ld 15 (.t 14) 1 false),
    .g 13 true (.bi 16 .eql (.t 15) (.c (.str [61]))),
    .g 13 true (.mv 17 (.t 16)),
    .g 17 false (.fa 18 (.t 1) 1),
    .g 17 false (.ld 19 (.t 18) 1 false),
    .g 17 false (.bi 20 .eql (.t 19) (.c (.str [60]))),
    .g 13 true (.pk 21 (.t 17) (.c (.bool true)) (.t 20)),
    .g 13 true (.mv 22 (.t 21)),
    .g 22 false (.fa 23 (.t 1) 1),
    .g 22 false (.ld 24 (.t 23) 1 false),
    .g 22 false (.bi 25 .eql (.t 24) (.c (.str [62]))),
    .g 13 true (.pk 26 (.t 22) (.c (.bool true)) (.t 25)),
    .g 13 true (.mv 27 (.t 26)),
    .g 27 false (.fa 28 (.t 1) 1),
    .g 27 false (.ld 29 (.t 28) 1 false),
    .g 27 false (.bi 30 .eql (.t 29) (.c (.str [33]))),
    .g 13 true (.pk 31 (.t 27) (.c (.bool true)) (.t 30)),
    .pk 32 (.t 13) (.t 31) (.c (.bool false)),
    .mv 33 (.t 32),
    .g 33 true (.fa 34 (.t 1) 2),
    .g 33 true (.ld 35 (.t 34) 1 false),
    .g 33 true (.cq 36 F.spec_l01Time [(.t 35)]),
    .pk 37 (.t 33) (.t 36) (.c (.bool false)),
    .mv 2 (.t 37)]) (
  .ret)))
def rs_spec_TermOk : List Rv := [.t 2]
theorem ck_spec_TermOk : chkFn Try.prog F.spec_TermOk 1 ir_spec_TermOk rs_spec_TermOk = true := by kernel_rfl
theorem spec_TermOk_ok (t : Term) : Snd Try.prog F.spec_TermOk [eTerm t] (.bool (termOk t)) [] := by
  refine snd_by ck_spec_TermOk rfl (by simp) (den_W ?_)
  unfold ir_spec_TermOk rs_spec_TermOk
  unfold termOk
  simp
  refine do_cq (spec_l18Field_ok job0 t.field) (by simp [St.args, job0]) ?_
  simp
  cases (fieldV job0 t.field).2
  · simp
  unfold isOp
  by_cases h1 : t.op = [61]
  · simp [h1]
    refine do_cq (spec_time_ok t.n) (by simp [St.args]) ?_
    simp
  by_cases h2 : t.op = [60]
  · simp [h2]
    refine do_cq (spec_time_ok t.n) (by simp [St.args]) ?_
    simp
  by_cases h3 : t.op = [62]
  · simp [h3]
    refine do_cq (spec_time_ok t.n) (by simp [St.args]) ?_
    simp
  by_cases h4 : t.op = [33]
  · simp [h4]
    refine do_cq (spec_time_ok t.n) (by simp [St.args]) ?_
    simp
  simp [h1, h2, h3, h4]
end Go.Proofs.Ythbbieobcokgbaa
