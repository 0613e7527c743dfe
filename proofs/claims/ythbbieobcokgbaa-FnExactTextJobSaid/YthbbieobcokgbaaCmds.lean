/-
  Commands and their texts; JobText and its law.
-/
import Derived.Test.YthbbieobcokgbaaVecs
import Derived.Test.YthbbieobcokgbaaWords
import Derived.Test.YthbbieobcokgbaaLaw0
namespace Go.Proofs.Ythbbieobcokgbaa
open Go Go.RowKit Eng
structure Cmd where
  kind : Int
  job : Job
  n : Int
  lic : Vec
  deriving DecidableEq
@[simp] def eCmd (c : Cmd) : AV := .agg [.int .i64 c.kind, .int .i64 c.job.id, .int .i64 c.job.prio, .int .i64 c.job.nodes, .int .i64 c.job.need.a, .int .i64 c.job.need.b, .int .i64 c.job.need.c, .int .i64 c.job.lic.a, .int .i64 c.job.lic.b, .int .i64 c.job.lic.c,
  .int .i64 c.job.wall, .int .i64 c.job.level, .int .i64 c.n, .int .i64 c.lic.a, .int .i64 c.lic.b, .int .i64 c.lic.c]
def isVec0 (v : Vec) : Bool := decide (v = ⟨0, 0, 0⟩)
def isJob0 (j : Job) : Bool := decide (j = ⟨0, 0, 0, ⟨0, 0, 0⟩, ⟨0, 0, 0⟩, 0, 0⟩)
theorem eq_vec0 (v : Vec) : eqCells [0, 0, 0] [.int .i64 v.a, .int .i64 v.b, .int .i64 v.c] [.int .i64 0, .int .i64 0, .int .i64 0] = some (isVec0 v) := by
  obtain ⟨a, b, c⟩ := v
  simp [eqCells, isVec0]
  grind
theorem eq_job0 (j : Job) : eqCells [0, 0, 0, 0, 0, 0, 0, 0, 0, 0, 0] [.int .i64 j.id, .int .i64 j.prio, .int .i64 j.nodes, .int .i64 j.need.a, .int .i64 j.need.b, .int .i64 j.need.c, .int .i64 j.lic.a, .int .i64 j.lic.b, .int .i64 j.lic.c, .int .i64 j.wall, .int .i64 j.level]
    [.int .i64 0, .int .i64 0, .int .i64 0, .int .i64 0, .int .i64 0, .int .i64 0, .int .i64 0, .int .i64 0, .int .i64 0, .int .i64 0, .int .i64 0] = some (isJob0 j) := by
  obtain ⟨a, b, c, ⟨d, e, f⟩, ⟨g, h, i⟩, k, l⟩ := j
  simp [eqCells, isJob0]
  grind
def cmdOk (c : Cmd) : Bool :=
  if c.kind = 1 then jobOk c.job && decide (c.n = 0) && isVec0 c.lic
  else if c.kind = 2 ∨ c.kind = 3 then isJob0 c.job && isVec0 c.lic && inR c.n 1 999
  else if c.kind = 4 ∨ c.kind = 5 then isJob0 c.job && isVec0 c.lic && inR c.n 0 23
  else if c.kind = 6 then isJob0 c.job && decide (c.n = 0) && vecOk c.lic
  else if c.kind = 7 then isJob0 c.job && isVec0 c.lic && time c.n
  else false
def ir_spec_CmdOk : L :=
  .seq (
  .reg [.bx 1 (.t 0),
    .mv 2 (.c (.bool false))]) (
  .seq (
  .reg [.fa 5 (.t 1) 1,
    .ld 6 (.t 5) 11 true,
    .bd 7 [.int .i64 0, .int .i64 0, .int .i64 0, .int .i64 0, .int .i64 0, .int .i64 0, .int .i64 0, .int .i64 0, .int .i64 0, .int .i64 0, .int .i64 0] [],
    .es 8 false [0, 0, 0, 0, 0, 0, 0, 0, 0, 0, 0] (.t 6) (.t 7),
    .mv 3 (.t 8)]) (
  .seq (
  .reg [.fa 9 (.t 1) 13,
    .ld 10 (.t 9) 3 true,
    .bd 11 [.int .i64 0, .int .i64 0, .int .i64 0] [],
    .es 12 false [0, 0, 0] (.t 10) (.t 11),
    .mv 4 (.t 12)]) (
  .seq (
  .seq (
  .reg [.fa 13 (.t 1) 0,
    .ld 14 (.t 13) 1 false]) (
  .blk 0 (
    .seq (
    .reg [.bi 16 .eql (.t 14) (.c (.int .i64 1)),
      .mv 15 (.t 16)]) (
    .cond (.t 15) (
      .seq (
      .reg [.fa 17 (.t 1) 1,
        .ld 18 (.t 17) 11 true,
        .cq 19 F.spec_JobOk [(.t 18)],
        .mv 20 (.t 19),
        .g 20 true (.fa 21 (.t 1) 12),
        .g 20 true (.ld 22 (.t 21) 1 false),
        .g 20 true (.bi 23 .eql (.t 22) (.c (.int .i64 0))),
        .pk 24 (.t 20) (.t 23) (.c (.bool false)),
        .mv 25 (.t 24),
        .g 25 true (.mv 26 (.t 4)),
        .pk 27 (.t 25) (.t 26) (.c (.bool false)),
        .mv 2 (.t 27)]) (
      .ret)) (
      .seq (
      .seq (
      .reg [.bi 29 .eql (.t 14) (.c (.int .i64 2)),
        .mv 28 (.t 29)]) (
      .cond (.t 28) (
        .skip) (
        .reg [.bi 30 .eql (.t 14) (.c (.int .i64 3)),
          .mv 28 (.t 30)]))) (
      .cond (.t 28) (
        .seq (
        .reg [.mv 31 (.t 3),
          .mv 32 (.t 31),
          .g 32 true (.mv 33 (.t 4)),
          .pk 34 (.t 32) (.t 33) (.c (.bool false)),
          .mv 35 (.t 34),
          .g 35 true (.fa 36 (.t 1) 12),
          .g 35 true (.ld 37 (.t 36) 1 false),
          .g 35 true (.bi 38 .geq (.t 37) (.c (.int .i64 1))),
          .pk 39 (.t 35) (.t 38) (.c (.bool false)),
          .mv 40 (.t 39),
          .g 40 true (.fa 41 (.t 1) 12),
          .g 40 true (.ld 42 (.t 41) 1 false),
          .g 40 true (.bi 43 .leq (.t 42) (.c (.int .i64 999))),
          .pk 44 (.t 40) (.t 43) (.c (.bool false)),
          .mv 2 (.t 44)]) (
        .ret)) (
        .seq (
        .seq (
        .reg [.bi 46 .eql (.t 14) (.c (.int .i64 4)),
          .mv 45 (.t 46)]) (
        .cond (.t 45) (
          .skip) (
          .reg [.bi 47 .eql (.t 14) (.c (.int .i64 5)),
            .mv 45 (.t 47)]))) (
        .cond (.t 45) (
          .seq (
          .reg [.mv 48 (.t 3),
            .mv 49 (.t 48),
            .g 49 true (.mv 50 (.t 4)),
            .pk 51 (.t 49) (.t 50) (.c (.bool false)),
            .mv 52 (.t 51),
            .g 52 true (.fa 53 (.t 1) 12),
            .g 52 true (.ld 54 (.t 53) 1 false),
            .g 52 true (.bi 55 .geq (.t 54) (.c (.int .i64 0))),
            .pk 56 (.t 52) (.t 55) (.c (.bool false)),
            .mv 57 (.t 56),
            .g 57 true (.fa 58 (.t 1) 12),
            .g 57 true (.ld 59 (.t 58) 1 false),
            .g 57 true (.bi 60 .lss (.t 59) (.c (.int .i64 24))),
            .pk 61 (.t 57) (.t 60) (.c (.bool false)),
            .mv 2 (.t 61)]) (
          .ret)) (
          .seq (
          .reg [.bi 63 .eql (.t 14) (.c (.int .i64 6)),
            .mv 62 (.t 63)]) (
          .cond (.t 62) (
            .seq (
            .reg [.mv 64 (.t 3),
              .mv 65 (.t 64),
              .g 65 true (.fa 66 (.t 1) 12),
              .g 65 true (.ld 67 (.t 66) 1 false),
              .g 65 true (.bi 68 .eql (.t 67) (.c (.int .i64 0))),
              .pk 69 (.t 65) (.t 68) (.c (.bool false)),
              .mv 70 (.t 69),
              .g 70 true (.fa 71 (.t 1) 13),
              .g 70 true (.ld 72 (.t 71) 3 true),
              .g 70 true (.cq 73 F.spec_VecOk [(.t 72)]),
              .pk 74 (.t 70) (.t 73) (.c (.bool false)),
              .mv 2 (.t 74)]) (
            .ret)) (
            .seq (
            .reg [.bi 76 .eql (.t 14) (.c (.int .i64 7)),
              .mv 75 (.t 76)]) (
            .cond (.t 75) (
              .seq (
              .reg [.mv 77 (.t 3),
                .mv 78 (.t 77),
                .g 78 true (.mv 79 (.t 4)),
                .pk 80 (.t 78) (.t 79) (.c (.bool false)),
                .mv 81 (.t 80),
                .g 81 true (.fa 82 (.t 1) 12),
                .g 81 true (.ld 83 (.t 82) 1 false),
                .g 81 true (.cq 84 F.spec_l01Time [(.t 83)]),
                .pk 85 (.t 81) (.t 84) (.c (.bool false)),
                .mv 2 (.t 85)]) (
              .ret)) (
              .skip))))))))))))) (
  .seq (
  .reg [.mv 2 (.c (.bool false))]) (
  .ret)))))
def rs_spec_CmdOk : List Rv := [.t 2]
theorem ck_spec_CmdOk : chkFn Try.prog F.spec_CmdOk 1 ir_spec_CmdOk rs_spec_CmdOk = true := by kernel_rfl
set_option maxRecDepth 20000 in
theorem spec_CmdOk_ok (c : Cmd) : Snd Try.prog F.spec_CmdOk [eCmd c] (.bool (cmdOk c)) [] := by
  refine snd_by ck_spec_CmdOk rfl (by simp) (den_W ?_)
  unfold ir_spec_CmdOk rs_spec_CmdOk
  obtain ⟨k, j, n, v⟩ := c
  simp only [eCmd]
  by_cases h1 : k = 1
  · subst h1
    simp [cmdOk, eq_vec0, eq_job0]
    refine do_cq (spec_JobOk_ok j) (by simp [St.args]) ?_
    cases jobOk j
    · simp
    by_cases h : n = 0 <;> simp [h]
  by_cases h2 : k = 2
  · subst h2
    simp [cmdOk, eq_vec0, eq_job0]
    cases isJob0 j
    · simp
    cases isVec0 v
    · simp
    by_cases h : 1 ≤ n <;> simp [h, inR]
  by_cases h3 : k = 3
  · subst h3
    simp [cmdOk, eq_vec0, eq_job0]
    cases isJob0 j
    · simp
    cases isVec0 v
    · simp
    by_cases h : 1 ≤ n <;> simp [h, inR]
  by_cases h4 : k = 4
  · subst h4
    simp [cmdOk, eq_vec0, eq_job0]
    cases isJob0 j
    · simp
    cases isVec0 v
    · simp
    by_cases h : 0 ≤ n <;> simp [h, inR]
    omega
  by_cases h5 : k = 5
  · subst h5
    simp [cmdOk, eq_vec0, eq_job0]
    cases isJob0 j
    · simp
    cases isVec0 v
    · simp
    by_cases h : 0 ≤ n <;> simp [h, inR]
    omega
  by_cases h6 : k = 6
  · subst h6
    simp [cmdOk, eq_vec0, eq_job0]
    cases isJob0 j
    · simp
    by_cases h : n = 0
    · simp [h]
      refine do_cq (spec_VecOk_ok v) (by simp [St.args]) ?_
      simp
    · simp [h]
  by_cases h7 : k = 7
  · subst h7
    simp [cmdOk, eq_vec0, eq_job0]
    cases isJob0 j
    · simp
    cases isVec0 v
    · simp
    simp
    refine do_cq (spec_time_ok n) (by simp [St.args]) ?_
    simp
  simp [cmdOk, eq_vec0, eq_job0, h1, h2, h3, h4, h5, h6, h7]

def jobTxt (j : Job) : Str := numText j.id ++ 32 :: (numText j.prio ++ 32 :: (numText j.nodes ++ 32 :: (vecText j.need ++ 32 :: (vecText j.lic ++ 32 :: (numText j.wall ++ 32 :: numText j.level)))))
theorem jobTxt_len (j : Job) : (jobTxt j).length ≤ 120 := by
  have := numText_len j.id; have := numText_len j.prio; have := numText_len j.nodes; have := vecText_len j.need; have := vecText_len j.lic; have := numText_len j.wall; have := numText_len j.level
  simp [jobTxt]; omega
def wSubmit : Str := [115, 117, 98, 109, 105, 116]
def words8 : List Str := [[], wSubmit, [99, 97, 110, 99, 101, 108], [100, 111, 110, 101], [102, 97, 105, 108], [114, 101, 115, 117, 109, 101], [108, 105, 99], [103, 111]]
def cmdWord (k : Int) : Str := words8.getD k.toNat []
def cmdText (c : Cmd) : Str := if cmdOk c = true then cmdWord c.kind ++ 32 :: (if c.kind = 1 then jobTxt c.job else if c.kind = 6 then vecText c.lic else numText c.n) else []
def ir_spec_l08Words : L :=
  .seq (
  .reg [.mv 0 (.c (.nl))]) (
  .seq (
  .reg [.bs 1 1 [(.c (.str [])), (.c (.str [115, 117, 98, 109, 105, 116])), (.c (.str [99, 97, 110, 99, 101, 108])), (.c (.str [100, 111, 110, 101])), (.c (.str [102, 97, 105, 108])), (.c (.str [114, 101, 115, 117, 109, 101])), (.c (.str [108, 105, 99])), (.c (.str [103, 111]))] true,
    .mv 0 (.t 1)]) (
  .ret))
def rs_spec_l08Words : List Rv := [.t 0]
theorem ck_spec_l08Words : chkFn Try.prog F.spec_l08Words 0 ir_spec_l08Words rs_spec_l08Words = true := by kernel_rfl
theorem spec_words_ok : Snd Try.prog F.spec_l08Words [] (.sref 0) [⟨1, words8.map eS, false⟩] := by
  refine snd_by ck_spec_l08Words rfl (by simp) (den_W ?_)
  unfold ir_spec_l08Words rs_spec_l08Words
  simp
  refine post_ret [1] ?_
  simp [words8, wSubmit]
theorem cmdOk_kind {c : Cmd} (h : cmdOk c = true) : c.kind = 1 ∨ c.kind = 2 ∨ c.kind = 3 ∨ c.kind = 4 ∨ c.kind = 5 ∨ c.kind = 6 ∨ c.kind = 7 := by
  unfold cmdOk at h
  repeat' split at h
  all_goals first | omega | simp at h
def ir_spec_CmdText : L :=
  .seq (
  .reg [.bx 1 (.t 0),
    .mv 2 (.c (.str []))]) (
  .seq (
  .seq (
  .reg [.ld 5 (.t 1) 16 true,
    .cq 6 F.spec_CmdOk [(.t 5)],
    .un 7 (.t 6)]) (
  .cond (.t 7) (
    .seq (
    .reg [.mv 2 (.c (.str []))]) (
    .ret)) (
    .skip))) (
  .seq (
  .rq 6 [.cq 8 F.spec_l08Words [],
    .fa 9 (.t 1) 0,
    .ld 10 (.t 9) 1 false,
    .ia 11 (.t 8) (.t 10) 1,
    .ld 12 (.t 11) 1 false,
    .mv 3 (.t 12)]) (
  .seq (
  .reg [.fa 13 (.t 1) 1,
    .ld 14 (.t 13) 11 true,
    .al 4 [.int .i64 0, .int .i64 0, .int .i64 0, .int .i64 0, .int .i64 0, .int .i64 0, .int .i64 0, .int .i64 0, .int .i64 0, .int .i64 0, .int .i64 0],
    .st (.t 4) (.t 14) 11]) (
  .seq (
  .seq (
  .reg [.fa 15 (.t 1) 0,
    .ld 16 (.t 15) 1 false,
    .bi 17 .eql (.t 16) (.c (.int .i64 1))]) (
  .cond (.t 17) (
    .seq (
    .rq 37 [.mv 18 (.t 3),
      .sa 19 (.t 18) (.c (.str [32])),
      .fa 20 (.t 4) 0,
      .ld 21 (.t 20) 1 false,
      .cq 22 F.spec_NumText [(.t 21)],
      .sa 23 (.t 19) (.t 22),
      .sa 24 (.t 23) (.c (.str [32])),
      .fa 25 (.t 4) 1,
      .ld 26 (.t 25) 1 false,
      .cq 27 F.spec_NumText [(.t 26)],
      .sa 28 (.t 24) (.t 27),
      .sa 29 (.t 28) (.c (.str [32])),
      .fa 30 (.t 4) 2,
      .ld 31 (.t 30) 1 false,
      .cq 32 F.spec_NumText [(.t 31)],
      .sa 33 (.t 29) (.t 32),
      .sa 34 (.t 33) (.c (.str [32])),
      .fa 35 (.t 4) 3,
      .ld 36 (.t 35) 3 true,
      .cq 37 F.spec_VecText [(.t 36)],
      .sa 38 (.t 34) (.t 37),
      .sa 39 (.t 38) (.c (.str [32])),
      .fa 40 (.t 4) 6,
      .ld 41 (.t 40) 3 true,
      .cq 42 F.spec_VecText [(.t 41)],
      .sa 43 (.t 39) (.t 42),
      .sa 44 (.t 43) (.c (.str [32])),
      .fa 45 (.t 4) 9,
      .ld 46 (.t 45) 1 false,
      .cq 47 F.spec_NumText [(.t 46)],
      .sa 48 (.t 44) (.t 47),
      .sa 49 (.t 48) (.c (.str [32])),
      .fa 50 (.t 4) 10,
      .ld 51 (.t 50) 1 false,
      .cq 52 F.spec_NumText [(.t 51)],
      .sa 53 (.t 49) (.t 52),
      .mv 2 (.t 53)]) (
    .ret)) (
    .skip))) (
  .seq (
  .seq (
  .reg [.fa 54 (.t 1) 0,
    .ld 55 (.t 54) 1 false,
    .bi 56 .eql (.t 55) (.c (.int .i64 6))]) (
  .cond (.t 56) (
    .seq (
    .reg [.mv 57 (.t 3),
      .sa 58 (.t 57) (.c (.str [32])),
      .fa 59 (.t 1) 13,
      .ld 60 (.t 59) 3 true,
      .cq 61 F.spec_VecText [(.t 60)],
      .sa 62 (.t 58) (.t 61),
      .mv 2 (.t 62)]) (
    .ret)) (
    .skip))) (
  .seq (
  .reg [.mv 63 (.t 3),
    .sa 64 (.t 63) (.c (.str [32])),
    .fa 65 (.t 1) 12,
    .ld 66 (.t 65) 1 false,
    .cq 67 F.spec_NumText [(.t 66)],
    .sa 68 (.t 64) (.t 67),
    .mv 2 (.t 68)]) (
  .ret)))))))
def rs_spec_CmdText : List Rv := [.t 2]
theorem ck_spec_CmdText : chkFn Try.prog F.spec_CmdText 1 ir_spec_CmdText rs_spec_CmdText = true := by kernel_rfl
set_option maxRecDepth 20000 in
theorem spec_CmdText_ok (c : Cmd) : Snd Try.prog F.spec_CmdText [eCmd c] (.str (cmdText c)) [] := by
  refine snd_by ck_spec_CmdText rfl (by simp) (den_W ?_)
  unfold ir_spec_CmdText rs_spec_CmdText
  have l1 := numText_len c.job.id
  have l2 := numText_len c.job.prio
  have l3 := numText_len c.job.nodes
  have l4 := vecText_len c.job.need
  have l5 := vecText_len c.job.lic
  have l6 := numText_len c.job.wall
  have l7 := numText_len c.job.level
  have l8 := vecText_len c.lic
  have l9 := numText_len c.n
  simp
  refine do_cq (spec_CmdOk_ok c) (by simp [St.args]) ?_
  cases hc : cmdOk c
  · simp [cmdText, hc]
  simp
  refine do_cq (spec_words_ok) (by simp [St.args]) ?_
  rcases cmdOk_kind hc with hk | hk | hk | hk | hk | hk | hk
  · simp [hk, words8, isIdx, wSubmit]
    refine do_cq (spec_NumText_ok c.job.id) (by simp [St.args]) ?_
    simp
    repeat (refine ⟨by first | omega | (simp; omega), ?_⟩)
    refine do_cq (spec_NumText_ok c.job.prio) (by simp [St.args]) ?_
    simp
    repeat (refine ⟨by first | omega | (simp; omega), ?_⟩)
    refine do_cq (spec_NumText_ok c.job.nodes) (by simp [St.args]) ?_
    simp
    repeat (refine ⟨by first | omega | (simp; omega), ?_⟩)
    refine do_cq (spec_VecText_ok c.job.need) (by simp [St.args]) ?_
    simp
    repeat (refine ⟨by first | omega | (simp; omega), ?_⟩)
    refine do_cq (spec_VecText_ok c.job.lic) (by simp [St.args]) ?_
    simp
    repeat (refine ⟨by first | omega | (simp; omega), ?_⟩)
    refine do_cq (spec_NumText_ok c.job.wall) (by simp [St.args]) ?_
    simp
    repeat (refine ⟨by first | omega | (simp; omega), ?_⟩)
    refine do_cq (spec_NumText_ok c.job.level) (by simp [St.args]) ?_
    simp
    refine ⟨by omega, ?_⟩
    simp [cmdText, hc, hk, jobTxt, cmdWord, words8, wSubmit]
  · simp [hk, words8, isIdx, wSubmit]
    refine do_cq (spec_NumText_ok c.n) (by simp [St.args]) ?_
    simp
    refine ⟨by omega, ?_⟩
    simp [cmdText, hc, hk, cmdWord, words8, wSubmit]
  · simp [hk, words8, isIdx, wSubmit]
    refine do_cq (spec_NumText_ok c.n) (by simp [St.args]) ?_
    simp
    refine ⟨by omega, ?_⟩
    simp [cmdText, hc, hk, cmdWord, words8, wSubmit]
  · simp [hk, words8, isIdx, wSubmit]
    refine do_cq (spec_NumText_ok c.n) (by simp [St.args]) ?_
    simp
    refine ⟨by omega, ?_⟩
    simp [cmdText, hc, hk, cmdWord, words8, wSubmit]
  · simp [hk, words8, isIdx, wSubmit]
    refine do_cq (spec_NumText_ok c.n) (by simp [St.args]) ?_
    simp
    refine ⟨by omega, ?_⟩
    simp [cmdText, hc, hk, cmdWord, words8, wSubmit]
  · simp [hk, words8, isIdx, wSubmit]
    refine do_cq (spec_VecText_ok c.lic) (by simp [St.args]) ?_
    simp
    refine ⟨by omega, ?_⟩
    simp [cmdText, hc, hk, cmdWord, words8, wSubmit]
  · simp [hk, words8, isIdx, wSubmit]
    refine do_cq (spec_NumText_ok c.n) (by simp [St.args]) ?_
    simp
    refine ⟨by omega, ?_⟩
    simp [cmdText, hc, hk, cmdWord, words8, wSubmit]
def jobText (j : Job) : Str := if jobOk j = true then jobTxt j else []
theorem cmd_submit (j : Job) : cmdText ⟨1, j, 0, ⟨0, 0, 0⟩⟩ = if jobOk j = true then wSubmit ++ 32 :: jobTxt j else [] := by
  simp [cmdText, cmdOk, isVec0, cmdWord, words8]
def ir_spec_JobText : L :=
  .seq (
  .reg [.bx 1 (.t 0),
    .mv 2 (.c (.str []))]) (
  .seq (
  .reg [.ld 4 (.t 1) 11 true,
    .bd 5 [.int .i64 0, .int .i64 0, .int .i64 0, .int .i64 0, .int .i64 0, .int .i64 0, .int .i64 0, .int .i64 0, .int .i64 0, .int .i64 0, .int .i64 0, .int .i64 0, .int .i64 0, .int .i64 0, .int .i64 0, .int .i64 0] [(0, 1, (.c (.int .i64 1))), (1, 11, (.t 4))],
    .cq 6 F.spec_CmdText [(.t 5)],
    .mv 3 (.t 6)]) (
  .seq (
  .seq (
  .reg [.mv 7 (.t 3),
    .bi 8 .eql (.t 7) (.c (.str []))]) (
  .cond (.t 8) (
    .seq (
    .reg [.mv 2 (.c (.str []))]) (
    .ret)) (
    .skip))) (
  .seq (
  .reg [.mv 9 (.t 3),
    .ss 10 (.t 9) (some (.c (.int .i64 7))) none,
    .mv 2 (.t 10)]) (
  .ret))))
def rs_spec_JobText : List Rv := [.t 2]
theorem ck_spec_JobText : chkFn Try.prog F.spec_JobText 1 ir_spec_JobText rs_spec_JobText = true := by kernel_rfl
theorem spec_JobText_ok (j : Job) : Snd Try.prog F.spec_JobText [eJob j] (.str (jobText j)) [] := by
  refine snd_by ck_spec_JobText rfl (by simp) (den_W ?_)
  unfold ir_spec_JobText rs_spec_JobText
  simp
  refine do_cq (spec_CmdText_ok ⟨1, j, 0, ⟨0, 0, 0⟩⟩) (by simp [St.args]) ?_
  rw [cmd_submit]
  cases h : jobOk j
  · simp [jobText, h]
  · have e7 : isBnd (.int .i64 7) ((jobTxt j).length + 1 + 1 + 1 + 1 + 1 + 1 + 1) = some 7 := isBnd_int _ (by omega) (by omega)
    simp [jobText, h, wSubmit, e7]
def ir_impl_jobText : L :=
  .seq (
  .reg [.bx 1 (.t 0),
    .mv 2 (.c (.str []))]) (
  .seq (
  .rq 24 [.fa 3 (.t 1) 0,
    .ld 4 (.t 3) 1 false,
    .cq 5 F.impl_NumText [(.t 4)],
    .fa 6 (.t 1) 1,
    .ld 7 (.t 6) 1 false,
    .cq 8 F.impl_NumText [(.t 7)],
    .fa 9 (.t 1) 2,
    .ld 10 (.t 9) 1 false,
    .cq 11 F.impl_NumText [(.t 10)],
    .fa 12 (.t 1) 3,
    .ld 13 (.t 12) 3 true,
    .cq 14 F.impl_VecText [(.t 13)],
    .fa 15 (.t 1) 6,
    .ld 16 (.t 15) 3 true,
    .cq 17 F.impl_VecText [(.t 16)],
    .fa 18 (.t 1) 9,
    .ld 19 (.t 18) 1 false,
    .cq 20 F.impl_NumText [(.t 19)],
    .fa 21 (.t 1) 10,
    .ld 22 (.t 21) 1 false,
    .cq 23 F.impl_NumText [(.t 22)],
    .bs 24 1 [(.t 5), (.t 8), (.t 11), (.t 14), (.t 17), (.t 20), (.t 23)] false,
    .cq 25 F.impl_words [(.t 24)],
    .mv 2 (.t 25)]) (
  .ret))
def rs_impl_jobText : List Rv := [.t 2]
theorem ck_impl_jobText : chkFn Try.prog F.impl_jobText 1 ir_impl_jobText rs_impl_jobText = true := by kernel_rfl
theorem impl_jobText_ok (j : Job) : Snd Try.prog F.impl_jobText [eJob j] (.str (jobTxt j)) [] := by
  refine snd_by ck_impl_jobText rfl (by simp) (den_W ?_)
  unfold ir_impl_jobText rs_impl_jobText
  have e : joinW [numText j.id, numText j.prio, numText j.nodes, vecText j.need, vecText j.lic, numText j.wall, numText j.level] = jobTxt j := rfl
  have hl := jobTxt_len j
  simp
  refine do_cq (impl_NumText_ok j.id) (by simp [St.args]) ?_
  simp
  refine do_cq (impl_NumText_ok j.prio) (by simp [St.args]) ?_
  simp
  refine do_cq (impl_NumText_ok j.nodes) (by simp [St.args]) ?_
  simp
  refine do_cq (impl_VecText_ok j.need) (by simp [St.args]) ?_
  simp
  refine do_cq (impl_VecText_ok j.lic) (by simp [St.args]) ?_
  simp
  refine do_cq (impl_NumText_ok j.wall) (by simp [St.args]) ?_
  simp
  refine do_cq (impl_NumText_ok j.level) (by simp [St.args]) ?_
  simp
  refine do_cq (impl_words_ok [numText j.id, numText j.prio, numText j.nodes, vecText j.need, vecText j.lic, numText j.wall, numText j.level] (by rw [e]; omega)) (by simp [St.args]) ?_
  rw [e]
  simp
def ir_impl_JobText : L :=
  .seq (
  .reg [.bx 1 (.t 0),
    .mv 2 (.c (.str []))]) (
  .seq (
  .seq (
  .reg [.ld 3 (.t 1) 11 true,
    .cq 4 F.impl_JobOk [(.t 3)],
    .un 5 (.t 4)]) (
  .cond (.t 5) (
    .seq (
    .reg [.mv 2 (.c (.str []))]) (
    .ret)) (
    .skip))) (
  .seq (
  .reg [.ld 6 (.t 1) 11 true,
    .cq 7 F.impl_jobText [(.t 6)],
    .mv 2 (.t 7)]) (
  .ret)))
def rs_impl_JobText : List Rv := [.t 2]
theorem ck_impl_JobText : chkFn Try.prog F.impl_JobText 1 ir_impl_JobText rs_impl_JobText = true := by kernel_rfl
theorem impl_JobText_ok (j : Job) : Snd Try.prog F.impl_JobText [eJob j] (.str (jobText j)) [] := by
  refine snd_by ck_impl_JobText rfl (by simp) (den_W ?_)
  unfold ir_impl_JobText rs_impl_JobText
  simp
  refine do_cq (impl_JobOk_ok j) (by simp [St.args]) ?_
  cases h : jobOk j
  · simp [jobText, h]
  simp
  refine do_cq (impl_jobText_ok j) (by simp [St.args]) ?_
  simp [jobText, h]
def ir_laws_FnExactJobText : L :=
  .seq (
  .reg [.bx 1 (.t 0),
    .mv 2 (.c (.bool false))]) (
  .seq (
  .reg [.ld 5 (.t 1) 11 true,
    .cq 6 F.laws_toJob [(.t 5)],
    .cq 7 F.spec_JobText [(.t 6)],
    .mv 3 (.t 7)]) (
  .seq (
  .reg [.ld 8 (.t 1) 11 true,
    .cq 9 F.laws_toJob [(.t 8)],
    .cq 10 F.impl_JobText [(.t 9)],
    .mv 4 (.t 10)]) (
  .seq (
  .seq (
  .reg [.mv 11 (.t 4),
    .mv 12 (.t 3),
    .bi 13 .neq (.t 11) (.t 12)]) (
  .cond (.t 13) (
    .seq (
    .reg [.mv 2 (.c (.bool false))]) (
    .ret)) (
    .skip))) (
  .seq (
  .reg [.mv 2 (.c (.bool true))]) (
  .ret)))))
def rs_laws_FnExactJobText : List Rv := [.t 2]
theorem ck_laws_FnExactJobText : chkFn Try.prog F.laws_FnExactJobText 1 ir_laws_FnExactJobText rs_laws_FnExactJobText = true := by kernel_rfl
theorem FnExactJobText_c (j : Job) : Snd Try.prog F.laws_FnExactJobText [eJob j] (.bool true) [] := by
  refine snd_by ck_laws_FnExactJobText rfl (by simp) (den_W ?_)
  unfold ir_laws_FnExactJobText rs_laws_FnExactJobText
  simp
  refine do_cq (toJob_ok j) (by simp [St.args]) ?_
  simp
  refine do_cq (spec_JobText_ok j) (by simp [St.args]) ?_
  simp
  refine do_cq (toJob_ok j) (by simp [St.args]) ?_
  simp
  refine do_cq (impl_JobText_ok j) (by simp [St.args]) ?_
  simp
theorem FnExactJobText_ok (xs : List AV) (h : okVs [tyJob] xs) : Snd Try.prog F.laws_FnExactJobText xs (.bool true) [] := by
  obtain ⟨a, _, rfl, ha, rfl⟩ := h
  obtain ⟨j, rfl⟩ := Job_of ha
  exact FnExactJobText_c j
end Go.Proofs.Ythbbieobcokgbaa
