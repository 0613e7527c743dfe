/-
  VecOk, VecFits, VecText; JobOk.
-/
import Derived.Test.YthbbieobcokgbaaNums
import Derived.Test.YthbbieobcokgbaaTyJob
namespace Go.Proofs.Ythbbieobcokgbaa
open Go Go.RowKit Eng
def vecOk (v : Vec) : Bool := res v.a && res v.b && res v.c
def ir_spec_VecOk : L :=
  .seq (
  .reg [.bx 1 (.t 0),
    .mv 2 (.c (.bool false))]) (
  .seq (
  .reg [.fa 3 (.t 1) 0,
    .ld 4 (.t 3) 1 false,
    .cq 5 F.spec_l01Res [(.t 4)],
    .mv 6 (.t 5),
    .g 6 true (.fa 7 (.t 1) 1),
    .g 6 true (.ld 8 (.t 7) 1 false),
    .g 6 true (.cq 9 F.spec_l01Res [(.t 8)]),
    .pk 10 (.t 6) (.t 9) (.c (.bool false)),
    .mv 11 (.t 10),
    .g 11 true (.fa 12 (.t 1) 2),
    .g 11 true (.ld 13 (.t 12) 1 false),
    .g 11 true (.cq 14 F.spec_l01Res [(.t 13)]),
    .pk 15 (.t 11) (.t 14) (.c (.bool false)),
    .mv 2 (.t 15)]) (
  .ret))
def rs_spec_VecOk : List Rv := [.t 2]
theorem ck_spec_VecOk : chkFn Try.prog F.spec_VecOk 1 ir_spec_VecOk rs_spec_VecOk = true := by kernel_rfl
theorem spec_VecOk_ok (v : Vec) : Snd Try.prog F.spec_VecOk [eVec v] (.bool (vecOk v)) [] := by
  refine snd_by ck_spec_VecOk rfl rfl (den_W ?_)
  unfold ir_spec_VecOk rs_spec_VecOk vecOk
  simp
  refine do_cq (spec_res_ok v.a) (by simp [St.args]) ?_
  cases res v.a <;> simp
  refine do_cq (spec_res_ok v.b) (by simp [St.args]) ?_
  cases res v.b <;> simp
  refine do_cq (spec_res_ok v.c) (by simp [St.args]) ?_
  cases res v.c <;> simp
def ir_impl_VecOk : L :=
  .seq (
  .reg [.bx 1 (.t 0),
    .mv 2 (.c (.bool false))]) (
  .seq (
  .reg [.fa 3 (.t 1) 0,
    .ld 4 (.t 3) 1 false,
    .cq 5 F.impl_within [(.t 4), (.c (.int .i64 0)), (.c (.int .i64 1000000))],
    .mv 6 (.t 5),
    .g 6 true (.fa 7 (.t 1) 1),
    .g 6 true (.ld 8 (.t 7) 1 false),
    .g 6 true (.cq 9 F.impl_within [(.t 8), (.c (.int .i64 0)), (.c (.int .i64 1000000))]),
    .pk 10 (.t 6) (.t 9) (.c (.bool false)),
    .mv 11 (.t 10),
    .g 11 true (.fa 12 (.t 1) 2),
    .g 11 true (.ld 13 (.t 12) 1 false),
    .g 11 true (.cq 14 F.impl_within [(.t 13), (.c (.int .i64 0)), (.c (.int .i64 1000000))]),
    .pk 15 (.t 11) (.t 14) (.c (.bool false)),
    .mv 2 (.t 15)]) (
  .ret))
def rs_impl_VecOk : List Rv := [.t 2]
theorem ck_impl_VecOk : chkFn Try.prog F.impl_VecOk 1 ir_impl_VecOk rs_impl_VecOk = true := by kernel_rfl
theorem impl_VecOk_ok (v : Vec) : Snd Try.prog F.impl_VecOk [eVec v] (.bool (vecOk v)) [] := by
  refine snd_by ck_impl_VecOk rfl rfl (den_W ?_)
  unfold ir_impl_VecOk rs_impl_VecOk vecOk
  simp
  refine do_cq (within_ok v.a 0 1000000) (by simp [St.args]) ?_
  rw [show (decide (0 ≤ v.a) && decide (v.a ≤ 1000000)) = res v.a from rfl]
  cases res v.a <;> simp
  refine do_cq (within_ok v.b 0 1000000) (by simp [St.args]) ?_
  rw [show (decide (0 ≤ v.b) && decide (v.b ≤ 1000000)) = res v.b from rfl]
  cases res v.b <;> simp
  refine do_cq (within_ok v.c 0 1000000) (by simp [St.args]) ?_
  rw [show (decide (0 ≤ v.c) && decide (v.c ≤ 1000000)) = res v.c from rfl]
  cases res v.c <;> simp

def vecText (v : Vec) : Str := if vecOk v = true then numText v.a ++ 47 :: (numText v.b ++ 47 :: numText v.c) else []
theorem vecText_len (v : Vec) : (vecText v).length ≤ 32 := by
  unfold vecText
  split
  · have := numText_len v.a; have := numText_len v.b; have := numText_len v.c; simp; omega
  · simp
def ir_spec_VecText : L :=
  .seq (
  .reg [.bx 1 (.t 0),
    .mv 2 (.c (.str []))]) (
  .seq (
  .seq (
  .reg [.ld 3 (.t 1) 3 true,
    .cq 4 F.spec_VecOk [(.t 3)],
    .un 5 (.t 4)]) (
  .cond (.t 5) (
    .seq (
    .reg [.mv 2 (.c (.str []))]) (
    .ret)) (
    .skip))) (
  .seq (
  .rq 14 [.fa 6 (.t 1) 0,
    .ld 7 (.t 6) 1 false,
    .cq 8 F.spec_NumText [(.t 7)],
    .sa 9 (.t 8) (.c (.str [47])),
    .fa 10 (.t 1) 1,
    .ld 11 (.t 10) 1 false,
    .cq 12 F.spec_NumText [(.t 11)],
    .sa 13 (.t 9) (.t 12),
    .sa 14 (.t 13) (.c (.str [47])),
    .fa 15 (.t 1) 2,
    .ld 16 (.t 15) 1 false,
    .cq 17 F.spec_NumText [(.t 16)],
    .sa 18 (.t 14) (.t 17),
    .mv 2 (.t 18)]) (
  .ret)))
def rs_spec_VecText : List Rv := [.t 2]
theorem ck_spec_VecText : chkFn Try.prog F.spec_VecText 1 ir_spec_VecText rs_spec_VecText = true := by kernel_rfl
theorem spec_VecText_ok (v : Vec) : Snd Try.prog F.spec_VecText [eVec v] (.str (vecText v)) [] := by
  refine snd_by ck_spec_VecText rfl rfl (den_W ?_)
  unfold ir_spec_VecText rs_spec_VecText vecText
  have ha := numText_len v.a
  have hb := numText_len v.b
  have hc := numText_len v.c
  simp
  refine do_cq (spec_VecOk_ok v) (by simp [St.args]) ?_
  cases vecOk v <;> simp
  refine do_cq (spec_NumText_ok v.a) (by simp [St.args]) ?_
  simp
  refine ⟨by omega, ?_⟩
  refine do_cq (spec_NumText_ok v.b) (by simp [St.args]) ?_
  simp
  refine ⟨by omega, by omega, ?_⟩
  refine do_cq (spec_NumText_ok v.c) (by simp [St.args]) ?_
  simp
  omega
def ir_impl_VecText : L :=
  .seq (
  .reg [.bx 1 (.t 0),
    .mv 2 (.c (.str []))]) (
  .seq (
  .seq (
  .reg [.ld 3 (.t 1) 3 true,
    .cq 4 F.impl_VecOk [(.t 3)],
    .un 5 (.t 4)]) (
  .cond (.t 5) (
    .seq (
    .reg [.mv 2 (.c (.str []))]) (
    .ret)) (
    .skip))) (
  .seq (
  .rq 14 [.fa 6 (.t 1) 0,
    .ld 7 (.t 6) 1 false,
    .cq 8 F.impl_NumText [(.t 7)],
    .sa 9 (.t 8) (.c (.str [47])),
    .fa 10 (.t 1) 1,
    .ld 11 (.t 10) 1 false,
    .cq 12 F.impl_NumText [(.t 11)],
    .sa 13 (.t 9) (.t 12),
    .sa 14 (.t 13) (.c (.str [47])),
    .fa 15 (.t 1) 2,
    .ld 16 (.t 15) 1 false,
    .cq 17 F.impl_NumText [(.t 16)],
    .sa 18 (.t 14) (.t 17),
    .mv 2 (.t 18)]) (
  .ret)))
def rs_impl_VecText : List Rv := [.t 2]
theorem ck_impl_VecText : chkFn Try.prog F.impl_VecText 1 ir_impl_VecText rs_impl_VecText = true := by kernel_rfl
theorem impl_VecText_ok (v : Vec) : Snd Try.prog F.impl_VecText [eVec v] (.str (vecText v)) [] := by
  refine snd_by ck_impl_VecText rfl rfl (den_W ?_)
  unfold ir_impl_VecText rs_impl_VecText vecText
  have ha := numText_len v.a
  have hb := numText_len v.b
  have hc := numText_len v.c
  simp
  refine do_cq (impl_VecOk_ok v) (by simp [St.args]) ?_
  cases vecOk v <;> simp
  refine do_cq (impl_NumText_ok v.a) (by simp [St.args]) ?_
  simp
  refine ⟨by omega, ?_⟩
  refine do_cq (impl_NumText_ok v.b) (by simp [St.args]) ?_
  simp
  refine ⟨by omega, by omega, ?_⟩
  refine do_cq (impl_NumText_ok v.c) (by simp [St.args]) ?_
  simp
  omega

def inR (n a b : Int) : Bool := decide (a ≤ n) && decide (n ≤ b)
def jobOk (j : Job) : Bool := inR j.id 1 999 && inR j.prio 0 999 && inR j.nodes 1 24 && vecOk j.need && vecOk j.lic && inR j.wall 1 1000000 && inR j.level 0 24
def ir_impl_JobOk : L :=
  .seq (
  .reg [.bx 1 (.t 0),
    .mv 2 (.c (.bool false))]) (
  .seq (
  .reg [.fa 3 (.t 1) 0,
    .ld 4 (.t 3) 1 false,
    .cq 5 F.impl_within [(.t 4), (.c (.int .i64 1)), (.c (.int .i64 999))],
    .mv 6 (.t 5),
    .g 6 true (.fa 7 (.t 1) 1),
    .g 6 true (.ld 8 (.t 7) 1 false),
    .g 6 true (.cq 9 F.impl_within [(.t 8), (.c (.int .i64 0)), (.c (.int .i64 999))]),
    .pk 10 (.t 6) (.t 9) (.c (.bool false)),
    .mv 11 (.t 10),
    .g 11 true (.fa 12 (.t 1) 2),
    .g 11 true (.ld 13 (.t 12) 1 false),
    .g 11 true (.cq 14 F.impl_within [(.t 13), (.c (.int .i64 1)), (.c (.int .i64 24))]),
    .pk 15 (.t 11) (.t 14) (.c (.bool false)),
    .mv 16 (.t 15),
    .g 16 true (.fa 17 (.t 1) 3),
    .g 16 true (.ld 18 (.t 17) 3 true),
    .g 16 true (.cq 19 F.impl_VecOk [(.t 18)]),
    .pk 20 (.t 16) (.t 19) (.c (.bool false)),
    .mv 21 (.t 20),
    .g 21 true (.fa 22 (.t 1) 6),
    .g 21 true (.ld 23 (.t 22) 3 true),
    .g 21 true (.cq 24 F.impl_VecOk [(.t 23)]),
    .pk 25 (.t 21) (.t 24) (.c (.bool false)),
    .mv 26 (.t 25),
    .g 26 true (.fa 27 (.t 1) 9),
    .g 26 true (.ld 28 (.t 27) 1 false),
    .g 26 true (.cq 29 F.impl_within [(.t 28), (.c (.int .i64 1)), (.c (.int .i64 1000000))]),
    .pk 30 (.t 26) (.t 29) (.c (.bool false)),
    .mv 31 (.t 30),
    .g 31 true (.fa 32 (.t 1) 10),
    .g 31 true (.ld 33 (.t 32) 1 false),
    .g 31 true (.cq 34 F.impl_within [(.t 33), (.c (.int .i64 0)), (.c (.int .i64 24))]),
    .pk 35 (.t 31) (.t 34) (.c (.bool false)),
    .mv 2 (.t 35)]) (
  .ret))
def rs_impl_JobOk : List Rv := [.t 2]
theorem ck_impl_JobOk : chkFn Try.prog F.impl_JobOk 1 ir_impl_JobOk rs_impl_JobOk = true := by kernel_rfl
theorem impl_JobOk_ok (j : Job) : Snd Try.prog F.impl_JobOk [eJob j] (.bool (jobOk j)) [] := by
  refine snd_by ck_impl_JobOk rfl rfl (den_W ?_)
  unfold ir_impl_JobOk rs_impl_JobOk jobOk
  simp
  refine do_cq (within_ok j.id 1 999) (by simp [St.args]) ?_
  rw [show (decide (1 ≤ j.id) && decide (j.id ≤ 999)) = inR j.id 1 999 from rfl]
  cases inR j.id 1 999 <;> simp
  refine do_cq (within_ok j.prio 0 999) (by simp [St.args]) ?_
  rw [show (decide (0 ≤ j.prio) && decide (j.prio ≤ 999)) = inR j.prio 0 999 from rfl]
  cases inR j.prio 0 999 <;> simp
  refine do_cq (within_ok j.nodes 1 24) (by simp [St.args]) ?_
  rw [show (decide (1 ≤ j.nodes) && decide (j.nodes ≤ 24)) = inR j.nodes 1 24 from rfl]
  cases inR j.nodes 1 24 <;> simp
  refine do_cq (impl_VecOk_ok j.need) (by simp [St.args]) ?_
  cases vecOk j.need <;> simp
  refine do_cq (impl_VecOk_ok j.lic) (by simp [St.args]) ?_
  cases vecOk j.lic <;> simp
  refine do_cq (within_ok j.wall 1 1000000) (by simp [St.args]) ?_
  rw [show (decide (1 ≤ j.wall) && decide (j.wall ≤ 1000000)) = inR j.wall 1 1000000 from rfl]
  cases inR j.wall 1 1000000 <;> simp
  refine do_cq (within_ok j.level 0 24) (by simp [St.args]) ?_
  rw [show (decide (0 ≤ j.level) && decide (j.level ≤ 24)) = inR j.level 0 24 from rfl]
  cases inR j.level 0 24 <;> simp
def ir_spec_JobOk : L :=
  .seq (
  .reg [.bx 1 (.t 0),
    .mv 2 (.c (.bool false))]) (
  .seq (
  .seq (
  .reg [.fa 3 (.t 1) 0,
    .ld 4 (.t 3) 1 false,
    .bi 5 .lss (.t 4) (.c (.int .i64 1)),
    .mv 6 (.t 5),
    .g 6 false (.fa 7 (.t 1) 0),
    .g 6 false (.ld 8 (.t 7) 1 false),
    .g 6 false (.bi 9 .gtr (.t 8) (.c (.int .i64 999))),
    .pk 10 (.t 6) (.c (.bool true)) (.t 9),
    .mv 11 (.t 10),
    .g 11 false (.fa 12 (.t 1) 1),
    .g 11 false (.ld 13 (.t 12) 1 false),
    .g 11 false (.bi 14 .lss (.t 13) (.c (.int .i64 0))),
    .pk 15 (.t 11) (.c (.bool true)) (.t 14),
    .mv 16 (.t 15),
    .g 16 false (.fa 17 (.t 1) 1),
    .g 16 false (.ld 18 (.t 17) 1 false),
    .g 16 false (.bi 19 .gtr (.t 18) (.c (.int .i64 999))),
    .pk 20 (.t 16) (.c (.bool true)) (.t 19),
    .mv 21 (.t 20),
    .g 21 false (.fa 22 (.t 1) 2),
    .g 21 false (.ld 23 (.t 22) 1 false),
    .g 21 false (.bi 24 .lss (.t 23) (.c (.int .i64 1))),
    .pk 25 (.t 21) (.c (.bool true)) (.t 24),
    .mv 26 (.t 25),
    .g 26 false (.fa 27 (.t 1) 2),
    .g 26 false (.ld 28 (.t 27) 1 false),
    .g 26 false (.bi 29 .gtr (.t 28) (.c (.int .i64 24))),
    .pk 30 (.t 26) (.c (.bool true)) (.t 29)]) (
  .cond (.t 30) (
    .seq (
    .reg [.mv 2 (.c (.bool false))]) (
    .ret)) (
    .skip))) (
  .seq (
  .reg [.fa 31 (.t 1) 3,
    .ld 32 (.t 31) 3 true,
    .cq 33 F.spec_VecOk [(.t 32)],
    .mv 34 (.t 33),
    .g 34 true (.fa 35 (.t 1) 6),
    .g 34 true (.ld 36 (.t 35) 3 true),
    .g 34 true (.cq 37 F.spec_VecOk [(.t 36)]),
    .pk 38 (.t 34) (.t 37) (.c (.bool false)),
    .mv 39 (.t 38),
    .g 39 true (.fa 40 (.t 1) 9),
    .g 39 true (.ld 41 (.t 40) 1 false),
    .g 39 true (.bi 42 .geq (.t 41) (.c (.int .i64 1))),
    .pk 43 (.t 39) (.t 42) (.c (.bool false)),
    .mv 44 (.t 43),
    .g 44 true (.fa 45 (.t 1) 9),
    .g 44 true (.ld 46 (.t 45) 1 false),
    .g 44 true (.bi 47 .leq (.t 46) (.c (.int .i64 1000000))),
    .pk 48 (.t 44) (.t 47) (.c (.bool false)),
    .mv 49 (.t 48),
    .g 49 true (.fa 50 (.t 1) 10),
    .g 49 true (.ld 51 (.t 50) 1 false),
    .g 49 true (.bi 52 .geq (.t 51) (.c (.int .i64 0))),
    .pk 53 (.t 49) (.t 52) (.c (.bool false)),
    .mv 54 (.t 53),
    .g 54 true (.fa 55 (.t 1) 10),
    .g 54 true (.ld 56 (.t 55) 1 false),
    .g 54 true (.bi 57 .leq (.t 56) (.c (.int .i64 24))),
    .pk 58 (.t 54) (.t 57) (.c (.bool false)),
    .mv 2 (.t 58)]) (
  .ret)))
def rs_spec_JobOk : List Rv := [.t 2]
theorem ck_spec_JobOk : chkFn Try.prog F.spec_JobOk 1 ir_spec_JobOk rs_spec_JobOk = true := by kernel_rfl
set_option maxRecDepth 10000 in
theorem spec_JobOk_ok (j : Job) : Snd Try.prog F.spec_JobOk [eJob j] (.bool (jobOk j)) [] := by
  refine snd_by ck_spec_JobOk rfl rfl (den_W ?_)
  unfold ir_spec_JobOk rs_spec_JobOk jobOk
  by_cases h1 : 1 ≤ j.id
  rotate_left
  · simp [inR, h1, Int.not_le.1 h1]
  by_cases h2 : j.id ≤ 999
  rotate_left
  · simp [inR, h1, h2, Int.not_le.1 h2, Int.not_lt.2 h1]
  by_cases h3 : 0 ≤ j.prio
  rotate_left
  · simp [inR, h1, h2, h3, Int.not_le.1 h3, Int.not_lt.2 h1, Int.not_lt.2 h2]
  by_cases h4 : j.prio ≤ 999
  rotate_left
  · simp [inR, h1, h2, h3, h4, Int.not_le.1 h4, Int.not_lt.2 h1, Int.not_lt.2 h2, Int.not_lt.2 h3]
  by_cases h5 : 1 ≤ j.nodes
  rotate_left
  · simp [inR, h1, h2, h3, h4, h5, Int.not_le.1 h5, Int.not_lt.2 h1, Int.not_lt.2 h2, Int.not_lt.2 h3, Int.not_lt.2 h4]
  by_cases h6 : j.nodes ≤ 24
  rotate_left
  · simp [inR, h1, h2, h3, h4, h5, h6, Int.not_le.1 h6, Int.not_lt.2 h1, Int.not_lt.2 h2, Int.not_lt.2 h3, Int.not_lt.2 h4, Int.not_lt.2 h5]
  simp [inR, h1, h2, h3, h4, h5, h6, Int.not_lt.2 h1, Int.not_lt.2 h2, Int.not_lt.2 h3, Int.not_lt.2 h4, Int.not_lt.2 h5, Int.not_lt.2 h6]
  refine do_cq (spec_VecOk_ok j.need) (by simp [St.args]) ?_
  cases vecOk j.need <;> simp
  refine do_cq (spec_VecOk_ok j.lic) (by simp [St.args]) ?_
  cases vecOk j.lic <;> simp
  by_cases h7 : 1 ≤ j.wall
  rotate_left
  · simp [h7]
  by_cases h8 : j.wall ≤ 1000000
  rotate_left
  · simp [h7, h8]
  by_cases h9 : 0 ≤ j.level
  rotate_left
  · simp [h7, h8, h9]
  simp [h7, h8, h9]
end Go.Proofs.Ythbbieobcokgbaa
