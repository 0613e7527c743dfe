/-
  Lemmas, part 9: the engine that steps through the code, the walks of functions, and the laws of what they compute.
-/
import Derived.Test.YtndemhaoilhbbaaGreatDig8
namespace Go.Proofs.YtndemhaoilhbbaaGreat
open Go Go.RowKit Eng
def ir_spec_CmdOk : L :=
.seq (.reg [.bx 1 (.t 0),.mv 2 (.c (.bool false))])
 (.seq (.reg [.fa 5 (.t 1) 1,.ld 6 (.t 5) 11 true,.bd 7 [.int .i64 0, .int .i64 0, .int .i64 0, .int .i64 0, .int .i64 0, .int .i64 0, .int .i64 0, .int .i64 0, .int .i64 0, .int .i64 0, .int .i64 0] [],.es 8 false [0, 0, 0, 0, 0, 0, 0, 0, 0, 0, 0] (.t 6) (.t 7),.mv 3 (.t 8)])
 (.seq (.reg [.fa 9 (.t 1) 13,.ld 10 (.t 9) 3 true,.bd 11 [.int .i64 0, .int .i64 0, .int .i64 0] [],.es 12 false [0, 0, 0] (.t 10) (.t 11),.mv 4 (.t 12)])
 (.seq (.seq (.reg [.fa 13 (.t 1) 0,.ld 14 (.t 13) 1 false])
 (.blk 0 (.seq (.reg [.bi 16 .eql (.t 14) (.c (.int .i64 1)),.mv 15 (.t 16)])
 (.cond (.t 15) (.seq (.reg [.fa 17 (.t 1) 1,.ld 18 (.t 17) 11 true,.cq 19 F.spec_JobOk [(.t 18)],.mv 20 (.t 19),.g 20 true (.fa 21 (.t 1) 12),.g 20 true (.ld 22 (.t 21) 1 false),.g 20 true (.bi 23 .eql (.t 22) (.c (.int .i64 0))),.pk 24 (.t 20) (.t 23) (.c (.bool false)),.mv 25 (.t 24),.g 25 true (.mv 26 (.t 4)),.pk 27 (.t 25) (.t 26) (.c (.bool false)),.mv 2 (.t 27)])
 (.gw (.ret)))
 (.seq (.seq (.reg [.bi 29 .eql (.t 14) (.c (.int .i64 2)),.mv 28 (.t 29)])
 (.cond (.t 28) (.skip)
 (.reg [.bi 30 .eql (.t 14) (.c (.int .i64 3)),.mv 28 (.t 30)])))
 (.gw (.cond (.t 28) (.seq (.reg [.mv 31 (.t 3),.mv 32 (.t 31),.g 32 true (.mv 33 (.t 4)),.pk 34 (.t 32) (.t 33) (.c (.bool false)),.mv 35 (.t 34),.g 35 true (.fa 36 (.t 1) 12),.g 35 true (.ld 37 (.t 36) 1 false),.g 35 true (.bi 38 .geq (.t 37) (.c (.int .i64 1))),.pk 39 (.t 35) (.t 38) (.c (.bool false)),.mv 40 (.t 39),.g 40 true (.fa 41 (.t 1) 12),.g 40 true (.ld 42 (.t 41) 1 false),.g 40 true (.bi 43 .leq (.t 42) (.c (.int .i64 999))),.pk 44 (.t 40) (.t 43) (.c (.bool false)),.mv 2 (.t 44)])
 (.gw (.ret)))
 (.seq (.seq (.reg [.bi 46 .eql (.t 14) (.c (.int .i64 4)),.mv 45 (.t 46)])
 (.cond (.t 45) (.skip)
 (.reg [.bi 47 .eql (.t 14) (.c (.int .i64 5)),.mv 45 (.t 47)])))
 (.gw (.cond (.t 45) (.seq (.reg [.mv 48 (.t 3),.mv 49 (.t 48),.g 49 true (.mv 50 (.t 4)),.pk 51 (.t 49) (.t 50) (.c (.bool false)),.mv 52 (.t 51),.g 52 true (.fa 53 (.t 1) 12),.g 52 true (.ld 54 (.t 53) 1 false),.g 52 true (.bi 55 .geq (.t 54) (.c (.int .i64 0))),.pk 56 (.t 52) (.t 55) (.c (.bool false)),.mv 57 (.t 56),.g 57 true (.fa 58 (.t 1) 12),.g 57 true (.ld 59 (.t 58) 1 false),.g 57 true (.bi 60 .lss (.t 59) (.c (.int .i64 24))),.pk 61 (.t 57) (.t 60) (.c (.bool false)),.mv 2 (.t 61)])
 (.gw (.ret)))
 (.seq (.reg [.bi 63 .eql (.t 14) (.c (.int .i64 6)),.mv 62 (.t 63)])
 (.cond (.t 62) (.seq (.reg [.mv 64 (.t 3),.mv 65 (.t 64),.g 65 true (.fa 66 (.t 1) 12),.g 65 true (.ld 67 (.t 66) 1 false),.g 65 true (.bi 68 .eql (.t 67) (.c (.int .i64 0))),.pk 69 (.t 65) (.t 68) (.c (.bool false)),.mv 70 (.t 69),.g 70 true (.fa 71 (.t 1) 13),.g 70 true (.ld 72 (.t 71) 3 true),.g 70 true (.cq 73 F.spec_VecOk [(.t 72)]),.pk 74 (.t 70) (.t 73) (.c (.bool false)),.mv 2 (.t 74)])
 (.gw (.ret)))
 (.seq (.reg [.bi 76 .eql (.t 14) (.c (.int .i64 7)),.mv 75 (.t 76)])
 (.cond (.t 75) (.seq (.reg [.mv 77 (.t 3),.mv 78 (.t 77),.g 78 true (.mv 79 (.t 4)),.pk 80 (.t 78) (.t 79) (.c (.bool false)),.mv 81 (.t 80),.g 81 true (.fa 82 (.t 1) 12),.g 81 true (.ld 83 (.t 82) 1 false),.g 81 true (.cq 84 F.spec_l01Time [(.t 83)]),.pk 85 (.t 81) (.t 84) (.c (.bool false)),.mv 2 (.t 85)])
 (.gw (.ret)))
 (.skip)))))))))))))))
 (.seq (.reg [.mv 2 (.c (.bool false))])
 (.gw (.ret))))))
def rs_spec_CmdOk : List Rv := [.t 2]
theorem ck_spec_CmdOk : chkFn Tryz.prog F.spec_CmdOk 1 ir_spec_CmdOk rs_spec_CmdOk = true := by kernel_rfl
def spec_CmdOk_j37 (c1 : Cmd) (v3 : Bool) : Option Bool :=
 bif v3 then (some ((((c1.job.id == 0 && (c1.job.prio == 0 && (c1.job.nodes == 0 && (c1.job.need.a == 0 && (c1.job.need.b == 0 && (c1.job.need.c == 0 && (c1.job.lic.a == 0 && (c1.job.lic.b == 0 && (c1.job.lic.c == 0 && (c1.job.wall == 0 && (c1.job.level == 0 && true))))))))))) && (c1.lic.a == 0 && (c1.lic.b == 0 && (c1.lic.c == 0 && true)))) && (decide (0 ≤ c1.n))) && (decide (c1.n < 24)))) else (bif (c1.kind == 6) then (some (((c1.job.id == 0 && (c1.job.prio == 0 && (c1.job.nodes == 0 && (c1.job.need.a == 0 && (c1.job.need.b == 0 && (c1.job.need.c == 0 && (c1.job.lic.a == 0 && (c1.job.lic.b == 0 && (c1.job.lic.c == 0 && (c1.job.wall == 0 && (c1.job.level == 0 && true))))))))))) && (c1.n == 0)) && (spec_VecOk c1.lic))) else (bif (c1.kind == 7) then (some (((c1.job.id == 0 && (c1.job.prio == 0 && (c1.job.nodes == 0 && (c1.job.need.a == 0 && (c1.job.need.b == 0 && (c1.job.need.c == 0 && (c1.job.lic.a == 0 && (c1.job.lic.b == 0 && (c1.job.lic.c == 0 && (c1.job.wall == 0 && (c1.job.level == 0 && true))))))))))) && (c1.lic.a == 0 && (c1.lic.b == 0 && (c1.lic.c == 0 && true)))) && (spec_l01Time c1.n))) else (some false)))
def spec_CmdOk_j39 (c1 : Cmd) (v2 : Bool) : Option Bool :=
 bif v2 then (some ((((c1.job.id == 0 && (c1.job.prio == 0 && (c1.job.nodes == 0 && (c1.job.need.a == 0 && (c1.job.need.b == 0 && (c1.job.need.c == 0 && (c1.job.lic.a == 0 && (c1.job.lic.b == 0 && (c1.job.lic.c == 0 && (c1.job.wall == 0 && (c1.job.level == 0 && true))))))))))) && (c1.lic.a == 0 && (c1.lic.b == 0 && (c1.lic.c == 0 && true)))) && (decide (1 ≤ c1.n))) && (decide (c1.n ≤ 999)))) else (bif (c1.kind == 4) then ((spec_CmdOk_j37 c1) (c1.kind == 4)) else ((spec_CmdOk_j37 c1) (c1.kind == 5)))
def spec_CmdOk (c1 : Cmd) : Option Bool :=
 bif (c1.kind == 1) then (some (((spec_JobOk c1.job) && (c1.n == 0)) && (c1.lic.a == 0 && (c1.lic.b == 0 && (c1.lic.c == 0 && true))))) else (bif (c1.kind == 2) then ((spec_CmdOk_j39 c1) (c1.kind == 2)) else ((spec_CmdOk_j39 c1) (c1.kind == 3)))
theorem spec_CmdOk_ok {c1 : Cmd} {r : Bool} (H : spec_CmdOk c1 = some r) : Snd Tryz.prog F.spec_CmdOk [eCmd c1] (.bool r) [] := by
 refine snd_g ck_spec_CmdOk rfl (by simp) ?_
 unfold spec_CmdOk at H
 refine Wh_o fun _ => ?_
 refine Wh_iH H (fun H => ?_) fun H => ?_
 ·refine Wh_go 99 [.c 19 (spec_JobOk_ok c1.job)] (by kernel_rfl) fun _ => ?_
  replace H := sI H; subst H
  exact Wh_end [(2, .d)] [] [] [] [] [] (by kernel_rfl)
 ·refine Wh_o fun _ => ?_
  refine Wh_join (r := r) (spec_CmdOk_j39 c1) 0 (fun v2 : Bool => ⟨[(1, .ptr 1 0), (3, .bool (c1.job.id == 0 && (c1.job.prio == 0 && (c1.job.nodes == 0 && (c1.job.need.a == 0 && (c1.job.need.b == 0 && (c1.job.need.c == 0 && (c1.job.lic.a == 0 && (c1.job.lic.b == 0 && (c1.job.lic.c == 0 && (c1.job.wall == 0 && (c1.job.level == 0 && true)))))))))))), (4, .bool (c1.lic.a == 0 && (c1.lic.b == 0 && (c1.lic.c == 0 && true)))), (14, .int .i64 c1.kind), (28, .bool v2)], [], [(1, (eCmd c1).cells)], []⟩) (by kernel_rfl) (fun v2 H => ?_) (fun J39 => ?_)
  ·unfold spec_CmdOk_j39 at H
   refine Wh_o fun _ => ?_
   refine Wh_iH H (fun H => ?_) fun H => ?_
   ·refine Wh_o fun _ => ?_
    replace H := sI H; subst H
    exact Wh_end [(2, .d)] [] [] [] [] [] (by kernel_rfl)
   ·refine Wh_o fun _ => ?_
    refine Wh_join (r := r) (spec_CmdOk_j37 c1) 0 (fun v3 : Bool => ⟨[(1, .ptr 1 0), (3, .bool (c1.job.id == 0 && (c1.job.prio == 0 && (c1.job.nodes == 0 && (c1.job.need.a == 0 && (c1.job.need.b == 0 && (c1.job.need.c == 0 && (c1.job.lic.a == 0 && (c1.job.lic.b == 0 && (c1.job.lic.c == 0 && (c1.job.wall == 0 && (c1.job.level == 0 && true)))))))))))), (4, .bool (c1.lic.a == 0 && (c1.lic.b == 0 && (c1.lic.c == 0 && true)))), (14, .int .i64 c1.kind), (45, .bool v3)], [], [(1, (eCmd c1).cells)], []⟩) (by kernel_rfl) (fun v3 H => ?_) (fun J37 => ?_)
    ·unfold spec_CmdOk_j37 at H
     refine Wh_o fun _ => ?_
     refine Wh_iH H (fun H => ?_) fun H => ?_
     ·refine Wh_o fun _ => ?_
      replace H := sI H; subst H
      exact Wh_end [(2, .d)] [] [] [] [] [] (by kernel_rfl)
     ·refine Wh_o fun _ => ?_
      refine Wh_iH H (fun H => ?_) fun H => ?_
      ·refine Wh_go 99 [.g 73 [(((c1.job.id == 0 && (c1.job.prio == 0 && (c1.job.nodes == 0 && (c1.job.need.a == 0 && (c1.job.need.b == 0 && (c1.job.need.c == 0 && (c1.job.lic.a == 0 && (c1.job.lic.b == 0 && (c1.job.lic.c == 0 && (c1.job.wall == 0 && (c1.job.level == 0 && true))))))))))) && (c1.n == 0)), true)] (.call _ _ _ _ _ (AEs.refl _) (fun _ => spec_VecOk_ok c1.lic))] (by kernel_rfl) fun _ => ?_
       replace H := sI H; subst H
       exact Wh_end [(2, .d)] [] [] [] [] [] (by kernel_rfl)
      ·refine Wh_o fun _ => ?_
       refine Wh_iH H (fun H => ?_) fun H => ?_
       ·refine Wh_go 99 [.g 84 [(((c1.job.id == 0 && (c1.job.prio == 0 && (c1.job.nodes == 0 && (c1.job.need.a == 0 && (c1.job.need.b == 0 && (c1.job.need.c == 0 && (c1.job.lic.a == 0 && (c1.job.lic.b == 0 && (c1.job.lic.c == 0 && (c1.job.wall == 0 && (c1.job.level == 0 && true))))))))))) && (c1.lic.a == 0 && (c1.lic.b == 0 && (c1.lic.c == 0 && true)))), true)] (.call _ _ _ _ _ (AEs.refl _) (fun _ => spec_l01Time_ok c1.n))] (by kernel_rfl) fun _ => ?_
        replace H := sI H; subst H
        exact Wh_end [(2, .d)] [] [] [] [] [] (by kernel_rfl)
       ·refine Wh_o fun _ => ?_
        replace H := sI H; subst H
        exact Wh_end [(2, .d)] [] [] [] [] [] (by kernel_rfl)
    ·refine Wh_iH H (fun H => ?_) fun H => ?_
     ·refine Wh_o fun _ => ?_
      exact Wh_to (J37 _ H) [] [] [] [] (by kernel_rfl) (by kernel_rfl)
     ·refine Wh_o fun _ => ?_
      exact Wh_to (J37 _ H) [] [] [] [] (by kernel_rfl) (by kernel_rfl)
  ·refine Wh_iH H (fun H => ?_) fun H => ?_
   ·refine Wh_o fun _ => ?_
    exact Wh_to (J39 _ H) [] [] [] [] (by kernel_rfl) (by kernel_rfl)
   ·refine Wh_o fun _ => ?_
    exact Wh_to (J39 _ H) [] [] [] [] (by kernel_rfl) (by kernel_rfl)
def ir_spec_l08Words : L :=
.seq (.reg [.mv 0 (.c (.nl))])
 (.seq (.reg [.bs 1 1 [(.c (.str [])), (.c (.str [115, 117, 98, 109, 105, 116])), (.c (.str [99, 97, 110, 99, 101, 108])), (.c (.str [100, 111, 110, 101])), (.c (.str [102, 97, 105, 108])), (.c (.str [114, 101, 115, 117, 109, 101])), (.c (.str [108, 105, 99])), (.c (.str [103, 111]))] true,.mv 0 (.t 1)])
 (.gw (.ret)))
def rs_spec_l08Words : List Rv := [.t 0]
theorem ck_spec_l08Words : chkFn Tryz.prog F.spec_l08Words 0 ir_spec_l08Words rs_spec_l08Words = true := by kernel_rfl
def spec_l08Words_o  : Option (List Str) :=
 some [([] : Str), ([115, 117, 98, 109, 105, 116] : Str), ([99, 97, 110, 99, 101, 108] : Str), ([100, 111, 110, 101] : Str), ([102, 97, 105, 108] : Str), ([114, 101, 115, 117, 109, 101] : Str), ([108, 105, 99] : Str), ([103, 111] : Str)]
theorem spec_l08Words_o_ok  {r : (List Str)} (H : spec_l08Words_o = some r) : Snd Tryz.prog F.spec_l08Words [] (.sl .nw 1 (r.map eS)) [] := by
 refine snd_g ck_spec_l08Words rfl (by simp) ?_
 unfold spec_l08Words_o at H
 refine Wh_o fun _ => ?_
 replace H := sI H; subst H
 exact Wh_end [(0, .f)] [] [] [1] [] [⟨_, nw_S [([] : Str), ([115, 117, 98, 109, 105, 116] : Str), ([99, 97, 110, 99, 101, 108] : Str), ([100, 111, 110, 101] : Str), ([102, 97, 105, 108] : Str), ([114, 101, 115, 117, 109, 101] : Str), ([108, 105, 99] : Str), ([103, 111] : Str)]⟩] (by kernel_rfl)
def spec_l08Words  : (List Str) :=
 [([] : Str), ([115, 117, 98, 109, 105, 116] : Str), ([99, 97, 110, 99, 101, 108] : Str), ([100, 111, 110, 101] : Str), ([102, 97, 105, 108] : Str), ([114, 101, 115, 117, 109, 101] : Str), ([108, 105, 99] : Str), ([103, 111] : Str)]
theorem spec_l08Words_e  : spec_l08Words_o = some (spec_l08Words) := by
 unfold spec_l08Words_o spec_l08Words
 first | rfl | simp only [bif_some]
theorem spec_l08Words_ok  : Snd Tryz.prog F.spec_l08Words [] (.sl .nw 1 ((spec_l08Words).map eS)) [] := spec_l08Words_o_ok (spec_l08Words_e )
def ir_spec_CmdText : L :=
.seq (.reg [.bx 1 (.t 0),.mv 2 (.c (.str []))])
 (.seq (.seq (.reg [.ld 5 (.t 1) 16 true,.cq 6 F.spec_CmdOk [(.t 5)],.un 7 (.t 6)])
 (.cond (.t 7) (.seq (.reg [.mv 2 (.c (.str []))])
 (.gw (.ret)))
 (.skip)))
 (.seq (.rq 6 [.cq 8 F.spec_l08Words [],.fa 9 (.t 1) 0,.ld 10 (.t 9) 1 false,.ia 11 (.t 8) (.t 10) 1,.ld 12 (.t 11) 1 false,.mv 3 (.t 12)])
 (.seq (.reg [.fa 13 (.t 1) 1,.ld 14 (.t 13) 11 true,.al 4 [.int .i64 0, .int .i64 0, .int .i64 0, .int .i64 0, .int .i64 0, .int .i64 0, .int .i64 0, .int .i64 0, .int .i64 0, .int .i64 0, .int .i64 0],.st (.t 4) (.t 14) 11])
 (.seq (.seq (.reg [.fa 15 (.t 1) 0,.ld 16 (.t 15) 1 false,.bi 17 .eql (.t 16) (.c (.int .i64 1))])
 (.cond (.t 17) (.seq (.rq 37 [.mv 18 (.t 3),.sa 19 (.t 18) (.c (.str [32])),.fa 20 (.t 4) 0,.ld 21 (.t 20) 1 false,.cq 22 F.spec_NumText [(.t 21)],.sa 23 (.t 19) (.t 22),.sa 24 (.t 23) (.c (.str [32])),.fa 25 (.t 4) 1,.ld 26 (.t 25) 1 false,.cq 27 F.spec_NumText [(.t 26)],.sa 28 (.t 24) (.t 27),.sa 29 (.t 28) (.c (.str [32])),.fa 30 (.t 4) 2,.ld 31 (.t 30) 1 false,.cq 32 F.spec_NumText [(.t 31)],.sa 33 (.t 29) (.t 32),.sa 34 (.t 33) (.c (.str [32])),.fa 35 (.t 4) 3,.ld 36 (.t 35) 3 true,.cq 37 F.spec_VecText [(.t 36)],.sa 38 (.t 34) (.t 37),.sa 39 (.t 38) (.c (.str [32])),.fa 40 (.t 4) 6,.ld 41 (.t 40) 3 true,.cq 42 F.spec_VecText [(.t 41)],.sa 43 (.t 39) (.t 42),.sa 44 (.t 43) (.c (.str [32])),.fa 45 (.t 4) 9,.ld 46 (.t 45) 1 false,.cq 47 F.spec_NumText [(.t 46)],.sa 48 (.t 44) (.t 47),.sa 49 (.t 48) (.c (.str [32])),.fa 50 (.t 4) 10,.ld 51 (.t 50) 1 false,.cq 52 F.spec_NumText [(.t 51)],.sa 53 (.t 49) (.t 52),.mv 2 (.t 53)])
 (.gw (.ret)))
 (.skip)))
 (.seq (.seq (.reg [.fa 54 (.t 1) 0,.ld 55 (.t 54) 1 false,.bi 56 .eql (.t 55) (.c (.int .i64 6))])
 (.cond (.t 56) (.seq (.reg [.mv 57 (.t 3),.sa 58 (.t 57) (.c (.str [32])),.fa 59 (.t 1) 13,.ld 60 (.t 59) 3 true,.cq 61 F.spec_VecText [(.t 60)],.sa 62 (.t 58) (.t 61),.mv 2 (.t 62)])
 (.gw (.ret)))
 (.skip)))
 (.seq (.reg [.mv 63 (.t 3),.sa 64 (.t 63) (.c (.str [32])),.fa 65 (.t 1) 12,.ld 66 (.t 65) 1 false,.cq 67 F.spec_NumText [(.t 66)],.sa 68 (.t 64) (.t 67),.mv 2 (.t 68)])
 (.gw (.ret))))))))
def rs_spec_CmdText : List Rv := [.t 2]
theorem ck_spec_CmdText : chkFn Tryz.prog F.spec_CmdText 1 ir_spec_CmdText rs_spec_CmdText = true := by kernel_rfl
def spec_CmdText (c1 : Cmd) : Option Str :=
 (spec_CmdOk c1).bind fun b2 => bif (!b2) then (some ([] : Str)) else ((idx (spec_l08Words) c1.kind).bind fun e3 => bif (c1.kind == 1) then ((catS e3 ([32] : Str)).bind fun w4 => (spec_NumText c1.job.id).bind fun w5 => (catS w4 w5).bind fun w6 => (catS w6 ([32] : Str)).bind fun w7 => (spec_NumText c1.job.prio).bind fun w8 => (catS w7 w8).bind fun w9 => (catS w9 ([32] : Str)).bind fun w10 => (spec_NumText c1.job.nodes).bind fun w11 => (catS w10 w11).bind fun w12 => (catS w12 ([32] : Str)).bind fun w13 => (spec_VecText c1.job.need).bind fun w14 => (catS w13 w14).bind fun w15 => (catS w15 ([32] : Str)).bind fun w16 => (spec_VecText c1.job.lic).bind fun w17 => (catS w16 w17).bind fun w18 => (catS w18 ([32] : Str)).bind fun w19 => (spec_NumText c1.job.wall).bind fun w20 => (catS w19 w20).bind fun w21 => (catS w21 ([32] : Str)).bind fun w22 => (spec_NumText c1.job.level).bind fun w23 => (catS w22 w23).bind fun w24 => some w24) else (bif (c1.kind == 6) then ((catS e3 ([32] : Str)).bind fun w25 => (spec_VecText c1.lic).bind fun w26 => (catS w25 w26).bind fun w27 => some w27) else ((catS e3 ([32] : Str)).bind fun w28 => (spec_NumText c1.n).bind fun w29 => (catS w28 w29).bind fun w30 => some w30)))
theorem spec_CmdText_ok {c1 : Cmd} {r : Str} (H : spec_CmdText c1 = some r) : Snd Tryz.prog F.spec_CmdText [eCmd c1] (.str r) [] := by
 refine snd_g ck_spec_CmdText rfl (by simp) ?_
 unfold spec_CmdText at H
 obtain ⟨b2, h2, H⟩ := bB H
 refine Wh_go 99 [.c 6 (spec_CmdOk_ok h2)] (by kernel_rfl) fun _ => ?_
 refine Wh_iH H (fun H => ?_) fun H => ?_
 ·refine Wh_o fun _ => ?_
  replace H := sI H; subst H
  exact Wh_end [(2, .d)] [] [] [] [] [] (by kernel_rfl)
 ·obtain ⟨e3, h3, H⟩ := bB H
  refine Wh_go 99 [.u 8 (.call _ _ _ _ _ (AEs.refl _) (fun _ => spec_l08Words_ok )), .u 11 (.ix _ _ _ fun _ => idx_map eS h3)] (by kernel_rfl) fun _ => ?_
  refine Wh_iH H (fun H => ?_) fun H => ?_
  ·obtain ⟨w4, h4, H⟩ := bB H
   obtain ⟨w5, h5, H⟩ := bB H
   obtain ⟨w6, h6, H⟩ := bB H
   obtain ⟨w7, h7, H⟩ := bB H
   obtain ⟨w8, h8, H⟩ := bB H
   obtain ⟨w9, h9, H⟩ := bB H
   obtain ⟨w10, h10, H⟩ := bB H
   obtain ⟨w11, h11, H⟩ := bB H
   obtain ⟨w12, h12, H⟩ := bB H
   obtain ⟨w13, h13, H⟩ := bB H
   obtain ⟨w14, h14, H⟩ := bB H
   obtain ⟨w15, h15, H⟩ := bB H
   obtain ⟨w16, h16, H⟩ := bB H
   obtain ⟨w17, h17, H⟩ := bB H
   obtain ⟨w18, h18, H⟩ := bB H
   obtain ⟨w19, h19, H⟩ := bB H
   obtain ⟨w20, h20, H⟩ := bB H
   obtain ⟨w21, h21, H⟩ := bB H
   obtain ⟨w22, h22, H⟩ := bB H
   obtain ⟨w23, h23, H⟩ := bB H
   obtain ⟨w24, h24, H⟩ := bB H
   refine Wh_go 99 [.u 19 (.sa _ _ _ fun _ => h4), .c 22 (spec_NumText_ok h5), .u 23 (.sa _ _ _ fun _ => h6), .u 24 (.sa _ _ _ fun _ => h7), .c 27 (spec_NumText_ok h8), .u 28 (.sa _ _ _ fun _ => h9), .u 29 (.sa _ _ _ fun _ => h10), .c 32 (spec_NumText_ok h11), .u 33 (.sa _ _ _ fun _ => h12), .u 34 (.sa _ _ _ fun _ => h13), .c 37 (spec_VecText_ok h14), .u 38 (.sa _ _ _ fun _ => h15), .u 39 (.sa _ _ _ fun _ => h16), .c 42 (spec_VecText_ok h17), .u 43 (.sa _ _ _ fun _ => h18), .u 44 (.sa _ _ _ fun _ => h19), .c 47 (spec_NumText_ok h20), .u 48 (.sa _ _ _ fun _ => h21), .u 49 (.sa _ _ _ fun _ => h22), .c 52 (spec_NumText_ok h23), .u 53 (.sa _ _ _ fun _ => h24)] (by kernel_rfl) fun _ => ?_
   replace H := sI H; subst H
   exact Wh_end [(2, .d)] [] [] [] [] [] (by kernel_rfl)
  ·refine Wh_o fun _ => ?_
   refine Wh_iH H (fun H => ?_) fun H => ?_
   ·obtain ⟨w25, h25, H⟩ := bB H
    obtain ⟨w26, h26, H⟩ := bB H
    obtain ⟨w27, h27, H⟩ := bB H
    refine Wh_go 99 [.u 58 (.sa _ _ _ fun _ => h25), .c 61 (spec_VecText_ok h26), .u 62 (.sa _ _ _ fun _ => h27)] (by kernel_rfl) fun _ => ?_
    replace H := sI H; subst H
    exact Wh_end [(2, .d)] [] [] [] [] [] (by kernel_rfl)
   ·obtain ⟨w28, h28, H⟩ := bB H
    obtain ⟨w29, h29, H⟩ := bB H
    obtain ⟨w30, h30, H⟩ := bB H
    refine Wh_go 99 [.u 64 (.sa _ _ _ fun _ => h28), .c 67 (spec_NumText_ok h29), .u 68 (.sa _ _ _ fun _ => h30)] (by kernel_rfl) fun _ => ?_
    replace H := sI H; subst H
    exact Wh_end [(2, .d)] [] [] [] [] [] (by kernel_rfl)
def ir_impl_jobText : L :=
.seq (.reg [.bx 1 (.t 0),.mv 2 (.c (.str []))])
 (.seq (.rq 24 [.fa 3 (.t 1) 0,.ld 4 (.t 3) 1 false,.cq 5 F.impl_NumText [(.t 4)],.fa 6 (.t 1) 1,.ld 7 (.t 6) 1 false,.cq 8 F.impl_NumText [(.t 7)],.fa 9 (.t 1) 2,.ld 10 (.t 9) 1 false,.cq 11 F.impl_NumText [(.t 10)],.fa 12 (.t 1) 3,.ld 13 (.t 12) 3 true,.cq 14 F.impl_VecText [(.t 13)],.fa 15 (.t 1) 6,.ld 16 (.t 15) 3 true,.cq 17 F.impl_VecText [(.t 16)],.fa 18 (.t 1) 9,.ld 19 (.t 18) 1 false,.cq 20 F.impl_NumText [(.t 19)],.fa 21 (.t 1) 10,.ld 22 (.t 21) 1 false,.cq 23 F.impl_NumText [(.t 22)],.bs 24 1 [(.t 5), (.t 8), (.t 11), (.t 14), (.t 17), (.t 20), (.t 23)] false,.cq 25 F.impl_words [(.t 24)],.mv 2 (.t 25)])
 (.gw (.ret)))
def rs_impl_jobText : List Rv := [.t 2]
theorem ck_impl_jobText : chkFn Tryz.prog F.impl_jobText 1 ir_impl_jobText rs_impl_jobText = true := by kernel_rfl
def impl_jobText (j1 : Job) : Option Str :=
 (impl_NumText j1.id).bind fun w2 => (impl_NumText j1.prio).bind fun w3 => (impl_NumText j1.nodes).bind fun w4 => (impl_VecText j1.need).bind fun w5 => (impl_VecText j1.lic).bind fun w6 => (impl_NumText j1.wall).bind fun w7 => (impl_NumText j1.level).bind fun w8 => (impl_words [w2, w3, w4, w5, w6, w7, w8]).bind fun w9 => some w9
theorem impl_jobText_ok {j1 : Job} {r : Str} (H : impl_jobText j1 = some r) : Snd Tryz.prog F.impl_jobText [eJob j1] (.str r) [] := by
 refine snd_g ck_impl_jobText rfl (by simp) ?_
 unfold impl_jobText at H
 obtain ⟨w2, h2, H⟩ := bB H
 obtain ⟨w3, h3, H⟩ := bB H
 obtain ⟨w4, h4, H⟩ := bB H
 obtain ⟨w5, h5, H⟩ := bB H
 obtain ⟨w6, h6, H⟩ := bB H
 obtain ⟨w7, h7, H⟩ := bB H
 obtain ⟨w8, h8, H⟩ := bB H
 obtain ⟨w9, h9, H⟩ := bB H
 refine Wh_go 99 [.c 5 (impl_NumText_ok h2), .c 8 (impl_NumText_ok h3), .c 11 (impl_NumText_ok h4), .c 14 (impl_VecText_ok h5), .c 17 (impl_VecText_ok h6), .c 20 (impl_NumText_ok h7), .c 23 (impl_NumText_ok h8), .c 25 (impl_words_ok h9)] (by kernel_rfl) fun _ => ?_
 replace H := sI H; subst H
 exact Wh_end [(2, .d)] [] [] [] [] [] (by kernel_rfl)
def ir_impl_numTexts : L :=
.seq (.reg [.mv 4 (.c (.str []))])
 (.seq (.seq (.reg [.mv 7 (.t 1),.ln 8 (.t 7),.mv 9 (.c (.int .i64 0))])
 (.blk 0 (.loop (.gw (.seq (.reg [.bi 10 .lss (.t 9) (.t 8)])
 (.seq (.cond (.t 10) (.skip)
 (.exit 0))
 (.seq (.blk 1 (.seq (.reg [.ia 11 (.t 7) (.t 9) 1,.ld 12 (.t 11) 1 false,.mv 6 (.t 12)])
 (.reg [.mv 13 (.t 0),.sa 14 (.t 13) (.c (.str [32])),.mv 15 (.t 6),.cq 16 F.impl_NumText [(.t 15)],.sa 17 (.t 14) (.t 16),.mv 0 (.t 17)])))
 (.reg [.bi 18 .add (.t 9) (.c (.int .i64 1)),.mv 9 (.t 18)]))))))))
 (.seq (.reg [.mv 19 (.t 0),.mv 4 (.t 19)])
 (.gw (.ret))))
def rs_impl_numTexts : List Rv := [.t 4]
theorem ck_impl_numTexts : chkFn Tryz.prog F.impl_numTexts 2 ir_impl_numTexts rs_impl_numTexts = true := by kernel_rfl
def impl_numTexts_b14 (x4 : Int) (_ : Nat) (v4 : Str) (k4 : Str → Option Str) : Option Str :=
 (catS v4 ([32] : Str)).bind fun w5 => (impl_NumText x4).bind fun w6 => (catS w5 w6).bind fun w7 => k4 w7
def impl_numTexts_k14 (v4 : Str) : Option Str :=
 some v4
def impl_numTexts (word1 : Str) (l2 : List Int) : Option Str :=
 rgl impl_numTexts_b14 impl_numTexts_k14 l2 0 word1
theorem impl_numTexts_ok {word1 : Str} {l2 : List Int} {r : Str} (H : impl_numTexts word1 l2 = some r) : Snd Tryz.prog F.impl_numTexts [.str word1, .sl .rd 1 (l2.map eI)] (.str r) [] := by
 refine snd_g ck_impl_numTexts rfl (by simp) ?_
 unfold impl_numTexts at H
 refine Wh_go 99 [.u 8 (.ln _ _ fun _ => lm l2 eI)] (by kernel_rfl) fun q3 => ?_
 refine Wh_rgl (fun (i4 : Nat) (v4 : Str) => ⟨[(0, .str v4), (7, .sl .rd 1 (l2.map eI)), (8, .int .i64 (l2.length : Int)), (9, .int .i64 (i4 : Int))], [], [], []⟩) [] [] [] [] (by kernel_rfl) (by kernel_rfl) H (fun i4 x4 v4 I m k4 hxv4 hiv4 H N14 => ?_) (fun v4 I m H => ?_)
 ·unfold impl_numTexts_b14 at H
  refine Wh_o fun _ => ?_
  refine Wh_ifT (ltT hiv4) (by kernel_rfl) ?_
  obtain ⟨w5, h5, H⟩ := bB H
  obtain ⟨w6, h6, H⟩ := bB H
  obtain ⟨w7, h7, H⟩ := bB H
  refine Wh_go 99 [.u 11 (.ix _ _ _ fun _ => idx_map eI (idx_nat hxv4)), .u 14 (.sa _ _ _ fun _ => h5), .c 16 (impl_NumText_ok h6), .u 17 (.sa _ _ _ fun _ => h7), .w 18 (wi .i64 rfl hiv4 q3.1)] (by kernel_rfl) fun _ => ?_
  exact Wh_to (N14 _ H) [] [] [] [] (by kernel_rfl) (by kernel_rfl)
 ·unfold impl_numTexts_k14 at H
  refine Wh_o fun _ => ?_
  refine Wh_ifF (ltF l2.length) (by kernel_rfl) ?_
  refine Wh_o fun _ => ?_
  replace H := sI H; subst H
  exact Wh_end [(4, .d)] [] [] [] [] [] (by kernel_rfl)
def ir_spec_JobText : L :=
.seq (.reg [.bx 1 (.t 0),.mv 2 (.c (.str []))])
 (.seq (.reg [.ld 4 (.t 1) 11 true,.bd 5 [.int .i64 0, .int .i64 0, .int .i64 0, .int .i64 0, .int .i64 0, .int .i64 0, .int .i64 0, .int .i64 0, .int .i64 0, .int .i64 0, .int .i64 0, .int .i64 0, .int .i64 0, .int .i64 0, .int .i64 0, .int .i64 0] [(0, 1, (.c (.int .i64 1))), (1, 11, (.t 4))],.cq 6 F.spec_CmdText [(.t 5)],.mv 3 (.t 6)])
 (.seq (.seq (.reg [.mv 7 (.t 3),.bi 8 .eql (.t 7) (.c (.str []))])
 (.cond (.t 8) (.seq (.reg [.mv 2 (.c (.str []))])
 (.gw (.ret)))
 (.skip)))
 (.seq (.reg [.mv 9 (.t 3),.ss 10 (.t 9) (some (.c (.int .i64 7))) none,.mv 2 (.t 10)])
 (.gw (.ret)))))
def rs_spec_JobText : List Rv := [.t 2]
theorem ck_spec_JobText : chkFn Tryz.prog F.spec_JobText 1 ir_spec_JobText rs_spec_JobText = true := by kernel_rfl
def spec_JobText (j1 : Job) : Option Str :=
 (spec_CmdText (Cmd.mk 1 j1 0 (Vec.mk 0 0 0))).bind fun w2 => bif (w2 == ([] : Str)) then (some ([] : Str)) else ((cutL w2 (some 7) none).bind fun w3 => some w3)
theorem spec_JobText_ok {j1 : Job} {r : Str} (H : spec_JobText j1 = some r) : Snd Tryz.prog F.spec_JobText [eJob j1] (.str r) [] := by
 refine snd_g ck_spec_JobText rfl (by simp) ?_
 unfold spec_JobText at H
 obtain ⟨w2, h2, H⟩ := bB H
 refine Wh_go 99 [.c 6 (spec_CmdText_ok h2)] (by kernel_rfl) fun _ => ?_
 refine Wh_iH H (fun H => ?_) fun H => ?_
 ·refine Wh_o fun _ => ?_
  replace H := sI H; subst H
  exact Wh_end [(2, .d)] [] [] [] [] [] (by kernel_rfl)
 ·obtain ⟨w3, h3, H⟩ := bB H
  refine Wh_go 99 [.u 10 (.ss _ _ _ _ fun _ => h3)] (by kernel_rfl) fun _ => ?_
  replace H := sI H; subst H
  exact Wh_end [(2, .d)] [] [] [] [] [] (by kernel_rfl)
def ir_spec_l19Ints : L :=
.seq (.reg [.mv 2 (.c (.str []))])
 (.seq (.reg [.mv 3 (.c (.str []))])
 (.seq (.seq (.reg [.mv 6 (.t 0),.ln 7 (.t 6),.mv 8 (.c (.int .i64 0))])
 (.blk 0 (.loop (.gw (.seq (.reg [.bi 9 .lss (.t 8) (.t 7)])
 (.seq (.cond (.t 9) (.skip)
 (.exit 0))
 (.seq (.blk 1 (.seq (.reg [.ia 10 (.t 6) (.t 8) 1,.ld 11 (.t 10) 1 false,.mv 5 (.t 11)])
 (.reg [.mv 12 (.t 3),.sa 13 (.t 12) (.c (.str [32])),.mv 14 (.t 5),.cq 15 F.spec_NumText [(.t 14)],.sa 16 (.t 13) (.t 15),.mv 3 (.t 16)])))
 (.reg [.bi 17 .add (.t 8) (.c (.int .i64 1)),.mv 8 (.t 17)]))))))))
 (.seq (.reg [.mv 18 (.t 3),.mv 2 (.t 18)])
 (.gw (.ret)))))
def rs_spec_l19Ints : List Rv := [.t 2]
theorem ck_spec_l19Ints : chkFn Tryz.prog F.spec_l19Ints 1 ir_spec_l19Ints rs_spec_l19Ints = true := by kernel_rfl
def spec_l19Ints_b15 (x3 : Int) (_ : Nat) (v3 : Str) (k3 : Str → Option Str) : Option Str :=
 (catS v3 ([32] : Str)).bind fun w4 => (spec_NumText x3).bind fun w5 => (catS w4 w5).bind fun w6 => k3 w6
def spec_l19Ints_k15 (v3 : Str) : Option Str :=
 some v3
def spec_l19Ints (l1 : List Int) : Option Str :=
 rgl spec_l19Ints_b15 spec_l19Ints_k15 l1 0 ([] : Str)
theorem spec_l19Ints_ok {l1 : List Int} {r : Str} (H : spec_l19Ints l1 = some r) : Snd Tryz.prog F.spec_l19Ints [.sl .rd 1 (l1.map eI)] (.str r) [] := by
 refine snd_g ck_spec_l19Ints rfl (by simp) ?_
 unfold spec_l19Ints at H
 refine Wh_go 99 [.u 7 (.ln _ _ fun _ => lm l1 eI)] (by kernel_rfl) fun q2 => ?_
 refine Wh_rgl (fun (i3 : Nat) (v3 : Str) => ⟨[(3, .str v3), (6, .sl .rd 1 (l1.map eI)), (7, .int .i64 (l1.length : Int)), (8, .int .i64 (i3 : Int))], [], [], []⟩) [] [] [] [] (by kernel_rfl) (by kernel_rfl) H (fun i3 x3 v3 I m k3 hxv3 hiv3 H N15 => ?_) (fun v3 I m H => ?_)
 ·unfold spec_l19Ints_b15 at H
  refine Wh_o fun _ => ?_
  refine Wh_ifT (ltT hiv3) (by kernel_rfl) ?_
  obtain ⟨w4, h4, H⟩ := bB H
  obtain ⟨w5, h5, H⟩ := bB H
  obtain ⟨w6, h6, H⟩ := bB H
  refine Wh_go 99 [.u 10 (.ix _ _ _ fun _ => idx_map eI (idx_nat hxv3)), .u 13 (.sa _ _ _ fun _ => h4), .c 15 (spec_NumText_ok h5), .u 16 (.sa _ _ _ fun _ => h6), .w 17 (wi .i64 rfl hiv3 q2.1)] (by kernel_rfl) fun _ => ?_
  exact Wh_to (N15 _ H) [] [] [] [] (by kernel_rfl) (by kernel_rfl)
 ·unfold spec_l19Ints_k15 at H
  refine Wh_o fun _ => ?_
  refine Wh_ifF (ltF l1.length) (by kernel_rfl) ?_
  refine Wh_o fun _ => ?_
  replace H := sI H; subst H
  exact Wh_end [(2, .d)] [] [] [] [] [] (by kernel_rfl)
def ir_spec_StateText : L :=
.seq (.reg [.bx 1 (.t 0),.mv 2 (.c (.str []))])
 (.seq (.seq (.reg [.ld 12 (.t 1) 11 true,.cq 13 F.spec_StateOk [(.t 12)],.un 14 (.t 13)])
 (.cond (.t 14) (.seq (.reg [.mv 2 (.c (.str []))])
 (.gw (.ret)))
 (.skip)))
 (.seq (.rq 17 [.fa 15 (.t 1) 0,.ld 16 (.t 15) 2 true,.cq 17 F.spec_TopoText [(.t 16)],.sa 18 (.t 17) (.c (.str [115, 116, 97, 116, 101, 32])),.fa 19 (.t 1) 3,.ld 20 (.t 19) 3 true,.cq 21 F.spec_VecText [(.t 20)],.sa 22 (.t 18) (.t 21),.fa 23 (.t 1) 6,.ld 24 (.t 23) 1 false,.fa 25 (.t 1) 7,.ld 26 (.t 25) 1 false,.bs 27 1 [(.t 24), (.t 26)] false,.cq 28 F.spec_l19Ints [(.t 27)],.sa 29 (.t 22) (.t 28),.sa 30 (.t 29) (.c (.str [10])),.mv 3 (.t 30)])
 (.seq (.seq (.reg [.fa 31 (.t 1) 2,.ld 32 (.t 31) 1 false,.ln 33 (.t 32),.mv 34 (.c (.int .i64 0))])
 (.blk 0 (.loop (.gw (.seq (.reg [.bi 35 .lss (.t 34) (.t 33)])
 (.seq (.cond (.t 35) (.skip)
 (.exit 0))
 (.seq (.blk 1 (.seq (.reg [.mv 36 (.t 34),.ia 37 (.t 32) (.t 34) 1,.ld 38 (.t 37) 1 false,.mv 4 (.t 36),.mv 5 (.t 38)])
 (.seq (.reg [.mv 39 (.t 5),.un 40 (.t 39)])
 (.cond (.t 40) (.reg [.mv 41 (.t 3),.sa 42 (.t 41) (.c (.str [100, 111, 119, 110])),.mv 43 (.t 4),.bs 44 1 [(.t 43)] false,.cq 45 F.spec_l19Ints [(.t 44)],.sa 46 (.t 42) (.t 45),.sa 47 (.t 46) (.c (.str [10])),.mv 3 (.t 47)])
 (.skip)))))
 (.reg [.bi 48 .add (.t 34) (.c (.int .i64 1)),.mv 34 (.t 48)]))))))))
 (.seq (.seq (.reg [.fa 49 (.t 1) 8,.ld 50 (.t 49) 1 false,.ln 51 (.t 50),.mv 52 (.c (.int .i64 0))])
 (.blk 2 (.loop (.gw (.seq (.reg [.bi 53 .lss (.t 52) (.t 51)])
 (.seq (.cond (.t 53) (.skip)
 (.exit 2))
 (.seq (.blk 3 (.seq (.reg [.ia 54 (.t 50) (.t 52) 11,.ld 55 (.t 54) 11 true,.al 7 [.int .i64 0, .int .i64 0, .int .i64 0, .int .i64 0, .int .i64 0, .int .i64 0, .int .i64 0, .int .i64 0, .int .i64 0, .int .i64 0, .int .i64 0],.st (.t 7) (.t 55) 11])
 (.reg [.mv 56 (.t 3),.sa 57 (.t 56) (.c (.str [119, 97, 105, 116, 32])),.ld 58 (.t 7) 11 true,.cq 59 F.spec_JobText [(.t 58)],.sa 60 (.t 57) (.t 59),.sa 61 (.t 60) (.c (.str [10])),.mv 3 (.t 61)])))
 (.reg [.bi 62 .add (.t 52) (.c (.int .i64 1)),.mv 52 (.t 62)]))))))))
 (.seq (.seq (.reg [.fa 63 (.t 1) 9,.ld 64 (.t 63) 1 false,.ln 65 (.t 64),.mv 66 (.c (.int .i64 0))])
 (.blk 4 (.loop (.gw (.seq (.reg [.bi 67 .lss (.t 66) (.t 65)])
 (.seq (.cond (.t 67) (.skip)
 (.exit 4))
 (.seq (.blk 5 (.seq (.reg [.ia 68 (.t 64) (.t 66) 13,.ld 69 (.t 68) 13 true,.al 9 [.int .i64 0, .int .i64 0, .int .i64 0, .int .i64 0, .int .i64 0, .int .i64 0, .int .i64 0, .int .i64 0, .int .i64 0, .int .i64 0, .int .i64 0, .int .i64 0, .nl],.st (.t 9) (.t 69) 13])
 (.rz [] [(0, false, .mv 70 (.t 3)),
 (1, false, .sa 71 (.t 70) (.c (.str [114, 117, 110]))),
 (2, false, .fa 72 (.t 9) 11),
 (3, false, .ld 73 (.t 72) 1 false),
 (4, false, .fa 74 (.t 9) 12),
 (5, false, .ld 75 (.t 74) 1 false),
 (6, false, .lq 76 (.t 75)),
 (8, false, .fa 78 (.t 9) 12),
 (9, false, .ld 79 (.t 78) 1 false),
 (14, false, .fa 84 (.t 9) 0),
 (15, false, .ld 85 (.t 84) 11 true),
 (7, true, .bs 77 1 [(.t 73), (.t 76)] true),
 (10, true, .ap 80 (.t 77) (.t 79) 1 8),
 (11, true, .cq 81 F.spec_l19Ints [(.t 80)]),
 (12, false, .sa 82 (.t 71) (.t 81)),
 (13, false, .sa 83 (.t 82) (.c (.str [32]))),
 (16, false, .cq 86 F.spec_JobText [(.t 85)])]
 [.sa 87 (.t 83) (.t 86),.sa 88 (.t 87) (.c (.str [10])),.mv 3 (.t 88)])))
 (.reg [.bi 89 .add (.t 66) (.c (.int .i64 1)),.mv 66 (.t 89)]))))))))
 (.seq (.seq (.reg [.fa 90 (.t 1) 10,.ld 91 (.t 90) 1 false,.ln 92 (.t 91),.mv 93 (.c (.int .i64 0))])
 (.blk 6 (.loop (.gw (.seq (.reg [.bi 94 .lss (.t 93) (.t 92)])
 (.seq (.cond (.t 94) (.skip)
 (.exit 6))
 (.seq (.blk 7 (.seq (.reg [.ia 95 (.t 91) (.t 93) 3,.ld 96 (.t 95) 3 true,.al 11 [.int .i64 0, .int .i64 0, .int .i64 0],.st (.t 11) (.t 96) 3])
 (.reg [.mv 97 (.t 3),.sa 98 (.t 97) (.c (.str [101, 110, 100])),.fa 99 (.t 11) 0,.ld 100 (.t 99) 1 false,.fa 101 (.t 11) 1,.ld 102 (.t 101) 1 false,.fa 103 (.t 11) 2,.ld 104 (.t 103) 1 false,.bs 105 1 [(.t 100), (.t 102), (.t 104)] false,.cq 106 F.spec_l19Ints [(.t 105)],.sa 107 (.t 98) (.t 106),.sa 108 (.t 107) (.c (.str [10])),.mv 3 (.t 108)])))
 (.reg [.bi 109 .add (.t 93) (.c (.int .i64 1)),.mv 93 (.t 109)]))))))))
 (.seq (.reg [.mv 110 (.t 3),.sa 111 (.t 110) (.c (.str [111, 118, 101, 114, 10])),.mv 2 (.t 111)])
 (.gw (.ret)))))))))
def rs_spec_StateText : List Rv := [.t 2]
theorem ck_spec_StateText : chkFn Tryz.prog F.spec_StateText 1 ir_spec_StateText rs_spec_StateText = true := by kernel_rfl
def spec_StateText_b74 (x34 : End) (_ : Nat) (v34 : Str) (k34 : Str → Option Str) : Option Str :=
 (catS v34 ([101, 110, 100] : Str)).bind fun w35 => (spec_l19Ints [x34.id, x34.t, x34.why]).bind fun w36 => (catS w35 w36).bind fun w37 => (catS w37 ([10] : Str)).bind fun w38 => k34 w38
def spec_StateText_k74 (v34 : Str) : Option Str :=
 (catS v34 ([111, 118, 101, 114, 10] : Str)).bind fun w39 => some w39
def spec_StateText_b58 (x23 : Run) (_ : Nat) (v23 : Str) (k23 : Str → Option Str) : Option Str :=
 (catS v23 ([114, 117, 110] : Str)).bind fun w24 => (lenQ x23.nodes).bind fun _ => (appL 8 [x23.t, (x23.nodes.length : Int)] x23.nodes).bind fun xs26 => (spec_l19Ints xs26).bind fun w27 => (catS w24 w27).bind fun w28 => (catS w28 ([32] : Str)).bind fun w29 => (spec_JobText x23.job).bind fun w30 => (catS w29 w30).bind fun w31 => (catS w31 ([10] : Str)).bind fun w32 => k23 w32
def spec_StateText_k58 (s1 : State) (v23 : Str) : Option Str :=
 rgl spec_StateText_b74 spec_StateText_k74 s1.ends 0 v23
def spec_StateText_b42 (x17 : Job) (_ : Nat) (v17 : Str) (k17 : Str → Option Str) : Option Str :=
 (catS v17 ([119, 97, 105, 116, 32] : Str)).bind fun w18 => (spec_JobText x17).bind fun w19 => (catS w18 w19).bind fun w20 => (catS w20 ([10] : Str)).bind fun w21 => k17 w21
def spec_StateText_k42 (s1 : State) (v17 : Str) : Option Str :=
 rgl spec_StateText_b58 (spec_StateText_k58 s1) s1.runs 0 v17
def spec_StateText_b26 (x11 : Bool) (i11 : Nat) (v11 : Str) (k11 : Str → Option Str) : Option Str :=
 bif (!x11) then ((catS v11 ([100, 111, 119, 110] : Str)).bind fun w12 => (spec_l19Ints [(i11 : Int)]).bind fun w13 => (catS w12 w13).bind fun w14 => (catS w14 ([10] : Str)).bind fun w15 => k11 w15) else (k11 v11)
def spec_StateText_k26 (s1 : State) (v11 : Str) : Option Str :=
 rgl spec_StateText_b42 (spec_StateText_k42 s1) s1.queue 0 v11
def spec_StateText (s1 : State) : Option Str :=
 (spec_StateOk s1).bind fun b2 => bif (!b2) then (some ([] : Str)) else ((spec_TopoText s1.topo).bind fun w3 => (catS w3 ([115, 116, 97, 116, 101, 32] : Str)).bind fun w4 => (spec_VecText s1.lic).bind fun w5 => (catS w4 w5).bind fun w6 => (spec_l19Ints [s1.depth, s1.now]).bind fun w7 => (catS w6 w7).bind fun w8 => (catS w8 ([10] : Str)).bind fun w9 => rgl spec_StateText_b26 (spec_StateText_k26 s1) s1.up 0 w9)
theorem spec_StateText_ok {s1 : State} {r : Str} (H : spec_StateText s1 = some r) : Snd Tryz.prog F.spec_StateText [eStateT .rd s1] (.str r) [] := by
 refine snd_g ck_spec_StateText rfl (by simp) ?_
 unfold spec_StateText at H
 obtain ⟨b2, h2, H⟩ := bB H
 refine Wh_go 99 [.c 13 (spec_StateOk_ok h2)] (by kernel_rfl) fun _ => ?_
 refine Wh_iH H (fun H => ?_) fun H => ?_
 ·refine Wh_o fun _ => ?_
  replace H := sI H; subst H
  exact Wh_end [(2, .d)] [] [] [] [] [] (by kernel_rfl)
 ·obtain ⟨w3, h3, H⟩ := bB H
  obtain ⟨w4, h4, H⟩ := bB H
  obtain ⟨w5, h5, H⟩ := bB H
  obtain ⟨w6, h6, H⟩ := bB H
  obtain ⟨w7, h7, H⟩ := bB H
  obtain ⟨w8, h8, H⟩ := bB H
  obtain ⟨w9, h9, H⟩ := bB H
  refine Wh_go 99 [.c 17 (spec_TopoText_ok h3), .u 18 (.sa _ _ _ fun _ => h4), .c 21 (spec_VecText_ok h5), .u 22 (.sa _ _ _ fun _ => h6), .c 28 (spec_l19Ints_ok h7), .u 29 (.sa _ _ _ fun _ => h8), .u 30 (.sa _ _ _ fun _ => h9), .u 33 (.ln _ _ fun _ => lm s1.up eBo)] (by kernel_rfl) fun q10 => ?_
  refine Wh_rgl (fun (i11 : Nat) (v11 : Str) => ⟨[(1, .ptr 1 0), (3, .str v11), (32, .sl .rd 1 (s1.up.map eBo)), (33, .int .i64 (s1.up.length : Int)), (34, .int .i64 (i11 : Int))], [], [(1, (eStateT .rd s1).cells)], []⟩) [] [] [] [] (by kernel_rfl) (by kernel_rfl) H (fun i11 x11 v11 I m k11 hxv11 hiv11 H N26 => ?_) (fun v11 I m H => ?_)
  ·unfold spec_StateText_b26 at H
   refine Wh_o fun _ => ?_
   refine Wh_ifT (ltT hiv11) (by kernel_rfl) ?_
   refine Wh_go 99 [.u 37 (.ix _ _ _ fun _ => idx_map eBo (idx_nat hxv11))] (by kernel_rfl) fun _ => ?_
   refine Wh_iH H (fun H => ?_) fun H => ?_
   ·obtain ⟨w12, h12, H⟩ := bB H
    obtain ⟨w13, h13, H⟩ := bB H
    obtain ⟨w14, h14, H⟩ := bB H
    obtain ⟨w15, h15, H⟩ := bB H
    refine Wh_go 99 [.u 42 (.sa _ _ _ fun _ => h12), .c 45 (spec_l19Ints_ok h13), .u 46 (.sa _ _ _ fun _ => h14), .u 47 (.sa _ _ _ fun _ => h15), .w 48 (wi .i64 rfl hiv11 q10.1)] (by kernel_rfl) fun _ => ?_
    exact Wh_to (N26 _ H) [] [] [] [] (by kernel_rfl) (by kernel_rfl)
   ·refine Wh_go 99 [.w 48 (wi .i64 rfl hiv11 q10.1)] (by kernel_rfl) fun _ => ?_
    exact Wh_to (N26 _ H) [] [] [] [] (by kernel_rfl) (by kernel_rfl)
  ·unfold spec_StateText_k26 at H
   refine Wh_o fun _ => ?_
   refine Wh_ifF (ltF s1.up.length) (by kernel_rfl) ?_
   refine Wh_go 99 [.u 51 (.ln _ _ fun _ => lm s1.queue eJob)] (by kernel_rfl) fun q16 => ?_
   refine Wh_rgl (fun (i17 : Nat) (v17 : Str) => ⟨[(1, .ptr 1 0), (3, .str v17), (50, .sl .rd 11 (s1.queue.map eJob)), (51, .int .i64 (s1.queue.length : Int)), (52, .int .i64 (i17 : Int))], [], [(1, (eStateT .rd s1).cells)], []⟩) [] [] [] [] (by kernel_rfl) (by kernel_rfl) H (fun i17 x17 v17 I m k17 hxv17 hiv17 H N42 => ?_) (fun v17 I m H => ?_)
   ·unfold spec_StateText_b42 at H
    refine Wh_o fun _ => ?_
    refine Wh_ifT (ltT hiv17) (by kernel_rfl) ?_
    obtain ⟨w18, h18, H⟩ := bB H
    obtain ⟨w19, h19, H⟩ := bB H
    obtain ⟨w20, h20, H⟩ := bB H
    obtain ⟨w21, h21, H⟩ := bB H
    refine Wh_go 99 [.u 54 (.ix _ _ _ fun _ => idx_map eJob (idx_nat hxv17)), .u 57 (.sa _ _ _ fun _ => h18), .c 59 (spec_JobText_ok h19), .u 60 (.sa _ _ _ fun _ => h20), .u 61 (.sa _ _ _ fun _ => h21), .w 62 (wi .i64 rfl hiv17 q16.1)] (by kernel_rfl) fun _ => ?_
    exact Wh_to (N42 _ H) [] [] [] [] (by kernel_rfl) (by kernel_rfl)
   ·unfold spec_StateText_k42 at H
    refine Wh_o fun _ => ?_
    refine Wh_ifF (ltF s1.queue.length) (by kernel_rfl) ?_
    refine Wh_go 99 [.u 65 (.ln _ _ fun _ => lm s1.runs (eRunT .rd))] (by kernel_rfl) fun q22 => ?_
    refine Wh_rgl (fun (i23 : Nat) (v23 : Str) => ⟨[(1, .ptr 1 0), (3, .str v23), (64, .sl .rd 13 (s1.runs.map (eRunT .rd))), (65, .int .i64 (s1.runs.length : Int)), (66, .int .i64 (i23 : Int))], [], [(1, (eStateT .rd s1).cells)], []⟩) [] [] [] [] (by kernel_rfl) (by kernel_rfl) H (fun i23 x23 v23 I m k23 hxv23 hiv23 H N58 => ?_) (fun v23 I m H => ?_)
    ·unfold spec_StateText_b58 at H
     refine Wh_o fun _ => ?_
     refine Wh_ifT (ltT hiv23) (by kernel_rfl) ?_
     obtain ⟨w24, h24, H⟩ := bB H
     obtain ⟨u25, h25, H⟩ := bB H
     obtain ⟨xs26, h26, H⟩ := bB H
     obtain ⟨w27, h27, H⟩ := bB H
     obtain ⟨w28, h28, H⟩ := bB H
     obtain ⟨w29, h29, H⟩ := bB H
     obtain ⟨w30, h30, H⟩ := bB H
     obtain ⟨w31, h31, H⟩ := bB H
     obtain ⟨w32, h32, H⟩ := bB H
     refine Wh_go 99 [.u 68 (.ix _ _ _ fun _ => idx_map (eRunT .rd) (idx_nat hxv23)), .u 71 (.sa _ _ _ fun _ => h24), .u 76 (.le _ _ (fun _ => lm x23.nodes eI) (fun _ => lenQ_le h25)), .u 80 (.ap _ _ _ _ fun _ => appL_map eI h26), .c 81 (spec_l19Ints_ok h27), .u 82 (.sa _ _ _ fun _ => h28), .u 83 (.sa _ _ _ fun _ => h29), .c 86 (spec_JobText_ok h30), .u 87 (.sa _ _ _ fun _ => h31), .u 88 (.sa _ _ _ fun _ => h32), .w 89 (wi .i64 rfl hiv23 q22.1)] (by kernel_rfl) fun _ => ?_
     exact Wh_to (N58 _ H) [] [] [] [] (by kernel_rfl) (by kernel_rfl)
    ·unfold spec_StateText_k58 at H
     refine Wh_o fun _ => ?_
     refine Wh_ifF (ltF s1.runs.length) (by kernel_rfl) ?_
     refine Wh_go 99 [.u 92 (.ln _ _ fun _ => lm s1.ends eEnd)] (by kernel_rfl) fun q33 => ?_
     refine Wh_rgl (fun (i34 : Nat) (v34 : Str) => ⟨[(3, .str v34), (91, .sl .rd 3 (s1.ends.map eEnd)), (92, .int .i64 (s1.ends.length : Int)), (93, .int .i64 (i34 : Int))], [], [], []⟩) [] [] [] [] (by kernel_rfl) (by kernel_rfl) H (fun i34 x34 v34 I m k34 hxv34 hiv34 H N74 => ?_) (fun v34 I m H => ?_)
     ·unfold spec_StateText_b74 at H
      refine Wh_o fun _ => ?_
      refine Wh_ifT (ltT hiv34) (by kernel_rfl) ?_
      obtain ⟨w35, h35, H⟩ := bB H
      obtain ⟨w36, h36, H⟩ := bB H
      obtain ⟨w37, h37, H⟩ := bB H
      obtain ⟨w38, h38, H⟩ := bB H
      refine Wh_go 99 [.u 95 (.ix _ _ _ fun _ => idx_map eEnd (idx_nat hxv34)), .u 98 (.sa _ _ _ fun _ => h35), .c 106 (spec_l19Ints_ok h36), .u 107 (.sa _ _ _ fun _ => h37), .u 108 (.sa _ _ _ fun _ => h38), .w 109 (wi .i64 rfl hiv34 q33.1)] (by kernel_rfl) fun _ => ?_
      exact Wh_to (N74 _ H) [] [] [] [] (by kernel_rfl) (by kernel_rfl)
     ·unfold spec_StateText_k74 at H
      refine Wh_o fun _ => ?_
      refine Wh_ifF (ltF s1.ends.length) (by kernel_rfl) ?_
      obtain ⟨w39, h39, H⟩ := bB H
      refine Wh_go 99 [.u 111 (.sa _ _ _ fun _ => h39)] (by kernel_rfl) fun _ => ?_
      replace H := sI H; subst H
      exact Wh_end [(2, .d)] [] [] [] [] [] (by kernel_rfl)
def ir_spec_Digest : L :=
.seq (.reg [.bx 1 (.t 0),.mv 2 (.c (.int .i64 0))])
 (.seq (.reg [.ld 6 (.t 1) 11 true,.cq 7 F.spec_StateText [(.t 6)],.mv 3 (.t 7)])
 (.seq (.seq (.reg [.mv 8 (.t 3),.bi 9 .eql (.t 8) (.c (.str []))])
 (.cond (.t 9) (.seq (.reg [.mv 2 (.c (.int .i64 (-1)))])
 (.gw (.ret)))
 (.skip)))
 (.seq (.reg [.mv 4 (.c (.int .i64 7))])
 (.seq (.seq (.reg [.mv 5 (.c (.int .i64 0))])
 (.blk 0 (.loop (.gw (.seq (.seq (.reg [.mv 10 (.t 5),.mv 11 (.t 3),.ls 12 (.t 11),.bi 13 .lss (.t 10) (.t 12)])
 (.cond (.t 13) (.skip)
 (.exit 0)))
 (.seq (.blk 1 (.reg [.mv 16 (.t 4),.bi 17 .mul (.c (.int .i64 131)) (.t 16),.mv 18 (.t 3),.mv 19 (.t 5),.ix 20 (.t 18) (.t 19),.cv 21 .i64 (.t 20),.bi 22 .add (.t 17) (.t 21),.bi 23 .rem (.t 22) (.c (.int .i64 1000000007)),.mv 4 (.t 23)]))
 (.reg [.mv 14 (.t 5),.bi 15 .add (.t 14) (.c (.int .i64 1)),.mv 5 (.t 15)])))))))
 (.seq (.reg [.mv 24 (.t 4),.mv 2 (.t 24)])
 (.gw (.ret)))))))
def rs_spec_Digest : List Rv := [.t 2]
theorem ck_spec_Digest : chkFn Tryz.prog F.spec_Digest 1 ir_spec_Digest rs_spec_Digest = true := by kernel_rfl
def spec_Digest_b21 (w2 : Str) (v3 : Int × Int) (k3 : (Int × Int) → Option Int) : Option Int :=
 bif (decide (v3.2 < (w2.length : Int))) then ((idx w2 v3.2).bind fun c4 => (remI (w64 ((w64 (131 * v3.1)) + (IntKind.wrap .i64 (c4.toNat : Int)))) 1000000007).bind fun n5 => k3 (n5, (w64 (v3.2 + 1)))) else (some v3.1)
def spec_Digest (s1 : State) : Option Int :=
 (spec_StateText s1).bind fun w2 => bif (w2 == ([] : Str)) then (some (-1)) else (whl (spec_Digest_b21 w2) 9223372036854775807 (7, 0))
theorem spec_Digest_ok {s1 : State} {r : Int} (H : spec_Digest s1 = some r) : Snd Tryz.prog F.spec_Digest [eStateT .rd s1] (.int .i64 r) [] := by
 refine snd_g ck_spec_Digest rfl (by simp) ?_
 unfold spec_Digest at H
 obtain ⟨w2, h2, H⟩ := bB H
 refine Wh_go 99 [.c 7 (spec_StateText_ok h2)] (by kernel_rfl) fun _ => ?_
 refine Wh_iH H (fun H => ?_) fun H => ?_
 ·refine Wh_o fun _ => ?_
  replace H := sI H; subst H
  exact Wh_end [(2, .d)] [] [] [] [] [] (by kernel_rfl)
 ·refine Wh_o fun _ => ?_
  refine Wh_whl (fun (v3 : Int × Int) => ⟨[(3, .str w2), (4, .int .i64 v3.1), (5, .int .i64 v3.2)], [], [], []⟩) [] [] [] [] (by kernel_rfl) (by kernel_rfl) H (fun v3 I m k3 H N21 => ?_)
  unfold spec_Digest_b21 at H
  refine Wh_o fun _ => ?_
  refine Wh_iH H (fun H => ?_) fun H => ?_
  ·obtain ⟨c4, h4, H⟩ := bB H
   obtain ⟨n5, h5, H⟩ := bB H
   refine Wh_go 99 [.u 20 (.sx _ _ _ fun _ => h4), .u 23 (.rem _ _ _ fun _ => h5)] (by kernel_rfl) fun _ => ?_
   exact Wh_to (N21 _ H) [] [] [] [] (by kernel_rfl) (by kernel_rfl)
  ·refine Wh_o fun _ => ?_
   replace H := sI H; subst H
   exact Wh_end [(2, .d)] [] [] [] [] [] (by kernel_rfl)
def ir_impl_StateText : L :=
.seq (.reg [.bx 1 (.t 0),.mv 2 (.c (.str []))])
 (.seq (.seq (.reg [.ld 12 (.t 1) 11 true,.cq 13 F.impl_StateOk [(.t 12)],.un 14 (.t 13)])
 (.cond (.t 14) (.seq (.reg [.mv 2 (.c (.str []))])
 (.gw (.ret)))
 (.skip)))
 (.seq (.rq 17 [.fa 15 (.t 1) 0,.ld 16 (.t 15) 2 true,.cq 17 F.impl_TopoText [(.t 16)],.fa 18 (.t 1) 3,.ld 19 (.t 18) 3 true,.cq 20 F.impl_VecText [(.t 19)],.fa 21 (.t 1) 6,.ld 22 (.t 21) 1 false,.cq 23 F.impl_NumText [(.t 22)],.fa 24 (.t 1) 7,.ld 25 (.t 24) 1 false,.cq 26 F.impl_NumText [(.t 25)],.bs 27 1 [(.c (.str [115, 116, 97, 116, 101])), (.t 20), (.t 23), (.t 26)] false,.cq 28 F.impl_words [(.t 27)],.sa 29 (.t 17) (.t 28),.sa 30 (.t 29) (.c (.str [10])),.mv 3 (.t 30)])
 (.seq (.seq (.reg [.fa 31 (.t 1) 2,.ld 32 (.t 31) 1 false,.ln 33 (.t 32),.mv 34 (.c (.int .i64 0))])
 (.blk 0 (.loop (.gw (.seq (.reg [.bi 35 .lss (.t 34) (.t 33)])
 (.seq (.cond (.t 35) (.skip)
 (.exit 0))
 (.seq (.blk 1 (.seq (.reg [.mv 36 (.t 34),.ia 37 (.t 32) (.t 34) 1,.ld 38 (.t 37) 1 false,.mv 4 (.t 36),.mv 5 (.t 38)])
 (.seq (.reg [.mv 39 (.t 5),.un 40 (.t 39)])
 (.cond (.t 40) (.reg [.mv 41 (.t 3),.mv 42 (.t 4),.bs 43 1 [(.t 42)] false,.cq 44 F.impl_numTexts [(.c (.str [100, 111, 119, 110])), (.t 43)],.sa 45 (.t 41) (.t 44),.sa 46 (.t 45) (.c (.str [10])),.mv 3 (.t 46)])
 (.skip)))))
 (.reg [.bi 47 .add (.t 34) (.c (.int .i64 1)),.mv 34 (.t 47)]))))))))
 (.seq (.seq (.reg [.fa 48 (.t 1) 8,.ld 49 (.t 48) 1 false,.ln 50 (.t 49),.mv 51 (.c (.int .i64 0))])
 (.blk 2 (.loop (.gw (.seq (.reg [.bi 52 .lss (.t 51) (.t 50)])
 (.seq (.cond (.t 52) (.skip)
 (.exit 2))
 (.seq (.blk 3 (.seq (.reg [.ia 53 (.t 49) (.t 51) 11,.ld 54 (.t 53) 11 true,.al 7 [.int .i64 0, .int .i64 0, .int .i64 0, .int .i64 0, .int .i64 0, .int .i64 0, .int .i64 0, .int .i64 0, .int .i64 0, .int .i64 0, .int .i64 0],.st (.t 7) (.t 54) 11])
 (.reg [.mv 55 (.t 3),.ld 56 (.t 7) 11 true,.cq 57 F.impl_jobText [(.t 56)],.bs 58 1 [(.c (.str [119, 97, 105, 116])), (.t 57)] false,.cq 59 F.impl_words [(.t 58)],.sa 60 (.t 55) (.t 59),.sa 61 (.t 60) (.c (.str [10])),.mv 3 (.t 61)])))
 (.reg [.bi 62 .add (.t 51) (.c (.int .i64 1)),.mv 51 (.t 62)]))))))))
 (.seq (.seq (.reg [.fa 63 (.t 1) 9,.ld 64 (.t 63) 1 false,.ln 65 (.t 64),.mv 66 (.c (.int .i64 0))])
 (.blk 4 (.loop (.gw (.seq (.reg [.bi 67 .lss (.t 66) (.t 65)])
 (.seq (.cond (.t 67) (.skip)
 (.exit 4))
 (.seq (.blk 5 (.seq (.reg [.ia 68 (.t 64) (.t 66) 13,.ld 69 (.t 68) 13 true,.al 9 [.int .i64 0, .int .i64 0, .int .i64 0, .int .i64 0, .int .i64 0, .int .i64 0, .int .i64 0, .int .i64 0, .int .i64 0, .int .i64 0, .int .i64 0, .int .i64 0, .nl],.st (.t 9) (.t 69) 13])
 (.rq 18 [.mv 70 (.t 3),.fa 71 (.t 9) 11,.ld 72 (.t 71) 1 false,.fa 73 (.t 9) 12,.ld 74 (.t 73) 1 false,.lq 75 (.t 74),.bs 76 1 [(.t 72), (.t 75)] false,.cq 77 F.impl_numTexts [(.c (.str [114, 117, 110])), (.t 76)],.fa 78 (.t 9) 12,.ld 79 (.t 78) 1 false,.cq 80 F.impl_numTexts [(.t 77), (.t 79)],.fa 81 (.t 9) 0,.ld 82 (.t 81) 11 true,.cq 83 F.impl_jobText [(.t 82)],.bs 84 1 [(.t 80), (.t 83)] false,.cq 85 F.impl_words [(.t 84)],.sa 86 (.t 70) (.t 85),.sa 87 (.t 86) (.c (.str [10])),.mv 3 (.t 87)])))
 (.reg [.bi 88 .add (.t 66) (.c (.int .i64 1)),.mv 66 (.t 88)]))))))))
 (.seq (.seq (.reg [.fa 89 (.t 1) 10,.ld 90 (.t 89) 1 false,.ln 91 (.t 90),.mv 92 (.c (.int .i64 0))])
 (.blk 6 (.loop (.gw (.seq (.reg [.bi 93 .lss (.t 92) (.t 91)])
 (.seq (.cond (.t 93) (.skip)
 (.exit 6))
 (.seq (.blk 7 (.seq (.reg [.ia 94 (.t 90) (.t 92) 3,.ld 95 (.t 94) 3 true,.al 11 [.int .i64 0, .int .i64 0, .int .i64 0],.st (.t 11) (.t 95) 3])
 (.reg [.mv 96 (.t 3),.fa 97 (.t 11) 0,.ld 98 (.t 97) 1 false,.fa 99 (.t 11) 1,.ld 100 (.t 99) 1 false,.fa 101 (.t 11) 2,.ld 102 (.t 101) 1 false,.bs 103 1 [(.t 98), (.t 100), (.t 102)] false,.cq 104 F.impl_numTexts [(.c (.str [101, 110, 100])), (.t 103)],.sa 105 (.t 96) (.t 104),.sa 106 (.t 105) (.c (.str [10])),.mv 3 (.t 106)])))
 (.reg [.bi 107 .add (.t 92) (.c (.int .i64 1)),.mv 92 (.t 107)]))))))))
 (.seq (.reg [.mv 108 (.t 3),.sa 109 (.t 108) (.c (.str [111, 118, 101, 114, 10])),.mv 2 (.t 109)])
 (.gw (.ret)))))))))
def rs_impl_StateText : List Rv := [.t 2]
theorem ck_impl_StateText : chkFn Tryz.prog F.impl_StateText 1 ir_impl_StateText rs_impl_StateText = true := by kernel_rfl
def impl_StateText_b74 (x31 : End) (_ : Nat) (v31 : Str) (k31 : Str → Option Str) : Option Str :=
 (impl_numTexts ([101, 110, 100] : Str) [x31.id, x31.t, x31.why]).bind fun w32 => (catS v31 w32).bind fun w33 => (catS w33 ([10] : Str)).bind fun w34 => k31 w34
def impl_StateText_k74 (v31 : Str) : Option Str :=
 (catS v31 ([111, 118, 101, 114, 10] : Str)).bind fun w35 => some w35
def impl_StateText_b58 (x22 : Run) (_ : Nat) (v22 : Str) (k22 : Str → Option Str) : Option Str :=
 (lenQ x22.nodes).bind fun _ => (impl_numTexts ([114, 117, 110] : Str) [x22.t, (x22.nodes.length : Int)]).bind fun w24 => (impl_numTexts w24 x22.nodes).bind fun w25 => (impl_jobText x22.job).bind fun w26 => (impl_words [w25, w26]).bind fun w27 => (catS v22 w27).bind fun w28 => (catS w28 ([10] : Str)).bind fun w29 => k22 w29
def impl_StateText_k58 (s1 : State) (v22 : Str) : Option Str :=
 rgl impl_StateText_b74 impl_StateText_k74 s1.ends 0 v22
def impl_StateText_b42 (x16 : Job) (_ : Nat) (v16 : Str) (k16 : Str → Option Str) : Option Str :=
 (impl_jobText x16).bind fun w17 => (impl_words [([119, 97, 105, 116] : Str), w17]).bind fun w18 => (catS v16 w18).bind fun w19 => (catS w19 ([10] : Str)).bind fun w20 => k16 w20
def impl_StateText_k42 (s1 : State) (v16 : Str) : Option Str :=
 rgl impl_StateText_b58 (impl_StateText_k58 s1) s1.runs 0 v16
def impl_StateText_b26 (x11 : Bool) (i11 : Nat) (v11 : Str) (k11 : Str → Option Str) : Option Str :=
 bif (!x11) then ((impl_numTexts ([100, 111, 119, 110] : Str) [(i11 : Int)]).bind fun w12 => (catS v11 w12).bind fun w13 => (catS w13 ([10] : Str)).bind fun w14 => k11 w14) else (k11 v11)
def impl_StateText_k26 (s1 : State) (v11 : Str) : Option Str :=
 rgl impl_StateText_b42 (impl_StateText_k42 s1) s1.queue 0 v11
def impl_StateText (s1 : State) : Option Str :=
 (impl_StateOk s1).bind fun b2 => bif (!b2) then (some ([] : Str)) else ((impl_TopoText s1.topo).bind fun w3 => (impl_VecText s1.lic).bind fun w4 => (impl_NumText s1.depth).bind fun w5 => (impl_NumText s1.now).bind fun w6 => (impl_words [([115, 116, 97, 116, 101] : Str), w4, w5, w6]).bind fun w7 => (catS w3 w7).bind fun w8 => (catS w8 ([10] : Str)).bind fun w9 => rgl impl_StateText_b26 (impl_StateText_k26 s1) s1.up 0 w9)
theorem impl_StateText_ok {s1 : State} {r : Str} (H : impl_StateText s1 = some r) : Snd Tryz.prog F.impl_StateText [eStateT .rd s1] (.str r) [] := by
 refine snd_g ck_impl_StateText rfl (by simp) ?_
 unfold impl_StateText at H
 obtain ⟨b2, h2, H⟩ := bB H
 refine Wh_go 99 [.c 13 (impl_StateOk_ok h2)] (by kernel_rfl) fun _ => ?_
 refine Wh_iH H (fun H => ?_) fun H => ?_
 ·refine Wh_o fun _ => ?_
  replace H := sI H; subst H
  exact Wh_end [(2, .d)] [] [] [] [] [] (by kernel_rfl)
 ·obtain ⟨w3, h3, H⟩ := bB H
  obtain ⟨w4, h4, H⟩ := bB H
  obtain ⟨w5, h5, H⟩ := bB H
  obtain ⟨w6, h6, H⟩ := bB H
  obtain ⟨w7, h7, H⟩ := bB H
  obtain ⟨w8, h8, H⟩ := bB H
  obtain ⟨w9, h9, H⟩ := bB H
  refine Wh_go 99 [.c 17 (impl_TopoText_ok h3), .c 20 (impl_VecText_ok h4), .c 23 (impl_NumText_ok h5), .c 26 (impl_NumText_ok h6), .c 28 (impl_words_ok h7), .u 29 (.sa _ _ _ fun _ => h8), .u 30 (.sa _ _ _ fun _ => h9), .u 33 (.ln _ _ fun _ => lm s1.up eBo)] (by kernel_rfl) fun q10 => ?_
  refine Wh_rgl (fun (i11 : Nat) (v11 : Str) => ⟨[(1, .ptr 1 0), (3, .str v11), (32, .sl .rd 1 (s1.up.map eBo)), (33, .int .i64 (s1.up.length : Int)), (34, .int .i64 (i11 : Int))], [], [(1, (eStateT .rd s1).cells)], []⟩) [] [] [] [] (by kernel_rfl) (by kernel_rfl) H (fun i11 x11 v11 I m k11 hxv11 hiv11 H N26 => ?_) (fun v11 I m H => ?_)
  ·unfold impl_StateText_b26 at H
   refine Wh_o fun _ => ?_
   refine Wh_ifT (ltT hiv11) (by kernel_rfl) ?_
   refine Wh_go 99 [.u 37 (.ix _ _ _ fun _ => idx_map eBo (idx_nat hxv11))] (by kernel_rfl) fun _ => ?_
   refine Wh_iH H (fun H => ?_) fun H => ?_
   ·obtain ⟨w12, h12, H⟩ := bB H
    obtain ⟨w13, h13, H⟩ := bB H
    obtain ⟨w14, h14, H⟩ := bB H
    refine Wh_go 99 [.c 44 (impl_numTexts_ok h12), .u 45 (.sa _ _ _ fun _ => h13), .u 46 (.sa _ _ _ fun _ => h14), .w 47 (wi .i64 rfl hiv11 q10.1)] (by kernel_rfl) fun _ => ?_
    exact Wh_to (N26 _ H) [] [] [] [] (by kernel_rfl) (by kernel_rfl)
   ·refine Wh_go 99 [.w 47 (wi .i64 rfl hiv11 q10.1)] (by kernel_rfl) fun _ => ?_
    exact Wh_to (N26 _ H) [] [] [] [] (by kernel_rfl) (by kernel_rfl)
  ·unfold impl_StateText_k26 at H
   refine Wh_o fun _ => ?_
   refine Wh_ifF (ltF s1.up.length) (by kernel_rfl) ?_
   refine Wh_go 99 [.u 50 (.ln _ _ fun _ => lm s1.queue eJob)] (by kernel_rfl) fun q15 => ?_
   refine Wh_rgl (fun (i16 : Nat) (v16 : Str) => ⟨[(1, .ptr 1 0), (3, .str v16), (49, .sl .rd 11 (s1.queue.map eJob)), (50, .int .i64 (s1.queue.length : Int)), (51, .int .i64 (i16 : Int))], [], [(1, (eStateT .rd s1).cells)], []⟩) [] [] [] [] (by kernel_rfl) (by kernel_rfl) H (fun i16 x16 v16 I m k16 hxv16 hiv16 H N42 => ?_) (fun v16 I m H => ?_)
   ·unfold impl_StateText_b42 at H
    refine Wh_o fun _ => ?_
    refine Wh_ifT (ltT hiv16) (by kernel_rfl) ?_
    obtain ⟨w17, h17, H⟩ := bB H
    obtain ⟨w18, h18, H⟩ := bB H
    obtain ⟨w19, h19, H⟩ := bB H
    obtain ⟨w20, h20, H⟩ := bB H
    refine Wh_go 99 [.u 53 (.ix _ _ _ fun _ => idx_map eJob (idx_nat hxv16)), .c 57 (impl_jobText_ok h17), .c 59 (impl_words_ok h18), .u 60 (.sa _ _ _ fun _ => h19), .u 61 (.sa _ _ _ fun _ => h20), .w 62 (wi .i64 rfl hiv16 q15.1)] (by kernel_rfl) fun _ => ?_
    exact Wh_to (N42 _ H) [] [] [] [] (by kernel_rfl) (by kernel_rfl)
   ·unfold impl_StateText_k42 at H
    refine Wh_o fun _ => ?_
    refine Wh_ifF (ltF s1.queue.length) (by kernel_rfl) ?_
    refine Wh_go 99 [.u 65 (.ln _ _ fun _ => lm s1.runs (eRunT .rd))] (by kernel_rfl) fun q21 => ?_
    refine Wh_rgl (fun (i22 : Nat) (v22 : Str) => ⟨[(1, .ptr 1 0), (3, .str v22), (64, .sl .rd 13 (s1.runs.map (eRunT .rd))), (65, .int .i64 (s1.runs.length : Int)), (66, .int .i64 (i22 : Int))], [], [(1, (eStateT .rd s1).cells)], []⟩) [] [] [] [] (by kernel_rfl) (by kernel_rfl) H (fun i22 x22 v22 I m k22 hxv22 hiv22 H N58 => ?_) (fun v22 I m H => ?_)
    ·unfold impl_StateText_b58 at H
     refine Wh_o fun _ => ?_
     refine Wh_ifT (ltT hiv22) (by kernel_rfl) ?_
     obtain ⟨u23, h23, H⟩ := bB H
     obtain ⟨w24, h24, H⟩ := bB H
     obtain ⟨w25, h25, H⟩ := bB H
     obtain ⟨w26, h26, H⟩ := bB H
     obtain ⟨w27, h27, H⟩ := bB H
     obtain ⟨w28, h28, H⟩ := bB H
     obtain ⟨w29, h29, H⟩ := bB H
     refine Wh_go 99 [.u 68 (.ix _ _ _ fun _ => idx_map (eRunT .rd) (idx_nat hxv22)), .u 75 (.le _ _ (fun _ => lm x22.nodes eI) (fun _ => lenQ_le h23)), .c 77 (impl_numTexts_ok h24), .c 80 (impl_numTexts_ok h25), .c 83 (impl_jobText_ok h26), .c 85 (impl_words_ok h27), .u 86 (.sa _ _ _ fun _ => h28), .u 87 (.sa _ _ _ fun _ => h29), .w 88 (wi .i64 rfl hiv22 q21.1)] (by kernel_rfl) fun _ => ?_
     exact Wh_to (N58 _ H) [] [] [] [] (by kernel_rfl) (by kernel_rfl)
    ·unfold impl_StateText_k58 at H
     refine Wh_o fun _ => ?_
     refine Wh_ifF (ltF s1.runs.length) (by kernel_rfl) ?_
     refine Wh_go 99 [.u 91 (.ln _ _ fun _ => lm s1.ends eEnd)] (by kernel_rfl) fun q30 => ?_
     refine Wh_rgl (fun (i31 : Nat) (v31 : Str) => ⟨[(3, .str v31), (90, .sl .rd 3 (s1.ends.map eEnd)), (91, .int .i64 (s1.ends.length : Int)), (92, .int .i64 (i31 : Int))], [], [], []⟩) [] [] [] [] (by kernel_rfl) (by kernel_rfl) H (fun i31 x31 v31 I m k31 hxv31 hiv31 H N74 => ?_) (fun v31 I m H => ?_)
     ·unfold impl_StateText_b74 at H
      refine Wh_o fun _ => ?_
      refine Wh_ifT (ltT hiv31) (by kernel_rfl) ?_
      obtain ⟨w32, h32, H⟩ := bB H
      obtain ⟨w33, h33, H⟩ := bB H
      obtain ⟨w34, h34, H⟩ := bB H
      refine Wh_go 99 [.u 94 (.ix _ _ _ fun _ => idx_map eEnd (idx_nat hxv31)), .c 104 (impl_numTexts_ok h32), .u 105 (.sa _ _ _ fun _ => h33), .u 106 (.sa _ _ _ fun _ => h34), .w 107 (wi .i64 rfl hiv31 q30.1)] (by kernel_rfl) fun _ => ?_
      exact Wh_to (N74 _ H) [] [] [] [] (by kernel_rfl) (by kernel_rfl)
     ·unfold impl_StateText_k74 at H
      refine Wh_o fun _ => ?_
      refine Wh_ifF (ltF s1.ends.length) (by kernel_rfl) ?_
      obtain ⟨w35, h35, H⟩ := bB H
      refine Wh_go 99 [.u 109 (.sa _ _ _ fun _ => h35)] (by kernel_rfl) fun _ => ?_
      replace H := sI H; subst H
      exact Wh_end [(2, .d)] [] [] [] [] [] (by kernel_rfl)
def ir_impl_Digest : L :=
.seq (.reg [.bx 1 (.t 0),.mv 2 (.c (.int .i64 0))])
 (.seq (.seq (.reg [.ld 6 (.t 1) 11 true,.cq 7 F.impl_StateOk [(.t 6)],.un 8 (.t 7)])
 (.cond (.t 8) (.seq (.reg [.mv 2 (.c (.int .i64 (-1)))])
 (.gw (.ret)))
 (.skip)))
 (.seq (.reg [.mv 3 (.c (.int .i64 7))])
 (.seq (.reg [.ld 9 (.t 1) 11 true,.cq 10 F.impl_StateText [(.t 9)],.mv 4 (.t 10)])
 (.seq (.seq (.reg [.mv 5 (.c (.int .i64 0))])
 (.blk 0 (.loop (.gw (.seq (.seq (.reg [.mv 11 (.t 5),.mv 12 (.t 4),.ls 13 (.t 12),.bi 14 .lss (.t 11) (.t 13)])
 (.cond (.t 14) (.skip)
 (.exit 0)))
 (.seq (.blk 1 (.reg [.mv 17 (.t 3),.bi 18 .mul (.c (.int .i64 131)) (.t 17),.mv 19 (.t 4),.mv 20 (.t 5),.ix 21 (.t 19) (.t 20),.cv 22 .i64 (.t 21),.bi 23 .add (.t 18) (.t 22),.bi 24 .rem (.t 23) (.c (.int .i64 1000000007)),.mv 3 (.t 24)]))
 (.reg [.mv 15 (.t 5),.bi 16 .add (.t 15) (.c (.int .i64 1)),.mv 5 (.t 16)])))))))
 (.seq (.reg [.mv 25 (.t 3),.mv 2 (.t 25)])
 (.gw (.ret)))))))
def rs_impl_Digest : List Rv := [.t 2]
theorem ck_impl_Digest : chkFn Tryz.prog F.impl_Digest 1 ir_impl_Digest rs_impl_Digest = true := by kernel_rfl
def impl_Digest_b21 (w3 : Str) (v4 : Int × Int) (k4 : (Int × Int) → Option Int) : Option Int :=
 bif (decide (v4.2 < (w3.length : Int))) then ((idx w3 v4.2).bind fun c5 => (remI (w64 ((w64 (131 * v4.1)) + (IntKind.wrap .i64 (c5.toNat : Int)))) 1000000007).bind fun n6 => k4 (n6, (w64 (v4.2 + 1)))) else (some v4.1)
def impl_Digest (s1 : State) : Option Int :=
 (impl_StateOk s1).bind fun b2 => bif (!b2) then (some (-1)) else ((impl_StateText s1).bind fun w3 => whl (impl_Digest_b21 w3) 9223372036854775807 (7, 0))
theorem impl_Digest_ok {s1 : State} {r : Int} (H : impl_Digest s1 = some r) : Snd Tryz.prog F.impl_Digest [eStateT .rd s1] (.int .i64 r) [] := by
 refine snd_g ck_impl_Digest rfl (by simp) ?_
 unfold impl_Digest at H
 obtain ⟨b2, h2, H⟩ := bB H
 refine Wh_go 99 [.c 7 (impl_StateOk_ok h2)] (by kernel_rfl) fun _ => ?_
 refine Wh_iH H (fun H => ?_) fun H => ?_
 ·refine Wh_o fun _ => ?_
  replace H := sI H; subst H
  exact Wh_end [(2, .d)] [] [] [] [] [] (by kernel_rfl)
 ·obtain ⟨w3, h3, H⟩ := bB H
  refine Wh_go 99 [.c 10 (impl_StateText_ok h3)] (by kernel_rfl) fun _ => ?_
  refine Wh_whl (fun (v4 : Int × Int) => ⟨[(3, .int .i64 v4.1), (4, .str w3), (5, .int .i64 v4.2)], [], [], []⟩) [] [] [] [] (by kernel_rfl) (by kernel_rfl) H (fun v4 I m k4 H N21 => ?_)
  unfold impl_Digest_b21 at H
  refine Wh_o fun _ => ?_
  refine Wh_iH H (fun H => ?_) fun H => ?_
  ·obtain ⟨c5, h5, H⟩ := bB H
   obtain ⟨n6, h6, H⟩ := bB H
   refine Wh_go 99 [.u 21 (.sx _ _ _ fun _ => h5), .u 24 (.rem _ _ _ fun _ => h6)] (by kernel_rfl) fun _ => ?_
   exact Wh_to (N21 _ H) [] [] [] [] (by kernel_rfl) (by kernel_rfl)
  ·refine Wh_o fun _ => ?_
   replace H := sI H; subst H
   exact Wh_end [(2, .d)] [] [] [] [] [] (by kernel_rfl)
theorem rgl_cati {α γ : Type} {bd : α → Nat → Str → (Str → Option γ) → Option γ} {kk : Str → Option γ} {f : α → Nat → Str} (c : Nat) : ∀ {l : List α} {i : Nat} {s : Str}, (∀ x i, (f x i).length ≤ c) →
  (∀ x ∈ l, ∀ i s k, s.length + c ≤ 4611686018427387904 → bd x i s k = k (s ++ f x i)) → s.length + l.length * c ≤ 4611686018427387904 → rgl bd kk l i s = kk (s ++ (l.zipIdx i).flatMap fun q => f q.1 q.2)
 | [], _, s, _, _, _ => by simp [rgl]
 | x :: l, i, s, h1, h2, h3 => by
  have h0 : s.length + c + l.length * c ≤ 4611686018427387904 := by simp only [List.length_cons, Nat.add_mul, Nat.one_mul] at h3; omega
  have hx := h1 x i
  rw [rgl, h2 x (List.mem_cons_self ..) i s _ (by omega), rgl_cati c h1 (fun y hy => h2 y (List.mem_cons_of_mem _ hy)) (by simp; omega)]
  simp [List.zipIdx_cons]
theorem flati_len {α : Type} (f : α → Nat → Str) (c : Nat) (h : ∀ x i, (f x i).length ≤ c) : ∀ (l : List α) (i : Nat), ((l.zipIdx i).flatMap fun q => f q.1 q.2).length ≤ l.length * c
 | [], _ => by simp
 | x :: l, i => by
  have := flati_len f c h l (i + 1)
  have := h x i
  simp only [List.zipIdx_cons, List.flatMap_cons, List.length_append, List.length_cons, Nat.add_mul, Nat.one_mul]; omega
/-- Numbers with blanks ahead. -/
def intsT (l : List Int) : Str := l.flatMap fun n => 32 :: numText n
theorem intsT_len (l : List Int) : (intsT l).length ≤ l.length * 11 := flat_len _ 11 l fun x _ => by have := numText_len x; simp; omega
theorem spec_l19Ints_eq {l : List Int} (h : l.length ≤ 1048576) : spec_l19Ints l = some (intsT l) := by
 unfold spec_l19Ints
 rw [rgl_cat2 11 (f := fun n => 32 :: numText n) (fun x _ => by have := numText_len x; simp; omega) (fun x hx i s k hs => by
  have := numText_len x
  unfold spec_l19Ints_b15
  rw [catS_some (by simp; omega), Option.bind_some, spec_NumText_eq, Option.bind_some, catS_some (by simp; omega), Option.bind_some]
  simp) (by simp; omega)]
 rfl
theorem impl_numTexts_eq {w : Str} {l : List Int} (hw : w.length ≤ 1048576) (h : l.length ≤ 1048576) : impl_numTexts w l = some (w ++ intsT l) := by
 unfold impl_numTexts
 rw [rgl_cat2 11 (f := fun n => 32 :: numText n) (fun x _ => by have := numText_len x; simp; omega) (fun x hx i s k hs => by
  have := numText_len x
  unfold impl_numTexts_b14
  rw [catS_some (by simp; omega), Option.bind_some, impl_NumText_eq, Option.bind_some, catS_some (by simp; omega), Option.bind_some]
  simp) (by omega)]
 rfl
def jobTxt (j : Job) : Str := numText j.id ++ [32] ++ numText j.prio ++ [32] ++ numText j.nodes ++ [32] ++ vecText j.need ++ [32] ++ vecText j.lic ++ [32] ++ numText j.wall ++ [32] ++ numText j.level
theorem jobTxt_len (j : Job) : (jobTxt j).length ≤ 140 := by
 have := numText_len j.id; have := numText_len j.prio; have := numText_len j.nodes; have := numText_len j.wall; have := numText_len j.level
 have := vecText_len j.need; have := vecText_len j.lic
 simp [jobTxt]; omega
theorem impl_jobText_eq (j : Job) : impl_jobText j = some (jobTxt j) := by
 have := numText_len j.id; have := numText_len j.prio; have := numText_len j.nodes; have := numText_len j.wall; have := numText_len j.level
 have := vecText_len j.need; have := vecText_len j.lic
 unfold impl_jobText
 simp only [impl_NumText_eq, impl_VecText_eq, Option.bind_some]
 rw [impl_words_eq _ (by simp [joinW]; omega), Option.bind_some]
 simp [joinW, jobTxt]
theorem spec_JobText_eq (j : Job) : spec_JobText j = some (bif spec_JobOk j then jobTxt j else []) := by
 have := numText_len j.id; have := numText_len j.prio; have := numText_len j.nodes; have := numText_len j.wall; have := numText_len j.level
 have := vecText_len j.need; have := vecText_len j.lic
 have hc : spec_CmdOk ⟨1, j, 0, ⟨0, 0, 0⟩⟩ = some (spec_JobOk j) := by
  unfold spec_CmdOk
  simp
 unfold spec_JobText spec_CmdText
 rw [hc, Option.bind_some]
 cases spec_JobOk j with
 | false => rfl
 | true =>
  have hi : idx spec_l08Words 1 = some [115, 117, 98, 109, 105, 116] := rfl
  simp only [Bool.not_true, cond_false, cond_true, hi, Option.bind_some, show ((1 : Int) == 1) = true from rfl, spec_NumText_eq, spec_VecText_eq]
  rw [catS_some (by simp), Option.bind_some, catS_some (by simp; omega), Option.bind_some, catS_some (by simp; omega), Option.bind_some, catS_some (by simp; omega), Option.bind_some, catS_some (by simp; omega), Option.bind_some, catS_some (by simp; omega), Option.bind_some, catS_some (by simp; omega), Option.bind_some, catS_some (by simp; omega), Option.bind_some, catS_some (by simp; omega), Option.bind_some, catS_some (by simp; omega), Option.bind_some, catS_some (by simp; omega), Option.bind_some, catS_some (by simp; omega), Option.bind_some, catS_some (by simp; omega), Option.bind_some, catS_some (by simp; omega), Option.bind_some, Option.bind_some]
  have e : ∀ (z : Str), ([115, 117, 98, 109, 105, 116] ++ [32] ++ numText j.id ++ [32] ++ numText j.prio ++ [32] ++ numText j.nodes ++ [32] ++ vecText j.need ++ [32] ++ vecText j.lic ++ [32] ++ numText j.wall ++ [32] ++ numText j.level : Str) = [115, 117, 98, 109, 105, 116, 32] ++ jobTxt j := fun _ => by simp [jobTxt]
  rw [e []]
  rw [show (([115, 117, 98, 109, 105, 116, 32] ++ jobTxt j : Str) == []) = false from rfl]
  simp only [cond_false]
  have hcut : cutL ([115, 117, 98, 109, 105, 116, 32] ++ jobTxt j : Str) (some 7) none = some (jobTxt j) := by
   unfold cutL bhi blo
   simp only
   rw [if_pos (by simp; omega)]
   simp
  rw [hcut, Option.bind_some]
def downLine (b : Bool) (i : Nat) : Str := bif !b then [100, 111, 119, 110] ++ intsT [(i : Int)] ++ [10] else []
def waitLine (j : Job) : Str := [119, 97, 105, 116, 32] ++ jobTxt j ++ [10]
def runLine (x : Run) : Str := [114, 117, 110] ++ intsT ([x.t, (x.nodes.length : Int)] ++ x.nodes) ++ [32] ++ jobTxt x.job ++ [10]
def endLine (e : End) : Str := [101, 110, 100] ++ intsT [e.id, e.t, e.why] ++ [10]
def headLine (s : State) : Str := [115, 116, 97, 116, 101, 32] ++ vecText s.lic ++ intsT [s.depth, s.now] ++ [10]
noncomputable def stateText (s : State) : Str := if stateOk s = true then topoText s.topo ++ headLine s ++ ((s.up.zipIdx 0).flatMap fun q => downLine q.1 q.2) ++ s.queue.flatMap waitLine ++ s.runs.flatMap runLine ++ s.ends.flatMap endLine ++ [111, 118, 101, 114, 10] else []
theorem downLine_len (b : Bool) (i : Nat) : (downLine b i).length ≤ 1000 := by have := intsT_len [(i : Int)]; cases b <;> simp [downLine] at this ⊢; omega
theorem waitLine_len (j : Job) : (waitLine j).length ≤ 1000 := by have := jobTxt_len j; simp [waitLine]; omega
theorem endLine_len (e : End) : (endLine e).length ≤ 1000 := by have := intsT_len [e.id, e.t, e.why]; simp [endLine] at this ⊢; omega
theorem headLine_len (s : State) : (headLine s).length ≤ 1000 := by
 have h1 := intsT_len [s.depth, s.now]
 have h2 := vecText_len s.lic
 simp only [List.length_cons, List.length_nil] at h1
 simp only [headLine, List.length_append, List.length_cons, List.length_nil]; omega
theorem runLine_len {x : Run} (h : x.nodes.length ≤ 24) : (runLine x).length ≤ 1000 := by
 have := jobTxt_len x.job
 have := intsT_len ([x.t, (x.nodes.length : Int)] ++ x.nodes)
 simp [runLine] at this ⊢; omega
theorem StateP.run_len {s : State} (h : StateP s) {x : Run} (hx : x ∈ s.runs) : x.nodes.length ≤ 24 ∧ spec_JobOk x.job = true := by
 obtain ⟨h1, h2, _⟩ := h.runs.job x hx
 have := (jobOk_iff.1 h1).2.2.1
 exact ⟨by omega, h1⟩
theorem StateP.jobs {s : State} (h : StateP s) : s.queue.length + s.runs.length ≤ 60 ∧ (∀ j ∈ s.queue, spec_JobOk j = true) := by
 have := h.queue
 unfold queueOk allJobs at this
 simp only [Bool.and_eq_true, decide_eq_true_eq, List.all_eq_true, List.length_append, List.length_map] at this
 exact ⟨this.1.1, fun j hj => this.1.2 j (List.mem_append.2 (.inl hj))⟩
theorem state_bounds {s : State} (h : StateP s) : (topoText s.topo ++ headLine s : Str).length ≤ 6000 ∧ ((s.up.zipIdx 0).flatMap fun q => downLine q.1 q.2).length ≤ 24000 ∧ (s.queue.flatMap waitLine).length ≤ 60000 ∧ (s.runs.flatMap runLine).length ≤ 60000 ∧ (s.ends.flatMap endLine).length ≤ 300000 ∧ s.up.length ≤ 24 ∧ s.queue.length ≤ 60 ∧ s.runs.length ≤ 60 ∧ s.ends.length ≤ 300 := by
 have h1 := topoText_len s.topo
 have h2 := headLine_len s
 have h3 := flati_len downLine 1000 downLine_len s.up 0
 have h4 := flat_len waitLine 1000 s.queue fun x _ => waitLine_len x
 have h5 := flat_len runLine 1000 s.runs fun x hx => runLine_len (h.run_len hx).1
 have h6 := flat_len endLine 1000 s.ends fun x _ => endLine_len x
 have := h.up; have := h.topo.nodes; have := h.jobs.1; have := h.ends
 rw [List.length_append]
 refine ⟨by omega, by omega, by omega, by omega, by omega, by omega, by omega, by omega, by omega⟩
theorem spec_StateText_eq {s : State} (hs : s.queue.length + s.runs.length ≤ 1048576) : spec_StateText s = some (stateText s) := by
 unfold spec_StateText stateText
 rw [(StateOk_eq hs).1, Option.bind_some]
 cases ho : stateOk s with
 | false => rfl
 | true =>
  have h := stateOk_P ho
  obtain ⟨b1, b2, b3, b4, b5, c1, c2, c3, c4⟩ := state_bounds h
  have d1 := topoText_len s.topo
  have d2 := vecText_len s.lic
  have d3 := intsT_len [s.depth, s.now]
  simp only [List.length_cons, List.length_nil] at d3
  rw [if_pos rfl]
  simp only [Bool.not_true, cond_false, spec_TopoText_eq, spec_VecText_eq, Option.bind_some]
  rw [catS_some (by simp; omega), Option.bind_some, catS_some (by simp; omega), Option.bind_some, spec_l19Ints_eq (by simp), Option.bind_some, catS_some (by simp; omega), Option.bind_some, catS_some (by simp; omega), Option.bind_some]
  rw [show (topoText s.topo ++ [115, 116, 97, 116, 101, 32] ++ vecText s.lic ++ intsT [s.depth, s.now] ++ [10] : Str) = topoText s.topo ++ headLine s by simp [headLine]]
  rw [rgl_cati 1000 (f := downLine) downLine_len (fun x hx i w k hw => by
   unfold spec_StateText_b26 downLine
   cases x with
   | true => simp
   | false =>
    have := intsT_len [(i : Int)]
    simp only [List.length_cons, List.length_nil] at this
    simp only [Bool.not_false, cond_true]
    rw [catS_some (by simp; omega), Option.bind_some, spec_l19Ints_eq (by simp), Option.bind_some, catS_some (by simp; omega), Option.bind_some, catS_some (by simp; omega), Option.bind_some]
    simp) (by omega)]
  unfold spec_StateText_k26
  rw [rgl_cat2 1000 (f := waitLine) (fun x _ => waitLine_len x) (fun x hx i w k hw => by
   have := jobTxt_len x
   unfold spec_StateText_b42 waitLine
   rw [catS_some (by simp; omega), Option.bind_some, spec_JobText_eq, h.jobs.2 x hx, Option.bind_some, cond_true, catS_some (by simp; omega), Option.bind_some, catS_some (by simp; omega), Option.bind_some]
   simp) (by rw [List.length_append]; omega)]
  unfold spec_StateText_k42
  rw [rgl_cat2 1000 (f := runLine) (fun x hx => runLine_len (h.run_len hx).1) (fun x hx i w k hw => by
   have := jobTxt_len x.job
   have hn := h.run_len hx
   have := intsT_len ([x.t, (x.nodes.length : Int)] ++ x.nodes)
   simp only [List.length_append, List.length_cons, List.length_nil] at this
   unfold spec_StateText_b58 runLine
   rw [catS_some (by simp; omega), Option.bind_some, show lenQ x.nodes = some () by unfold lenQ; rw [if_pos (by omega)], Option.bind_some, appL_some (by simp; omega), Option.bind_some, spec_l19Ints_eq (by simp; omega), Option.bind_some, catS_some (by rw [List.length_append]; simp only [List.length_cons, List.length_nil]; omega), Option.bind_some,
    catS_some (by simp only [List.length_append, List.length_cons, List.length_nil]; omega), Option.bind_some, spec_JobText_eq, hn.2, Option.bind_some, cond_true, catS_some (by simp only [List.length_append, List.length_cons, List.length_nil]; omega), Option.bind_some, catS_some (by simp only [List.length_append, List.length_cons, List.length_nil]; omega), Option.bind_some]
   simp) (by rw [List.length_append, List.length_append]; omega)]
  unfold spec_StateText_k58
  rw [rgl_cat2 1000 (f := endLine) (fun x _ => endLine_len x) (fun x hx i w k hw => by
   have := intsT_len [x.id, x.t, x.why]
   simp only [List.length_cons, List.length_nil] at this
   unfold spec_StateText_b74 endLine
   rw [catS_some (by simp; omega), Option.bind_some, spec_l19Ints_eq (by simp), Option.bind_some, catS_some (by simp; omega), Option.bind_some, catS_some (by simp; omega), Option.bind_some]
   simp) (by rw [List.length_append, List.length_append, List.length_append]; omega)]
  unfold spec_StateText_k74
  rw [catS_some (by simp only [List.length_append, List.length_cons, List.length_nil] at b1 ⊢; omega), Option.bind_some]
theorem impl_StateText_eq {s : State} (hs : s.queue.length + s.runs.length ≤ 1048576) : impl_StateText s = some (stateText s) := by
 unfold impl_StateText stateText
 rw [(StateOk_eq hs).2, Option.bind_some]
 cases ho : stateOk s with
 | false => rfl
 | true =>
  have h := stateOk_P ho
  obtain ⟨b1, b2, b3, b4, b5, c1, c2, c3, c4⟩ := state_bounds h
  have d1 := topoText_len s.topo
  have d2 := vecText_len s.lic
  have d3 := numText_len s.depth
  have d4 := numText_len s.now
  rw [if_pos rfl]
  simp only [Bool.not_true, cond_false, impl_TopoText_eq, impl_VecText_eq, impl_NumText_eq, Option.bind_some]
  rw [impl_words_eq _ (by simp [joinW]; omega), Option.bind_some, catS_some (by simp [joinW]; omega), Option.bind_some, catS_some (by simp [joinW]; omega), Option.bind_some]
  rw [show (topoText s.topo ++ joinW [[115, 116, 97, 116, 101], vecText s.lic, numText s.depth, numText s.now] ++ [10] : Str) = topoText s.topo ++ headLine s by simp [headLine, joinW, intsT]]
  rw [rgl_cati 1000 (f := downLine) downLine_len (fun x hx i w k hw => by
   unfold impl_StateText_b26 downLine
   cases x with
   | true => simp
   | false =>
    have := intsT_len [(i : Int)]
    simp only [List.length_cons, List.length_nil] at this
    simp only [Bool.not_false, cond_true]
    rw [impl_numTexts_eq (by simp) (by simp), Option.bind_some, catS_some (by simp; omega), Option.bind_some, catS_some (by simp; omega), Option.bind_some]
    simp) (by omega)]
  unfold impl_StateText_k26
  rw [rgl_cat2 1000 (f := waitLine) (fun x _ => waitLine_len x) (fun x hx i w k hw => by
   have := jobTxt_len x
   unfold impl_StateText_b42 waitLine
   rw [impl_jobText_eq, Option.bind_some, impl_words_eq _ (by simp [joinW]; omega), Option.bind_some, catS_some (by simp [joinW]; omega), Option.bind_some, catS_some (by simp [joinW]; omega), Option.bind_some]
   simp [joinW]) (by rw [List.length_append]; omega)]
  unfold impl_StateText_k42
  rw [rgl_cat2 1000 (f := runLine) (fun x hx => runLine_len (h.run_len hx).1) (fun x hx i w k hw => by
   have := jobTxt_len x.job
   have hn := h.run_len hx
   have i1 := intsT_len [x.t, (x.nodes.length : Int)]
   have i2 := intsT_len x.nodes
   simp only [List.length_cons, List.length_nil] at i1
   unfold impl_StateText_b58 runLine
   rw [show lenQ x.nodes = some () by unfold lenQ; rw [if_pos (by omega)], Option.bind_some, impl_numTexts_eq (by simp) (by simp), Option.bind_some, impl_numTexts_eq (by simp only [List.length_append, List.length_cons, List.length_nil]; omega) (by omega), Option.bind_some, impl_jobText_eq, Option.bind_some,
    impl_words_eq _ (by simp only [joinW, List.length_append, List.length_cons, List.length_nil]; omega), Option.bind_some, catS_some (by simp only [joinW, List.length_append, List.length_cons, List.length_nil]; omega), Option.bind_some, catS_some (by simp only [joinW, List.length_append, List.length_cons, List.length_nil]; omega), Option.bind_some]
   simp [joinW, intsT]) (by rw [List.length_append, List.length_append]; omega)]
  unfold impl_StateText_k58
  rw [rgl_cat2 1000 (f := endLine) (fun x _ => endLine_len x) (fun x hx i w k hw => by
   have := intsT_len [x.id, x.t, x.why]
   simp only [List.length_cons, List.length_nil] at this
   unfold impl_StateText_b74 endLine
   rw [impl_numTexts_eq (by simp) (by simp), Option.bind_some, catS_some (by simp; omega), Option.bind_some, catS_some (by simp; omega), Option.bind_some]
   simp) (by rw [List.length_append, List.length_append, List.length_append]; omega)]
  unfold impl_StateText_k74
  rw [catS_some (by simp only [List.length_append, List.length_cons, List.length_nil] at b1 ⊢; omega), Option.bind_some]
theorem stateText_nil {s : State} : (stateText s == ([] : Str)) = !stateOk s := by
 unfold stateText
 cases stateOk s with
 | false => rfl
 | true => rw [if_pos rfl]; simp
theorem stateText_len (s : State) : (stateText s).length ≤ 1000000 := by
 unfold stateText
 split
 ·rename_i ho
  obtain ⟨b1, b2, b3, b4, b5, _⟩ := state_bounds (stateOk_P ho)
  simp only [List.length_append, List.length_cons, List.length_nil] at b1 ⊢; omega
 ·simp
noncomputable def digLoop (w : Str) : Option Int := whl (spec_Digest_b21 w) 9223372036854775807 (7, 0)
theorem digest_some {w : Str} (hw : w.length ≤ 1000000) : ∃ r, digLoop w = some r := by
 unfold digLoop
 refine whl_inv (fun _ o => ∃ r, o = some r) (fun b => w.length - b.2.toNat) (fun b => ∃ m : Nat, b.2 = (m : Int)) ?_ 9223372036854775807 (7, 0) ⟨0, rfl⟩ (by simp only; omega)
 rintro ⟨x, n⟩ k ⟨m, hm⟩ hk
 simp only at hm hk
 subst hm
 unfold spec_Digest_b21
 by_cases h : m < w.length
 ·have hlt : (m : Int) < (w.length : Int) := by omega
  simp only [hlt, decide_true, cond_true, idx_ofNat, List.getElem?_eq_getElem h, Option.bind_some, remI, if_neg (show ¬ (1000000007 : Int) = 0 by decide), w64_nat (n := m) (by omega)]
  exact hk _ ⟨m + 1, rfl⟩ (by simp only; omega)
 ·have hlt : ¬ (m : Int) < (w.length : Int) := by omega
  simp only [hlt, decide_false, cond_false]
  exact ⟨_, rfl⟩
theorem digest_body : impl_Digest_b21 = spec_Digest_b21 := by
 funext w b k
 unfold impl_Digest_b21 spec_Digest_b21
 rfl
theorem Digest_eq {s : State} (hs : s.queue.length + s.runs.length ≤ 1048576) : ∃ r, spec_Digest s = some r ∧ impl_Digest s = some r := by
 unfold spec_Digest impl_Digest
 rw [spec_StateText_eq hs, impl_StateText_eq hs, (StateOk_eq hs).2, Option.bind_some, Option.bind_some, stateText_nil, Option.bind_some, digest_body]
 obtain ⟨r, hr⟩ := digest_some (stateText_len s)
 unfold digLoop at hr
 rw [hr]
 cases stateOk s with
 | false => exact ⟨_, rfl, rfl⟩
 | true => exact ⟨r, rfl, rfl⟩
def ir_laws_toVec : L :=
.seq (.reg [.bx 1 (.t 0),.al 2 [.int .i64 0, .int .i64 0, .int .i64 0]])
 (.seq (.reg [.al 3 [.int .i64 0, .int .i64 0, .int .i64 0]])
 (.seq (.reg [.fa 4 (.t 1) 0,.ld 5 (.t 4) 1 false,.fa 6 (.t 3) 0,.st (.t 6) (.t 5) 1])
 (.seq (.reg [.fa 7 (.t 1) 1,.ld 8 (.t 7) 1 false,.fa 9 (.t 3) 1,.st (.t 9) (.t 8) 1])
 (.seq (.reg [.fa 10 (.t 1) 2,.ld 11 (.t 10) 1 false,.fa 12 (.t 3) 2,.st (.t 12) (.t 11) 1])
 (.seq (.reg [.ld 13 (.t 3) 3 true,.st (.t 2) (.t 13) 3])
 (.gw (.ret)))))))
def rs_laws_toVec : List Rv := [.c 2 3 true]
theorem ck_laws_toVec : chkFn Tryz.prog F.laws_toVec 1 ir_laws_toVec rs_laws_toVec = true := by kernel_rfl
def laws_toVec_o (a1 : Vec) : Option Vec :=
 some a1
theorem laws_toVec_o_ok {a1 : Vec} {r : Vec} (H : laws_toVec_o a1 = some r) : Snd Tryz.prog F.laws_toVec [eVec a1] (eVec r) [] := by
 refine snd_g ck_laws_toVec rfl (by simp) ?_
 unfold laws_toVec_o at H
 refine Wh_o fun _ => ?_
 replace H := sI H; subst H
 exact Wh_end [(2, .d)] [(2, [])] [] [] [] [] (by kernel_rfl)
def laws_toVec (a1 : Vec) : Vec :=
 a1
theorem laws_toVec_e (a1 : Vec) : laws_toVec_o a1 = some (laws_toVec a1) := by
 unfold laws_toVec_o laws_toVec
 first | rfl | simp only [bif_some]
theorem laws_toVec_ok (a1 : Vec) : Snd Tryz.prog F.laws_toVec [eVec a1] (eVec (laws_toVec a1)) [] := laws_toVec_o_ok (laws_toVec_e a1)
def ir_laws_eqVec : L :=
.seq (.reg [.bx 2 (.t 0),.bx 3 (.t 1),.mv 4 (.c (.bool false))])
 (.seq (.seq (.reg [.fa 5 (.t 2) 0,.ld 6 (.t 5) 1 false,.fa 7 (.t 3) 0,.ld 8 (.t 7) 1 false,.bi 9 .neq (.t 6) (.t 8)])
 (.cond (.t 9) (.seq (.reg [.mv 4 (.c (.bool false))])
 (.gw (.ret)))
 (.skip)))
 (.seq (.seq (.reg [.fa 10 (.t 2) 1,.ld 11 (.t 10) 1 false,.fa 12 (.t 3) 1,.ld 13 (.t 12) 1 false,.bi 14 .neq (.t 11) (.t 13)])
 (.cond (.t 14) (.seq (.reg [.mv 4 (.c (.bool false))])
 (.gw (.ret)))
 (.skip)))
 (.seq (.seq (.reg [.fa 15 (.t 2) 2,.ld 16 (.t 15) 1 false,.fa 17 (.t 3) 2,.ld 18 (.t 17) 1 false,.bi 19 .neq (.t 16) (.t 18)])
 (.cond (.t 19) (.seq (.reg [.mv 4 (.c (.bool false))])
 (.gw (.ret)))
 (.skip)))
 (.seq (.reg [.mv 4 (.c (.bool true))])
 (.gw (.ret))))))
def rs_laws_eqVec : List Rv := [.t 4]
theorem ck_laws_eqVec : chkFn Tryz.prog F.laws_eqVec 2 ir_laws_eqVec rs_laws_eqVec = true := by kernel_rfl
def laws_eqVec_o (a1 : Vec) (b2 : Vec) : Option Bool :=
 bif (a1.a != b2.a) then (some false) else (bif (a1.b != b2.b) then (some false) else (bif (a1.c != b2.c) then (some false) else (some true)))
theorem laws_eqVec_o_ok {a1 : Vec} {b2 : Vec} {r : Bool} (H : laws_eqVec_o a1 b2 = some r) : Snd Tryz.prog F.laws_eqVec [eVec a1, eVec b2] (.bool r) [] := by
 refine snd_g ck_laws_eqVec rfl (by simp) ?_
 unfold laws_eqVec_o at H
 refine Wh_o fun _ => ?_
 refine Wh_iH H (fun H => ?_) fun H => ?_
 ·refine Wh_o fun _ => ?_
  replace H := sI H; subst H
  exact Wh_end [(4, .d)] [] [] [] [] [] (by kernel_rfl)
 ·refine Wh_o fun _ => ?_
  refine Wh_iH H (fun H => ?_) fun H => ?_
  ·refine Wh_o fun _ => ?_
   replace H := sI H; subst H
   exact Wh_end [(4, .d)] [] [] [] [] [] (by kernel_rfl)
  ·refine Wh_o fun _ => ?_
   refine Wh_iH H (fun H => ?_) fun H => ?_
   ·refine Wh_o fun _ => ?_
    replace H := sI H; subst H
    exact Wh_end [(4, .d)] [] [] [] [] [] (by kernel_rfl)
   ·refine Wh_o fun _ => ?_
    replace H := sI H; subst H
    exact Wh_end [(4, .d)] [] [] [] [] [] (by kernel_rfl)
def laws_eqVec (a1 : Vec) (b2 : Vec) : Bool :=
 bif (a1.a != b2.a) then (false) else (bif (a1.b != b2.b) then (false) else (bif (a1.c != b2.c) then (false) else (true)))
theorem laws_eqVec_e (a1 : Vec) (b2 : Vec) : laws_eqVec_o a1 b2 = some (laws_eqVec a1 b2) := by
 unfold laws_eqVec_o laws_eqVec
 first | rfl | simp only [bif_some]
theorem laws_eqVec_ok (a1 : Vec) (b2 : Vec) : Snd Tryz.prog F.laws_eqVec [eVec a1, eVec b2] (.bool (laws_eqVec a1 b2)) [] := laws_eqVec_o_ok (laws_eqVec_e a1 b2)
def ir_laws_toIntS : L :=
.seq (.reg [.mv 2 (.c (.nl))])
 (.seq (.reg [.mv 5 (.t 0),.ln 6 (.t 5),.ms 7 1 8 [.int .i64 0] (.t 6),.mv 3 (.t 7)])
 (.seq (.seq (.reg [.mv 4 (.c (.int .i64 0))])
 (.blk 0 (.loop (.gw (.seq (.seq (.reg [.mv 8 (.t 4),.mv 9 (.t 0),.ln 10 (.t 9),.bi 11 .lss (.t 8) (.t 10)])
 (.cond (.t 11) (.skip)
 (.exit 0)))
 (.seq (.blk 1 (.reg [.mv 14 (.t 3),.mv 15 (.t 4),.mv 16 (.t 0),.mv 17 (.t 4),.ia 18 (.t 16) (.t 17) 1,.ld 19 (.t 18) 1 false,.ia 20 (.t 14) (.t 15) 1,.st (.t 20) (.t 19) 1]))
 (.reg [.mv 12 (.t 4),.bi 13 .add (.t 12) (.c (.int .i64 1)),.mv 4 (.t 13)])))))))
 (.seq (.reg [.mv 21 (.t 3),.mv 2 (.t 21)])
 (.gw (.ret)))))
def rs_laws_toIntS : List Rv := [.t 2]
theorem ck_laws_toIntS : chkFn Tryz.prog F.laws_toIntS 1 ir_laws_toIntS rs_laws_toIntS = true := by kernel_rfl
def laws_toIntS_b13 (a1 : List Int) (v4 : Int × (List Int)) (k4 : (Int × (List Int)) → Option (List Int)) : Option (List Int) :=
 bif (decide (v4.1 < (a1.length : Int))) then ((idx a1 v4.1).bind fun e6 => (idx v4.2 v4.1).bind fun _ => k4 ((w64 (v4.1 + 1)), (v4.2.set v4.1.toNat e6))) else (some v4.2)
def laws_toIntS (a1 : List Int) : Option (List Int) :=
 (mkL 8 (a1.length : Int) 0).bind fun xs2 => whl (laws_toIntS_b13 a1) 9223372036854775807 (0, xs2)
theorem laws_toIntS_ok {a1 : List Int} {r : (List Int)} (H : laws_toIntS a1 = some r) : Snd Tryz.prog F.laws_toIntS [.sl .rd 1 (a1.map eI)] (.sl .nw 1 (r.map eI)) [] := by
 refine snd_g ck_laws_toIntS rfl (by simp) ?_
 unfold laws_toIntS at H
 obtain ⟨xs2, h2, H⟩ := bB H
 refine Wh_go 99 [.u 6 (.ln _ _ fun _ => lm a1 eI), .u 7 (.ms _ _ _ _ fun _ => mkL_map eI h2)] (by kernel_rfl) fun q3 => ?_
 refine Wh_whl (fun (v4 : Int × (List Int)) => ⟨[(0, .sl .rd 1 (a1.map eI)), (3, .sref 7), (4, .int .i64 v4.1)], [], [], [(7, ⟨1, v4.2.map eI, false⟩)]⟩) [] [] [] [] (by kernel_rfl) (by kernel_rfl) H (fun v4 I m k4 H N13 => ?_)
 unfold laws_toIntS_b13 at H
 refine Wh_go 99 [.u 10 (.ln _ _ fun _ => lm a1 eI)] (by kernel_rfl) fun q5 => ?_
 refine Wh_iH H (fun H => ?_) fun H => ?_
 ·obtain ⟨e6, h6, H⟩ := bB H
  obtain ⟨e7, h7, H⟩ := bB H
  refine Wh_go 99 [.u 18 (.ix _ _ _ fun _ => idx_map eI h6), .u 20 (.ix _ _ _ fun _ => idx_map eI h7), .u 1000000 (.sto _ _ _ (eI e6) _ (fun _ => gm eI (idx_get h7)) (fun _ => set_map ..))] (by kernel_rfl) fun _ => ?_
  exact Wh_to (N13 _ H) [] [] [] [] (by kernel_rfl) (by kernel_rfl)
 ·refine Wh_o fun _ => ?_
  replace H := sI H; subst H
  exact Wh_end [(2, .f)] [] [] [7] [] [⟨_, nw_I v4.2⟩] (by kernel_rfl)
def ir_laws_toNode : L :=
.seq (.reg [.bx 1 (.t 0),.al 2 [.int .i64 0, .int .i64 0, .int .i64 0, .int .i64 0]])
 (.seq (.reg [.al 3 [.int .i64 0, .int .i64 0, .int .i64 0, .int .i64 0]])
 (.seq (.reg [.fa 4 (.t 1) 0,.ld 5 (.t 4) 1 false,.fa 6 (.t 3) 0,.st (.t 6) (.t 5) 1])
 (.seq (.reg [.fa 7 (.t 1) 1,.ld 8 (.t 7) 3 true,.cq 9 F.laws_toVec [(.t 8)],.fa 10 (.t 3) 1,.st (.t 10) (.t 9) 3])
 (.seq (.reg [.ld 11 (.t 3) 4 true,.st (.t 2) (.t 11) 4])
 (.gw (.ret))))))
def rs_laws_toNode : List Rv := [.c 2 4 true]
theorem ck_laws_toNode : chkFn Tryz.prog F.laws_toNode 1 ir_laws_toNode rs_laws_toNode = true := by kernel_rfl
def laws_toNode_o (a1 : Node) : Option Node :=
 some (Node.mk a1.leaf (laws_toVec a1.cap))
theorem laws_toNode_o_ok {a1 : Node} {r : Node} (H : laws_toNode_o a1 = some r) : Snd Tryz.prog F.laws_toNode [eNode a1] (eNode r) [] := by
 refine snd_g ck_laws_toNode rfl (by simp) ?_
 unfold laws_toNode_o at H
 refine Wh_go 99 [.c 9 (laws_toVec_ok a1.cap)] (by kernel_rfl) fun _ => ?_
 replace H := sI H; subst H
 exact Wh_end [(2, .d)] [(2, [])] [] [] [] [] (by kernel_rfl)
def laws_toNode (a1 : Node) : Node :=
 (Node.mk a1.leaf (laws_toVec a1.cap))
theorem laws_toNode_e (a1 : Node) : laws_toNode_o a1 = some (laws_toNode a1) := by
 unfold laws_toNode_o laws_toNode
 first | rfl | simp only [bif_some]
theorem laws_toNode_ok (a1 : Node) : Snd Tryz.prog F.laws_toNode [eNode a1] (eNode (laws_toNode a1)) [] := laws_toNode_o_ok (laws_toNode_e a1)
def ir_laws_toNodeS : L :=
.seq (.reg [.mv 2 (.c (.nl))])
 (.seq (.reg [.mv 5 (.t 0),.ln 6 (.t 5),.ms 7 4 32 [.int .i64 0, .int .i64 0, .int .i64 0, .int .i64 0] (.t 6),.mv 3 (.t 7)])
 (.seq (.seq (.reg [.mv 4 (.c (.int .i64 0))])
 (.blk 0 (.loop (.gw (.seq (.seq (.reg [.mv 8 (.t 4),.mv 9 (.t 0),.ln 10 (.t 9),.bi 11 .lss (.t 8) (.t 10)])
 (.cond (.t 11) (.skip)
 (.exit 0)))
 (.seq (.blk 1 (.reg [.mv 14 (.t 3),.mv 15 (.t 4),.mv 16 (.t 0),.mv 17 (.t 4),.ia 18 (.t 16) (.t 17) 4,.ld 19 (.t 18) 4 true,.cq 20 F.laws_toNode [(.t 19)],.ia 21 (.t 14) (.t 15) 4,.st (.t 21) (.t 20) 4]))
 (.reg [.mv 12 (.t 4),.bi 13 .add (.t 12) (.c (.int .i64 1)),.mv 4 (.t 13)])))))))
 (.seq (.reg [.mv 22 (.t 3),.mv 2 (.t 22)])
 (.gw (.ret)))))
def rs_laws_toNodeS : List Rv := [.t 2]
theorem ck_laws_toNodeS : chkFn Tryz.prog F.laws_toNodeS 1 ir_laws_toNodeS rs_laws_toNodeS = true := by kernel_rfl
def laws_toNodeS_b13 (a1 : List Node) (v4 : Int × (List Node)) (k4 : (Int × (List Node)) → Option (List Node)) : Option (List Node) :=
 bif (decide (v4.1 < (a1.length : Int))) then ((idx a1 v4.1).bind fun e6 => (idx v4.2 v4.1).bind fun _ => k4 ((w64 (v4.1 + 1)), (v4.2.set v4.1.toNat (Node.mk ((laws_toNode e6).leaf) ((laws_toNode e6).cap))))) else (some v4.2)
def laws_toNodeS (a1 : List Node) : Option (List Node) :=
 (mkL 32 (a1.length : Int) (Node.mk 0 (Vec.mk 0 0 0))).bind fun xs2 => whl (laws_toNodeS_b13 a1) 9223372036854775807 (0, xs2)
theorem laws_toNodeS_ok {a1 : List Node} {r : (List Node)} (H : laws_toNodeS a1 = some r) : Snd Tryz.prog F.laws_toNodeS [.sl .rd 4 (a1.map eNode)] (.sl .nw 4 (r.map eNode)) [] := by
 refine snd_g ck_laws_toNodeS rfl (by simp) ?_
 unfold laws_toNodeS at H
 obtain ⟨xs2, h2, H⟩ := bB H
 refine Wh_go 99 [.u 6 (.ln _ _ fun _ => lm a1 eNode), .u 7 (.ms _ _ _ _ fun _ => mkL_map eNode h2)] (by kernel_rfl) fun q3 => ?_
 refine Wh_whl (fun (v4 : Int × (List Node)) => ⟨[(0, .sl .rd 4 (a1.map eNode)), (3, .sref 7), (4, .int .i64 v4.1)], [], [], [(7, ⟨4, v4.2.map eNode, false⟩)]⟩) [] [] [] [] (by kernel_rfl) (by kernel_rfl) H (fun v4 I m k4 H N13 => ?_)
 unfold laws_toNodeS_b13 at H
 refine Wh_go 99 [.u 10 (.ln _ _ fun _ => lm a1 eNode)] (by kernel_rfl) fun q5 => ?_
 refine Wh_iH H (fun H => ?_) fun H => ?_
 ·obtain ⟨e6, h6, H⟩ := bB H
  obtain ⟨e7, h7, H⟩ := bB H
  refine Wh_go 99 [.u 18 (.ix _ _ _ fun _ => idx_map eNode h6), .c 20 (laws_toNode_ok e6), .u 21 (.ix _ _ _ fun _ => idx_map eNode h7), .u 1000000 (.sto _ _ _ (eNode (Node.mk ((laws_toNode e6).leaf) ((laws_toNode e6).cap))) _ (fun _ => gm eNode (idx_get h7)) (fun _ => set_map ..))] (by kernel_rfl) fun _ => ?_
  exact Wh_to (N13 _ H) [] [] [] [] (by kernel_rfl) (by kernel_rfl)
 ·refine Wh_o fun _ => ?_
  replace H := sI H; subst H
  exact Wh_end [(2, .f)] [] [] [7] [] [⟨_, nw_Node v4.2⟩] (by kernel_rfl)
def ir_laws_toTopo : L :=
.seq (.reg [.bx 1 (.t 0),.al 2 [.nl, .nl]])
 (.seq (.reg [.al 3 [.nl, .nl]])
 (.seq (.reg [.fa 4 (.t 1) 0,.ld 5 (.t 4) 1 false,.cq 6 F.laws_toIntS [(.t 5)],.fa 7 (.t 3) 0,.st (.t 7) (.t 6) 1])
 (.seq (.reg [.fa 8 (.t 1) 1,.ld 9 (.t 8) 1 false,.cq 10 F.laws_toNodeS [(.t 9)],.fa 11 (.t 3) 1,.st (.t 11) (.t 10) 1])
 (.seq (.reg [.ld 12 (.t 3) 2 true,.st (.t 2) (.t 12) 2])
 (.gw (.ret))))))
def rs_laws_toTopo : List Rv := [.c 2 2 true]
theorem ck_laws_toTopo : chkFn Tryz.prog F.laws_toTopo 1 ir_laws_toTopo rs_laws_toTopo = true := by kernel_rfl
def laws_toTopo (a1 : Topo) : Option Topo :=
 (laws_toIntS a1.parents).bind fun y2 => (laws_toNodeS a1.nodes).bind fun y3 => some (Topo.mk y2 y3)
theorem laws_toTopo_ok {a1 : Topo} {r : Topo} (H : laws_toTopo a1 = some r) : Snd Tryz.prog F.laws_toTopo [eTopoT .rd a1] (eTopoT .nw r) [] := by
 refine snd_g ck_laws_toTopo rfl (by simp) ?_
 unfold laws_toTopo at H
 obtain ⟨y2, h2, H⟩ := bB H
 obtain ⟨y3, h3, H⟩ := bB H
 refine Wh_go 99 [.c 6 (laws_toIntS_ok h2), .c 10 (laws_toNodeS_ok h3)] (by kernel_rfl) fun _ => ?_
 replace H := sI H; subst H
 exact Wh_end [(2, .d)] [(2, [])] [] [] [] [⟨_, nw_I y2⟩, ⟨_, nw_Node y3⟩] (by kernel_rfl)
def ir_laws_szIntS : L :=
.seq (.reg [.mv 4 (.c (.int .i64 0))])
 (.seq (.reg [.mv 5 (.t 1),.mv 6 (.t 0),.ln 7 (.t 6),.bi 8 .sub (.t 5) (.t 7),.mv 1 (.t 8)])
 (.seq (.seq (.reg [.mv 9 (.t 1),.bi 10 .lss (.t 9) (.c (.int .i64 0))])
 (.cond (.t 10) (.seq (.reg [.mv 4 (.c (.int .i64 (-1)))])
 (.gw (.ret)))
 (.skip)))
 (.seq (.reg [.mv 11 (.t 1),.mv 4 (.t 11)])
 (.gw (.ret)))))
def rs_laws_szIntS : List Rv := [.t 4]
theorem ck_laws_szIntS : chkFn Tryz.prog F.laws_szIntS 2 ir_laws_szIntS rs_laws_szIntS = true := by kernel_rfl
def laws_szIntS_o (a1 : List Int) (left2 : Int) : Option Int :=
 bif (decide ((w64 (left2 - (a1.length : Int))) < 0)) then (some (-1)) else (some (w64 (left2 - (a1.length : Int))))
theorem laws_szIntS_o_ok {a1 : List Int} {left2 : Int} {r : Int} (H : laws_szIntS_o a1 left2 = some r) : Snd Tryz.prog F.laws_szIntS [.sl .rd 1 (a1.map eI), .int .i64 left2] (.int .i64 r) [] := by
 refine snd_g ck_laws_szIntS rfl (by simp) ?_
 unfold laws_szIntS_o at H
 refine Wh_go 99 [.u 7 (.ln _ _ fun _ => lm a1 eI)] (by kernel_rfl) fun q3 => ?_
 refine Wh_iH H (fun H => ?_) fun H => ?_
 ·refine Wh_o fun _ => ?_
  replace H := sI H; subst H
  exact Wh_end [(4, .d)] [] [] [] [] [] (by kernel_rfl)
 ·refine Wh_o fun _ => ?_
  replace H := sI H; subst H
  exact Wh_end [(4, .d)] [] [] [] [] [] (by kernel_rfl)
def laws_szIntS (a1 : List Int) (left2 : Int) : Int :=
 bif (decide ((w64 (left2 - (a1.length : Int))) < 0)) then ((-1)) else ((w64 (left2 - (a1.length : Int))))
theorem laws_szIntS_e (a1 : List Int) (left2 : Int) : laws_szIntS_o a1 left2 = some (laws_szIntS a1 left2) := by
 unfold laws_szIntS_o laws_szIntS
 first | rfl | simp only [bif_some]
theorem laws_szIntS_ok (a1 : List Int) (left2 : Int) : Snd Tryz.prog F.laws_szIntS [.sl .rd 1 (a1.map eI), .int .i64 left2] (.int .i64 (laws_szIntS a1 left2)) [] := laws_szIntS_o_ok (laws_szIntS_e a1 left2)
def ir_laws_szNodeS : L :=
.seq (.reg [.mv 4 (.c (.int .i64 0))])
 (.seq (.reg [.mv 5 (.t 1),.mv 6 (.t 0),.ln 7 (.t 6),.bi 8 .sub (.t 5) (.t 7),.mv 1 (.t 8)])
 (.seq (.seq (.reg [.mv 9 (.t 1),.bi 10 .lss (.t 9) (.c (.int .i64 0))])
 (.cond (.t 10) (.seq (.reg [.mv 4 (.c (.int .i64 (-1)))])
 (.gw (.ret)))
 (.skip)))
 (.seq (.reg [.mv 11 (.t 1),.mv 4 (.t 11)])
 (.gw (.ret)))))
def rs_laws_szNodeS : List Rv := [.t 4]
theorem ck_laws_szNodeS : chkFn Tryz.prog F.laws_szNodeS 2 ir_laws_szNodeS rs_laws_szNodeS = true := by kernel_rfl
def laws_szNodeS_o (a1 : List Node) (left2 : Int) : Option Int :=
 bif (decide ((w64 (left2 - (a1.length : Int))) < 0)) then (some (-1)) else (some (w64 (left2 - (a1.length : Int))))
theorem laws_szNodeS_o_ok {a1 : List Node} {left2 : Int} {r : Int} (H : laws_szNodeS_o a1 left2 = some r) : Snd Tryz.prog F.laws_szNodeS [.sl .rd 4 (a1.map eNode), .int .i64 left2] (.int .i64 r) [] := by
 refine snd_g ck_laws_szNodeS rfl (by simp) ?_
 unfold laws_szNodeS_o at H
 refine Wh_go 99 [.u 7 (.ln _ _ fun _ => lm a1 eNode)] (by kernel_rfl) fun q3 => ?_
 refine Wh_iH H (fun H => ?_) fun H => ?_
 ·refine Wh_o fun _ => ?_
  replace H := sI H; subst H
  exact Wh_end [(4, .d)] [] [] [] [] [] (by kernel_rfl)
 ·refine Wh_o fun _ => ?_
  replace H := sI H; subst H
  exact Wh_end [(4, .d)] [] [] [] [] [] (by kernel_rfl)
def laws_szNodeS (a1 : List Node) (left2 : Int) : Int :=
 bif (decide ((w64 (left2 - (a1.length : Int))) < 0)) then ((-1)) else ((w64 (left2 - (a1.length : Int))))
theorem laws_szNodeS_e (a1 : List Node) (left2 : Int) : laws_szNodeS_o a1 left2 = some (laws_szNodeS a1 left2) := by
 unfold laws_szNodeS_o laws_szNodeS
 first | rfl | simp only [bif_some]
theorem laws_szNodeS_ok (a1 : List Node) (left2 : Int) : Snd Tryz.prog F.laws_szNodeS [.sl .rd 4 (a1.map eNode), .int .i64 left2] (.int .i64 (laws_szNodeS a1 left2)) [] := laws_szNodeS_o_ok (laws_szNodeS_e a1 left2)
def ir_laws_szTopo : L :=
.seq (.reg [.bx 2 (.t 0),.mv 4 (.c (.int .i64 0))])
 (.seq (.reg [.fa 5 (.t 2) 0,.ld 6 (.t 5) 1 false,.mv 7 (.t 1),.cq 8 F.laws_szIntS [(.t 6), (.t 7)],.mv 1 (.t 8)])
 (.seq (.seq (.reg [.mv 9 (.t 1),.bi 10 .lss (.t 9) (.c (.int .i64 0))])
 (.cond (.t 10) (.seq (.reg [.mv 4 (.c (.int .i64 (-1)))])
 (.gw (.ret)))
 (.skip)))
 (.seq (.reg [.fa 11 (.t 2) 1,.ld 12 (.t 11) 1 false,.mv 13 (.t 1),.cq 14 F.laws_szNodeS [(.t 12), (.t 13)],.mv 1 (.t 14)])
 (.seq (.seq (.reg [.mv 15 (.t 1),.bi 16 .lss (.t 15) (.c (.int .i64 0))])
 (.cond (.t 16) (.seq (.reg [.mv 4 (.c (.int .i64 (-1)))])
 (.gw (.ret)))
 (.skip)))
 (.seq (.reg [.mv 17 (.t 1),.mv 4 (.t 17)])
 (.gw (.ret)))))))
def rs_laws_szTopo : List Rv := [.t 4]
theorem ck_laws_szTopo : chkFn Tryz.prog F.laws_szTopo 2 ir_laws_szTopo rs_laws_szTopo = true := by kernel_rfl
def laws_szTopo_o (a1 : Topo) (left2 : Int) : Option Int :=
 bif (decide ((laws_szIntS a1.parents left2) < 0)) then (some (-1)) else (bif (decide ((laws_szNodeS a1.nodes (laws_szIntS a1.parents left2)) < 0)) then (some (-1)) else (some (laws_szNodeS a1.nodes (laws_szIntS a1.parents left2))))
theorem laws_szTopo_o_ok {a1 : Topo} {left2 : Int} {r : Int} (H : laws_szTopo_o a1 left2 = some r) : Snd Tryz.prog F.laws_szTopo [eTopoT .rd a1, .int .i64 left2] (.int .i64 r) [] := by
 refine snd_g ck_laws_szTopo rfl (by simp) ?_
 unfold laws_szTopo_o at H
 refine Wh_go 99 [.c 8 (laws_szIntS_ok a1.parents left2)] (by kernel_rfl) fun _ => ?_
 refine Wh_iH H (fun H => ?_) fun H => ?_
 ·refine Wh_o fun _ => ?_
  replace H := sI H; subst H
  exact Wh_end [(4, .d)] [] [] [] [] [] (by kernel_rfl)
 ·refine Wh_go 99 [.u 14 (.call _ _ _ _ _ (AEs.refl _) (fun _ => laws_szNodeS_ok a1.nodes (laws_szIntS a1.parents left2)))] (by kernel_rfl) fun _ => ?_
  refine Wh_iH H (fun H => ?_) fun H => ?_
  ·refine Wh_o fun _ => ?_
   replace H := sI H; subst H
   exact Wh_end [(4, .d)] [] [] [] [] [] (by kernel_rfl)
  ·refine Wh_o fun _ => ?_
   replace H := sI H; subst H
   exact Wh_end [(4, .d)] [] [] [] [] [] (by kernel_rfl)
def laws_szTopo (a1 : Topo) (left2 : Int) : Int :=
 bif (decide ((laws_szIntS a1.parents left2) < 0)) then ((-1)) else (bif (decide ((laws_szNodeS a1.nodes (laws_szIntS a1.parents left2)) < 0)) then ((-1)) else ((laws_szNodeS a1.nodes (laws_szIntS a1.parents left2))))
theorem laws_szTopo_e (a1 : Topo) (left2 : Int) : laws_szTopo_o a1 left2 = some (laws_szTopo a1 left2) := by
 unfold laws_szTopo_o laws_szTopo
 first | rfl | simp only [bif_some]
theorem laws_szTopo_ok (a1 : Topo) (left2 : Int) : Snd Tryz.prog F.laws_szTopo [eTopoT .rd a1, .int .i64 left2] (.int .i64 (laws_szTopo a1 left2)) [] := laws_szTopo_o_ok (laws_szTopo_e a1 left2)
def ir_laws_eqIntS : L :=
.seq (.reg [.mv 4 (.c (.bool false))])
 (.seq (.seq (.reg [.mv 6 (.t 0),.ln 7 (.t 6),.mv 8 (.t 1),.ln 9 (.t 8),.bi 10 .neq (.t 7) (.t 9)])
 (.cond (.t 10) (.seq (.reg [.mv 4 (.c (.bool false))])
 (.gw (.ret)))
 (.skip)))
 (.seq (.seq (.reg [.mv 5 (.c (.int .i64 0))])
 (.blk 0 (.loop (.gw (.seq (.seq (.reg [.mv 11 (.t 5),.mv 12 (.t 0),.ln 13 (.t 12),.bi 14 .lss (.t 11) (.t 13)])
 (.cond (.t 14) (.skip)
 (.exit 0)))
 (.seq (.blk 1 (.seq (.rq 9 [.mv 17 (.t 0),.mv 18 (.t 5),.ia 19 (.t 17) (.t 18) 1,.ld 20 (.t 19) 1 false,.mv 21 (.t 1),.mv 22 (.t 5),.ia 23 (.t 21) (.t 22) 1,.ld 24 (.t 23) 1 false,.bi 25 .neq (.t 20) (.t 24)])
 (.cond (.t 25) (.seq (.reg [.mv 4 (.c (.bool false))])
 (.gw (.ret)))
 (.skip))))
 (.reg [.mv 15 (.t 5),.bi 16 .add (.t 15) (.c (.int .i64 1)),.mv 5 (.t 16)])))))))
 (.seq (.reg [.mv 4 (.c (.bool true))])
 (.gw (.ret)))))
def rs_laws_eqIntS : List Rv := [.t 4]
theorem ck_laws_eqIntS : chkFn Tryz.prog F.laws_eqIntS 2 ir_laws_eqIntS rs_laws_eqIntS = true := by kernel_rfl
def laws_eqIntS_b25 (a1 : List Int) (b2 : List Int) (v4 : Int) (k4 : Int → Option Bool) : Option Bool :=
 bif (decide (v4 < (a1.length : Int))) then ((idx a1 v4).bind fun e6 => (idx b2 v4).bind fun e7 => bif (e6 != e7) then (some false) else (k4 (w64 (v4 + 1)))) else (some true)
def laws_eqIntS (a1 : List Int) (b2 : List Int) : Option Bool :=
 bif ((a1.length : Int) != (b2.length : Int)) then (some false) else (whl (laws_eqIntS_b25 a1 b2) 9223372036854775807 0)
theorem laws_eqIntS_ok {a1 : List Int} {b2 : List Int} {r : Bool} (H : laws_eqIntS a1 b2 = some r) : Snd Tryz.prog F.laws_eqIntS [.sl .rd 1 (a1.map eI), .sl .rd 1 (b2.map eI)] (.bool r) [] := by
 refine snd_g ck_laws_eqIntS rfl (by simp) ?_
 unfold laws_eqIntS at H
 refine Wh_go 99 [.u 7 (.ln _ _ fun _ => lm a1 eI), .u 9 (.ln _ _ fun _ => lm b2 eI)] (by kernel_rfl) fun q3 => ?_
 refine Wh_iH H (fun H => ?_) fun H => ?_
 ·refine Wh_o fun _ => ?_
  replace H := sI H; subst H
  exact Wh_end [(4, .d)] [] [] [] [] [] (by kernel_rfl)
 ·refine Wh_o fun _ => ?_
  refine Wh_whl (fun (v4 : Int) => ⟨[(0, .sl .rd 1 (a1.map eI)), (1, .sl .rd 1 (b2.map eI)), (5, .int .i64 v4)], [], [], []⟩) [] [] [] [] (by kernel_rfl) (by kernel_rfl) H (fun v4 I m k4 H N25 => ?_)
  unfold laws_eqIntS_b25 at H
  refine Wh_go 99 [.u 13 (.ln _ _ fun _ => lm a1 eI)] (by kernel_rfl) fun q5 => ?_
  refine Wh_iH H (fun H => ?_) fun H => ?_
  ·obtain ⟨e6, h6, H⟩ := bB H
   obtain ⟨e7, h7, H⟩ := bB H
   refine Wh_go 99 [.u 19 (.ix _ _ _ fun _ => idx_map eI h6), .u 23 (.ix _ _ _ fun _ => idx_map eI h7)] (by kernel_rfl) fun _ => ?_
   refine Wh_iH H (fun H => ?_) fun H => ?_
   ·refine Wh_o fun _ => ?_
    replace H := sI H; subst H
    exact Wh_end [(4, .d)] [] [] [] [] [] (by kernel_rfl)
   ·refine Wh_o fun _ => ?_
    exact Wh_to (N25 _ H) [] [] [] [] (by kernel_rfl) (by kernel_rfl)
  ·refine Wh_o fun _ => ?_
   replace H := sI H; subst H
   exact Wh_end [(4, .d)] [] [] [] [] [] (by kernel_rfl)
def ir_laws_eqNode : L :=
.seq (.reg [.bx 2 (.t 0),.bx 3 (.t 1),.mv 4 (.c (.bool false))])
 (.seq (.seq (.reg [.fa 5 (.t 2) 0,.ld 6 (.t 5) 1 false,.fa 7 (.t 3) 0,.ld 8 (.t 7) 1 false,.bi 9 .neq (.t 6) (.t 8)])
 (.cond (.t 9) (.seq (.reg [.mv 4 (.c (.bool false))])
 (.gw (.ret)))
 (.skip)))
 (.seq (.seq (.reg [.fa 10 (.t 2) 1,.ld 11 (.t 10) 3 true,.fa 12 (.t 3) 1,.ld 13 (.t 12) 3 true,.cq 14 F.laws_eqVec [(.t 11), (.t 13)],.un 15 (.t 14)])
 (.cond (.t 15) (.seq (.reg [.mv 4 (.c (.bool false))])
 (.gw (.ret)))
 (.skip)))
 (.seq (.reg [.mv 4 (.c (.bool true))])
 (.gw (.ret)))))
def rs_laws_eqNode : List Rv := [.t 4]
theorem ck_laws_eqNode : chkFn Tryz.prog F.laws_eqNode 2 ir_laws_eqNode rs_laws_eqNode = true := by kernel_rfl
def laws_eqNode_o (a1 : Node) (b2 : Node) : Option Bool :=
 bif (a1.leaf != b2.leaf) then (some false) else (bif (!(laws_eqVec a1.cap b2.cap)) then (some false) else (some true))
theorem laws_eqNode_o_ok {a1 : Node} {b2 : Node} {r : Bool} (H : laws_eqNode_o a1 b2 = some r) : Snd Tryz.prog F.laws_eqNode [eNode a1, eNode b2] (.bool r) [] := by
 refine snd_g ck_laws_eqNode rfl (by simp) ?_
 unfold laws_eqNode_o at H
 refine Wh_o fun _ => ?_
 refine Wh_iH H (fun H => ?_) fun H => ?_
 ·refine Wh_o fun _ => ?_
  replace H := sI H; subst H
  exact Wh_end [(4, .d)] [] [] [] [] [] (by kernel_rfl)
 ·refine Wh_go 99 [.c 14 (laws_eqVec_ok a1.cap b2.cap)] (by kernel_rfl) fun _ => ?_
  refine Wh_iH H (fun H => ?_) fun H => ?_
  ·refine Wh_o fun _ => ?_
   replace H := sI H; subst H
   exact Wh_end [(4, .d)] [] [] [] [] [] (by kernel_rfl)
  ·refine Wh_o fun _ => ?_
   replace H := sI H; subst H
   exact Wh_end [(4, .d)] [] [] [] [] [] (by kernel_rfl)
def laws_eqNode (a1 : Node) (b2 : Node) : Bool :=
 bif (a1.leaf != b2.leaf) then (false) else (bif (!(laws_eqVec a1.cap b2.cap)) then (false) else (true))
theorem laws_eqNode_e (a1 : Node) (b2 : Node) : laws_eqNode_o a1 b2 = some (laws_eqNode a1 b2) := by
 unfold laws_eqNode_o laws_eqNode
 first | rfl | simp only [bif_some]
theorem laws_eqNode_ok (a1 : Node) (b2 : Node) : Snd Tryz.prog F.laws_eqNode [eNode a1, eNode b2] (.bool (laws_eqNode a1 b2)) [] := laws_eqNode_o_ok (laws_eqNode_e a1 b2)
def ir_laws_eqNodeS : L :=
.seq (.reg [.mv 4 (.c (.bool false))])
 (.seq (.seq (.reg [.mv 6 (.t 0),.ln 7 (.t 6),.mv 8 (.t 1),.ln 9 (.t 8),.bi 10 .neq (.t 7) (.t 9)])
 (.cond (.t 10) (.seq (.reg [.mv 4 (.c (.bool false))])
 (.gw (.ret)))
 (.skip)))
 (.seq (.seq (.reg [.mv 5 (.c (.int .i64 0))])
 (.blk 0 (.loop (.gw (.seq (.seq (.reg [.mv 11 (.t 5),.mv 12 (.t 0),.ln 13 (.t 12),.bi 14 .lss (.t 11) (.t 13)])
 (.cond (.t 14) (.skip)
 (.exit 0)))
 (.seq (.blk 1 (.seq (.rq 10 [.mv 17 (.t 0),.mv 18 (.t 5),.ia 19 (.t 17) (.t 18) 4,.ld 20 (.t 19) 4 true,.mv 21 (.t 1),.mv 22 (.t 5),.ia 23 (.t 21) (.t 22) 4,.ld 24 (.t 23) 4 true,.cq 25 F.laws_eqNode [(.t 20), (.t 24)],.un 26 (.t 25)])
 (.cond (.t 26) (.seq (.reg [.mv 4 (.c (.bool false))])
 (.gw (.ret)))
 (.skip))))
 (.reg [.mv 15 (.t 5),.bi 16 .add (.t 15) (.c (.int .i64 1)),.mv 5 (.t 16)])))))))
 (.seq (.reg [.mv 4 (.c (.bool true))])
 (.gw (.ret)))))
def rs_laws_eqNodeS : List Rv := [.t 4]
theorem ck_laws_eqNodeS : chkFn Tryz.prog F.laws_eqNodeS 2 ir_laws_eqNodeS rs_laws_eqNodeS = true := by kernel_rfl
def laws_eqNodeS_b25 (a1 : List Node) (b2 : List Node) (v4 : Int) (k4 : Int → Option Bool) : Option Bool :=
 bif (decide (v4 < (a1.length : Int))) then ((idx a1 v4).bind fun e6 => (idx b2 v4).bind fun e7 => bif (!(laws_eqNode e6 e7)) then (some false) else (k4 (w64 (v4 + 1)))) else (some true)
def laws_eqNodeS (a1 : List Node) (b2 : List Node) : Option Bool :=
 bif ((a1.length : Int) != (b2.length : Int)) then (some false) else (whl (laws_eqNodeS_b25 a1 b2) 9223372036854775807 0)
theorem laws_eqNodeS_ok {a1 : List Node} {b2 : List Node} {r : Bool} (H : laws_eqNodeS a1 b2 = some r) : Snd Tryz.prog F.laws_eqNodeS [.sl .rd 4 (a1.map eNode), .sl .rd 4 (b2.map eNode)] (.bool r) [] := by
 refine snd_g ck_laws_eqNodeS rfl (by simp) ?_
 unfold laws_eqNodeS at H
 refine Wh_go 99 [.u 7 (.ln _ _ fun _ => lm a1 eNode), .u 9 (.ln _ _ fun _ => lm b2 eNode)] (by kernel_rfl) fun q3 => ?_
 refine Wh_iH H (fun H => ?_) fun H => ?_
 ·refine Wh_o fun _ => ?_
  replace H := sI H; subst H
  exact Wh_end [(4, .d)] [] [] [] [] [] (by kernel_rfl)
 ·refine Wh_o fun _ => ?_
  refine Wh_whl (fun (v4 : Int) => ⟨[(0, .sl .rd 4 (a1.map eNode)), (1, .sl .rd 4 (b2.map eNode)), (5, .int .i64 v4)], [], [], []⟩) [] [] [] [] (by kernel_rfl) (by kernel_rfl) H (fun v4 I m k4 H N25 => ?_)
  unfold laws_eqNodeS_b25 at H
  refine Wh_go 99 [.u 13 (.ln _ _ fun _ => lm a1 eNode)] (by kernel_rfl) fun q5 => ?_
  refine Wh_iH H (fun H => ?_) fun H => ?_
  ·obtain ⟨e6, h6, H⟩ := bB H
   obtain ⟨e7, h7, H⟩ := bB H
   refine Wh_go 99 [.u 19 (.ix _ _ _ fun _ => idx_map eNode h6), .u 23 (.ix _ _ _ fun _ => idx_map eNode h7), .c 25 (laws_eqNode_ok e6 e7)] (by kernel_rfl) fun _ => ?_
   refine Wh_iH H (fun H => ?_) fun H => ?_
   ·refine Wh_o fun _ => ?_
    replace H := sI H; subst H
    exact Wh_end [(4, .d)] [] [] [] [] [] (by kernel_rfl)
   ·refine Wh_o fun _ => ?_
    exact Wh_to (N25 _ H) [] [] [] [] (by kernel_rfl) (by kernel_rfl)
  ·refine Wh_o fun _ => ?_
   replace H := sI H; subst H
   exact Wh_end [(4, .d)] [] [] [] [] [] (by kernel_rfl)
def ir_laws_eqTopo : L :=
.seq (.reg [.bx 2 (.t 0),.bx 3 (.t 1),.mv 4 (.c (.bool false))])
 (.seq (.seq (.reg [.fa 5 (.t 2) 0,.ld 6 (.t 5) 1 false,.fa 7 (.t 3) 0,.ld 8 (.t 7) 1 false,.cq 9 F.laws_eqIntS [(.t 6), (.t 8)],.un 10 (.t 9)])
 (.cond (.t 10) (.seq (.reg [.mv 4 (.c (.bool false))])
 (.gw (.ret)))
 (.skip)))
 (.seq (.seq (.reg [.fa 11 (.t 2) 1,.ld 12 (.t 11) 1 false,.fa 13 (.t 3) 1,.ld 14 (.t 13) 1 false,.cq 15 F.laws_eqNodeS [(.t 12), (.t 14)],.un 16 (.t 15)])
 (.cond (.t 16) (.seq (.reg [.mv 4 (.c (.bool false))])
 (.gw (.ret)))
 (.skip)))
 (.seq (.reg [.mv 4 (.c (.bool true))])
 (.gw (.ret)))))
def rs_laws_eqTopo : List Rv := [.t 4]
theorem ck_laws_eqTopo : chkFn Tryz.prog F.laws_eqTopo 2 ir_laws_eqTopo rs_laws_eqTopo = true := by kernel_rfl
def laws_eqTopo (a1 : Topo) (b2 : Topo) : Option Bool :=
 (laws_eqIntS a1.parents b2.parents).bind fun b3 => bif (!b3) then (some false) else ((laws_eqNodeS a1.nodes b2.nodes).bind fun b4 => bif (!b4) then (some false) else (some true))
theorem laws_eqTopo_ok {a1 : Topo} {b2 : Topo} {r : Bool} (H : laws_eqTopo a1 b2 = some r) : Snd Tryz.prog F.laws_eqTopo [eTopoT .rd a1, eTopoT .rd b2] (.bool r) [] := by
 refine snd_g ck_laws_eqTopo rfl (by simp) ?_
 unfold laws_eqTopo at H
 obtain ⟨b3, h3, H⟩ := bB H
 refine Wh_go 99 [.c 9 (laws_eqIntS_ok h3)] (by kernel_rfl) fun _ => ?_
 refine Wh_iH H (fun H => ?_) fun H => ?_
 ·refine Wh_o fun _ => ?_
  replace H := sI H; subst H
  exact Wh_end [(4, .d)] [] [] [] [] [] (by kernel_rfl)
 ·obtain ⟨b4, h4, H⟩ := bB H
  refine Wh_go 99 [.c 15 (laws_eqNodeS_ok h4)] (by kernel_rfl) fun _ => ?_
  refine Wh_iH H (fun H => ?_) fun H => ?_
  ·refine Wh_o fun _ => ?_
   replace H := sI H; subst H
   exact Wh_end [(4, .d)] [] [] [] [] [] (by kernel_rfl)
  ·refine Wh_o fun _ => ?_
   replace H := sI H; subst H
   exact Wh_end [(4, .d)] [] [] [] [] [] (by kernel_rfl)
def ir_laws_toJob : L :=
.seq (.reg [.bx 1 (.t 0),.al 2 [.int .i64 0, .int .i64 0, .int .i64 0, .int .i64 0, .int .i64 0, .int .i64 0, .int .i64 0, .int .i64 0, .int .i64 0, .int .i64 0, .int .i64 0]])
 (.seq (.reg [.al 3 [.int .i64 0, .int .i64 0, .int .i64 0, .int .i64 0, .int .i64 0, .int .i64 0, .int .i64 0, .int .i64 0, .int .i64 0, .int .i64 0, .int .i64 0]])
 (.seq (.reg [.fa 4 (.t 1) 0,.ld 5 (.t 4) 1 false,.fa 6 (.t 3) 0,.st (.t 6) (.t 5) 1])
 (.seq (.reg [.fa 7 (.t 1) 1,.ld 8 (.t 7) 1 false,.fa 9 (.t 3) 1,.st (.t 9) (.t 8) 1])
 (.seq (.reg [.fa 10 (.t 1) 2,.ld 11 (.t 10) 1 false,.fa 12 (.t 3) 2,.st (.t 12) (.t 11) 1])
 (.seq (.reg [.fa 13 (.t 1) 3,.ld 14 (.t 13) 3 true,.cq 15 F.laws_toVec [(.t 14)],.fa 16 (.t 3) 3,.st (.t 16) (.t 15) 3])
 (.seq (.reg [.fa 17 (.t 1) 6,.ld 18 (.t 17) 3 true,.cq 19 F.laws_toVec [(.t 18)],.fa 20 (.t 3) 6,.st (.t 20) (.t 19) 3])
 (.seq (.reg [.fa 21 (.t 1) 9,.ld 22 (.t 21) 1 false,.fa 23 (.t 3) 9,.st (.t 23) (.t 22) 1])
 (.seq (.reg [.fa 24 (.t 1) 10,.ld 25 (.t 24) 1 false,.fa 26 (.t 3) 10,.st (.t 26) (.t 25) 1])
 (.seq (.reg [.ld 27 (.t 3) 11 true,.st (.t 2) (.t 27) 11])
 (.gw (.ret)))))))))))
def rs_laws_toJob : List Rv := [.c 2 11 true]
theorem ck_laws_toJob : chkFn Tryz.prog F.laws_toJob 1 ir_laws_toJob rs_laws_toJob = true := by kernel_rfl
def laws_toJob_o (a1 : Job) : Option Job :=
 some (Job.mk a1.id a1.prio a1.nodes (laws_toVec a1.need) (laws_toVec a1.lic) a1.wall a1.level)
theorem laws_toJob_o_ok {a1 : Job} {r : Job} (H : laws_toJob_o a1 = some r) : Snd Tryz.prog F.laws_toJob [eJob a1] (eJob r) [] := by
 refine snd_g ck_laws_toJob rfl (by simp) ?_
 unfold laws_toJob_o at H
 refine Wh_go 99 [.c 15 (laws_toVec_ok a1.need), .c 19 (laws_toVec_ok a1.lic)] (by kernel_rfl) fun _ => ?_
 replace H := sI H; subst H
 exact Wh_end [(2, .d)] [(2, [])] [] [] [] [] (by kernel_rfl)
def laws_toJob (a1 : Job) : Job :=
 (Job.mk a1.id a1.prio a1.nodes (laws_toVec a1.need) (laws_toVec a1.lic) a1.wall a1.level)
theorem laws_toJob_e (a1 : Job) : laws_toJob_o a1 = some (laws_toJob a1) := by
 unfold laws_toJob_o laws_toJob
 first | rfl | simp only [bif_some]
theorem laws_toJob_ok (a1 : Job) : Snd Tryz.prog F.laws_toJob [eJob a1] (eJob (laws_toJob a1)) [] := laws_toJob_o_ok (laws_toJob_e a1)
def ir_laws_toBoolS : L :=
.seq (.reg [.mv 2 (.c (.nl))])
 (.seq (.reg [.mv 5 (.t 0),.ln 6 (.t 5),.ms 7 1 1 [.bool false] (.t 6),.mv 3 (.t 7)])
 (.seq (.seq (.reg [.mv 4 (.c (.int .i64 0))])
 (.blk 0 (.loop (.gw (.seq (.seq (.reg [.mv 8 (.t 4),.mv 9 (.t 0),.ln 10 (.t 9),.bi 11 .lss (.t 8) (.t 10)])
 (.cond (.t 11) (.skip)
 (.exit 0)))
 (.seq (.blk 1 (.reg [.mv 14 (.t 3),.mv 15 (.t 4),.mv 16 (.t 0),.mv 17 (.t 4),.ia 18 (.t 16) (.t 17) 1,.ld 19 (.t 18) 1 false,.ia 20 (.t 14) (.t 15) 1,.st (.t 20) (.t 19) 1]))
 (.reg [.mv 12 (.t 4),.bi 13 .add (.t 12) (.c (.int .i64 1)),.mv 4 (.t 13)])))))))
 (.seq (.reg [.mv 21 (.t 3),.mv 2 (.t 21)])
 (.gw (.ret)))))
def rs_laws_toBoolS : List Rv := [.t 2]
theorem ck_laws_toBoolS : chkFn Tryz.prog F.laws_toBoolS 1 ir_laws_toBoolS rs_laws_toBoolS = true := by kernel_rfl
def laws_toBoolS_b13 (a1 : List Bool) (v4 : Int × (List Bool)) (k4 : (Int × (List Bool)) → Option (List Bool)) : Option (List Bool) :=
 bif (decide (v4.1 < (a1.length : Int))) then ((idx a1 v4.1).bind fun e6 => (idx v4.2 v4.1).bind fun _ => k4 ((w64 (v4.1 + 1)), (v4.2.set v4.1.toNat e6))) else (some v4.2)
def laws_toBoolS (a1 : List Bool) : Option (List Bool) :=
 (mkL 1 (a1.length : Int) false).bind fun xs2 => whl (laws_toBoolS_b13 a1) 9223372036854775807 (0, xs2)
theorem laws_toBoolS_ok {a1 : List Bool} {r : (List Bool)} (H : laws_toBoolS a1 = some r) : Snd Tryz.prog F.laws_toBoolS [.sl .rd 1 (a1.map eBo)] (.sl .nw 1 (r.map eBo)) [] := by
 refine snd_g ck_laws_toBoolS rfl (by simp) ?_
 unfold laws_toBoolS at H
 obtain ⟨xs2, h2, H⟩ := bB H
 refine Wh_go 99 [.u 6 (.ln _ _ fun _ => lm a1 eBo), .u 7 (.ms _ _ _ _ fun _ => mkL_map eBo h2)] (by kernel_rfl) fun q3 => ?_
 refine Wh_whl (fun (v4 : Int × (List Bool)) => ⟨[(0, .sl .rd 1 (a1.map eBo)), (3, .sref 7), (4, .int .i64 v4.1)], [], [], [(7, ⟨1, v4.2.map eBo, false⟩)]⟩) [] [] [] [] (by kernel_rfl) (by kernel_rfl) H (fun v4 I m k4 H N13 => ?_)
 unfold laws_toBoolS_b13 at H
 refine Wh_go 99 [.u 10 (.ln _ _ fun _ => lm a1 eBo)] (by kernel_rfl) fun q5 => ?_
 refine Wh_iH H (fun H => ?_) fun H => ?_
 ·obtain ⟨e6, h6, H⟩ := bB H
  obtain ⟨e7, h7, H⟩ := bB H
  refine Wh_go 99 [.u 18 (.ix _ _ _ fun _ => idx_map eBo h6), .u 20 (.ix _ _ _ fun _ => idx_map eBo h7), .u 1000000 (.sto _ _ _ (eBo e6) _ (fun _ => gm eBo (idx_get h7)) (fun _ => set_map ..))] (by kernel_rfl) fun _ => ?_
  exact Wh_to (N13 _ H) [] [] [] [] (by kernel_rfl) (by kernel_rfl)
 ·refine Wh_o fun _ => ?_
  replace H := sI H; subst H
  exact Wh_end [(2, .f)] [] [] [7] [] [⟨_, nw_Bo v4.2⟩] (by kernel_rfl)
def ir_laws_szBoolS : L :=
.seq (.reg [.mv 4 (.c (.int .i64 0))])
 (.seq (.reg [.mv 5 (.t 1),.mv 6 (.t 0),.ln 7 (.t 6),.bi 8 .sub (.t 5) (.t 7),.mv 1 (.t 8)])
 (.seq (.seq (.reg [.mv 9 (.t 1),.bi 10 .lss (.t 9) (.c (.int .i64 0))])
 (.cond (.t 10) (.seq (.reg [.mv 4 (.c (.int .i64 (-1)))])
 (.gw (.ret)))
 (.skip)))
 (.seq (.reg [.mv 11 (.t 1),.mv 4 (.t 11)])
 (.gw (.ret)))))
def rs_laws_szBoolS : List Rv := [.t 4]
theorem ck_laws_szBoolS : chkFn Tryz.prog F.laws_szBoolS 2 ir_laws_szBoolS rs_laws_szBoolS = true := by kernel_rfl
def laws_szBoolS_o (a1 : List Bool) (left2 : Int) : Option Int :=
 bif (decide ((w64 (left2 - (a1.length : Int))) < 0)) then (some (-1)) else (some (w64 (left2 - (a1.length : Int))))
theorem laws_szBoolS_o_ok {a1 : List Bool} {left2 : Int} {r : Int} (H : laws_szBoolS_o a1 left2 = some r) : Snd Tryz.prog F.laws_szBoolS [.sl .rd 1 (a1.map eBo), .int .i64 left2] (.int .i64 r) [] := by
 refine snd_g ck_laws_szBoolS rfl (by simp) ?_
 unfold laws_szBoolS_o at H
 refine Wh_go 99 [.u 7 (.ln _ _ fun _ => lm a1 eBo)] (by kernel_rfl) fun q3 => ?_
 refine Wh_iH H (fun H => ?_) fun H => ?_
 ·refine Wh_o fun _ => ?_
  replace H := sI H; subst H
  exact Wh_end [(4, .d)] [] [] [] [] [] (by kernel_rfl)
 ·refine Wh_o fun _ => ?_
  replace H := sI H; subst H
  exact Wh_end [(4, .d)] [] [] [] [] [] (by kernel_rfl)
def laws_szBoolS (a1 : List Bool) (left2 : Int) : Int :=
 bif (decide ((w64 (left2 - (a1.length : Int))) < 0)) then ((-1)) else ((w64 (left2 - (a1.length : Int))))
theorem laws_szBoolS_e (a1 : List Bool) (left2 : Int) : laws_szBoolS_o a1 left2 = some (laws_szBoolS a1 left2) := by
 unfold laws_szBoolS_o laws_szBoolS
 first | rfl | simp only [bif_some]
theorem laws_szBoolS_ok (a1 : List Bool) (left2 : Int) : Snd Tryz.prog F.laws_szBoolS [.sl .rd 1 (a1.map eBo), .int .i64 left2] (.int .i64 (laws_szBoolS a1 left2)) [] := laws_szBoolS_o_ok (laws_szBoolS_e a1 left2)
def ir_laws_eqBoolS : L :=
.seq (.reg [.mv 4 (.c (.bool false))])
 (.seq (.seq (.reg [.mv 6 (.t 0),.ln 7 (.t 6),.mv 8 (.t 1),.ln 9 (.t 8),.bi 10 .neq (.t 7) (.t 9)])
 (.cond (.t 10) (.seq (.reg [.mv 4 (.c (.bool false))])
 (.gw (.ret)))
 (.skip)))
 (.seq (.seq (.reg [.mv 5 (.c (.int .i64 0))])
 (.blk 0 (.loop (.gw (.seq (.seq (.reg [.mv 11 (.t 5),.mv 12 (.t 0),.ln 13 (.t 12),.bi 14 .lss (.t 11) (.t 13)])
 (.cond (.t 14) (.skip)
 (.exit 0)))
 (.seq (.blk 1 (.seq (.rq 9 [.mv 17 (.t 0),.mv 18 (.t 5),.ia 19 (.t 17) (.t 18) 1,.ld 20 (.t 19) 1 false,.mv 21 (.t 1),.mv 22 (.t 5),.ia 23 (.t 21) (.t 22) 1,.ld 24 (.t 23) 1 false,.eb 25 true (.t 20) (.t 24)])
 (.cond (.t 25) (.seq (.reg [.mv 4 (.c (.bool false))])
 (.gw (.ret)))
 (.skip))))
 (.reg [.mv 15 (.t 5),.bi 16 .add (.t 15) (.c (.int .i64 1)),.mv 5 (.t 16)])))))))
 (.seq (.reg [.mv 4 (.c (.bool true))])
 (.gw (.ret)))))
def rs_laws_eqBoolS : List Rv := [.t 4]
theorem ck_laws_eqBoolS : chkFn Tryz.prog F.laws_eqBoolS 2 ir_laws_eqBoolS rs_laws_eqBoolS = true := by kernel_rfl
def laws_eqBoolS_b25 (a1 : List Bool) (b2 : List Bool) (v4 : Int) (k4 : Int → Option Bool) : Option Bool :=
 bif (decide (v4 < (a1.length : Int))) then ((idx a1 v4).bind fun e6 => (idx b2 v4).bind fun e7 => bif (!(e6 == e7)) then (some false) else (k4 (w64 (v4 + 1)))) else (some true)
def laws_eqBoolS (a1 : List Bool) (b2 : List Bool) : Option Bool :=
 bif ((a1.length : Int) != (b2.length : Int)) then (some false) else (whl (laws_eqBoolS_b25 a1 b2) 9223372036854775807 0)
theorem laws_eqBoolS_ok {a1 : List Bool} {b2 : List Bool} {r : Bool} (H : laws_eqBoolS a1 b2 = some r) : Snd Tryz.prog F.laws_eqBoolS [.sl .rd 1 (a1.map eBo), .sl .rd 1 (b2.map eBo)] (.bool r) [] := by
 refine snd_g ck_laws_eqBoolS rfl (by simp) ?_
 unfold laws_eqBoolS at H
 refine Wh_go 99 [.u 7 (.ln _ _ fun _ => lm a1 eBo), .u 9 (.ln _ _ fun _ => lm b2 eBo)] (by kernel_rfl) fun q3 => ?_
 refine Wh_iH H (fun H => ?_) fun H => ?_
 ·refine Wh_o fun _ => ?_
  replace H := sI H; subst H
  exact Wh_end [(4, .d)] [] [] [] [] [] (by kernel_rfl)
 ·refine Wh_o fun _ => ?_
  refine Wh_whl (fun (v4 : Int) => ⟨[(0, .sl .rd 1 (a1.map eBo)), (1, .sl .rd 1 (b2.map eBo)), (5, .int .i64 v4)], [], [], []⟩) [] [] [] [] (by kernel_rfl) (by kernel_rfl) H (fun v4 I m k4 H N25 => ?_)
  unfold laws_eqBoolS_b25 at H
  refine Wh_go 99 [.u 13 (.ln _ _ fun _ => lm a1 eBo)] (by kernel_rfl) fun q5 => ?_
  refine Wh_iH H (fun H => ?_) fun H => ?_
  ·obtain ⟨e6, h6, H⟩ := bB H
   obtain ⟨e7, h7, H⟩ := bB H
   refine Wh_go 99 [.u 19 (.ix _ _ _ fun _ => idx_map eBo h6), .u 23 (.ix _ _ _ fun _ => idx_map eBo h7)] (by kernel_rfl) fun _ => ?_
   refine Wh_iH H (fun H => ?_) fun H => ?_
   ·refine Wh_o fun _ => ?_
    replace H := sI H; subst H
    exact Wh_end [(4, .d)] [] [] [] [] [] (by kernel_rfl)
   ·refine Wh_o fun _ => ?_
    exact Wh_to (N25 _ H) [] [] [] [] (by kernel_rfl) (by kernel_rfl)
  ·refine Wh_o fun _ => ?_
   replace H := sI H; subst H
   exact Wh_end [(4, .d)] [] [] [] [] [] (by kernel_rfl)
def ir_laws_toJobS : L :=
.seq (.reg [.mv 2 (.c (.nl))])
 (.seq (.reg [.mv 5 (.t 0),.ln 6 (.t 5),.ms 7 11 88 [.int .i64 0, .int .i64 0, .int .i64 0, .int .i64 0, .int .i64 0, .int .i64 0, .int .i64 0, .int .i64 0, .int .i64 0, .int .i64 0, .int .i64 0] (.t 6),.mv 3 (.t 7)])
 (.seq (.seq (.reg [.mv 4 (.c (.int .i64 0))])
 (.blk 0 (.loop (.gw (.seq (.seq (.reg [.mv 8 (.t 4),.mv 9 (.t 0),.ln 10 (.t 9),.bi 11 .lss (.t 8) (.t 10)])
 (.cond (.t 11) (.skip)
 (.exit 0)))
 (.seq (.blk 1 (.reg [.mv 14 (.t 3),.mv 15 (.t 4),.mv 16 (.t 0),.mv 17 (.t 4),.ia 18 (.t 16) (.t 17) 11,.ld 19 (.t 18) 11 true,.cq 20 F.laws_toJob [(.t 19)],.ia 21 (.t 14) (.t 15) 11,.st (.t 21) (.t 20) 11]))
 (.reg [.mv 12 (.t 4),.bi 13 .add (.t 12) (.c (.int .i64 1)),.mv 4 (.t 13)])))))))
 (.seq (.reg [.mv 22 (.t 3),.mv 2 (.t 22)])
 (.gw (.ret)))))
def rs_laws_toJobS : List Rv := [.t 2]
theorem ck_laws_toJobS : chkFn Tryz.prog F.laws_toJobS 1 ir_laws_toJobS rs_laws_toJobS = true := by kernel_rfl
def laws_toJobS_b13 (a1 : List Job) (v4 : Int × (List Job)) (k4 : (Int × (List Job)) → Option (List Job)) : Option (List Job) :=
 bif (decide (v4.1 < (a1.length : Int))) then ((idx a1 v4.1).bind fun e6 => (idx v4.2 v4.1).bind fun _ => k4 ((w64 (v4.1 + 1)), (v4.2.set v4.1.toNat (Job.mk ((laws_toJob e6).id) ((laws_toJob e6).prio) ((laws_toJob e6).nodes) ((laws_toJob e6).need) ((laws_toJob e6).lic) ((laws_toJob e6).wall) ((laws_toJob e6).level))))) else (some v4.2)
def laws_toJobS (a1 : List Job) : Option (List Job) :=
 (mkL 88 (a1.length : Int) (Job.mk 0 0 0 (Vec.mk 0 0 0) (Vec.mk 0 0 0) 0 0)).bind fun xs2 => whl (laws_toJobS_b13 a1) 9223372036854775807 (0, xs2)
theorem laws_toJobS_ok {a1 : List Job} {r : (List Job)} (H : laws_toJobS a1 = some r) : Snd Tryz.prog F.laws_toJobS [.sl .rd 11 (a1.map eJob)] (.sl .nw 11 (r.map eJob)) [] := by
 refine snd_g ck_laws_toJobS rfl (by simp) ?_
 unfold laws_toJobS at H
 obtain ⟨xs2, h2, H⟩ := bB H
 refine Wh_go 99 [.u 6 (.ln _ _ fun _ => lm a1 eJob), .u 7 (.ms _ _ _ _ fun _ => mkL_map eJob h2)] (by kernel_rfl) fun q3 => ?_
 refine Wh_whl (fun (v4 : Int × (List Job)) => ⟨[(0, .sl .rd 11 (a1.map eJob)), (3, .sref 7), (4, .int .i64 v4.1)], [], [], [(7, ⟨11, v4.2.map eJob, false⟩)]⟩) [] [] [] [] (by kernel_rfl) (by kernel_rfl) H (fun v4 I m k4 H N13 => ?_)
 unfold laws_toJobS_b13 at H
 refine Wh_go 99 [.u 10 (.ln _ _ fun _ => lm a1 eJob)] (by kernel_rfl) fun q5 => ?_
 refine Wh_iH H (fun H => ?_) fun H => ?_
 ·obtain ⟨e6, h6, H⟩ := bB H
  obtain ⟨e7, h7, H⟩ := bB H
  refine Wh_go 99 [.u 18 (.ix _ _ _ fun _ => idx_map eJob h6), .c 20 (laws_toJob_ok e6), .u 21 (.ix _ _ _ fun _ => idx_map eJob h7), .u 1000000 (.sto _ _ _ (eJob (Job.mk ((laws_toJob e6).id) ((laws_toJob e6).prio) ((laws_toJob e6).nodes) ((laws_toJob e6).need) ((laws_toJob e6).lic) ((laws_toJob e6).wall) ((laws_toJob e6).level))) _ (fun _ => gm eJob (idx_get h7)) (fun _ => set_map ..))] (by kernel_rfl) fun _ => ?_
  exact Wh_to (N13 _ H) [] [] [] [] (by kernel_rfl) (by kernel_rfl)
 ·refine Wh_o fun _ => ?_
  replace H := sI H; subst H
  exact Wh_end [(2, .f)] [] [] [7] [] [⟨_, nw_Job v4.2⟩] (by kernel_rfl)
def ir_laws_szJobS : L :=
.seq (.reg [.mv 4 (.c (.int .i64 0))])
 (.seq (.reg [.mv 5 (.t 1),.mv 6 (.t 0),.ln 7 (.t 6),.bi 8 .sub (.t 5) (.t 7),.mv 1 (.t 8)])
 (.seq (.seq (.reg [.mv 9 (.t 1),.bi 10 .lss (.t 9) (.c (.int .i64 0))])
 (.cond (.t 10) (.seq (.reg [.mv 4 (.c (.int .i64 (-1)))])
 (.gw (.ret)))
 (.skip)))
 (.seq (.reg [.mv 11 (.t 1),.mv 4 (.t 11)])
 (.gw (.ret)))))
def rs_laws_szJobS : List Rv := [.t 4]
theorem ck_laws_szJobS : chkFn Tryz.prog F.laws_szJobS 2 ir_laws_szJobS rs_laws_szJobS = true := by kernel_rfl
def laws_szJobS_o (a1 : List Job) (left2 : Int) : Option Int :=
 bif (decide ((w64 (left2 - (a1.length : Int))) < 0)) then (some (-1)) else (some (w64 (left2 - (a1.length : Int))))
theorem laws_szJobS_o_ok {a1 : List Job} {left2 : Int} {r : Int} (H : laws_szJobS_o a1 left2 = some r) : Snd Tryz.prog F.laws_szJobS [.sl .rd 11 (a1.map eJob), .int .i64 left2] (.int .i64 r) [] := by
 refine snd_g ck_laws_szJobS rfl (by simp) ?_
 unfold laws_szJobS_o at H
 refine Wh_go 99 [.u 7 (.ln _ _ fun _ => lm a1 eJob)] (by kernel_rfl) fun q3 => ?_
 refine Wh_iH H (fun H => ?_) fun H => ?_
 ·refine Wh_o fun _ => ?_
  replace H := sI H; subst H
  exact Wh_end [(4, .d)] [] [] [] [] [] (by kernel_rfl)
 ·refine Wh_o fun _ => ?_
  replace H := sI H; subst H
  exact Wh_end [(4, .d)] [] [] [] [] [] (by kernel_rfl)
def laws_szJobS (a1 : List Job) (left2 : Int) : Int :=
 bif (decide ((w64 (left2 - (a1.length : Int))) < 0)) then ((-1)) else ((w64 (left2 - (a1.length : Int))))
theorem laws_szJobS_e (a1 : List Job) (left2 : Int) : laws_szJobS_o a1 left2 = some (laws_szJobS a1 left2) := by
 unfold laws_szJobS_o laws_szJobS
 first | rfl | simp only [bif_some]
theorem laws_szJobS_ok (a1 : List Job) (left2 : Int) : Snd Tryz.prog F.laws_szJobS [.sl .rd 11 (a1.map eJob), .int .i64 left2] (.int .i64 (laws_szJobS a1 left2)) [] := laws_szJobS_o_ok (laws_szJobS_e a1 left2)
def ir_laws_eqJob : L :=
.seq (.reg [.bx 2 (.t 0),.bx 3 (.t 1),.mv 4 (.c (.bool false))])
 (.seq (.seq (.reg [.fa 5 (.t 2) 0,.ld 6 (.t 5) 1 false,.fa 7 (.t 3) 0,.ld 8 (.t 7) 1 false,.bi 9 .neq (.t 6) (.t 8)])
 (.cond (.t 9) (.seq (.reg [.mv 4 (.c (.bool false))])
 (.gw (.ret)))
 (.skip)))
 (.seq (.seq (.reg [.fa 10 (.t 2) 1,.ld 11 (.t 10) 1 false,.fa 12 (.t 3) 1,.ld 13 (.t 12) 1 false,.bi 14 .neq (.t 11) (.t 13)])
 (.cond (.t 14) (.seq (.reg [.mv 4 (.c (.bool false))])
 (.gw (.ret)))
 (.skip)))
 (.seq (.seq (.reg [.fa 15 (.t 2) 2,.ld 16 (.t 15) 1 false,.fa 17 (.t 3) 2,.ld 18 (.t 17) 1 false,.bi 19 .neq (.t 16) (.t 18)])
 (.cond (.t 19) (.seq (.reg [.mv 4 (.c (.bool false))])
 (.gw (.ret)))
 (.skip)))
 (.seq (.seq (.reg [.fa 20 (.t 2) 3,.ld 21 (.t 20) 3 true,.fa 22 (.t 3) 3,.ld 23 (.t 22) 3 true,.cq 24 F.laws_eqVec [(.t 21), (.t 23)],.un 25 (.t 24)])
 (.cond (.t 25) (.seq (.reg [.mv 4 (.c (.bool false))])
 (.gw (.ret)))
 (.skip)))
 (.seq (.seq (.reg [.fa 26 (.t 2) 6,.ld 27 (.t 26) 3 true,.fa 28 (.t 3) 6,.ld 29 (.t 28) 3 true,.cq 30 F.laws_eqVec [(.t 27), (.t 29)],.un 31 (.t 30)])
 (.cond (.t 31) (.seq (.reg [.mv 4 (.c (.bool false))])
 (.gw (.ret)))
 (.skip)))
 (.seq (.seq (.reg [.fa 32 (.t 2) 9,.ld 33 (.t 32) 1 false,.fa 34 (.t 3) 9,.ld 35 (.t 34) 1 false,.bi 36 .neq (.t 33) (.t 35)])
 (.cond (.t 36) (.seq (.reg [.mv 4 (.c (.bool false))])
 (.gw (.ret)))
 (.skip)))
 (.seq (.seq (.reg [.fa 37 (.t 2) 10,.ld 38 (.t 37) 1 false,.fa 39 (.t 3) 10,.ld 40 (.t 39) 1 false,.bi 41 .neq (.t 38) (.t 40)])
 (.cond (.t 41) (.seq (.reg [.mv 4 (.c (.bool false))])
 (.gw (.ret)))
 (.skip)))
 (.seq (.reg [.mv 4 (.c (.bool true))])
 (.gw (.ret))))))))))
def rs_laws_eqJob : List Rv := [.t 4]
theorem ck_laws_eqJob : chkFn Tryz.prog F.laws_eqJob 2 ir_laws_eqJob rs_laws_eqJob = true := by kernel_rfl
def laws_eqJob_o (a1 : Job) (b2 : Job) : Option Bool :=
 bif (a1.id != b2.id) then (some false) else (bif (a1.prio != b2.prio) then (some false) else (bif (a1.nodes != b2.nodes) then (some false) else (bif (!(laws_eqVec a1.need b2.need)) then (some false) else (bif (!(laws_eqVec a1.lic b2.lic)) then (some false) else (bif (a1.wall != b2.wall) then (some false) else (bif (a1.level != b2.level) then (some false) else (some true)))))))
theorem laws_eqJob_o_ok {a1 : Job} {b2 : Job} {r : Bool} (H : laws_eqJob_o a1 b2 = some r) : Snd Tryz.prog F.laws_eqJob [eJob a1, eJob b2] (.bool r) [] := by
 refine snd_g ck_laws_eqJob rfl (by simp) ?_
 unfold laws_eqJob_o at H
 refine Wh_o fun _ => ?_
 refine Wh_iH H (fun H => ?_) fun H => ?_
 ·refine Wh_o fun _ => ?_
  replace H := sI H; subst H
  exact Wh_end [(4, .d)] [] [] [] [] [] (by kernel_rfl)
 ·refine Wh_o fun _ => ?_
  refine Wh_iH H (fun H => ?_) fun H => ?_
  ·refine Wh_o fun _ => ?_
   replace H := sI H; subst H
   exact Wh_end [(4, .d)] [] [] [] [] [] (by kernel_rfl)
  ·refine Wh_o fun _ => ?_
   refine Wh_iH H (fun H => ?_) fun H => ?_
   ·refine Wh_o fun _ => ?_
    replace H := sI H; subst H
    exact Wh_end [(4, .d)] [] [] [] [] [] (by kernel_rfl)
   ·refine Wh_go 99 [.c 24 (laws_eqVec_ok a1.need b2.need)] (by kernel_rfl) fun _ => ?_
    refine Wh_iH H (fun H => ?_) fun H => ?_
    ·refine Wh_o fun _ => ?_
     replace H := sI H; subst H
     exact Wh_end [(4, .d)] [] [] [] [] [] (by kernel_rfl)
    ·refine Wh_go 99 [.c 30 (laws_eqVec_ok a1.lic b2.lic)] (by kernel_rfl) fun _ => ?_
     refine Wh_iH H (fun H => ?_) fun H => ?_
     ·refine Wh_o fun _ => ?_
      replace H := sI H; subst H
      exact Wh_end [(4, .d)] [] [] [] [] [] (by kernel_rfl)
     ·refine Wh_o fun _ => ?_
      refine Wh_iH H (fun H => ?_) fun H => ?_
      ·refine Wh_o fun _ => ?_
       replace H := sI H; subst H
       exact Wh_end [(4, .d)] [] [] [] [] [] (by kernel_rfl)
      ·refine Wh_o fun _ => ?_
       refine Wh_iH H (fun H => ?_) fun H => ?_
       ·refine Wh_o fun _ => ?_
        replace H := sI H; subst H
        exact Wh_end [(4, .d)] [] [] [] [] [] (by kernel_rfl)
       ·refine Wh_o fun _ => ?_
        replace H := sI H; subst H
        exact Wh_end [(4, .d)] [] [] [] [] [] (by kernel_rfl)
def laws_eqJob (a1 : Job) (b2 : Job) : Bool :=
 bif (a1.id != b2.id) then (false) else (bif (a1.prio != b2.prio) then (false) else (bif (a1.nodes != b2.nodes) then (false) else (bif (!(laws_eqVec a1.need b2.need)) then (false) else (bif (!(laws_eqVec a1.lic b2.lic)) then (false) else (bif (a1.wall != b2.wall) then (false) else (bif (a1.level != b2.level) then (false) else (true)))))))
theorem laws_eqJob_e (a1 : Job) (b2 : Job) : laws_eqJob_o a1 b2 = some (laws_eqJob a1 b2) := by
 unfold laws_eqJob_o laws_eqJob
 first | rfl | simp only [bif_some]
theorem laws_eqJob_ok (a1 : Job) (b2 : Job) : Snd Tryz.prog F.laws_eqJob [eJob a1, eJob b2] (.bool (laws_eqJob a1 b2)) [] := laws_eqJob_o_ok (laws_eqJob_e a1 b2)
def ir_laws_eqJobS : L :=
.seq (.reg [.mv 4 (.c (.bool false))])
 (.seq (.seq (.reg [.mv 6 (.t 0),.ln 7 (.t 6),.mv 8 (.t 1),.ln 9 (.t 8),.bi 10 .neq (.t 7) (.t 9)])
 (.cond (.t 10) (.seq (.reg [.mv 4 (.c (.bool false))])
 (.gw (.ret)))
 (.skip)))
 (.seq (.seq (.reg [.mv 5 (.c (.int .i64 0))])
 (.blk 0 (.loop (.gw (.seq (.seq (.reg [.mv 11 (.t 5),.mv 12 (.t 0),.ln 13 (.t 12),.bi 14 .lss (.t 11) (.t 13)])
 (.cond (.t 14) (.skip)
 (.exit 0)))
 (.seq (.blk 1 (.seq (.rq 10 [.mv 17 (.t 0),.mv 18 (.t 5),.ia 19 (.t 17) (.t 18) 11,.ld 20 (.t 19) 11 true,.mv 21 (.t 1),.mv 22 (.t 5),.ia 23 (.t 21) (.t 22) 11,.ld 24 (.t 23) 11 true,.cq 25 F.laws_eqJob [(.t 20), (.t 24)],.un 26 (.t 25)])
 (.cond (.t 26) (.seq (.reg [.mv 4 (.c (.bool false))])
 (.gw (.ret)))
 (.skip))))
 (.reg [.mv 15 (.t 5),.bi 16 .add (.t 15) (.c (.int .i64 1)),.mv 5 (.t 16)])))))))
 (.seq (.reg [.mv 4 (.c (.bool true))])
 (.gw (.ret)))))
def rs_laws_eqJobS : List Rv := [.t 4]
theorem ck_laws_eqJobS : chkFn Tryz.prog F.laws_eqJobS 2 ir_laws_eqJobS rs_laws_eqJobS = true := by kernel_rfl
def laws_eqJobS_b25 (a1 : List Job) (b2 : List Job) (v4 : Int) (k4 : Int → Option Bool) : Option Bool :=
 bif (decide (v4 < (a1.length : Int))) then ((idx a1 v4).bind fun e6 => (idx b2 v4).bind fun e7 => bif (!(laws_eqJob e6 e7)) then (some false) else (k4 (w64 (v4 + 1)))) else (some true)
def laws_eqJobS (a1 : List Job) (b2 : List Job) : Option Bool :=
 bif ((a1.length : Int) != (b2.length : Int)) then (some false) else (whl (laws_eqJobS_b25 a1 b2) 9223372036854775807 0)
theorem laws_eqJobS_ok {a1 : List Job} {b2 : List Job} {r : Bool} (H : laws_eqJobS a1 b2 = some r) : Snd Tryz.prog F.laws_eqJobS [.sl .rd 11 (a1.map eJob), .sl .rd 11 (b2.map eJob)] (.bool r) [] := by
 refine snd_g ck_laws_eqJobS rfl (by simp) ?_
 unfold laws_eqJobS at H
 refine Wh_go 99 [.u 7 (.ln _ _ fun _ => lm a1 eJob), .u 9 (.ln _ _ fun _ => lm b2 eJob)] (by kernel_rfl) fun q3 => ?_
 refine Wh_iH H (fun H => ?_) fun H => ?_
 ·refine Wh_o fun _ => ?_
  replace H := sI H; subst H
  exact Wh_end [(4, .d)] [] [] [] [] [] (by kernel_rfl)
 ·refine Wh_o fun _ => ?_
  refine Wh_whl (fun (v4 : Int) => ⟨[(0, .sl .rd 11 (a1.map eJob)), (1, .sl .rd 11 (b2.map eJob)), (5, .int .i64 v4)], [], [], []⟩) [] [] [] [] (by kernel_rfl) (by kernel_rfl) H (fun v4 I m k4 H N25 => ?_)
  unfold laws_eqJobS_b25 at H
  refine Wh_go 99 [.u 13 (.ln _ _ fun _ => lm a1 eJob)] (by kernel_rfl) fun q5 => ?_
  refine Wh_iH H (fun H => ?_) fun H => ?_
  ·obtain ⟨e6, h6, H⟩ := bB H
   obtain ⟨e7, h7, H⟩ := bB H
   refine Wh_go 99 [.u 19 (.ix _ _ _ fun _ => idx_map eJob h6), .u 23 (.ix _ _ _ fun _ => idx_map eJob h7), .c 25 (laws_eqJob_ok e6 e7)] (by kernel_rfl) fun _ => ?_
   refine Wh_iH H (fun H => ?_) fun H => ?_
   ·refine Wh_o fun _ => ?_
    replace H := sI H; subst H
    exact Wh_end [(4, .d)] [] [] [] [] [] (by kernel_rfl)
   ·refine Wh_o fun _ => ?_
    exact Wh_to (N25 _ H) [] [] [] [] (by kernel_rfl) (by kernel_rfl)
  ·refine Wh_o fun _ => ?_
   replace H := sI H; subst H
   exact Wh_end [(4, .d)] [] [] [] [] [] (by kernel_rfl)
def ir_laws_toRun : L :=
.seq (.reg [.bx 1 (.t 0),.al 2 [.int .i64 0, .int .i64 0, .int .i64 0, .int .i64 0, .int .i64 0, .int .i64 0, .int .i64 0, .int .i64 0, .int .i64 0, .int .i64 0, .int .i64 0, .int .i64 0, .nl]])
 (.seq (.reg [.al 3 [.int .i64 0, .int .i64 0, .int .i64 0, .int .i64 0, .int .i64 0, .int .i64 0, .int .i64 0, .int .i64 0, .int .i64 0, .int .i64 0, .int .i64 0, .int .i64 0, .nl]])
 (.seq (.reg [.fa 4 (.t 1) 0,.ld 5 (.t 4) 11 true,.cq 6 F.laws_toJob [(.t 5)],.fa 7 (.t 3) 0,.st (.t 7) (.t 6) 11])
 (.seq (.reg [.fa 8 (.t 1) 11,.ld 9 (.t 8) 1 false,.fa 10 (.t 3) 11,.st (.t 10) (.t 9) 1])
 (.seq (.reg [.fa 11 (.t 1) 12,.ld 12 (.t 11) 1 false,.cq 13 F.laws_toIntS [(.t 12)],.fa 14 (.t 3) 12,.st (.t 14) (.t 13) 1])
 (.seq (.reg [.ld 15 (.t 3) 13 true,.st (.t 2) (.t 15) 13])
 (.gw (.ret)))))))
def rs_laws_toRun : List Rv := [.c 2 13 true]
theorem ck_laws_toRun : chkFn Tryz.prog F.laws_toRun 1 ir_laws_toRun rs_laws_toRun = true := by kernel_rfl
def laws_toRun (a1 : Run) : Option Run :=
 (laws_toIntS a1.nodes).bind fun y2 => some (Run.mk (Job.mk ((laws_toJob a1.job).id) ((laws_toJob a1.job).prio) ((laws_toJob a1.job).nodes) ((laws_toJob a1.job).need) ((laws_toJob a1.job).lic) ((laws_toJob a1.job).wall) ((laws_toJob a1.job).level)) a1.t y2)
theorem laws_toRun_ok {a1 : Run} {r : Run} (H : laws_toRun a1 = some r) : Snd Tryz.prog F.laws_toRun [eRunT .rd a1] (eRunT .nw r) [] := by
 refine snd_g ck_laws_toRun rfl (by simp) ?_
 unfold laws_toRun at H
 obtain ⟨y2, h2, H⟩ := bB H
 refine Wh_go 99 [.c 6 (laws_toJob_ok a1.job), .c 13 (laws_toIntS_ok h2)] (by kernel_rfl) fun _ => ?_
 replace H := sI H; subst H
 exact Wh_end [(2, .d)] [(2, [])] [] [] [] [⟨_, nw_I y2⟩] (by kernel_rfl)
def ir_laws_toRunS : L :=
.seq (.reg [.mv 2 (.c (.nl))])
 (.seq (.reg [.mv 5 (.t 0),.ln 6 (.t 5),.ms 7 13 120 [.int .i64 0, .int .i64 0, .int .i64 0, .int .i64 0, .int .i64 0, .int .i64 0, .int .i64 0, .int .i64 0, .int .i64 0, .int .i64 0, .int .i64 0, .int .i64 0, .sl .nw 1 []] (.t 6),.mv 3 (.t 7)])
 (.seq (.seq (.reg [.mv 4 (.c (.int .i64 0))])
 (.blk 0 (.loop (.gw (.seq (.seq (.reg [.mv 8 (.t 4),.mv 9 (.t 0),.ln 10 (.t 9),.bi 11 .lss (.t 8) (.t 10)])
 (.cond (.t 11) (.skip)
 (.exit 0)))
 (.seq (.blk 1 (.reg [.mv 14 (.t 3),.mv 15 (.t 4),.mv 16 (.t 0),.mv 17 (.t 4),.ia 18 (.t 16) (.t 17) 13,.ld 19 (.t 18) 13 true,.cq 20 F.laws_toRun [(.t 19)],.ia 21 (.t 14) (.t 15) 13,.st (.t 21) (.t 20) 13]))
 (.reg [.mv 12 (.t 4),.bi 13 .add (.t 12) (.c (.int .i64 1)),.mv 4 (.t 13)])))))))
 (.seq (.reg [.mv 22 (.t 3),.mv 2 (.t 22)])
 (.gw (.ret)))))
def rs_laws_toRunS : List Rv := [.t 2]
theorem ck_laws_toRunS : chkFn Tryz.prog F.laws_toRunS 1 ir_laws_toRunS rs_laws_toRunS = true := by kernel_rfl
def laws_toRunS_b13 (a1 : List Run) (v4 : Int × (List Run)) (k4 : (Int × (List Run)) → Option (List Run)) : Option (List Run) :=
 bif (decide (v4.1 < (a1.length : Int))) then ((idx a1 v4.1).bind fun e6 => (laws_toRun e6).bind fun y7 => (idx v4.2 v4.1).bind fun _ => k4 ((w64 (v4.1 + 1)), (v4.2.set v4.1.toNat y7))) else (some v4.2)
def laws_toRunS (a1 : List Run) : Option (List Run) :=
 (mkL 120 (a1.length : Int) (Run.mk (Job.mk 0 0 0 (Vec.mk 0 0 0) (Vec.mk 0 0 0) 0 0) 0 [])).bind fun xs2 => whl (laws_toRunS_b13 a1) 9223372036854775807 (0, xs2)
theorem laws_toRunS_ok {a1 : List Run} {r : (List Run)} (H : laws_toRunS a1 = some r) : Snd Tryz.prog F.laws_toRunS [.sl .rd 13 (a1.map (eRunT .rd))] (.sl .nw 13 (r.map (eRunT .nw))) [] := by
 refine snd_g ck_laws_toRunS rfl (by simp) ?_
 unfold laws_toRunS at H
 obtain ⟨xs2, h2, H⟩ := bB H
 refine Wh_go 99 [.u 6 (.ln _ _ fun _ => lm a1 (eRunT .rd)), .u 7 (.ms _ _ _ _ fun _ => mkL_map (eRunT .nw) h2)] (by kernel_rfl) fun q3 => ?_
 refine Wh_whl (fun (v4 : Int × (List Run)) => ⟨[(0, .sl .rd 13 (a1.map (eRunT .rd))), (3, .sref 7), (4, .int .i64 v4.1)], [], [], [(7, ⟨13, v4.2.map (eRunT .nw), false⟩)]⟩) [] [] [] [] (by kernel_rfl) (by kernel_rfl) H (fun v4 I m k4 H N13 => ?_)
 unfold laws_toRunS_b13 at H
 refine Wh_go 99 [.u 10 (.ln _ _ fun _ => lm a1 (eRunT .rd))] (by kernel_rfl) fun q5 => ?_
 refine Wh_iH H (fun H => ?_) fun H => ?_
 ·obtain ⟨e6, h6, H⟩ := bB H
  obtain ⟨y7, h7, H⟩ := bB H
  obtain ⟨e8, h8, H⟩ := bB H
  refine Wh_go 99 [.u 18 (.ix _ _ _ fun _ => idx_map (eRunT .rd) h6), .c 20 (laws_toRun_ok h7), .u 21 (.ix _ _ _ fun _ => idx_map (eRunT .nw) h8), .u 1000000 (.sto _ _ _ (eRunT .nw y7) _ (fun _ => gm (eRunT .nw) (idx_get h8)) (fun _ => set_map ..))] (by kernel_rfl) fun _ => ?_
  exact Wh_to (N13 _ H) [] [] [] [] (by kernel_rfl) (by kernel_rfl)
 ·refine Wh_o fun _ => ?_
  replace H := sI H; subst H
  exact Wh_end [(2, .f)] [] [] [7] [] [⟨_, nw_RunT v4.2⟩] (by kernel_rfl)
def ir_laws_toEnd : L :=
.seq (.reg [.bx 1 (.t 0),.al 2 [.int .i64 0, .int .i64 0, .int .i64 0]])
 (.seq (.reg [.al 3 [.int .i64 0, .int .i64 0, .int .i64 0]])
 (.seq (.reg [.fa 4 (.t 1) 0,.ld 5 (.t 4) 1 false,.fa 6 (.t 3) 0,.st (.t 6) (.t 5) 1])
 (.seq (.reg [.fa 7 (.t 1) 1,.ld 8 (.t 7) 1 false,.fa 9 (.t 3) 1,.st (.t 9) (.t 8) 1])
 (.seq (.reg [.fa 10 (.t 1) 2,.ld 11 (.t 10) 1 false,.fa 12 (.t 3) 2,.st (.t 12) (.t 11) 1])
 (.seq (.reg [.ld 13 (.t 3) 3 true,.st (.t 2) (.t 13) 3])
 (.gw (.ret)))))))
def rs_laws_toEnd : List Rv := [.c 2 3 true]
theorem ck_laws_toEnd : chkFn Tryz.prog F.laws_toEnd 1 ir_laws_toEnd rs_laws_toEnd = true := by kernel_rfl
def laws_toEnd_o (a1 : End) : Option End :=
 some a1
theorem laws_toEnd_o_ok {a1 : End} {r : End} (H : laws_toEnd_o a1 = some r) : Snd Tryz.prog F.laws_toEnd [eEnd a1] (eEnd r) [] := by
 refine snd_g ck_laws_toEnd rfl (by simp) ?_
 unfold laws_toEnd_o at H
 refine Wh_o fun _ => ?_
 replace H := sI H; subst H
 exact Wh_end [(2, .d)] [(2, [])] [] [] [] [] (by kernel_rfl)
def laws_toEnd (a1 : End) : End :=
 a1
theorem laws_toEnd_e (a1 : End) : laws_toEnd_o a1 = some (laws_toEnd a1) := by
 unfold laws_toEnd_o laws_toEnd
 first | rfl | simp only [bif_some]
theorem laws_toEnd_ok (a1 : End) : Snd Tryz.prog F.laws_toEnd [eEnd a1] (eEnd (laws_toEnd a1)) [] := laws_toEnd_o_ok (laws_toEnd_e a1)
def ir_laws_toEndS : L :=
.seq (.reg [.mv 2 (.c (.nl))])
 (.seq (.reg [.mv 5 (.t 0),.ln 6 (.t 5),.ms 7 3 24 [.int .i64 0, .int .i64 0, .int .i64 0] (.t 6),.mv 3 (.t 7)])
 (.seq (.seq (.reg [.mv 4 (.c (.int .i64 0))])
 (.blk 0 (.loop (.gw (.seq (.seq (.reg [.mv 8 (.t 4),.mv 9 (.t 0),.ln 10 (.t 9),.bi 11 .lss (.t 8) (.t 10)])
 (.cond (.t 11) (.skip)
 (.exit 0)))
 (.seq (.blk 1 (.reg [.mv 14 (.t 3),.mv 15 (.t 4),.mv 16 (.t 0),.mv 17 (.t 4),.ia 18 (.t 16) (.t 17) 3,.ld 19 (.t 18) 3 true,.cq 20 F.laws_toEnd [(.t 19)],.ia 21 (.t 14) (.t 15) 3,.st (.t 21) (.t 20) 3]))
 (.reg [.mv 12 (.t 4),.bi 13 .add (.t 12) (.c (.int .i64 1)),.mv 4 (.t 13)])))))))
 (.seq (.reg [.mv 22 (.t 3),.mv 2 (.t 22)])
 (.gw (.ret)))))
def rs_laws_toEndS : List Rv := [.t 2]
theorem ck_laws_toEndS : chkFn Tryz.prog F.laws_toEndS 1 ir_laws_toEndS rs_laws_toEndS = true := by kernel_rfl
def laws_toEndS_b13 (a1 : List End) (v4 : Int × (List End)) (k4 : (Int × (List End)) → Option (List End)) : Option (List End) :=
 bif (decide (v4.1 < (a1.length : Int))) then ((idx a1 v4.1).bind fun e6 => (idx v4.2 v4.1).bind fun _ => k4 ((w64 (v4.1 + 1)), (v4.2.set v4.1.toNat (laws_toEnd e6)))) else (some v4.2)
def laws_toEndS (a1 : List End) : Option (List End) :=
 (mkL 24 (a1.length : Int) (End.mk 0 0 0)).bind fun xs2 => whl (laws_toEndS_b13 a1) 9223372036854775807 (0, xs2)
theorem laws_toEndS_ok {a1 : List End} {r : (List End)} (H : laws_toEndS a1 = some r) : Snd Tryz.prog F.laws_toEndS [.sl .rd 3 (a1.map eEnd)] (.sl .nw 3 (r.map eEnd)) [] := by
 refine snd_g ck_laws_toEndS rfl (by simp) ?_
 unfold laws_toEndS at H
 obtain ⟨xs2, h2, H⟩ := bB H
 refine Wh_go 99 [.u 6 (.ln _ _ fun _ => lm a1 eEnd), .u 7 (.ms _ _ _ _ fun _ => mkL_map eEnd h2)] (by kernel_rfl) fun q3 => ?_
 refine Wh_whl (fun (v4 : Int × (List End)) => ⟨[(0, .sl .rd 3 (a1.map eEnd)), (3, .sref 7), (4, .int .i64 v4.1)], [], [], [(7, ⟨3, v4.2.map eEnd, false⟩)]⟩) [] [] [] [] (by kernel_rfl) (by kernel_rfl) H (fun v4 I m k4 H N13 => ?_)
 unfold laws_toEndS_b13 at H
 refine Wh_go 99 [.u 10 (.ln _ _ fun _ => lm a1 eEnd)] (by kernel_rfl) fun q5 => ?_
 refine Wh_iH H (fun H => ?_) fun H => ?_
 ·obtain ⟨e6, h6, H⟩ := bB H
  obtain ⟨e7, h7, H⟩ := bB H
  refine Wh_go 99 [.u 18 (.ix _ _ _ fun _ => idx_map eEnd h6), .c 20 (laws_toEnd_ok e6), .u 21 (.ix _ _ _ fun _ => idx_map eEnd h7), .u 1000000 (.sto _ _ _ (eEnd (laws_toEnd e6)) _ (fun _ => gm eEnd (idx_get h7)) (fun _ => set_map ..))] (by kernel_rfl) fun _ => ?_
  exact Wh_to (N13 _ H) [] [] [] [] (by kernel_rfl) (by kernel_rfl)
 ·refine Wh_o fun _ => ?_
  replace H := sI H; subst H
  exact Wh_end [(2, .f)] [] [] [7] [] [⟨_, nw_End v4.2⟩] (by kernel_rfl)
def ir_laws_toState : L :=
.seq (.reg [.bx 1 (.t 0),.al 2 [.nl, .nl, .nl, .int .i64 0, .int .i64 0, .int .i64 0, .int .i64 0, .int .i64 0, .nl, .nl, .nl]])
 (.seq (.reg [.al 3 [.nl, .nl, .nl, .int .i64 0, .int .i64 0, .int .i64 0, .int .i64 0, .int .i64 0, .nl, .nl, .nl]])
 (.seq (.reg [.fa 4 (.t 1) 0,.ld 5 (.t 4) 2 true,.cq 6 F.laws_toTopo [(.t 5)],.fa 7 (.t 3) 0,.st (.t 7) (.t 6) 2])
 (.seq (.reg [.fa 8 (.t 1) 2,.ld 9 (.t 8) 1 false,.cq 10 F.laws_toBoolS [(.t 9)],.fa 11 (.t 3) 2,.st (.t 11) (.t 10) 1])
 (.seq (.reg [.fa 12 (.t 1) 3,.ld 13 (.t 12) 3 true,.cq 14 F.laws_toVec [(.t 13)],.fa 15 (.t 3) 3,.st (.t 15) (.t 14) 3])
 (.seq (.reg [.fa 16 (.t 1) 6,.ld 17 (.t 16) 1 false,.fa 18 (.t 3) 6,.st (.t 18) (.t 17) 1])
 (.seq (.reg [.fa 19 (.t 1) 7,.ld 20 (.t 19) 1 false,.fa 21 (.t 3) 7,.st (.t 21) (.t 20) 1])
 (.seq (.reg [.fa 22 (.t 1) 8,.ld 23 (.t 22) 1 false,.cq 24 F.laws_toJobS [(.t 23)],.fa 25 (.t 3) 8,.st (.t 25) (.t 24) 1])
 (.seq (.reg [.fa 26 (.t 1) 9,.ld 27 (.t 26) 1 false,.cq 28 F.laws_toRunS [(.t 27)],.fa 29 (.t 3) 9,.st (.t 29) (.t 28) 1])
 (.seq (.reg [.fa 30 (.t 1) 10,.ld 31 (.t 30) 1 false,.cq 32 F.laws_toEndS [(.t 31)],.fa 33 (.t 3) 10,.st (.t 33) (.t 32) 1])
 (.seq (.reg [.ld 34 (.t 3) 11 true,.st (.t 2) (.t 34) 11])
 (.gw (.ret))))))))))))
def rs_laws_toState : List Rv := [.c 2 11 true]
theorem ck_laws_toState : chkFn Tryz.prog F.laws_toState 1 ir_laws_toState rs_laws_toState = true := by kernel_rfl
def laws_toState (a1 : State) : Option State :=
 (laws_toTopo a1.topo).bind fun y2 => (laws_toBoolS a1.up).bind fun y3 => (laws_toJobS a1.queue).bind fun y4 => (laws_toRunS a1.runs).bind fun y5 => (laws_toEndS a1.ends).bind fun y6 => some (State.mk y2 y3 (laws_toVec a1.lic) a1.depth a1.now y4 y5 y6)
theorem laws_toState_ok {a1 : State} {r : State} (H : laws_toState a1 = some r) : Snd Tryz.prog F.laws_toState [eStateT .rd a1] (eStateT .nw r) [] := by
 refine snd_g ck_laws_toState rfl (by simp) ?_
 unfold laws_toState at H
 obtain ⟨y2, h2, H⟩ := bB H
 obtain ⟨y3, h3, H⟩ := bB H
 obtain ⟨y4, h4, H⟩ := bB H
 obtain ⟨y5, h5, H⟩ := bB H
 obtain ⟨y6, h6, H⟩ := bB H
 refine Wh_go 99 [.c 6 (laws_toTopo_ok h2), .c 10 (laws_toBoolS_ok h3), .c 14 (laws_toVec_ok a1.lic), .c 24 (laws_toJobS_ok h4), .c 28 (laws_toRunS_ok h5), .c 32 (laws_toEndS_ok h6)] (by kernel_rfl) fun _ => ?_
 replace H := sI H; subst H
 exact Wh_end [(2, .d)] [(2, [])] [] [] [] [⟨_, nw_I y2.parents⟩, ⟨_, nw_Node y2.nodes⟩, ⟨_, nw_Bo y3⟩, ⟨_, nw_Job y4⟩, ⟨_, nw_RunT y5⟩, ⟨_, nw_End y6⟩] (by kernel_rfl)
def ir_laws_szRun : L :=
.seq (.reg [.bx 2 (.t 0),.mv 4 (.c (.int .i64 0))])
 (.seq (.reg [.fa 5 (.t 2) 12,.ld 6 (.t 5) 1 false,.mv 7 (.t 1),.cq 8 F.laws_szIntS [(.t 6), (.t 7)],.mv 1 (.t 8)])
 (.seq (.seq (.reg [.mv 9 (.t 1),.bi 10 .lss (.t 9) (.c (.int .i64 0))])
 (.cond (.t 10) (.seq (.reg [.mv 4 (.c (.int .i64 (-1)))])
 (.gw (.ret)))
 (.skip)))
 (.seq (.reg [.mv 11 (.t 1),.mv 4 (.t 11)])
 (.gw (.ret)))))
def rs_laws_szRun : List Rv := [.t 4]
theorem ck_laws_szRun : chkFn Tryz.prog F.laws_szRun 2 ir_laws_szRun rs_laws_szRun = true := by kernel_rfl
def laws_szRun_o (a1 : Run) (left2 : Int) : Option Int :=
 bif (decide ((laws_szIntS a1.nodes left2) < 0)) then (some (-1)) else (some (laws_szIntS a1.nodes left2))
theorem laws_szRun_o_ok {a1 : Run} {left2 : Int} {r : Int} (H : laws_szRun_o a1 left2 = some r) : Snd Tryz.prog F.laws_szRun [eRunT .rd a1, .int .i64 left2] (.int .i64 r) [] := by
 refine snd_g ck_laws_szRun rfl (by simp) ?_
 unfold laws_szRun_o at H
 refine Wh_go 99 [.c 8 (laws_szIntS_ok a1.nodes left2)] (by kernel_rfl) fun _ => ?_
 refine Wh_iH H (fun H => ?_) fun H => ?_
 ·refine Wh_o fun _ => ?_
  replace H := sI H; subst H
  exact Wh_end [(4, .d)] [] [] [] [] [] (by kernel_rfl)
 ·refine Wh_o fun _ => ?_
  replace H := sI H; subst H
  exact Wh_end [(4, .d)] [] [] [] [] [] (by kernel_rfl)
def laws_szRun (a1 : Run) (left2 : Int) : Int :=
 bif (decide ((laws_szIntS a1.nodes left2) < 0)) then ((-1)) else ((laws_szIntS a1.nodes left2))
theorem laws_szRun_e (a1 : Run) (left2 : Int) : laws_szRun_o a1 left2 = some (laws_szRun a1 left2) := by
 unfold laws_szRun_o laws_szRun
 first | rfl | simp only [bif_some]
theorem laws_szRun_ok (a1 : Run) (left2 : Int) : Snd Tryz.prog F.laws_szRun [eRunT .rd a1, .int .i64 left2] (.int .i64 (laws_szRun a1 left2)) [] := laws_szRun_o_ok (laws_szRun_e a1 left2)
def ir_laws_szRunS : L :=
.seq (.reg [.mv 4 (.c (.int .i64 0))])
 (.seq (.reg [.mv 6 (.t 1),.mv 7 (.t 0),.ln 8 (.t 7),.bi 9 .sub (.t 6) (.t 8),.mv 1 (.t 9)])
 (.seq (.seq (.reg [.mv 10 (.t 1),.bi 11 .lss (.t 10) (.c (.int .i64 0))])
 (.cond (.t 11) (.seq (.reg [.mv 4 (.c (.int .i64 (-1)))])
 (.gw (.ret)))
 (.skip)))
 (.seq (.seq (.reg [.mv 5 (.c (.int .i64 0))])
 (.blk 0 (.loop (.gw (.seq (.seq (.reg [.mv 12 (.t 5),.mv 13 (.t 0),.ln 14 (.t 13),.bi 15 .lss (.t 12) (.t 14)])
 (.cond (.t 15) (.skip)
 (.exit 0)))
 (.seq (.blk 1 (.seq (.reg [.mv 18 (.t 0),.mv 19 (.t 5),.ia 20 (.t 18) (.t 19) 13,.ld 21 (.t 20) 13 true,.mv 22 (.t 1),.cq 23 F.laws_szRun [(.t 21), (.t 22)],.mv 1 (.t 23)])
 (.seq (.reg [.mv 24 (.t 1),.bi 25 .lss (.t 24) (.c (.int .i64 0))])
 (.cond (.t 25) (.seq (.reg [.mv 4 (.c (.int .i64 (-1)))])
 (.gw (.ret)))
 (.skip)))))
 (.reg [.mv 16 (.t 5),.bi 17 .add (.t 16) (.c (.int .i64 1)),.mv 5 (.t 17)])))))))
 (.seq (.reg [.mv 26 (.t 1),.mv 4 (.t 26)])
 (.gw (.ret))))))
def rs_laws_szRunS : List Rv := [.t 4]
theorem ck_laws_szRunS : chkFn Tryz.prog F.laws_szRunS 2 ir_laws_szRunS rs_laws_szRunS = true := by kernel_rfl
def laws_szRunS_b28 (a1 : List Run) (v4 : Int × Int) (k4 : (Int × Int) → Option Int) : Option Int :=
 bif (decide (v4.2 < (a1.length : Int))) then ((idx a1 v4.2).bind fun e6 => bif (decide ((laws_szRun e6 v4.1) < 0)) then (some (-1)) else (k4 ((laws_szRun e6 v4.1), (w64 (v4.2 + 1))))) else (some v4.1)
def laws_szRunS (a1 : List Run) (left2 : Int) : Option Int :=
 bif (decide ((w64 (left2 - (a1.length : Int))) < 0)) then (some (-1)) else (whl (laws_szRunS_b28 a1) 9223372036854775807 ((w64 (left2 - (a1.length : Int))), 0))
theorem laws_szRunS_ok {a1 : List Run} {left2 : Int} {r : Int} (H : laws_szRunS a1 left2 = some r) : Snd Tryz.prog F.laws_szRunS [.sl .rd 13 (a1.map (eRunT .rd)), .int .i64 left2] (.int .i64 r) [] := by
 refine snd_g ck_laws_szRunS rfl (by simp) ?_
 unfold laws_szRunS at H
 refine Wh_go 99 [.u 8 (.ln _ _ fun _ => lm a1 (eRunT .rd))] (by kernel_rfl) fun q3 => ?_
 refine Wh_iH H (fun H => ?_) fun H => ?_
 ·refine Wh_o fun _ => ?_
  replace H := sI H; subst H
  exact Wh_end [(4, .d)] [] [] [] [] [] (by kernel_rfl)
 ·refine Wh_o fun _ => ?_
  refine Wh_whl (fun (v4 : Int × Int) => ⟨[(0, .sl .rd 13 (a1.map (eRunT .rd))), (1, .int .i64 v4.1), (5, .int .i64 v4.2)], [], [], []⟩) [] [] [] [] (by kernel_rfl) (by kernel_rfl) H (fun v4 I m k4 H N28 => ?_)
  unfold laws_szRunS_b28 at H
  refine Wh_go 99 [.u 14 (.ln _ _ fun _ => lm a1 (eRunT .rd))] (by kernel_rfl) fun q5 => ?_
  refine Wh_iH H (fun H => ?_) fun H => ?_
  ·obtain ⟨e6, h6, H⟩ := bB H
   refine Wh_go 99 [.u 20 (.ix _ _ _ fun _ => idx_map (eRunT .rd) h6), .c 23 (laws_szRun_ok e6 v4.1)] (by kernel_rfl) fun _ => ?_
   refine Wh_iH H (fun H => ?_) fun H => ?_
   ·refine Wh_o fun _ => ?_
    replace H := sI H; subst H
    exact Wh_end [(4, .d)] [] [] [] [] [] (by kernel_rfl)
   ·refine Wh_o fun _ => ?_
    exact Wh_to (N28 _ H) [] [] [] [] (by kernel_rfl) (by kernel_rfl)
  ·refine Wh_o fun _ => ?_
   replace H := sI H; subst H
   exact Wh_end [(4, .d)] [] [] [] [] [] (by kernel_rfl)
def ir_laws_szEndS : L :=
.seq (.reg [.mv 4 (.c (.int .i64 0))])
 (.seq (.reg [.mv 5 (.t 1),.mv 6 (.t 0),.ln 7 (.t 6),.bi 8 .sub (.t 5) (.t 7),.mv 1 (.t 8)])
 (.seq (.seq (.reg [.mv 9 (.t 1),.bi 10 .lss (.t 9) (.c (.int .i64 0))])
 (.cond (.t 10) (.seq (.reg [.mv 4 (.c (.int .i64 (-1)))])
 (.gw (.ret)))
 (.skip)))
 (.seq (.reg [.mv 11 (.t 1),.mv 4 (.t 11)])
 (.gw (.ret)))))
def rs_laws_szEndS : List Rv := [.t 4]
theorem ck_laws_szEndS : chkFn Tryz.prog F.laws_szEndS 2 ir_laws_szEndS rs_laws_szEndS = true := by kernel_rfl
def laws_szEndS_o (a1 : List End) (left2 : Int) : Option Int :=
 bif (decide ((w64 (left2 - (a1.length : Int))) < 0)) then (some (-1)) else (some (w64 (left2 - (a1.length : Int))))
theorem laws_szEndS_o_ok {a1 : List End} {left2 : Int} {r : Int} (H : laws_szEndS_o a1 left2 = some r) : Snd Tryz.prog F.laws_szEndS [.sl .rd 3 (a1.map eEnd), .int .i64 left2] (.int .i64 r) [] := by
 refine snd_g ck_laws_szEndS rfl (by simp) ?_
 unfold laws_szEndS_o at H
 refine Wh_go 99 [.u 7 (.ln _ _ fun _ => lm a1 eEnd)] (by kernel_rfl) fun q3 => ?_
 refine Wh_iH H (fun H => ?_) fun H => ?_
 ·refine Wh_o fun _ => ?_
  replace H := sI H; subst H
  exact Wh_end [(4, .d)] [] [] [] [] [] (by kernel_rfl)
 ·refine Wh_o fun _ => ?_
  replace H := sI H; subst H
  exact Wh_end [(4, .d)] [] [] [] [] [] (by kernel_rfl)
def laws_szEndS (a1 : List End) (left2 : Int) : Int :=
 bif (decide ((w64 (left2 - (a1.length : Int))) < 0)) then ((-1)) else ((w64 (left2 - (a1.length : Int))))
theorem laws_szEndS_e (a1 : List End) (left2 : Int) : laws_szEndS_o a1 left2 = some (laws_szEndS a1 left2) := by
 unfold laws_szEndS_o laws_szEndS
 first | rfl | simp only [bif_some]
theorem laws_szEndS_ok (a1 : List End) (left2 : Int) : Snd Tryz.prog F.laws_szEndS [.sl .rd 3 (a1.map eEnd), .int .i64 left2] (.int .i64 (laws_szEndS a1 left2)) [] := laws_szEndS_o_ok (laws_szEndS_e a1 left2)
def ir_laws_szState : L :=
.seq (.reg [.bx 2 (.t 0),.mv 4 (.c (.int .i64 0))])
 (.seq (.reg [.fa 5 (.t 2) 0,.ld 6 (.t 5) 2 true,.mv 7 (.t 1),.cq 8 F.laws_szTopo [(.t 6), (.t 7)],.mv 1 (.t 8)])
 (.seq (.seq (.reg [.mv 9 (.t 1),.bi 10 .lss (.t 9) (.c (.int .i64 0))])
 (.cond (.t 10) (.seq (.reg [.mv 4 (.c (.int .i64 (-1)))])
 (.gw (.ret)))
 (.skip)))
 (.seq (.reg [.fa 11 (.t 2) 2,.ld 12 (.t 11) 1 false,.mv 13 (.t 1),.cq 14 F.laws_szBoolS [(.t 12), (.t 13)],.mv 1 (.t 14)])
 (.seq (.seq (.reg [.mv 15 (.t 1),.bi 16 .lss (.t 15) (.c (.int .i64 0))])
 (.cond (.t 16) (.seq (.reg [.mv 4 (.c (.int .i64 (-1)))])
 (.gw (.ret)))
 (.skip)))
 (.seq (.reg [.fa 17 (.t 2) 8,.ld 18 (.t 17) 1 false,.mv 19 (.t 1),.cq 20 F.laws_szJobS [(.t 18), (.t 19)],.mv 1 (.t 20)])
 (.seq (.seq (.reg [.mv 21 (.t 1),.bi 22 .lss (.t 21) (.c (.int .i64 0))])
 (.cond (.t 22) (.seq (.reg [.mv 4 (.c (.int .i64 (-1)))])
 (.gw (.ret)))
 (.skip)))
 (.seq (.reg [.fa 23 (.t 2) 9,.ld 24 (.t 23) 1 false,.mv 25 (.t 1),.cq 26 F.laws_szRunS [(.t 24), (.t 25)],.mv 1 (.t 26)])
 (.seq (.seq (.reg [.mv 27 (.t 1),.bi 28 .lss (.t 27) (.c (.int .i64 0))])
 (.cond (.t 28) (.seq (.reg [.mv 4 (.c (.int .i64 (-1)))])
 (.gw (.ret)))
 (.skip)))
 (.seq (.reg [.fa 29 (.t 2) 10,.ld 30 (.t 29) 1 false,.mv 31 (.t 1),.cq 32 F.laws_szEndS [(.t 30), (.t 31)],.mv 1 (.t 32)])
 (.seq (.seq (.reg [.mv 33 (.t 1),.bi 34 .lss (.t 33) (.c (.int .i64 0))])
 (.cond (.t 34) (.seq (.reg [.mv 4 (.c (.int .i64 (-1)))])
 (.gw (.ret)))
 (.skip)))
 (.seq (.reg [.mv 35 (.t 1),.mv 4 (.t 35)])
 (.gw (.ret)))))))))))))
def rs_laws_szState : List Rv := [.t 4]
theorem ck_laws_szState : chkFn Tryz.prog F.laws_szState 2 ir_laws_szState rs_laws_szState = true := by kernel_rfl
def laws_szState (a1 : State) (left2 : Int) : Option Int :=
 bif (decide ((laws_szTopo a1.topo left2) < 0)) then (some (-1)) else (bif (decide ((laws_szBoolS a1.up (laws_szTopo a1.topo left2)) < 0)) then (some (-1)) else (bif (decide ((laws_szJobS a1.queue (laws_szBoolS a1.up (laws_szTopo a1.topo left2))) < 0)) then (some (-1)) else ((laws_szRunS a1.runs (laws_szJobS a1.queue (laws_szBoolS a1.up (laws_szTopo a1.topo left2)))).bind fun n3 => bif (decide (n3 < 0)) then (some (-1)) else (bif (decide ((laws_szEndS a1.ends n3) < 0)) then (some (-1)) else (some (laws_szEndS a1.ends n3))))))
theorem laws_szState_ok {a1 : State} {left2 : Int} {r : Int} (H : laws_szState a1 left2 = some r) : Snd Tryz.prog F.laws_szState [eStateT .rd a1, .int .i64 left2] (.int .i64 r) [] := by
 refine snd_g ck_laws_szState rfl (by simp) ?_
 unfold laws_szState at H
 refine Wh_go 99 [.c 8 (laws_szTopo_ok a1.topo left2)] (by kernel_rfl) fun _ => ?_
 refine Wh_iH H (fun H => ?_) fun H => ?_
 ·refine Wh_o fun _ => ?_
  replace H := sI H; subst H
  exact Wh_end [(4, .d)] [] [] [] [] [] (by kernel_rfl)
 ·refine Wh_go 99 [.u 14 (.call _ _ _ _ _ (AEs.refl _) (fun _ => laws_szBoolS_ok a1.up (laws_szTopo a1.topo left2)))] (by kernel_rfl) fun _ => ?_
  refine Wh_iH H (fun H => ?_) fun H => ?_
  ·refine Wh_o fun _ => ?_
   replace H := sI H; subst H
   exact Wh_end [(4, .d)] [] [] [] [] [] (by kernel_rfl)
  ·refine Wh_go 99 [.u 20 (.call _ _ _ _ _ (AEs.refl _) (fun _ => laws_szJobS_ok a1.queue (laws_szBoolS a1.up (laws_szTopo a1.topo left2))))] (by kernel_rfl) fun _ => ?_
   refine Wh_iH H (fun H => ?_) fun H => ?_
   ·refine Wh_o fun _ => ?_
    replace H := sI H; subst H
    exact Wh_end [(4, .d)] [] [] [] [] [] (by kernel_rfl)
   ·obtain ⟨n3, h3, H⟩ := bB H
    refine Wh_go 99 [.c 26 (laws_szRunS_ok h3)] (by kernel_rfl) fun _ => ?_
    refine Wh_iH H (fun H => ?_) fun H => ?_
    ·refine Wh_o fun _ => ?_
     replace H := sI H; subst H
     exact Wh_end [(4, .d)] [] [] [] [] [] (by kernel_rfl)
    ·refine Wh_go 99 [.c 32 (laws_szEndS_ok a1.ends n3)] (by kernel_rfl) fun _ => ?_
     refine Wh_iH H (fun H => ?_) fun H => ?_
     ·refine Wh_o fun _ => ?_
      replace H := sI H; subst H
      exact Wh_end [(4, .d)] [] [] [] [] [] (by kernel_rfl)
     ·refine Wh_o fun _ => ?_
      replace H := sI H; subst H
      exact Wh_end [(4, .d)] [] [] [] [] [] (by kernel_rfl)
def ir_laws_eqRun : L :=
.seq (.reg [.bx 2 (.t 0),.bx 3 (.t 1),.mv 4 (.c (.bool false))])
 (.seq (.seq (.reg [.fa 5 (.t 2) 0,.ld 6 (.t 5) 11 true,.fa 7 (.t 3) 0,.ld 8 (.t 7) 11 true,.cq 9 F.laws_eqJob [(.t 6), (.t 8)],.un 10 (.t 9)])
 (.cond (.t 10) (.seq (.reg [.mv 4 (.c (.bool false))])
 (.gw (.ret)))
 (.skip)))
 (.seq (.seq (.reg [.fa 11 (.t 2) 11,.ld 12 (.t 11) 1 false,.fa 13 (.t 3) 11,.ld 14 (.t 13) 1 false,.bi 15 .neq (.t 12) (.t 14)])
 (.cond (.t 15) (.seq (.reg [.mv 4 (.c (.bool false))])
 (.gw (.ret)))
 (.skip)))
 (.seq (.seq (.reg [.fa 16 (.t 2) 12,.ld 17 (.t 16) 1 false,.fa 18 (.t 3) 12,.ld 19 (.t 18) 1 false,.cq 20 F.laws_eqIntS [(.t 17), (.t 19)],.un 21 (.t 20)])
 (.cond (.t 21) (.seq (.reg [.mv 4 (.c (.bool false))])
 (.gw (.ret)))
 (.skip)))
 (.seq (.reg [.mv 4 (.c (.bool true))])
 (.gw (.ret))))))
def rs_laws_eqRun : List Rv := [.t 4]
theorem ck_laws_eqRun : chkFn Tryz.prog F.laws_eqRun 2 ir_laws_eqRun rs_laws_eqRun = true := by kernel_rfl
def laws_eqRun (a1 : Run) (b2 : Run) : Option Bool :=
 bif (!(laws_eqJob a1.job b2.job)) then (some false) else (bif (a1.t != b2.t) then (some false) else ((laws_eqIntS a1.nodes b2.nodes).bind fun b3 => bif (!b3) then (some false) else (some true)))
theorem laws_eqRun_ok {a1 : Run} {b2 : Run} {r : Bool} (H : laws_eqRun a1 b2 = some r) : Snd Tryz.prog F.laws_eqRun [eRunT .rd a1, eRunT .rd b2] (.bool r) [] := by
 refine snd_g ck_laws_eqRun rfl (by simp) ?_
 unfold laws_eqRun at H
 refine Wh_go 99 [.c 9 (laws_eqJob_ok a1.job b2.job)] (by kernel_rfl) fun _ => ?_
 refine Wh_iH H (fun H => ?_) fun H => ?_
 ·refine Wh_o fun _ => ?_
  replace H := sI H; subst H
  exact Wh_end [(4, .d)] [] [] [] [] [] (by kernel_rfl)
 ·refine Wh_o fun _ => ?_
  refine Wh_iH H (fun H => ?_) fun H => ?_
  ·refine Wh_o fun _ => ?_
   replace H := sI H; subst H
   exact Wh_end [(4, .d)] [] [] [] [] [] (by kernel_rfl)
  ·obtain ⟨b3, h3, H⟩ := bB H
   refine Wh_go 99 [.c 20 (laws_eqIntS_ok h3)] (by kernel_rfl) fun _ => ?_
   refine Wh_iH H (fun H => ?_) fun H => ?_
   ·refine Wh_o fun _ => ?_
    replace H := sI H; subst H
    exact Wh_end [(4, .d)] [] [] [] [] [] (by kernel_rfl)
   ·refine Wh_o fun _ => ?_
    replace H := sI H; subst H
    exact Wh_end [(4, .d)] [] [] [] [] [] (by kernel_rfl)
def ir_laws_eqRunS : L :=
.seq (.reg [.mv 4 (.c (.bool false))])
 (.seq (.seq (.reg [.mv 6 (.t 0),.ln 7 (.t 6),.mv 8 (.t 1),.ln 9 (.t 8),.bi 10 .neq (.t 7) (.t 9)])
 (.cond (.t 10) (.seq (.reg [.mv 4 (.c (.bool false))])
 (.gw (.ret)))
 (.skip)))
 (.seq (.seq (.reg [.mv 5 (.c (.int .i64 0))])
 (.blk 0 (.loop (.gw (.seq (.seq (.reg [.mv 11 (.t 5),.mv 12 (.t 0),.ln 13 (.t 12),.bi 14 .lss (.t 11) (.t 13)])
 (.cond (.t 14) (.skip)
 (.exit 0)))
 (.seq (.blk 1 (.seq (.rq 10 [.mv 17 (.t 0),.mv 18 (.t 5),.ia 19 (.t 17) (.t 18) 13,.ld 20 (.t 19) 13 true,.mv 21 (.t 1),.mv 22 (.t 5),.ia 23 (.t 21) (.t 22) 13,.ld 24 (.t 23) 13 true,.cq 25 F.laws_eqRun [(.t 20), (.t 24)],.un 26 (.t 25)])
 (.cond (.t 26) (.seq (.reg [.mv 4 (.c (.bool false))])
 (.gw (.ret)))
 (.skip))))
 (.reg [.mv 15 (.t 5),.bi 16 .add (.t 15) (.c (.int .i64 1)),.mv 5 (.t 16)])))))))
 (.seq (.reg [.mv 4 (.c (.bool true))])
 (.gw (.ret)))))
def rs_laws_eqRunS : List Rv := [.t 4]
theorem ck_laws_eqRunS : chkFn Tryz.prog F.laws_eqRunS 2 ir_laws_eqRunS rs_laws_eqRunS = true := by kernel_rfl
def laws_eqRunS_b25 (a1 : List Run) (b2 : List Run) (v4 : Int) (k4 : Int → Option Bool) : Option Bool :=
 bif (decide (v4 < (a1.length : Int))) then ((idx a1 v4).bind fun e6 => (idx b2 v4).bind fun e7 => (laws_eqRun e6 e7).bind fun b8 => bif (!b8) then (some false) else (k4 (w64 (v4 + 1)))) else (some true)
def laws_eqRunS (a1 : List Run) (b2 : List Run) : Option Bool :=
 bif ((a1.length : Int) != (b2.length : Int)) then (some false) else (whl (laws_eqRunS_b25 a1 b2) 9223372036854775807 0)
theorem laws_eqRunS_ok {a1 : List Run} {b2 : List Run} {r : Bool} (H : laws_eqRunS a1 b2 = some r) : Snd Tryz.prog F.laws_eqRunS [.sl .rd 13 (a1.map (eRunT .rd)), .sl .rd 13 (b2.map (eRunT .rd))] (.bool r) [] := by
 refine snd_g ck_laws_eqRunS rfl (by simp) ?_
 unfold laws_eqRunS at H
 refine Wh_go 99 [.u 7 (.ln _ _ fun _ => lm a1 (eRunT .rd)), .u 9 (.ln _ _ fun _ => lm b2 (eRunT .rd))] (by kernel_rfl) fun q3 => ?_
 refine Wh_iH H (fun H => ?_) fun H => ?_
 ·refine Wh_o fun _ => ?_
  replace H := sI H; subst H
  exact Wh_end [(4, .d)] [] [] [] [] [] (by kernel_rfl)
 ·refine Wh_o fun _ => ?_
  refine Wh_whl (fun (v4 : Int) => ⟨[(0, .sl .rd 13 (a1.map (eRunT .rd))), (1, .sl .rd 13 (b2.map (eRunT .rd))), (5, .int .i64 v4)], [], [], []⟩) [] [] [] [] (by kernel_rfl) (by kernel_rfl) H (fun v4 I m k4 H N25 => ?_)
  unfold laws_eqRunS_b25 at H
  refine Wh_go 99 [.u 13 (.ln _ _ fun _ => lm a1 (eRunT .rd))] (by kernel_rfl) fun q5 => ?_
  refine Wh_iH H (fun H => ?_) fun H => ?_
  ·obtain ⟨e6, h6, H⟩ := bB H
   obtain ⟨e7, h7, H⟩ := bB H
   obtain ⟨b8, h8, H⟩ := bB H
   refine Wh_go 99 [.u 19 (.ix _ _ _ fun _ => idx_map (eRunT .rd) h6), .u 23 (.ix _ _ _ fun _ => idx_map (eRunT .rd) h7), .c 25 (laws_eqRun_ok h8)] (by kernel_rfl) fun _ => ?_
   refine Wh_iH H (fun H => ?_) fun H => ?_
   ·refine Wh_o fun _ => ?_
    replace H := sI H; subst H
    exact Wh_end [(4, .d)] [] [] [] [] [] (by kernel_rfl)
   ·refine Wh_o fun _ => ?_
    exact Wh_to (N25 _ H) [] [] [] [] (by kernel_rfl) (by kernel_rfl)
  ·refine Wh_o fun _ => ?_
   replace H := sI H; subst H
   exact Wh_end [(4, .d)] [] [] [] [] [] (by kernel_rfl)
def ir_laws_eqEnd : L :=
.seq (.reg [.bx 2 (.t 0),.bx 3 (.t 1),.mv 4 (.c (.bool false))])
 (.seq (.seq (.reg [.fa 5 (.t 2) 0,.ld 6 (.t 5) 1 false,.fa 7 (.t 3) 0,.ld 8 (.t 7) 1 false,.bi 9 .neq (.t 6) (.t 8)])
 (.cond (.t 9) (.seq (.reg [.mv 4 (.c (.bool false))])
 (.gw (.ret)))
 (.skip)))
 (.seq (.seq (.reg [.fa 10 (.t 2) 1,.ld 11 (.t 10) 1 false,.fa 12 (.t 3) 1,.ld 13 (.t 12) 1 false,.bi 14 .neq (.t 11) (.t 13)])
 (.cond (.t 14) (.seq (.reg [.mv 4 (.c (.bool false))])
 (.gw (.ret)))
 (.skip)))
 (.seq (.seq (.reg [.fa 15 (.t 2) 2,.ld 16 (.t 15) 1 false,.fa 17 (.t 3) 2,.ld 18 (.t 17) 1 false,.bi 19 .neq (.t 16) (.t 18)])
 (.cond (.t 19) (.seq (.reg [.mv 4 (.c (.bool false))])
 (.gw (.ret)))
 (.skip)))
 (.seq (.reg [.mv 4 (.c (.bool true))])
 (.gw (.ret))))))
def rs_laws_eqEnd : List Rv := [.t 4]
theorem ck_laws_eqEnd : chkFn Tryz.prog F.laws_eqEnd 2 ir_laws_eqEnd rs_laws_eqEnd = true := by kernel_rfl
def laws_eqEnd_o (a1 : End) (b2 : End) : Option Bool :=
 bif (a1.id != b2.id) then (some false) else (bif (a1.t != b2.t) then (some false) else (bif (a1.why != b2.why) then (some false) else (some true)))
theorem laws_eqEnd_o_ok {a1 : End} {b2 : End} {r : Bool} (H : laws_eqEnd_o a1 b2 = some r) : Snd Tryz.prog F.laws_eqEnd [eEnd a1, eEnd b2] (.bool r) [] := by
 refine snd_g ck_laws_eqEnd rfl (by simp) ?_
 unfold laws_eqEnd_o at H
 refine Wh_o fun _ => ?_
 refine Wh_iH H (fun H => ?_) fun H => ?_
 ·refine Wh_o fun _ => ?_
  replace H := sI H; subst H
  exact Wh_end [(4, .d)] [] [] [] [] [] (by kernel_rfl)
 ·refine Wh_o fun _ => ?_
  refine Wh_iH H (fun H => ?_) fun H => ?_
  ·refine Wh_o fun _ => ?_
   replace H := sI H; subst H
   exact Wh_end [(4, .d)] [] [] [] [] [] (by kernel_rfl)
  ·refine Wh_o fun _ => ?_
   refine Wh_iH H (fun H => ?_) fun H => ?_
   ·refine Wh_o fun _ => ?_
    replace H := sI H; subst H
    exact Wh_end [(4, .d)] [] [] [] [] [] (by kernel_rfl)
   ·refine Wh_o fun _ => ?_
    replace H := sI H; subst H
    exact Wh_end [(4, .d)] [] [] [] [] [] (by kernel_rfl)
def laws_eqEnd (a1 : End) (b2 : End) : Bool :=
 bif (a1.id != b2.id) then (false) else (bif (a1.t != b2.t) then (false) else (bif (a1.why != b2.why) then (false) else (true)))
theorem laws_eqEnd_e (a1 : End) (b2 : End) : laws_eqEnd_o a1 b2 = some (laws_eqEnd a1 b2) := by
 unfold laws_eqEnd_o laws_eqEnd
 first | rfl | simp only [bif_some]
theorem laws_eqEnd_ok (a1 : End) (b2 : End) : Snd Tryz.prog F.laws_eqEnd [eEnd a1, eEnd b2] (.bool (laws_eqEnd a1 b2)) [] := laws_eqEnd_o_ok (laws_eqEnd_e a1 b2)
def ir_laws_eqEndS : L :=
.seq (.reg [.mv 4 (.c (.bool false))])
 (.seq (.seq (.reg [.mv 6 (.t 0),.ln 7 (.t 6),.mv 8 (.t 1),.ln 9 (.t 8),.bi 10 .neq (.t 7) (.t 9)])
 (.cond (.t 10) (.seq (.reg [.mv 4 (.c (.bool false))])
 (.gw (.ret)))
 (.skip)))
 (.seq (.seq (.reg [.mv 5 (.c (.int .i64 0))])
 (.blk 0 (.loop (.gw (.seq (.seq (.reg [.mv 11 (.t 5),.mv 12 (.t 0),.ln 13 (.t 12),.bi 14 .lss (.t 11) (.t 13)])
 (.cond (.t 14) (.skip)
 (.exit 0)))
 (.seq (.blk 1 (.seq (.rq 10 [.mv 17 (.t 0),.mv 18 (.t 5),.ia 19 (.t 17) (.t 18) 3,.ld 20 (.t 19) 3 true,.mv 21 (.t 1),.mv 22 (.t 5),.ia 23 (.t 21) (.t 22) 3,.ld 24 (.t 23) 3 true,.cq 25 F.laws_eqEnd [(.t 20), (.t 24)],.un 26 (.t 25)])
 (.cond (.t 26) (.seq (.reg [.mv 4 (.c (.bool false))])
 (.gw (.ret)))
 (.skip))))
 (.reg [.mv 15 (.t 5),.bi 16 .add (.t 15) (.c (.int .i64 1)),.mv 5 (.t 16)])))))))
 (.seq (.reg [.mv 4 (.c (.bool true))])
 (.gw (.ret)))))
def rs_laws_eqEndS : List Rv := [.t 4]
theorem ck_laws_eqEndS : chkFn Tryz.prog F.laws_eqEndS 2 ir_laws_eqEndS rs_laws_eqEndS = true := by kernel_rfl
def laws_eqEndS_b25 (a1 : List End) (b2 : List End) (v4 : Int) (k4 : Int → Option Bool) : Option Bool :=
 bif (decide (v4 < (a1.length : Int))) then ((idx a1 v4).bind fun e6 => (idx b2 v4).bind fun e7 => bif (!(laws_eqEnd e6 e7)) then (some false) else (k4 (w64 (v4 + 1)))) else (some true)
def laws_eqEndS (a1 : List End) (b2 : List End) : Option Bool :=
 bif ((a1.length : Int) != (b2.length : Int)) then (some false) else (whl (laws_eqEndS_b25 a1 b2) 9223372036854775807 0)
theorem laws_eqEndS_ok {a1 : List End} {b2 : List End} {r : Bool} (H : laws_eqEndS a1 b2 = some r) : Snd Tryz.prog F.laws_eqEndS [.sl .rd 3 (a1.map eEnd), .sl .rd 3 (b2.map eEnd)] (.bool r) [] := by
 refine snd_g ck_laws_eqEndS rfl (by simp) ?_
 unfold laws_eqEndS at H
 refine Wh_go 99 [.u 7 (.ln _ _ fun _ => lm a1 eEnd), .u 9 (.ln _ _ fun _ => lm b2 eEnd)] (by kernel_rfl) fun q3 => ?_
 refine Wh_iH H (fun H => ?_) fun H => ?_
 ·refine Wh_o fun _ => ?_
  replace H := sI H; subst H
  exact Wh_end [(4, .d)] [] [] [] [] [] (by kernel_rfl)
 ·refine Wh_o fun _ => ?_
  refine Wh_whl (fun (v4 : Int) => ⟨[(0, .sl .rd 3 (a1.map eEnd)), (1, .sl .rd 3 (b2.map eEnd)), (5, .int .i64 v4)], [], [], []⟩) [] [] [] [] (by kernel_rfl) (by kernel_rfl) H (fun v4 I m k4 H N25 => ?_)
  unfold laws_eqEndS_b25 at H
  refine Wh_go 99 [.u 13 (.ln _ _ fun _ => lm a1 eEnd)] (by kernel_rfl) fun q5 => ?_
  refine Wh_iH H (fun H => ?_) fun H => ?_
  ·obtain ⟨e6, h6, H⟩ := bB H
   obtain ⟨e7, h7, H⟩ := bB H
   refine Wh_go 99 [.u 19 (.ix _ _ _ fun _ => idx_map eEnd h6), .u 23 (.ix _ _ _ fun _ => idx_map eEnd h7), .c 25 (laws_eqEnd_ok e6 e7)] (by kernel_rfl) fun _ => ?_
   refine Wh_iH H (fun H => ?_) fun H => ?_
   ·refine Wh_o fun _ => ?_
    replace H := sI H; subst H
    exact Wh_end [(4, .d)] [] [] [] [] [] (by kernel_rfl)
   ·refine Wh_o fun _ => ?_
    exact Wh_to (N25 _ H) [] [] [] [] (by kernel_rfl) (by kernel_rfl)
  ·refine Wh_o fun _ => ?_
   replace H := sI H; subst H
   exact Wh_end [(4, .d)] [] [] [] [] [] (by kernel_rfl)
def ir_laws_eqState : L :=
.seq (.reg [.bx 2 (.t 0),.bx 3 (.t 1),.mv 4 (.c (.bool false))])
 (.seq (.seq (.reg [.fa 5 (.t 2) 0,.ld 6 (.t 5) 2 true,.fa 7 (.t 3) 0,.ld 8 (.t 7) 2 true,.cq 9 F.laws_eqTopo [(.t 6), (.t 8)],.un 10 (.t 9)])
 (.cond (.t 10) (.seq (.reg [.mv 4 (.c (.bool false))])
 (.gw (.ret)))
 (.skip)))
 (.seq (.seq (.reg [.fa 11 (.t 2) 2,.ld 12 (.t 11) 1 false,.fa 13 (.t 3) 2,.ld 14 (.t 13) 1 false,.cq 15 F.laws_eqBoolS [(.t 12), (.t 14)],.un 16 (.t 15)])
 (.cond (.t 16) (.seq (.reg [.mv 4 (.c (.bool false))])
 (.gw (.ret)))
 (.skip)))
 (.seq (.seq (.reg [.fa 17 (.t 2) 3,.ld 18 (.t 17) 3 true,.fa 19 (.t 3) 3,.ld 20 (.t 19) 3 true,.cq 21 F.laws_eqVec [(.t 18), (.t 20)],.un 22 (.t 21)])
 (.cond (.t 22) (.seq (.reg [.mv 4 (.c (.bool false))])
 (.gw (.ret)))
 (.skip)))
 (.seq (.seq (.reg [.fa 23 (.t 2) 6,.ld 24 (.t 23) 1 false,.fa 25 (.t 3) 6,.ld 26 (.t 25) 1 false,.bi 27 .neq (.t 24) (.t 26)])
 (.cond (.t 27) (.seq (.reg [.mv 4 (.c (.bool false))])
 (.gw (.ret)))
 (.skip)))
 (.seq (.seq (.reg [.fa 28 (.t 2) 7,.ld 29 (.t 28) 1 false,.fa 30 (.t 3) 7,.ld 31 (.t 30) 1 false,.bi 32 .neq (.t 29) (.t 31)])
 (.cond (.t 32) (.seq (.reg [.mv 4 (.c (.bool false))])
 (.gw (.ret)))
 (.skip)))
 (.seq (.seq (.reg [.fa 33 (.t 2) 8,.ld 34 (.t 33) 1 false,.fa 35 (.t 3) 8,.ld 36 (.t 35) 1 false,.cq 37 F.laws_eqJobS [(.t 34), (.t 36)],.un 38 (.t 37)])
 (.cond (.t 38) (.seq (.reg [.mv 4 (.c (.bool false))])
 (.gw (.ret)))
 (.skip)))
 (.seq (.seq (.reg [.fa 39 (.t 2) 9,.ld 40 (.t 39) 1 false,.fa 41 (.t 3) 9,.ld 42 (.t 41) 1 false,.cq 43 F.laws_eqRunS [(.t 40), (.t 42)],.un 44 (.t 43)])
 (.cond (.t 44) (.seq (.reg [.mv 4 (.c (.bool false))])
 (.gw (.ret)))
 (.skip)))
 (.seq (.seq (.reg [.fa 45 (.t 2) 10,.ld 46 (.t 45) 1 false,.fa 47 (.t 3) 10,.ld 48 (.t 47) 1 false,.cq 49 F.laws_eqEndS [(.t 46), (.t 48)],.un 50 (.t 49)])
 (.cond (.t 50) (.seq (.reg [.mv 4 (.c (.bool false))])
 (.gw (.ret)))
 (.skip)))
 (.seq (.reg [.mv 4 (.c (.bool true))])
 (.gw (.ret)))))))))))
def rs_laws_eqState : List Rv := [.t 4]
theorem ck_laws_eqState : chkFn Tryz.prog F.laws_eqState 2 ir_laws_eqState rs_laws_eqState = true := by kernel_rfl
def laws_eqState (a1 : State) (b2 : State) : Option Bool :=
 (laws_eqTopo a1.topo b2.topo).bind fun b3 => bif (!b3) then (some false) else ((laws_eqBoolS a1.up b2.up).bind fun b4 => bif (!b4) then (some false) else (bif (!(laws_eqVec a1.lic b2.lic)) then (some false) else (bif (a1.depth != b2.depth) then (some false) else (bif (a1.now != b2.now) then (some false) else ((laws_eqJobS a1.queue b2.queue).bind fun b5 => bif (!b5) then (some false) else ((laws_eqRunS a1.runs b2.runs).bind fun b6 => bif (!b6) then (some false) else ((laws_eqEndS a1.ends b2.ends).bind fun b7 => bif (!b7) then (some false) else (some true))))))))
theorem laws_eqState_ok {a1 : State} {b2 : State} {r : Bool} (H : laws_eqState a1 b2 = some r) : Snd Tryz.prog F.laws_eqState [eStateT .rd a1, eStateT .rd b2] (.bool r) [] := by
 refine snd_g ck_laws_eqState rfl (by simp) ?_
 unfold laws_eqState at H
 obtain ⟨b3, h3, H⟩ := bB H
 refine Wh_go 99 [.c 9 (laws_eqTopo_ok h3)] (by kernel_rfl) fun _ => ?_
 refine Wh_iH H (fun H => ?_) fun H => ?_
 ·refine Wh_o fun _ => ?_
  replace H := sI H; subst H
  exact Wh_end [(4, .d)] [] [] [] [] [] (by kernel_rfl)
 ·obtain ⟨b4, h4, H⟩ := bB H
  refine Wh_go 99 [.c 15 (laws_eqBoolS_ok h4)] (by kernel_rfl) fun _ => ?_
  refine Wh_iH H (fun H => ?_) fun H => ?_
  ·refine Wh_o fun _ => ?_
   replace H := sI H; subst H
   exact Wh_end [(4, .d)] [] [] [] [] [] (by kernel_rfl)
  ·refine Wh_go 99 [.c 21 (laws_eqVec_ok a1.lic b2.lic)] (by kernel_rfl) fun _ => ?_
   refine Wh_iH H (fun H => ?_) fun H => ?_
   ·refine Wh_o fun _ => ?_
    replace H := sI H; subst H
    exact Wh_end [(4, .d)] [] [] [] [] [] (by kernel_rfl)
   ·refine Wh_o fun _ => ?_
    refine Wh_iH H (fun H => ?_) fun H => ?_
    ·refine Wh_o fun _ => ?_
     replace H := sI H; subst H
     exact Wh_end [(4, .d)] [] [] [] [] [] (by kernel_rfl)
    ·refine Wh_o fun _ => ?_
     refine Wh_iH H (fun H => ?_) fun H => ?_
     ·refine Wh_o fun _ => ?_
      replace H := sI H; subst H
      exact Wh_end [(4, .d)] [] [] [] [] [] (by kernel_rfl)
     ·obtain ⟨b5, h5, H⟩ := bB H
      refine Wh_go 99 [.c 37 (laws_eqJobS_ok h5)] (by kernel_rfl) fun _ => ?_
      refine Wh_iH H (fun H => ?_) fun H => ?_
      ·refine Wh_o fun _ => ?_
       replace H := sI H; subst H
       exact Wh_end [(4, .d)] [] [] [] [] [] (by kernel_rfl)
      ·obtain ⟨b6, h6, H⟩ := bB H
       refine Wh_go 99 [.c 43 (laws_eqRunS_ok h6)] (by kernel_rfl) fun _ => ?_
       refine Wh_iH H (fun H => ?_) fun H => ?_
       ·refine Wh_o fun _ => ?_
        replace H := sI H; subst H
        exact Wh_end [(4, .d)] [] [] [] [] [] (by kernel_rfl)
       ·obtain ⟨b7, h7, H⟩ := bB H
        refine Wh_go 99 [.c 49 (laws_eqEndS_ok h7)] (by kernel_rfl) fun _ => ?_
        refine Wh_iH H (fun H => ?_) fun H => ?_
        ·refine Wh_o fun _ => ?_
         replace H := sI H; subst H
         exact Wh_end [(4, .d)] [] [] [] [] [] (by kernel_rfl)
        ·refine Wh_o fun _ => ?_
         replace H := sI H; subst H
         exact Wh_end [(4, .d)] [] [] [] [] [] (by kernel_rfl)
end Go.Proofs.YtndemhaoilhbbaaGreat
namespace Go.Proofs.YtndemhaoilhbbaaGreat.Eng
open Go Go.RowKit
/-- A cell that may be told as another. -/
def CE (a b : AV) : Prop := AE a b ∧ (a.one = true → b.one = true)
def CEs (l m : List AV) : Prop := l.length = m.length ∧ ∀ (i : Nat) (a b : AV), l[i]? = some a → m[i]? = some b → CE a b
theorem CE.refl (a : AV) : CE a a := ⟨AE.refl a, id⟩
theorem CEs.refl (l : List AV) : CEs l l := ⟨rfl, fun i a b h h' => by rw [h] at h'; cases h'; exact .refl a⟩
theorem CEs.one {a b : AV} (h : CE a b) : CEs [a] [b] := ⟨rfl, fun i x y hx hy => by
 cases i with
 | zero => simp at hx hy; subst hx; subst hy; exact h
 | succ i => simp at hx⟩
theorem CEs.append {l1 l2 m1 m2 : List AV} (h1 : CEs l1 m1) (h2 : CEs l2 m2) : CEs (l1 ++ l2) (m1 ++ m2) := by
 refine ⟨by rw [List.length_append, List.length_append, h1.1, h2.1], fun i a b ha hb => ?_⟩
 by_cases hi : i < l1.length
 ·rw [List.getElem?_append_left hi] at ha
  rw [List.getElem?_append_left (by rw [← h1.1]; exact hi)] at hb
  exact h1.2 i a b ha hb
 ·rw [List.getElem?_append_right (by omega)] at ha
  rw [List.getElem?_append_right (by rw [← h1.1]; omega), ← h1.1] at hb
  exact h2.2 _ a b ha hb
theorem CEs.flat {α : Type} {E : α → AV} : ∀ {es : List AV} {ys : List α}, es.length = ys.length → (∀ (i : Nat) (x : AV) (y : α), es[i]? = some x → ys[i]? = some y → CEs x.cells (E y).cells) → CEs (Eng.flat es) (Eng.flat (ys.map E))
 | [], [], _, _ => CEs.refl []
 | x :: es, y :: ys, hl, h => by
  have h0 := h 0 x y rfl rfl
  have h1 := CEs.flat (es := es) (ys := ys) (by simpa using hl) fun i x y hx hy => h (i + 1) x y (by simpa using hx) (by simpa using hy)
  simpa [Eng.flat] using h0.append h1
 | [], _ :: _, hl, _ => by simp at hl
 | _ :: _, [], hl, _ => by simp at hl
theorem AE.agg {cs ds : List AV} (h : CEs cs ds) : AE (.agg cs) (.agg ds) := by
 intro w S v hr
 cases hr with
 | agg _ vs hl h1 h2 =>
  refine .agg ds vs (by rw [← h.1, hl]) (fun b hb => ?_) fun i b u hb hu => ?_
  ·obtain ⟨i, hi⟩ := List.getElem?_of_mem hb
   have hlt : i < cs.length := by rw [h.1]; exact (List.getElem?_eq_some_iff.1 hi).1
   exact (h.2 i cs[i] b (List.getElem?_eq_getElem hlt) hi).2 (h1 _ (List.getElem_mem hlt))
  ·have hlt : i < cs.length := by rw [h.1]; exact (List.getElem?_eq_some_iff.1 hb).1
   exact (h.2 i cs[i] b (List.getElem?_eq_getElem hlt) hb).1 w S u (h2 i _ u (List.getElem?_eq_getElem hlt) hu)
theorem AE.nl {sz : Nat} : AE .nl (.sl .rd sz []) := by
 intro w S v hr
 cases hr
 exact .sl0 _ _ _ _ fun _ _ => trivial
theorem AE.sl {g : Tag} {sz : Nat} {es ds : List AV} (hl : es.length = ds.length) (hs : ∀ e ∈ ds, e.cells.length = sz) (h : CEs (Eng.flat es) (Eng.flat ds)) : AE (.sl g sz es) (.sl g sz ds) := by
 intro w S v hr
 cases hr with
 | sl0 _ _ a c ho =>
  cases ds with
  | nil => exact .sl0 _ _ _ _ ho
  | cons _ _ => simp at hl
 | sl _ _ _ b o c cv hc hm _ hw ho h2 =>
  rw [hl]
  have hx : ∀ (j : Nat) (d : AV), (Eng.flat ds)[j]? = some d → ∃ e, (Eng.flat es)[j]? = some e ∧ CE e d := fun j d hj => by
   have hlt : j < (Eng.flat es).length := by rw [h.1]; exact (List.getElem?_eq_some_iff.1 hj).1
   exact ⟨_, List.getElem?_eq_getElem hlt, h.2 j _ d (List.getElem?_eq_getElem hlt) hj⟩
  refine .sl g sz ds b o c cv (by rw [← hl]; exact hc) hm hs (fun j d hj => ?_) (fun i e => by have := ho i e; rw [hl] at this; exact this) fun j d hj => ?_
  ·obtain ⟨e, he, hce⟩ := hx j d hj
   obtain ⟨q1, q2, q3, _⟩ := hw j e he
   exact ⟨q1, q2, hce.2 q3, trivial⟩
  ·obtain ⟨e, he, hce⟩ := hx j d hj
   exact hce.1 w S _ (h2 j e he)
theorem Snd.wkS {P : Program} {f : FuncId} {xs1 xs2 : List AV} {res : AV} {rows : List Row} (h : Snd P f xs2 res rows) (hae : AEs xs1 xs2) : Snd P f xs1 res rows := by
 intro w S N vs hS hl hr
 have hal := hae.1
 refine h w S TT vs hS (by omega) fun i b v hb hv => ?_
 have hi : i < xs1.length := by have := (List.getElem?_eq_some_iff.1 hb).1; omega
 exact hae.2 w S i _ b v (List.getElem?_eq_getElem hi) hb ((hr i _ v (List.getElem?_eq_getElem hi) hv).mono (fun _ _ h => h) ⟨fun _ _ _ _ _ _ _ _ => trivial, fun _ _ _ _ => trivial⟩ fun _ _ _ => rfl)
/-- The values of a type, told as typed data. -/
def EncOf {α : Type} (τ : Ty) (e : α → List AV) (W : α → Prop) : Prop := ∀ l, τ.ok l → ∃ y, CEs l (e y) ∧ W y
def EncOfs {α : Type} (τs : List Ty) (e : α → List AV) (W : α → Prop) : Prop := ∀ l, okL τs l → ∃ y, CEs l (e y) ∧ W y
def FitL {α : Type} (W : α → Prop) (l : List α) : Prop := l.length ≤ maxLen ∧ ∀ x ∈ l, W x
def FitT {α : Type} (_ : α) : Prop := True
section
variable {α β : Type}
theorem EncOf.int (k : IntKind) : EncOf (.int k) (fun n : Int => [.int k n]) FitT := by
 intro l h
 obtain ⟨n, rfl, _⟩ := h
 exact ⟨n, .refl _, trivial⟩
theorem EncOf.bool : EncOf .bool (fun n : Bool => [.bool n]) FitT := by
 intro l h
 obtain ⟨n, rfl⟩ := h
 exact ⟨n, .refl _, trivial⟩
theorem EncOfs.nil : EncOfs [] (fun _ : Unit => []) FitT := by
 intro l h
 simp only [okL] at h
 subst h
 exact ⟨(), .refl _, trivial⟩
theorem EncOfs.cons {f : Ty} {fs : List Ty} {e1 : α → List AV} {e2 : β → List AV} {W1 : α → Prop} {W2 : β → Prop} (h1 : EncOf f e1 W1) (h2 : EncOfs fs e2 W2) : EncOfs (f :: fs) (fun p : α × β => e1 p.1 ++ e2 p.2) (fun p => W1 p.1 ∧ W2 p.2) := by
 intro l h
 simp only [okL] at h
 obtain ⟨l1, l2, rfl, q1, q2⟩ := h
 obtain ⟨y1, c1, w1⟩ := h1 l1 q1
 obtain ⟨y2, c2, w2⟩ := h2 l2 q2
 exact ⟨(y1, y2), c1.append c2, w1, w2⟩
theorem EncOfs.st {fs : List Ty} {e : α → List AV} {W : α → Prop} (h : EncOfs fs e W) (g : α → β) {e' : β → List AV} {W' : β → Prop} (he : ∀ x, e x = e' (g x)) (hW : ∀ x, W x → W' (g x)) : EncOf (.st fs) e' W' := by
 intro l hl
 simp only [Ty.ok] at hl
 obtain ⟨y, c, w⟩ := h l hl
 exact ⟨g y, he y ▸ c, hW y w⟩
theorem exL {R : AV → α → Prop} : ∀ {es : List AV}, (∀ x ∈ es, ∃ y, R x y) → ∃ ys : List α, es.length = ys.length ∧ ∀ (i : Nat) (x : AV) (y : α), es[i]? = some x → ys[i]? = some y → R x y
 | [], _ => ⟨[], rfl, fun i x y h => by simp at h⟩
 | x :: es, h => by
  obtain ⟨y, hy⟩ := h x (List.mem_cons_self ..)
  obtain ⟨ys, hl, hys⟩ := exL (es := es) fun z hz => h z (List.mem_cons_of_mem _ hz)
  refine ⟨y :: ys, by simp [hl], fun i a b ha hb => ?_⟩
  cases i with
  | zero => simp at ha hb; subst ha; subst hb; exact hy
  | succ i => exact hys i a b (by simpa using ha) (by simpa using hb)
theorem EncOf.sl {τ : Ty} {e : α → List AV} {W : α → Prop} (h : EncOf τ e W) (E : α → AV) (hE : ∀ y, (E y).cells = e y) {n : Nat} (hn : τ.size = n) : EncOf (.sl τ) (fun l : List α => [.sl .rd n (l.map E)]) (FitL W) := by
 intro l hl
 simp only [Ty.ok] at hl
 rcases hl with rfl | ⟨es, rfl, hm, h2⟩
 ·exact ⟨[], .one ⟨AE.nl, fun _ => rfl⟩, Nat.zero_le _, fun x hx => by simp at hx⟩
 ·obtain ⟨ys, hys, hR⟩ := exL (α := α) (R := fun x y => CEs x.cells (E y).cells ∧ W y ∧ x.cells.length = τ.size) (es := es) fun x hx => by
   obtain ⟨a1, _, a3⟩ := h2 x hx
   obtain ⟨y, c, w⟩ := h _ a3
   exact ⟨y, (hE y).symm ▸ c, w, a1⟩
  have get : ∀ y ∈ ys, ∃ (i : Nat) (x : AV), es[i]? = some x ∧ ys[i]? = some y := fun y hy => by
   obtain ⟨i, hi⟩ := List.getElem?_of_mem hy
   exact ⟨i, _, List.getElem?_eq_getElem (by rw [hys]; exact (List.getElem?_eq_some_iff.1 hi).1), hi⟩
  refine ⟨ys, .one ⟨?_, fun _ => rfl⟩, by rw [← hys]; exact hm, fun y hy => ?_⟩
  ·rw [hn]
   refine AE.sl (by simpa using hys) (fun d hd => ?_) (CEs.flat hys fun i x y hx hy => (hR i x y hx hy).1)
   obtain ⟨y, hy, rfl⟩ := List.mem_map.1 hd
   obtain ⟨i, x, hx, hy'⟩ := get y hy
   have := hR i x y hx hy'
   rw [← this.1.1, this.2.2, hn]
  ·obtain ⟨i, x, hx, hy'⟩ := get y hy
   exact (hR i x y hx hy').2.1
theorem EncOf.okV_st {fs : List Ty} {e : α → List AV} {W : α → Prop} (h : EncOf (.st fs) e W) {a : AV} (ha : (Ty.st fs).okV a) : ∃ y, AE a (.agg (e y)) ∧ W y := by
 obtain ⟨cs, rfl, hc⟩ := ha
 obtain ⟨y, c, w⟩ := h cs (by simpa only [Ty.ok] using hc)
 exact ⟨y, .agg c, w⟩
end
end Go.Proofs.YtndemhaoilhbbaaGreat.Eng
namespace Go.Proofs.YtndemhaoilhbbaaGreat
open Go Go.RowKit Eng
def tyVec : Ty := .st [.int .i64, .int .i64, .int .i64]
def fitVec (x : Vec) : Prop := FitT x.a ∧ FitT x.b ∧ FitT x.c ∧ True
theorem ofVec : EncOf tyVec (fun x : Vec => (eVec x).cells) fitVec := EncOfs.st (EncOfs.cons (EncOf.int .i64) (EncOfs.cons (EncOf.int .i64) (EncOfs.cons (EncOf.int .i64) EncOfs.nil))) (fun p => ⟨p.1, p.2.1, p.2.2.1⟩) (fun _ => by rfl) (fun _ h => by exact h)
def tyNode : Ty := .st [.int .i64, tyVec]
def fitNode (x : Node) : Prop := FitT x.leaf ∧ fitVec x.cap ∧ True
theorem ofNode : EncOf tyNode (fun x : Node => (eNode x).cells) fitNode := EncOfs.st (EncOfs.cons (EncOf.int .i64) (EncOfs.cons ofVec EncOfs.nil)) (fun p => ⟨p.1, p.2.1⟩) (fun _ => by rfl) (fun _ h => by exact h)
def tyTopo : Ty := .st [.sl (.int .i64), .sl tyNode]
def fitTopo (x : Topo) : Prop := (FitL FitT) x.parents ∧ (FitL fitNode) x.nodes ∧ True
theorem ofTopo : EncOf tyTopo (fun x : Topo => (eTopoT .rd x).cells) fitTopo := EncOfs.st (EncOfs.cons (EncOf.sl (EncOf.int .i64) eI (fun _ => rfl) rfl) (EncOfs.cons (EncOf.sl ofNode eNode (fun _ => rfl) rfl) EncOfs.nil)) (fun p => ⟨p.1, p.2.1⟩) (fun _ => by rfl) (fun _ h => by exact h)
def tyJob : Ty := .st [.int .i64, .int .i64, .int .i64, tyVec, tyVec, .int .i64, .int .i64]
def fitJob (x : Job) : Prop := FitT x.id ∧ FitT x.prio ∧ FitT x.nodes ∧ fitVec x.need ∧ fitVec x.lic ∧ FitT x.wall ∧ FitT x.level ∧ True
theorem ofJob : EncOf tyJob (fun x : Job => (eJob x).cells) fitJob := EncOfs.st (EncOfs.cons (EncOf.int .i64) (EncOfs.cons (EncOf.int .i64) (EncOfs.cons (EncOf.int .i64) (EncOfs.cons ofVec (EncOfs.cons ofVec (EncOfs.cons (EncOf.int .i64) (EncOfs.cons (EncOf.int .i64) EncOfs.nil))))))) (fun p => ⟨p.1, p.2.1, p.2.2.1, p.2.2.2.1, p.2.2.2.2.1, p.2.2.2.2.2.1, p.2.2.2.2.2.2.1⟩) (fun _ => by rfl) (fun _ h => by exact h)
def tyRun : Ty := .st [tyJob, .int .i64, .sl (.int .i64)]
def fitRun (x : Run) : Prop := fitJob x.job ∧ FitT x.t ∧ (FitL FitT) x.nodes ∧ True
theorem ofRun : EncOf tyRun (fun x : Run => (eRunT .rd x).cells) fitRun := EncOfs.st (EncOfs.cons ofJob (EncOfs.cons (EncOf.int .i64) (EncOfs.cons (EncOf.sl (EncOf.int .i64) eI (fun _ => rfl) rfl) EncOfs.nil))) (fun p => ⟨p.1, p.2.1, p.2.2.1⟩) (fun _ => by rfl) (fun _ h => by exact h)
def tyEnd : Ty := .st [.int .i64, .int .i64, .int .i64]
def fitEnd (x : End) : Prop := FitT x.id ∧ FitT x.t ∧ FitT x.why ∧ True
theorem ofEnd : EncOf tyEnd (fun x : End => (eEnd x).cells) fitEnd := EncOfs.st (EncOfs.cons (EncOf.int .i64) (EncOfs.cons (EncOf.int .i64) (EncOfs.cons (EncOf.int .i64) EncOfs.nil))) (fun p => ⟨p.1, p.2.1, p.2.2.1⟩) (fun _ => by rfl) (fun _ h => by exact h)
def tyState : Ty := .st [tyTopo, .sl .bool, tyVec, .int .i64, .int .i64, .sl tyJob, .sl tyRun, .sl tyEnd]
def fitState (x : State) : Prop := fitTopo x.topo ∧ (FitL FitT) x.up ∧ fitVec x.lic ∧ FitT x.depth ∧ FitT x.now ∧ (FitL fitJob) x.queue ∧ (FitL fitRun) x.runs ∧ (FitL fitEnd) x.ends ∧ True
theorem ofState : EncOf tyState (fun x : State => (eStateT .rd x).cells) fitState := EncOfs.st (EncOfs.cons ofTopo (EncOfs.cons (EncOf.sl EncOf.bool eBo (fun _ => rfl) rfl) (EncOfs.cons ofVec (EncOfs.cons (EncOf.int .i64) (EncOfs.cons (EncOf.int .i64) (EncOfs.cons (EncOf.sl ofJob eJob (fun _ => rfl) rfl) (EncOfs.cons (EncOf.sl ofRun (eRunT .rd) (fun _ => rfl) rfl) (EncOfs.cons (EncOf.sl ofEnd eEnd (fun _ => rfl) rfl) EncOfs.nil)))))))) (fun p => ⟨p.1, p.2.1, p.2.2.1, p.2.2.2.1, p.2.2.2.2.1, p.2.2.2.2.2.1, p.2.2.2.2.2.2.1, p.2.2.2.2.2.2.2.1⟩) (fun _ => by rfl) (fun _ h => by exact h)
section
variable {α : Type}
theorem set_take {a ys : List α} {i : Nat} {x : α} (hx : a[i]? = some x) (hl : ys.length = a.length) (h : ys.take i = a.take i) : (ys.set i x).take (i + 1) = a.take (i + 1) := by
 have hi := (List.getElem?_eq_some_iff.1 hx).1
 apply List.ext_getElem?
 intro j
 by_cases hj : j < i + 1
 ·rw [List.getElem?_take_of_lt hj, List.getElem?_take_of_lt hj, List.getElem?_set]
  by_cases e : i = j
  ·subst e; rw [if_pos rfl, if_pos (by omega), hx]
  ·rw [if_neg e]
   have := congrArg (fun l : List α => l[j]?) h
   rwa [List.getElem?_take_of_lt (by omega), List.getElem?_take_of_lt (by omega)] at this
 ·rw [List.getElem?_eq_none (by simp; omega), List.getElem?_eq_none (by simp; omega)]
theorem copy_whl {bd : Int × List α → (Int × List α → Option (List α)) → Option (List α)} {a : List α} (hm : a.length < 9223372036854775807)
  (h1 : ∀ (i : Nat) ys k x, a[i]? = some x → ys.length = a.length → bd ((i : Int), ys) k = k (((i + 1 : Nat) : Int), ys.set i x)) (h2 : ∀ ys k, bd ((a.length : Int), ys) k = some ys) {ys : List α} (hy : ys.length = a.length) : whl bd 9223372036854775807 (0, ys) = some a := by
 refine whl_inv (fun _ o => o = some a) (fun b => a.length - b.1.toNat) (fun b => ∃ i : Nat, b.1 = (i : Int) ∧ i ≤ a.length ∧ b.2.length = a.length ∧ b.2.take i = a.take i) ?_ 9223372036854775807 (0, ys) ⟨0, rfl, Nat.zero_le _, hy, rfl⟩ (by simp only; omega)
 rintro ⟨n, zs⟩ k ⟨i, hi, hle, hz, ht⟩ hk
 simp only at hi hz ht hk
 subst hi
 by_cases h : i < a.length
 ·rw [h1 i zs k a[i] (List.getElem?_eq_getElem h) hz]
  exact hk _ ⟨i + 1, rfl, h, by simp [hz], set_take (List.getElem?_eq_getElem h) hz ht⟩ (by simp only; omega)
 ·have : i = a.length := by omega
  subst this
  rw [h2]
  rw [List.take_length, ← hz, List.take_length] at ht
  rw [ht]
theorem mk_some {bs : Nat} {n : Nat} {z : α} (h : bs * n ≤ 140737488355328) (h' : n ≤ 9223372036854775807) : mkL bs (n : Int) z = some (List.replicate n z) := by
 unfold mkL
 have e : (bs : Int) * (n : Int) = ((bs * n : Nat) : Int) := by rw [Int.natCast_mul]
 rw [if_pos ⟨by omega, by omega, by omega⟩]
 simp
theorem eq_whl {bd : Int → (Int → Option Bool) → Option Bool} {n : Nat} (hm : n < 9223372036854775807) (h1 : ∀ (i : Nat) k, i < n → bd (i : Int) k = k ((i + 1 : Nat) : Int)) (h2 : ∀ k, bd (n : Int) k = some true) : whl bd 9223372036854775807 0 = some true := by
 refine whl_inv (fun _ o => o = some true) (fun b => n - b.toNat) (fun b => ∃ i : Nat, b = (i : Int) ∧ i ≤ n) ?_ 9223372036854775807 0 ⟨0, rfl, Nat.zero_le _⟩ (by omega)
 rintro _ k ⟨i, rfl, hle⟩ hk
 by_cases h : i < n
 ·rw [h1 i k h]
  exact hk _ ⟨i + 1, rfl, h⟩ (by omega)
 ·have : i = n := by omega
  subst this
  exact h2 k
theorem cnt_lt {n : Nat} : ¬ ((n : Int) < (n : Int)) := by omega
end
theorem laws_toIntS_eq {l : List Int} (h : l.length ≤ 1048576) : laws_toIntS l = some l := by
 unfold laws_toIntS
 rw [mk_some (by omega) (by omega), Option.bind_some]
 refine copy_whl (by omega) (fun i ys k x hx hl => ?_) (fun ys k => ?_) (by simp)
 ·have hi := (List.getElem?_eq_some_iff.1 hx).1
  have hlt : (i : Int) < (l.length : Int) := by omega
  obtain ⟨y, hy⟩ : ∃ y, ys[i]? = some y := ⟨_, List.getElem?_eq_getElem (by omega)⟩
  simp only [laws_toIntS_b13, hlt, decide_true, cond_true, idx_ofNat, hx, hy, Option.bind_some, w64_nat (n := i) (by omega), Int.toNat_natCast]
 ·simp only [laws_toIntS_b13, cnt_lt, decide_false, cond_false]
theorem laws_toNodeS_eq {l : List Node} (h : l.length ≤ 1048576) : laws_toNodeS l = some l := by
 unfold laws_toNodeS
 rw [mk_some (by omega) (by omega), Option.bind_some]
 refine copy_whl (by omega) (fun i ys k x hx hl => ?_) (fun ys k => ?_) (by simp)
 ·have hi := (List.getElem?_eq_some_iff.1 hx).1
  have hlt : (i : Int) < (l.length : Int) := by omega
  obtain ⟨y, hy⟩ : ∃ y, ys[i]? = some y := ⟨_, List.getElem?_eq_getElem (by omega)⟩
  simp only [laws_toNodeS_b13, hlt, decide_true, cond_true, idx_ofNat, hx, hy, Option.bind_some, w64_nat (n := i) (by omega), Int.toNat_natCast]
  rfl
 ·simp only [laws_toNodeS_b13, cnt_lt, decide_false, cond_false]
theorem laws_toBoolS_eq {l : List Bool} (h : l.length ≤ 1048576) : laws_toBoolS l = some l := by
 unfold laws_toBoolS
 rw [mk_some (by omega) (by omega), Option.bind_some]
 refine copy_whl (by omega) (fun i ys k x hx hl => ?_) (fun ys k => ?_) (by simp)
 ·have hi := (List.getElem?_eq_some_iff.1 hx).1
  have hlt : (i : Int) < (l.length : Int) := by omega
  obtain ⟨y, hy⟩ : ∃ y, ys[i]? = some y := ⟨_, List.getElem?_eq_getElem (by omega)⟩
  simp only [laws_toBoolS_b13, hlt, decide_true, cond_true, idx_ofNat, hx, hy, Option.bind_some, w64_nat (n := i) (by omega), Int.toNat_natCast]
 ·simp only [laws_toBoolS_b13, cnt_lt, decide_false, cond_false]
theorem laws_toJobS_eq {l : List Job} (h : l.length ≤ 1048576) : laws_toJobS l = some l := by
 unfold laws_toJobS
 rw [mk_some (by omega) (by omega), Option.bind_some]
 refine copy_whl (by omega) (fun i ys k x hx hl => ?_) (fun ys k => ?_) (by simp)
 ·have hi := (List.getElem?_eq_some_iff.1 hx).1
  have hlt : (i : Int) < (l.length : Int) := by omega
  obtain ⟨y, hy⟩ : ∃ y, ys[i]? = some y := ⟨_, List.getElem?_eq_getElem (by omega)⟩
  simp only [laws_toJobS_b13, hlt, decide_true, cond_true, idx_ofNat, hx, hy, Option.bind_some, w64_nat (n := i) (by omega), Int.toNat_natCast]
  rfl
 ·simp only [laws_toJobS_b13, cnt_lt, decide_false, cond_false]
theorem laws_toEndS_eq {l : List End} (h : l.length ≤ 1048576) : laws_toEndS l = some l := by
 unfold laws_toEndS
 rw [mk_some (by omega) (by omega), Option.bind_some]
 refine copy_whl (by omega) (fun i ys k x hx hl => ?_) (fun ys k => ?_) (by simp)
 ·have hi := (List.getElem?_eq_some_iff.1 hx).1
  have hlt : (i : Int) < (l.length : Int) := by omega
  obtain ⟨y, hy⟩ : ∃ y, ys[i]? = some y := ⟨_, List.getElem?_eq_getElem (by omega)⟩
  simp only [laws_toEndS_b13, hlt, decide_true, cond_true, idx_ofNat, hx, hy, Option.bind_some, w64_nat (n := i) (by omega), Int.toNat_natCast]
  rfl
 ·simp only [laws_toEndS_b13, cnt_lt, decide_false, cond_false]
theorem laws_toTopo_eq {t : Topo} (h1 : t.parents.length ≤ 1048576) (h2 : t.nodes.length ≤ 1048576) : laws_toTopo t = some t := by
 unfold laws_toTopo
 rw [laws_toIntS_eq h1, Option.bind_some, laws_toNodeS_eq h2, Option.bind_some]
theorem laws_toRun_eq {x : Run} (h : x.nodes.length ≤ 1048576) : laws_toRun x = some x := by
 unfold laws_toRun
 rw [laws_toIntS_eq h, Option.bind_some]
 rfl
theorem laws_toRunS_eq {l : List Run} (h : l.length ≤ 1048576) (hn : ∀ x ∈ l, x.nodes.length ≤ 1048576) : laws_toRunS l = some l := by
 unfold laws_toRunS
 rw [mk_some (by omega) (by omega), Option.bind_some]
 refine copy_whl (by omega) (fun i ys k x hx hl => ?_) (fun ys k => ?_) (by simp)
 ·have hi := (List.getElem?_eq_some_iff.1 hx).1
  have hlt : (i : Int) < (l.length : Int) := by omega
  obtain ⟨y, hy⟩ : ∃ y, ys[i]? = some y := ⟨_, List.getElem?_eq_getElem (by omega)⟩
  simp only [laws_toRunS_b13, hlt, decide_true, cond_true, idx_ofNat, hx, hy, Option.bind_some, w64_nat (n := i) (by omega), Int.toNat_natCast, laws_toRun_eq (hn x (List.mem_of_getElem? hx))]
 ·simp only [laws_toRunS_b13, cnt_lt, decide_false, cond_false]
/-- The sizes that the laws ask of a state. -/
structure SizedS (s : State) : Prop where
 parents : s.topo.parents.length ≤ 1048576
 nodes : s.topo.nodes.length ≤ 1048576
 up : s.up.length ≤ 1048576
 jobs : s.queue.length + s.runs.length ≤ 1048576
 run : ∀ x ∈ s.runs, x.nodes.length ≤ 1048576
 ends : s.ends.length ≤ 1048576
theorem laws_toState_eq {s : State} (h : SizedS s) : laws_toState s = some s := by
 have := h.jobs
 unfold laws_toState
 rw [laws_toTopo_eq h.parents h.nodes, Option.bind_some, laws_toBoolS_eq h.up, Option.bind_some, laws_toJobS_eq (by omega), Option.bind_some, laws_toRunS_eq (by omega) h.run, Option.bind_some, laws_toEndS_eq h.ends, Option.bind_some]
 rfl
theorem bne_refl {α : Type} [BEq α] [LawfulBEq α] (a : α) : (a != a) = false := by simp
theorem laws_eqVec_refl (v : Vec) : laws_eqVec v v = true := by simp [laws_eqVec]
theorem laws_eqNode_refl (v : Node) : laws_eqNode v v = true := by simp [laws_eqNode, laws_eqVec_refl]
theorem laws_eqJob_refl (v : Job) : laws_eqJob v v = true := by simp [laws_eqJob, laws_eqVec_refl]
theorem laws_eqEnd_refl (v : End) : laws_eqEnd v v = true := by simp [laws_eqEnd]
theorem laws_eqIntS_refl {l : List Int} (h : l.length ≤ 1048576) : laws_eqIntS l l = some true := by
 unfold laws_eqIntS
 rw [bne_refl, cond_false]
 refine eq_whl (n := l.length) (by omega) (fun i k hi => ?_) (fun k => ?_)
 ·have hlt : (i : Int) < (l.length : Int) := by omega
  obtain ⟨x, hx⟩ : ∃ x, l[i]? = some x := ⟨_, List.getElem?_eq_getElem hi⟩
  simp only [laws_eqIntS_b25, hlt, decide_true, cond_true, idx_ofNat, hx, Option.bind_some, w64_nat (n := i) (by omega), bne_refl, cond_false]
 ·simp only [laws_eqIntS_b25, cnt_lt, decide_false, cond_false]
theorem laws_eqNodeS_refl {l : List Node} (h : l.length ≤ 1048576) : laws_eqNodeS l l = some true := by
 unfold laws_eqNodeS
 rw [bne_refl, cond_false]
 refine eq_whl (n := l.length) (by omega) (fun i k hi => ?_) (fun k => ?_)
 ·have hlt : (i : Int) < (l.length : Int) := by omega
  obtain ⟨x, hx⟩ : ∃ x, l[i]? = some x := ⟨_, List.getElem?_eq_getElem hi⟩
  simp only [laws_eqNodeS_b25, hlt, decide_true, cond_true, idx_ofNat, hx, Option.bind_some, w64_nat (n := i) (by omega), laws_eqNode_refl, Bool.not_true, cond_false]
 ·simp only [laws_eqNodeS_b25, cnt_lt, decide_false, cond_false]
theorem laws_eqBoolS_refl {l : List Bool} (h : l.length ≤ 1048576) : laws_eqBoolS l l = some true := by
 unfold laws_eqBoolS
 rw [bne_refl, cond_false]
 refine eq_whl (n := l.length) (by omega) (fun i k hi => ?_) (fun k => ?_)
 ·have hlt : (i : Int) < (l.length : Int) := by omega
  obtain ⟨x, hx⟩ : ∃ x, l[i]? = some x := ⟨_, List.getElem?_eq_getElem hi⟩
  simp only [laws_eqBoolS_b25, hlt, decide_true, cond_true, idx_ofNat, hx, Option.bind_some, w64_nat (n := i) (by omega), beq_self_eq_true, Bool.not_true, cond_false]
 ·simp only [laws_eqBoolS_b25, cnt_lt, decide_false, cond_false]
theorem laws_eqJobS_refl {l : List Job} (h : l.length ≤ 1048576) : laws_eqJobS l l = some true := by
 unfold laws_eqJobS
 rw [bne_refl, cond_false]
 refine eq_whl (n := l.length) (by omega) (fun i k hi => ?_) (fun k => ?_)
 ·have hlt : (i : Int) < (l.length : Int) := by omega
  obtain ⟨x, hx⟩ : ∃ x, l[i]? = some x := ⟨_, List.getElem?_eq_getElem hi⟩
  simp only [laws_eqJobS_b25, hlt, decide_true, cond_true, idx_ofNat, hx, Option.bind_some, w64_nat (n := i) (by omega), laws_eqJob_refl, Bool.not_true, cond_false]
 ·simp only [laws_eqJobS_b25, cnt_lt, decide_false, cond_false]
theorem laws_eqEndS_refl {l : List End} (h : l.length ≤ 1048576) : laws_eqEndS l l = some true := by
 unfold laws_eqEndS
 rw [bne_refl, cond_false]
 refine eq_whl (n := l.length) (by omega) (fun i k hi => ?_) (fun k => ?_)
 ·have hlt : (i : Int) < (l.length : Int) := by omega
  obtain ⟨x, hx⟩ : ∃ x, l[i]? = some x := ⟨_, List.getElem?_eq_getElem hi⟩
  simp only [laws_eqEndS_b25, hlt, decide_true, cond_true, idx_ofNat, hx, Option.bind_some, w64_nat (n := i) (by omega), laws_eqEnd_refl, Bool.not_true, cond_false]
 ·simp only [laws_eqEndS_b25, cnt_lt, decide_false, cond_false]
theorem laws_eqTopo_refl {t : Topo} (h1 : t.parents.length ≤ 1048576) (h2 : t.nodes.length ≤ 1048576) : laws_eqTopo t t = some true := by
 unfold laws_eqTopo
 rw [laws_eqIntS_refl h1, Option.bind_some, laws_eqNodeS_refl h2]
 rfl
theorem laws_eqRun_refl {x : Run} (h : x.nodes.length ≤ 1048576) : laws_eqRun x x = some true := by
 unfold laws_eqRun
 rw [laws_eqJob_refl, laws_eqIntS_refl h, bne_refl]
 rfl
theorem laws_eqRunS_refl {l : List Run} (h : l.length ≤ 1048576) (hn : ∀ x ∈ l, x.nodes.length ≤ 1048576) : laws_eqRunS l l = some true := by
 unfold laws_eqRunS
 rw [bne_refl, cond_false]
 refine eq_whl (n := l.length) (by omega) (fun i k hi => ?_) (fun k => ?_)
 ·have hlt : (i : Int) < (l.length : Int) := by omega
  obtain ⟨x, hx⟩ : ∃ x, l[i]? = some x := ⟨_, List.getElem?_eq_getElem hi⟩
  simp only [laws_eqRunS_b25, hlt, decide_true, cond_true, idx_ofNat, hx, Option.bind_some, w64_nat (n := i) (by omega), laws_eqRun_refl (hn x (List.mem_of_getElem? hx)), Bool.not_true, cond_false]
 ·simp only [laws_eqRunS_b25, cnt_lt, decide_false, cond_false]
theorem laws_eqState_refl {s : State} (h : SizedS s) : laws_eqState s s = some true := by
 have := h.jobs
 unfold laws_eqState
 rw [laws_eqTopo_refl h.parents h.nodes, laws_eqBoolS_refl h.up, laws_eqVec_refl, bne_refl, bne_refl, laws_eqJobS_refl (by omega), laws_eqRunS_refl (by omega) h.run, laws_eqEndS_refl h.ends]
 rfl
theorem sz_eq {n : Int} {c : Nat} (h0 : 0 ≤ n) (h : n ≤ 1048576) (hc : c ≤ maxLen) : (bif decide (w64 (n - (c : Int)) < 0) then (-1 : Int) else w64 (n - (c : Int))) = szr n c := by
 have hm : maxLen = 9223372036854775807 := rfl
 rw [w64_id (by omega)]
 unfold szr
 by_cases q : n < c
 ·rw [if_pos q, show decide (n - (c : Int) < 0) = true by rw [decide_eq_true_eq]; omega]; rfl
 ·rw [if_neg q, show decide (n - (c : Int) < 0) = false by rw [decide_eq_false_iff_not]; omega]; rfl
theorem szr_neg {n : Int} {c : Nat} : (szr n c < 0) ∨ (0 ≤ szr n c ∧ (c : Int) ≤ n ∧ szr n c = n - c) := by
 unfold szr; split
 ·exact .inl (by omega)
 ·exact .inr (by omega)
theorem szRun_eq {x : Run} {n : Int} (h0 : 0 ≤ n) (h : n ≤ 1048576) (hc : x.nodes.length ≤ maxLen) : laws_szRun x n = szr n x.nodes.length := by
 unfold laws_szRun laws_szIntS
 rw [sz_eq h0 h hc]
 rcases szr_neg (n := n) (c := x.nodes.length) with q | q
 ·have : szr n x.nodes.length = -1 := by unfold szr at q ⊢; split <;> omega
  rw [this]; rfl
 ·have : decide (szr n x.nodes.length < 0) = false := by simp; omega
  rw [this]; rfl
theorem szRunS_eq {l : List Run} {n : Int} (h0 : 0 ≤ n) (h : n ≤ 1048576) (hc : FitL fitRun l) : ∃ r, laws_szRunS l n = some r ∧ r ≤ n ∧ (0 ≤ r → (l.length : Int) + r ≤ n ∧ ∀ x ∈ l, x.nodes.length ≤ 1048576) := by
 have hm : maxLen = 9223372036854775807 := rfl
 obtain ⟨c1, c2⟩ := hc
 unfold laws_szRunS
 rw [w64_id (by omega)]
 by_cases q : n - (l.length : Int) < 0
 ·exact ⟨-1, by simp [q], by omega, fun h => by omega⟩
 ·simp only [q, decide_false, cond_false]
  refine whl_inv (fun _ o => ∃ r, o = some r ∧ r ≤ n ∧ (0 ≤ r → (l.length : Int) + r ≤ n ∧ ∀ x ∈ l, x.nodes.length ≤ 1048576)) (fun b => l.length - b.2.toNat) (fun b => ∃ i : Nat, b.2 = (i : Int) ∧ i ≤ l.length ∧ 0 ≤ b.1 ∧ (l.length : Int) + b.1 ≤ n ∧ ∀ j x, j < i → l[j]? = some x → x.nodes.length ≤ 1048576) ?_ 9223372036854775807 (n - (l.length : Int), 0) ⟨0, rfl, Nat.zero_le _, by simp only; omega, by simp only; omega, fun j x hj => by omega⟩ (by simp only; omega)
  rintro ⟨m, _⟩ k ⟨i, rfl, hi, hm0, hmn, hall⟩ hk
  simp only at hm0 hmn hk
  unfold laws_szRunS_b28
  by_cases hlt : i < l.length
  ·have hlt' : (i : Int) < (l.length : Int) := by omega
   have hx : l[i]? = some l[i] := List.getElem?_eq_getElem hlt
   simp only [hlt', decide_true, cond_true, idx_ofNat, hx, Option.bind_some, w64_nat (n := i) (by omega)]
   rw [szRun_eq hm0 (by omega) (c2 _ (List.getElem_mem hlt)).2.2.1.1]
   rcases szr_neg (n := m) (c := l[i].nodes.length) with q | q
   ·simp only [q, decide_true, cond_true]
    exact ⟨-1, rfl, by omega, fun h => by omega⟩
   ·have : ¬ szr m l[i].nodes.length < 0 := by omega
    simp only [this, decide_false, cond_false]
    refine hk _ ⟨i + 1, rfl, hlt, q.1, by simp only; omega, fun j x hj hx' => ?_⟩ (by simp only; omega)
    by_cases e : j = i
    ·subst e; rw [hx] at hx'; cases hx'; omega
    ·exact hall j x (by omega) hx'
  ·have : i = l.length := by omega
   subst this
   simp only [cnt_lt, decide_false, cond_false]
   exact ⟨m, rfl, by omega, fun _ => ⟨hmn, fun x hx => by
    obtain ⟨j, hj⟩ := List.getElem?_of_mem hx
    exact hall j x (List.getElem?_eq_some_iff.1 hj).1 hj⟩⟩
theorem laws_szState_eq {s : State} (hf : fitState s) : ∃ r, laws_szState s 1048576 = some r ∧ (r < 0 ∨ SizedS s) := by
 obtain ⟨⟨p1, p2, _⟩, p3, _, _, _, p4, p5, p6, _⟩ := hf
 have no : ∀ {c : Prop} [Decidable c], c → (decide c) = true := fun h => by simp [h]
 have nn : ∀ {c : Prop} [Decidable c], ¬ c → (decide c) = false := fun h => by simp [h]
 have bad : ∃ r, (some (-1) : Option Int) = some r ∧ (r < 0 ∨ SizedS s) := ⟨-1, rfl, .inl (by omega)⟩
 unfold laws_szState
 have e1 : laws_szIntS s.topo.parents 1048576 = szr 1048576 s.topo.parents.length := sz_eq (by omega) (by omega) p1.1
 have et : laws_szTopo s.topo 1048576 < 0 ∨ (s.topo.parents.length ≤ 1048576 ∧ s.topo.nodes.length ≤ 1048576 ∧ 0 ≤ laws_szTopo s.topo 1048576 ∧ laws_szTopo s.topo 1048576 ≤ 1048576) := by
  unfold laws_szTopo
  rw [e1]
  rcases szr_neg (n := 1048576) (c := s.topo.parents.length) with q | q
  ·rw [no q, cond_true]; exact .inl (by omega)
  ·rw [nn (by omega), cond_false]
   have e2 : laws_szNodeS s.topo.nodes (szr 1048576 s.topo.parents.length) = szr (szr 1048576 s.topo.parents.length) s.topo.nodes.length := sz_eq q.1 (by omega) p2.1
   rw [e2]
   rcases szr_neg (n := szr 1048576 s.topo.parents.length) (c := s.topo.nodes.length) with q' | q'
   ·rw [no q', cond_true]; exact .inl (by omega)
   ·rw [nn (by omega), cond_false]
    exact .inr (by omega)
 generalize laws_szTopo s.topo 1048576 = m0 at et ⊢
 rcases et with q | q
 ·rw [no q, cond_true]; exact bad
 rw [nn (by omega), cond_false]
 have e3 : laws_szBoolS s.up m0 = szr m0 s.up.length := sz_eq (by omega) (by omega) p3.1
 rw [e3]
 rcases szr_neg (n := m0) (c := s.up.length) with r | r
 ·rw [no r, cond_true]; exact bad
 rw [nn (by omega), cond_false]
 generalize szr m0 s.up.length = m1 at r ⊢
 have e4 : laws_szJobS s.queue m1 = szr m1 s.queue.length := sz_eq (by omega) (by omega) p4.1
 rw [e4]
 rcases szr_neg (n := m1) (c := s.queue.length) with t | t
 ·rw [no t, cond_true]; exact bad
 rw [nn (by omega), cond_false]
 generalize szr m1 s.queue.length = m2 at t ⊢
 obtain ⟨m3, e5, u1, u2⟩ := szRunS_eq (n := m2) (by omega) (by omega) p5
 rw [e5, Option.bind_some]
 by_cases u : m3 < 0
 ·rw [no u, cond_true]; exact bad
 rw [nn u, cond_false]
 have u' := u2 (by omega)
 have e6 : laws_szEndS s.ends m3 = szr m3 s.ends.length := sz_eq (by omega) (by omega) p6.1
 rw [e6]
 rcases szr_neg (n := m3) (c := s.ends.length) with v | v
 ·rw [no v, cond_true]; exact bad
 rw [nn (by omega), cond_false]
 exact ⟨_, rfl, .inr ⟨q.1, q.2.1, by omega, by omega, u'.2, by omega⟩⟩
end Go.Proofs.YtndemhaoilhbbaaGreat
namespace Go.Proofs.YtndemhaoilhbbaaGreat
open Go Go.RowKit Eng
def ir_laws_FnExactDigest : L :=
.seq (.reg [.bx 1 (.t 0),.mv 2 (.c (.bool false))])
 (.seq (.reg [.mv 3 (.c (.int .i64 1048576))])
 (.seq (.reg [.ld 7 (.t 1) 11 true,.mv 8 (.t 3),.cq 9 F.laws_szState [(.t 7), (.t 8)],.mv 3 (.t 9)])
 (.seq (.seq (.reg [.mv 10 (.t 3),.bi 11 .lss (.t 10) (.c (.int .i64 0))])
 (.cond (.t 11) (.seq (.reg [.mv 2 (.c (.bool true))])
 (.gw (.ret)))
 (.skip)))
 (.seq (.reg [.ld 12 (.t 1) 11 true,.cq 13 F.laws_toState [(.t 12)],.cq 14 F.spec_Digest [(.t 13)],.mv 4 (.t 14)])
 (.seq (.reg [.ld 15 (.t 1) 11 true,.cq 16 F.laws_toState [(.t 15)],.al 5 [.nl, .nl, .nl, .int .i64 0, .int .i64 0, .int .i64 0, .int .i64 0, .int .i64 0, .nl, .nl, .nl],.st (.t 5) (.t 16) 11])
 (.seq (.reg [.ld 17 (.t 5) 11 true,.cq 18 F.impl_Digest [(.t 17)],.mv 6 (.t 18)])
 (.seq (.seq (.reg [.mv 19 (.t 6),.mv 20 (.t 4),.bi 21 .neq (.t 19) (.t 20)])
 (.cond (.t 21) (.seq (.reg [.mv 2 (.c (.bool false))])
 (.gw (.ret)))
 (.skip)))
 (.seq (.seq (.rq 5 [.ld 22 (.t 5) 11 true,.ld 23 (.t 1) 11 true,.cq 24 F.laws_toState [(.t 23)],.cq 25 F.laws_eqState [(.t 22), (.t 24)],.un 26 (.t 25)])
 (.cond (.t 26) (.seq (.reg [.mv 2 (.c (.bool false))])
 (.gw (.ret)))
 (.skip)))
 (.seq (.reg [.mv 2 (.c (.bool true))])
 (.gw (.ret)))))))))))
def rs_laws_FnExactDigest : List Rv := [.t 2]
theorem ck_laws_FnExactDigest : chkFn Tryz.prog F.laws_FnExactDigest 1 ir_laws_FnExactDigest rs_laws_FnExactDigest = true := by kernel_rfl
def laws_FnExactDigest (aS1 : State) : Option Bool :=
 (laws_szState aS1 1048576).bind fun n2 => bif (decide (n2 < 0)) then (some true) else ((laws_toState aS1).bind fun y3 => (spec_Digest y3).bind fun n4 => (laws_toState aS1).bind fun y5 => (impl_Digest y5).bind fun n6 => bif (n6 != n4) then (some false) else ((laws_toState aS1).bind fun y7 => (laws_eqState y5 y7).bind fun b8 => bif (!b8) then (some false) else (some true)))
theorem laws_FnExactDigest_ok {aS1 : State} {r : Bool} (H : laws_FnExactDigest aS1 = some r) : Snd Tryz.prog F.laws_FnExactDigest [eStateT .rd aS1] (.bool r) [] := by
 refine snd_g ck_laws_FnExactDigest rfl (by simp) ?_
 unfold laws_FnExactDigest at H
 obtain ⟨n2, h2, H⟩ := bB H
 refine Wh_go 99 [.c 9 (laws_szState_ok h2)] (by kernel_rfl) fun _ => ?_
 refine Wh_iH H (fun H => ?_) fun H => ?_
 ·refine Wh_o fun _ => ?_
  replace H := sI H; subst H
  exact Wh_end [(2, .d)] [] [] [] [] [] (by kernel_rfl)
 ·obtain ⟨y3, h3, H⟩ := bB H
  obtain ⟨n4, h4, H⟩ := bB H
  obtain ⟨y5, h5, H⟩ := bB H
  obtain ⟨n6, h6, H⟩ := bB H
  refine Wh_go 99 [.c 13 (laws_toState_ok h3), .u 14 (.call _ _ _ _ _ (AEs.of (xs := [.agg [.sl .rd 1 (y3.topo.parents.map eI), .sl .rd 4 (y3.topo.nodes.map eNode), .sl .rd 1 (y3.up.map eBo), .int .i64 y3.lic.a, .int .i64 y3.lic.b, .int .i64 y3.lic.c, .int .i64 y3.depth, .int .i64 y3.now, .sl .rd 11 (y3.queue.map eJob), .sl .rd 13 (y3.runs.map (eRunT .nw)), .sl .rd 3 (y3.ends.map eEnd)]]) (by simp)) (fun _ => spec_Digest_ok h4)), .c 16 (laws_toState_ok h5), .u 18 (.call _ _ _ _ _ (AEs.of (xs := [.agg [.sl .rd 1 (y5.topo.parents.map eI), .sl .rd 4 (y5.topo.nodes.map eNode), .sl .rd 1 (y5.up.map eBo), .int .i64 y5.lic.a, .int .i64 y5.lic.b, .int .i64 y5.lic.c, .int .i64 y5.depth, .int .i64 y5.now, .sl .rd 11 (y5.queue.map eJob), .sl .rd 13 (y5.runs.map (eRunT .nw)), .sl .rd 3 (y5.ends.map eEnd)]]) (by simp)) (fun _ => impl_Digest_ok h6))] (by kernel_rfl) fun _ => ?_
  refine Wh_iH H (fun H => ?_) fun H => ?_
  ·refine Wh_o fun _ => ?_
   replace H := sI H; subst H
   exact Wh_end [(2, .d)] [] [] [] [] [] (by kernel_rfl)
  ·obtain ⟨y7, h7, H⟩ := bB H
   obtain ⟨b8, h8, H⟩ := bB H
   refine Wh_go 99 [.c 24 (laws_toState_ok h7), .u 25 (.call _ _ _ _ _ (AEs.of (xs := [.agg [.sl .rd 1 (y5.topo.parents.map eI), .sl .rd 4 (y5.topo.nodes.map eNode), .sl .rd 1 (y5.up.map eBo), .int .i64 y5.lic.a, .int .i64 y5.lic.b, .int .i64 y5.lic.c, .int .i64 y5.depth, .int .i64 y5.now, .sl .rd 11 (y5.queue.map eJob), .sl .rd 13 (y5.runs.map (eRunT .nw)), .sl .rd 3 (y5.ends.map eEnd)], .agg [.sl .rd 1 (y7.topo.parents.map eI), .sl .rd 4 (y7.topo.nodes.map eNode), .sl .rd 1 (y7.up.map eBo), .int .i64 y7.lic.a, .int .i64 y7.lic.b, .int .i64 y7.lic.c, .int .i64 y7.depth, .int .i64 y7.now, .sl .rd 11 (y7.queue.map eJob), .sl .rd 13 (y7.runs.map (eRunT .nw)), .sl .rd 3 (y7.ends.map eEnd)]]) (by simp)) (fun _ => laws_eqState_ok h8))] (by kernel_rfl) fun _ => ?_
   refine Wh_iH H (fun H => ?_) fun H => ?_
   ·refine Wh_o fun _ => ?_
    replace H := sI H; subst H
    exact Wh_end [(2, .d)] [] [] [] [] [] (by kernel_rfl)
   ·refine Wh_o fun _ => ?_
    replace H := sI H; subst H
    exact Wh_end [(2, .d)] [] [] [] [] [] (by kernel_rfl)
theorem State_of {a : AV} (h : tyState.okV a) : ∃ s, AE a (eStateT .rd s) ∧ fitState s := EncOf.okV_st ofState h
theorem FnExactDigest_t {s : State} (hf : fitState s) : laws_FnExactDigest s = some true := by
 unfold laws_FnExactDigest
 obtain ⟨r, h1, h2⟩ := laws_szState_eq hf
 rw [h1, Option.bind_some]
 by_cases hr : r < 0
 ·simp [hr]
 have hS : SizedS s := h2.resolve_left hr
 obtain ⟨q, q1, q2⟩ := Digest_eq hS.jobs
 simp only [hr, decide_false, cond_false, laws_toState_eq hS, Option.bind_some, q1, q2, bne_refl, laws_eqState_refl hS, Bool.not_true]
theorem FnExactDigest_ok (xs : List AV) (h : okVs [tyState] xs) : Snd Tryz.prog F.laws_FnExactDigest xs (.bool true) [] := by
 obtain ⟨a, _, rfl, ha, rfl⟩ := h
 obtain ⟨s, ha, hf⟩ := State_of ha
 exact (laws_FnExactDigest_ok (FnExactDigest_t hf)).wkS (.cons ha .nil)
end Go.Proofs.YtndemhaoilhbbaaGreat
