/-
  Lemmas, part 9: the engine that steps through the code, the walks of functions, and the laws of what they compute.
-/
import Derived.Test.YtndemhaoilhbbaaGreatPB8
namespace Go.Proofs.YtndemhaoilhbbaaGreat
open Go Go.RowKit Eng
def Zeh : L :=
sR [.bx 1 (.t 0),.mv 2 (cB false)]
 (sR [fA 5 1 1,lD 6 5 11 true,.bd 7 [.int .i64 0, .int .i64 0, .int .i64 0, .int .i64 0, .int .i64 0, .int .i64 0, .int .i64 0, .int .i64 0, .int .i64 0, .int .i64 0, .int .i64 0] [],.es 8 false [0, 0, 0, 0, 0, 0, 0, 0, 0, 0, 0] (.t 6) (.t 7),mV 3 8]
 (sR [fA 9 1 13,lD 10 9 3 true,.bd 11 [.int .i64 0, .int .i64 0, .int .i64 0] [],.es 12 false [0, 0, 0] (.t 10) (.t 11),mV 4 12]
 (.seq (sR [fA 13 1 0,lD 14 13 1 false]
 (.blk 0 (sR [.bi 16 .eql (.t 14) (kI 1),mV 15 16]
 (.cond (.t 15) (sR [fA 17 1 1,lD 18 17 11 true,cQ 19 Z64 [18],mV 20 19,.g 20 true (fA 21 1 12),.g 20 true (lD 22 21 1 false),.g 20 true (.bi 23 .eql (.t 22) (kI 0)),.pk 24 (.t 20) (.t 23) (cB false),mV 25 24,.g 25 true (mV 26 4),.pk 27 (.t 25) (.t 26) (cB false),mV 2 27]
 gR)
 (.seq (sR [.bi 29 .eql (.t 14) (kI 2),mV 28 29]
 (.cond (.t 28) .skip
 (.reg [.bi 30 .eql (.t 14) (kI 3),mV 28 30])))
 (.gw (.cond (.t 28) (sR [mV 31 3,mV 32 31,.g 32 true (mV 33 4),.pk 34 (.t 32) (.t 33) (cB false),mV 35 34,.g 35 true (fA 36 1 12),.g 35 true (lD 37 36 1 false),.g 35 true (.bi 38 .geq (.t 37) (kI 1)),.pk 39 (.t 35) (.t 38) (cB false),mV 40 39,.g 40 true (fA 41 1 12),.g 40 true (lD 42 41 1 false),.g 40 true (.bi 43 .leq (.t 42) (kI 999)),.pk 44 (.t 40) (.t 43) (cB false),mV 2 44]
 gR)
 (.seq (sR [.bi 46 .eql (.t 14) (kI 4),mV 45 46]
 (.cond (.t 45) .skip
 (.reg [.bi 47 .eql (.t 14) (kI 5),mV 45 47])))
 (.gw (.cond (.t 45) (sR [mV 48 3,mV 49 48,.g 49 true (mV 50 4),.pk 51 (.t 49) (.t 50) (cB false),mV 52 51,.g 52 true (fA 53 1 12),.g 52 true (lD 54 53 1 false),.g 52 true (.bi 55 .geq (.t 54) (kI 0)),.pk 56 (.t 52) (.t 55) (cB false),mV 57 56,.g 57 true (fA 58 1 12),.g 57 true (lD 59 58 1 false),.g 57 true (.bi 60 .lss (.t 59) (kI 24)),.pk 61 (.t 57) (.t 60) (cB false),mV 2 61]
 gR)
 (sR [.bi 63 .eql (.t 14) (kI 6),mV 62 63]
 (.cond (.t 62) (sR [mV 64 3,mV 65 64,.g 65 true (fA 66 1 12),.g 65 true (lD 67 66 1 false),.g 65 true (.bi 68 .eql (.t 67) (kI 0)),.pk 69 (.t 65) (.t 68) (cB false),mV 70 69,.g 70 true (fA 71 1 13),.g 70 true (lD 72 71 3 true),.g 70 true (cQ 73 Zk [72]),.pk 74 (.t 70) (.t 73) (cB false),mV 2 74]
 gR)
 (sR [.bi 76 .eql (.t 14) (kI 7),mV 75 76]
 (.cond (.t 75) (sR [mV 77 3,mV 78 77,.g 78 true (mV 79 4),.pk 80 (.t 78) (.t 79) (cB false),mV 81 80,.g 81 true (fA 82 1 12),.g 81 true (lD 83 82 1 false),.g 81 true (cQ 84 Zz [83]),.pk 85 (.t 81) (.t 84) (cB false),mV 2 85]
 gR)
 .skip))))))))))))))
 (.seq (rE 2 (cB false))
 gR))))
def ZR3 (c1 : Cmd) (v3 : Bool) : Option Bool :=
 bif v3 then (some ((((c1.job.id == 0 && (c1.job.prio == 0 && (c1.job.nodes == 0 && (c1.job.need.a == 0 && (c1.job.need.b == 0 && (c1.job.need.c == 0 && (c1.job.lic.a == 0 && (c1.job.lic.b == 0 && (c1.job.lic.c == 0 && (c1.job.wall == 0 && (c1.job.level == 0 && true))))))))))) && (c1.lic.a == 0 && (c1.lic.b == 0 && (c1.lic.c == 0 && true)))) && (decide (0 <= c1.n))) && (decide (c1.n < 24)))) else (bif (c1.kind == 6) then (some (((c1.job.id == 0 && (c1.job.prio == 0 && (c1.job.nodes == 0 && (c1.job.need.a == 0 && (c1.job.need.b == 0 && (c1.job.need.c == 0 && (c1.job.lic.a == 0 && (c1.job.lic.b == 0 && (c1.job.lic.c == 0 && (c1.job.wall == 0 && (c1.job.level == 0 && true))))))))))) && (c1.n == 0)) && (spec_VecOk c1.lic))) else (bif (c1.kind == 7) then (some (((c1.job.id == 0 && (c1.job.prio == 0 && (c1.job.nodes == 0 && (c1.job.need.a == 0 && (c1.job.need.b == 0 && (c1.job.need.c == 0 && (c1.job.lic.a == 0 && (c1.job.lic.b == 0 && (c1.job.lic.c == 0 && (c1.job.wall == 0 && (c1.job.level == 0 && true))))))))))) && (c1.lic.a == 0 && (c1.lic.b == 0 && (c1.lic.c == 0 && true)))) && (spec_l01Time c1.n))) else (some false)))
def ZQ3 (c1 : Cmd) (v2 : Bool) : Option Bool :=
 bif v2 then (some ((((c1.job.id == 0 && (c1.job.prio == 0 && (c1.job.nodes == 0 && (c1.job.need.a == 0 && (c1.job.need.b == 0 && (c1.job.need.c == 0 && (c1.job.lic.a == 0 && (c1.job.lic.b == 0 && (c1.job.lic.c == 0 && (c1.job.wall == 0 && (c1.job.level == 0 && true))))))))))) && (c1.lic.a == 0 && (c1.lic.b == 0 && (c1.lic.c == 0 && true)))) && (decide (1 <= c1.n))) && (decide (c1.n <= 999)))) else (bif (c1.kind == 4) then ((ZR3 c1) (c1.kind == 4)) else ((ZR3 c1) (c1.kind == 5)))
def spec_CmdOk (c1 : Cmd) : Option Bool :=
 bif (c1.kind == 1) then (some (((spec_JobOk c1.job) && (c1.n == 0)) && (c1.lic.a == 0 && (c1.lic.b == 0 && (c1.lic.c == 0 && true))))) else (bif (c1.kind == 2) then ((ZQ3 c1) (c1.kind == 2)) else ((ZQ3 c1) (c1.kind == 3)))
theorem Zxg {c1 : Cmd} {r : Bool} (H : spec_CmdOk c1 = some r) : Snd Tryz.prog ZEb [eCmd c1] (.bool r) [] := by
 refine wS Zeh [.t 2] ?_
 unfold spec_CmdOk at H
 refine wP ?_
 refine Wh_iH H (fun H => ?_) fun H => ?_
 .refine wG [.c 19 (ZX6 c1.job)] fun _ => ?_
  replace H := sI H; subst H
  exact wE [(2, .d)]
 .refine wP ?_
  refine ZL9 (r := r) (ZQ3 c1) 0 (fun v2 : Bool => ⟨[(1, .ptr 1 0), (3, .bool (c1.job.id == 0 && (c1.job.prio == 0 && (c1.job.nodes == 0 && (c1.job.need.a == 0 && (c1.job.need.b == 0 && (c1.job.need.c == 0 && (c1.job.lic.a == 0 && (c1.job.lic.b == 0 && (c1.job.lic.c == 0 && (c1.job.wall == 0 && (c1.job.level == 0 && true)))))))))))), (4, .bool (c1.lic.a == 0 && (c1.lic.b == 0 && (c1.lic.c == 0 && true)))), (14, .int .i64 c1.kind), (28, .bool v2)], [], [(1, (eCmd c1).cells)], []⟩) (by kernel_rfl) (fun v2 H => ?_) (fun J39 => ?_)
  .unfold ZQ3 at H
   refine wP ?_
   refine Wh_iH H (fun H => ?_) fun H => ?_
   .refine wP ?_
    replace H := sI H; subst H
    exact wE [(2, .d)]
   .refine wP ?_
    refine ZL9 (r := r) (ZR3 c1) 0 (fun v3 : Bool => ⟨[(1, .ptr 1 0), (3, .bool (c1.job.id == 0 && (c1.job.prio == 0 && (c1.job.nodes == 0 && (c1.job.need.a == 0 && (c1.job.need.b == 0 && (c1.job.need.c == 0 && (c1.job.lic.a == 0 && (c1.job.lic.b == 0 && (c1.job.lic.c == 0 && (c1.job.wall == 0 && (c1.job.level == 0 && true)))))))))))), (4, .bool (c1.lic.a == 0 && (c1.lic.b == 0 && (c1.lic.c == 0 && true)))), (14, .int .i64 c1.kind), (45, .bool v3)], [], [(1, (eCmd c1).cells)], []⟩) (by kernel_rfl) (fun v3 H => ?_) (fun J37 => ?_)
    .unfold ZR3 at H
     refine wP ?_
     refine Wh_iH H (fun H => ?_) fun H => ?_
     .refine wP ?_
      replace H := sI H; subst H
      exact wE [(2, .d)]
     .refine wP ?_
      refine Wh_iH H (fun H => ?_) fun H => ?_
      .refine wG [.g 73 [(((c1.job.id == 0 && (c1.job.prio == 0 && (c1.job.nodes == 0 && (c1.job.need.a == 0 && (c1.job.need.b == 0 && (c1.job.need.c == 0 && (c1.job.lic.a == 0 && (c1.job.lic.b == 0 && (c1.job.lic.c == 0 && (c1.job.wall == 0 && (c1.job.level == 0 && true))))))))))) && (c1.n == 0)), true)] (.call _ _ _ _ _ (AEs.refl _) (fun _ => Zl c1.lic))] fun _ => ?_
       replace H := sI H; subst H
       exact wE [(2, .d)]
      .refine wP ?_
       refine Wh_iH H (fun H => ?_) fun H => ?_
       .refine wG [.g 84 [(((c1.job.id == 0 && (c1.job.prio == 0 && (c1.job.nodes == 0 && (c1.job.need.a == 0 && (c1.job.need.b == 0 && (c1.job.need.c == 0 && (c1.job.lic.a == 0 && (c1.job.lic.b == 0 && (c1.job.lic.c == 0 && (c1.job.wall == 0 && (c1.job.level == 0 && true))))))))))) && (c1.lic.a == 0 && (c1.lic.b == 0 && (c1.lic.c == 0 && true)))), true)] (.call _ _ _ _ _ (AEs.refl _) (fun _ => ZH c1.n))] fun _ => ?_
        replace H := sI H; subst H
        exact wE [(2, .d)]
       .refine wP ?_
        replace H := sI H; subst H
        exact wE [(2, .d)]
    .refine Wh_iH H (fun H => ?_) fun H => ?_
     .refine wP ?_
      exact wT (J37 _ H)
     .refine wP ?_
      exact wT (J37 _ H)
  .refine Wh_iH H (fun H => ?_) fun H => ?_
   .refine wP ?_
    exact wT (J39 _ H)
   .refine wP ?_
    exact wT (J39 _ H)
def Z9c : L :=
sR [.mv 0 (.c (.nl))]
 (sR [.bs 1 1 [(.c (.str [])), (.c (.str [115, 117, 98, 109, 105, 116])), (.c (.str [99, 97, 110, 99, 101, 108])), (.c (.str [100, 111, 110, 101])), (.c (.str [102, 97, 105, 108])), (.c (.str [114, 101, 115, 117, 109, 101])), (.c (.str [108, 105, 99])), (.c (.str [103, 111]))] true,mV 0 1]
 gR)
def ZC2  : Option (List Str) :=
 some [([] : Str), ([115, 117, 98, 109, 105, 116] : Str), ([99, 97, 110, 99, 101, 108] : Str), ([100, 111, 110, 101] : Str), ([102, 97, 105, 108] : Str), ([114, 101, 115, 117, 109, 101] : Str), ([108, 105, 99] : Str), ([103, 111] : Str)]
theorem ZS9  {r : (List Str)} (H : ZC2 = some r) : Snd Tryz.prog Zf5 [] (.sl .nw 1 (r.map eS)) [] := by
 refine wS Z9c [.t 0] ?_
 unfold ZC2 at H
 refine wP ?_
 replace H := sI H; subst H
 exact wN [(0, .f)] [] [] [1] [] [⟨_, nw_S [([] : Str), ([115, 117, 98, 109, 105, 116] : Str), ([99, 97, 110, 99, 101, 108] : Str), ([100, 111, 110, 101] : Str), ([102, 97, 105, 108] : Str), ([114, 101, 115, 117, 109, 101] : Str), ([108, 105, 99] : Str), ([103, 111] : Str)]⟩]
def spec_l08Words  : (List Str) :=
 [([] : Str), ([115, 117, 98, 109, 105, 116] : Str), ([99, 97, 110, 99, 101, 108] : Str), ([100, 111, 110, 101] : Str), ([102, 97, 105, 108] : Str), ([114, 101, 115, 117, 109, 101] : Str), ([108, 105, 99] : Str), ([103, 111] : Str)]
theorem ZQc  : ZC2 = some (spec_l08Words) := by
 unfold ZC2 spec_l08Words
 first | rfl | simp only [Zb]
theorem ZKb  : Snd Tryz.prog Zf5 [] (.sl .nw 1 ((spec_l08Words).map eS)) [] := ZS9 (ZQc )
def ZUd : L :=
sR [.bx 1 (.t 0),.mv 2 (.c (.str []))]
 (.seq (sR [lD 5 1 16 true,cQ 6 ZEb [5],.un 7 (.t 6)]
 (.cond (.t 7) (sR [.mv 2 (.c (.str []))]
 gR)
 .skip))
 (.seq (.rq 6 [cQ 8 Zf5 [],fA 9 1 0,lD 10 9 1 false,iA 11 8 10 1,lD 12 11 1 false,mV 3 12])
 (sR [fA 13 1 1,lD 14 13 11 true,.al 4 [.int .i64 0, .int .i64 0, .int .i64 0, .int .i64 0, .int .i64 0, .int .i64 0, .int .i64 0, .int .i64 0, .int .i64 0, .int .i64 0, .int .i64 0],.st (.t 4) (.t 14) 11]
 (.seq (sR [fA 15 1 0,lD 16 15 1 false,.bi 17 .eql (.t 16) (kI 1)]
 (.cond (.t 17) (.seq (.rq 37 [mV 18 3,.sa 19 (.t 18) (.c (.str [32])),fA 20 4 0,lD 21 20 1 false,cQ 22 Zc [21],.sa 23 (.t 19) (.t 22),.sa 24 (.t 23) (.c (.str [32])),fA 25 4 1,lD 26 25 1 false,cQ 27 Zc [26],.sa 28 (.t 24) (.t 27),.sa 29 (.t 28) (.c (.str [32])),fA 30 4 2,lD 31 30 1 false,cQ 32 Zc [31],.sa 33 (.t 29) (.t 32),.sa 34 (.t 33) (.c (.str [32])),fA 35 4 3,lD 36 35 3 true,cQ 37 ZB1 [36],.sa 38 (.t 34) (.t 37),.sa 39 (.t 38) (.c (.str [32])),fA 40 4 6,lD 41 40 3 true,cQ 42 ZB1 [41],.sa 43 (.t 39) (.t 42),.sa 44 (.t 43) (.c (.str [32])),fA 45 4 9,lD 46 45 1 false,cQ 47 Zc [46],.sa 48 (.t 44) (.t 47),.sa 49 (.t 48) (.c (.str [32])),fA 50 4 10,lD 51 50 1 false,cQ 52 Zc [51],.sa 53 (.t 49) (.t 52),mV 2 53])
 gR)
 .skip))
 (.seq (sR [fA 54 1 0,lD 55 54 1 false,.bi 56 .eql (.t 55) (kI 6)]
 (.cond (.t 56) (sR [mV 57 3,.sa 58 (.t 57) (.c (.str [32])),fA 59 1 13,lD 60 59 3 true,cQ 61 ZB1 [60],.sa 62 (.t 58) (.t 61),mV 2 62]
 gR)
 .skip))
 (sR [mV 63 3,.sa 64 (.t 63) (.c (.str [32])),fA 65 1 12,lD 66 65 1 false,cQ 67 Zc [66],.sa 68 (.t 64) (.t 67),mV 2 68]
 gR))))))
def spec_CmdText (c1 : Cmd) : Option Str :=
 (spec_CmdOk c1).bind fun b2 => bif (!b2) then (some ([] : Str)) else ((idx (spec_l08Words) c1.kind).bind fun e3 => bif (c1.kind == 1) then ((catS e3 ([32] : Str)).bind fun w4 => (spec_NumText c1.job.id).bind fun w5 => (catS w4 w5).bind fun w6 => (catS w6 ([32] : Str)).bind fun w7 => (spec_NumText c1.job.prio).bind fun w8 => (catS w7 w8).bind fun w9 => (catS w9 ([32] : Str)).bind fun w10 => (spec_NumText c1.job.nodes).bind fun w11 => (catS w10 w11).bind fun w12 => (catS w12 ([32] : Str)).bind fun w13 => (spec_VecText c1.job.need).bind fun w14 => (catS w13 w14).bind fun w15 => (catS w15 ([32] : Str)).bind fun w16 => (spec_VecText c1.job.lic).bind fun w17 => (catS w16 w17).bind fun w18 => (catS w18 ([32] : Str)).bind fun w19 => (spec_NumText c1.job.wall).bind fun w20 => (catS w19 w20).bind fun w21 => (catS w21 ([32] : Str)).bind fun w22 => (spec_NumText c1.job.level).bind fun w23 => (catS w22 w23).bind fun w24 => some w24) else (bif (c1.kind == 6) then ((catS e3 ([32] : Str)).bind fun w25 => (spec_VecText c1.lic).bind fun w26 => (catS w25 w26).bind fun w27 => some w27) else ((catS e3 ([32] : Str)).bind fun w28 => (spec_NumText c1.n).bind fun w29 => (catS w28 w29).bind fun w30 => some w30)))
theorem Z3d {c1 : Cmd} {r : Str} (H : spec_CmdText c1 = some r) : Snd Tryz.prog Zq9 [eCmd c1] (.str r) [] := by
 refine wS ZUd [.t 2] ?_
 unfold spec_CmdText at H
 obtain ⟨b2, h2, H⟩ := bB H
 refine wG [.c 6 (Zxg h2)] fun _ => ?_
 refine Wh_iH H (fun H => ?_) fun H => ?_
 .refine wP ?_
  replace H := sI H; subst H
  exact wE [(2, .d)]
 .obtain ⟨e3, h3, H⟩ := bB H
  refine wG [.u 8 (.call _ _ _ _ _ (AEs.refl _) (fun _ => ZKb )), .u 11 (.ix _ _ _ fun _ => Z0 eS h3)] fun _ => ?_
  refine Wh_iH H (fun H => ?_) fun H => ?_
  .obtain ⟨w4, h4, H⟩ := bB H
   obtain ⟨w5, h5, H⟩ := bB H
   obtain ⟨w6, h6, H⟩ := bB H
   obtain ⟨w7, h7, H⟩ := bB H
   obtain ⟨w8, h8, H⟩ := bB H
   obtain ⟨w9, h9, H⟩ := bB H
   obtain ⟨w10, h10, H⟩ := bB H
   obtain ⟨w11, h11, H⟩ := bB H
   obtain ⟨w12, h12, H⟩ := bB H
   obtain ⟨w13, h13, H⟩ := bB H
   obtain ⟨w14, h14, H⟩ := bB H
   obtain ⟨w15, h15, H⟩ := bB H
   obtain ⟨w16, h16, H⟩ := bB H
   obtain ⟨w17, h17, H⟩ := bB H
   obtain ⟨w18, h18, H⟩ := bB H
   obtain ⟨w19, h19, H⟩ := bB H
   obtain ⟨w20, h20, H⟩ := bB H
   obtain ⟨w21, h21, H⟩ := bB H
   obtain ⟨w22, h22, H⟩ := bB H
   obtain ⟨w23, h23, H⟩ := bB H
   obtain ⟨w24, h24, H⟩ := bB H
   refine wG [.u 19 (.sa _ _ _ fun _ => h4), .c 22 (Zm h5), .u 23 (.sa _ _ _ fun _ => h6), .u 24 (.sa _ _ _ fun _ => h7), .c 27 (Zm h8), .u 28 (.sa _ _ _ fun _ => h9), .u 29 (.sa _ _ _ fun _ => h10), .c 32 (Zm h11), .u 33 (.sa _ _ _ fun _ => h12), .u 34 (.sa _ _ _ fun _ => h13), .c 37 (ZF1 h14), .u 38 (.sa _ _ _ fun _ => h15), .u 39 (.sa _ _ _ fun _ => h16), .c 42 (ZF1 h17), .u 43 (.sa _ _ _ fun _ => h18), .u 44 (.sa _ _ _ fun _ => h19), .c 47 (Zm h20), .u 48 (.sa _ _ _ fun _ => h21), .u 49 (.sa _ _ _ fun _ => h22), .c 52 (Zm h23), .u 53 (.sa _ _ _ fun _ => h24)] fun _ => ?_
   replace H := sI H; subst H
   exact wE [(2, .d)]
  .refine wP ?_
   refine Wh_iH H (fun H => ?_) fun H => ?_
   .obtain ⟨w25, h25, H⟩ := bB H
    obtain ⟨w26, h26, H⟩ := bB H
    obtain ⟨w27, h27, H⟩ := bB H
    refine wG [.u 58 (.sa _ _ _ fun _ => h25), .c 61 (ZF1 h26), .u 62 (.sa _ _ _ fun _ => h27)] fun _ => ?_
    replace H := sI H; subst H
    exact wE [(2, .d)]
   .obtain ⟨w28, h28, H⟩ := bB H
    obtain ⟨w29, h29, H⟩ := bB H
    obtain ⟨w30, h30, H⟩ := bB H
    refine wG [.u 64 (.sa _ _ _ fun _ => h28), .c 67 (Zm h29), .u 68 (.sa _ _ _ fun _ => h30)] fun _ => ?_
    replace H := sI H; subst H
    exact wE [(2, .d)]
def Z5e : L :=
sR [.bx 1 (.t 0),.mv 2 (.c (.str []))]
 (.seq (.rq 24 [fA 3 1 0,lD 4 3 1 false,cQ 5 Zj [4],fA 6 1 1,lD 7 6 1 false,cQ 8 Zj [7],fA 9 1 2,lD 10 9 1 false,cQ 11 Zj [10],fA 12 1 3,lD 13 12 3 true,cQ 14 Zc2 [13],fA 15 1 6,lD 16 15 3 true,cQ 17 Zc2 [16],fA 18 1 9,lD 19 18 1 false,cQ 20 Zj [19],fA 21 1 10,lD 22 21 1 false,cQ 23 Zj [22],.bs 24 1 [(.t 5), (.t 8), (.t 11), (.t 14), (.t 17), (.t 20), (.t 23)] false,cQ 25 Z74 [24],mV 2 25])
 gR)
def impl_jobText (j1 : Job) : Option Str :=
 (impl_NumText j1.id).bind fun w2 => (impl_NumText j1.prio).bind fun w3 => (impl_NumText j1.nodes).bind fun w4 => (impl_VecText j1.need).bind fun w5 => (impl_VecText j1.lic).bind fun w6 => (impl_NumText j1.wall).bind fun w7 => (impl_NumText j1.level).bind fun w8 => (impl_words [w2, w3, w4, w5, w6, w7, w8]).bind fun w9 => some w9
theorem Zm8 {j1 : Job} {r : Str} (H : impl_jobText j1 = some r) : Snd Tryz.prog Zu6 [eJob j1] (.str r) [] := by
 refine wS Z5e [.t 2] ?_
 unfold impl_jobText at H
 obtain ⟨w2, h2, H⟩ := bB H
 obtain ⟨w3, h3, H⟩ := bB H
 obtain ⟨w4, h4, H⟩ := bB H
 obtain ⟨w5, h5, H⟩ := bB H
 obtain ⟨w6, h6, H⟩ := bB H
 obtain ⟨w7, h7, H⟩ := bB H
 obtain ⟨w8, h8, H⟩ := bB H
 obtain ⟨w9, h9, H⟩ := bB H
 refine wG [.c 5 (Zh h2), .c 8 (Zh h3), .c 11 (Zh h4), .c 14 (Z03 h5), .c 17 (Z03 h6), .c 20 (Zh h7), .c 23 (Zh h8), .c 25 (ZM4 h9)] fun _ => ?_
 replace H := sI H; subst H
 exact wE [(2, .d)]
def Zhc : L :=
sR [.mv 4 (.c (.str []))]
 (.seq (sR [mV 7 1,.ln 8 (.t 7),.mv 9 (kI 0)]
 (.blk 0 (.loop (.gw (sR [bI 10 .lss 9 8]
 (.seq (.cond (.t 10) .skip
 (.exit 0))
 (.seq (.blk 1 (sR [iA 11 7 9 1,lD 12 11 1 false,mV 6 12]
 (.reg [mV 13 0,.sa 14 (.t 13) (.c (.str [32])),mV 15 6,cQ 16 Zj [15],.sa 17 (.t 14) (.t 16),mV 0 17])))
 (.reg [.bi 18 .add (.t 9) (kI 1),mV 9 18]))))))))
 (sR [mV 19 0,mV 4 19]
 gR))
def ZD3 (x4 : Int) (_ : Nat) (v4 : Str) (k4 : Str -> Option Str) : Option Str :=
 (catS v4 ([32] : Str)).bind fun w5 => (impl_NumText x4).bind fun w6 => (catS w5 w6).bind fun w7 => k4 w7
def ZP6 (v4 : Str) : Option Str :=
 some v4
def impl_numTexts (word1 : Str) (l2 : List Int) : Option Str :=
 rgl ZD3 ZP6 l2 0 word1
theorem Zp2 {word1 : Str} {l2 : List Int} {r : Str} (H : impl_numTexts word1 l2 = some r) : Snd Tryz.prog ZP1 [.str word1, .sl .rd 1 (l2.map eI)] (.str r) [] := by
 refine wS Zhc [.t 4] ?_
 unfold impl_numTexts at H
 refine wG [.u 8 (.ln _ _ fun _ => lm l2 eI)] fun q3 => ?_
 refine wR (fun (i4 : Nat) (v4 : Str) => ⟨[(0, .str v4), (7, .sl .rd 1 (l2.map eI)), (8, .int .i64 (l2.length : Int)), (9, .int .i64 (i4 : Int))], [], [], []⟩) H (fun i4 x4 v4 I m k4 hxv4 hiv4 H N14 => ?_) (fun v4 I m H => ?_)
 .unfold ZD3 at H
  refine wP ?_
  refine wt (ltT hiv4) ?_
  obtain ⟨w5, h5, H⟩ := bB H
  obtain ⟨w6, h6, H⟩ := bB H
  obtain ⟨w7, h7, H⟩ := bB H
  refine wG [.u 11 (.ix _ _ _ fun _ => Z0 eI (Z5 hxv4)), .u 14 (.sa _ _ _ fun _ => h5), .c 16 (Zh h6), .u 17 (.sa _ _ _ fun _ => h7), .w 18 (wi .i64 rfl hiv4 q3.1)] fun _ => ?_
  exact wT (N14 _ H)
 .unfold ZP6 at H
  refine wP ?_
  refine wf (ltF l2.length) ?_
  refine wP ?_
  replace H := sI H; subst H
  exact wE [(4, .d)]
def ZTd : L :=
sR [.bx 1 (.t 0),.mv 2 (.c (.str []))]
 (sR [lD 4 1 11 true,.bd 5 [.int .i64 0, .int .i64 0, .int .i64 0, .int .i64 0, .int .i64 0, .int .i64 0, .int .i64 0, .int .i64 0, .int .i64 0, .int .i64 0, .int .i64 0, .int .i64 0, .int .i64 0, .int .i64 0, .int .i64 0, .int .i64 0] [(0, 1, (kI 1)), (1, 11, (.t 4))],cQ 6 Zq9 [5],mV 3 6]
 (.seq (sR [mV 7 3,.bi 8 .eql (.t 7) (.c (.str []))]
 (.cond (.t 8) (sR [.mv 2 (.c (.str []))]
 gR)
 .skip))
 (sR [mV 9 3,.ss 10 (.t 9) (some (kI 7)) none,mV 2 10]
 gR)))
def spec_JobText (j1 : Job) : Option Str :=
 (spec_CmdText (Cmd.mk 1 j1 0 (Vec.mk 0 0 0))).bind fun w2 => bif (w2 == ([] : Str)) then (some ([] : Str)) else ((cutL w2 (some 7) none).bind fun w3 => some w3)
theorem Zd8 {j1 : Job} {r : Str} (H : spec_JobText j1 = some r) : Snd Tryz.prog Zq6 [eJob j1] (.str r) [] := by
 refine wS ZTd [.t 2] ?_
 unfold spec_JobText at H
 obtain ⟨w2, h2, H⟩ := bB H
 refine wG [.c 6 (Z3d h2)] fun _ => ?_
 refine Wh_iH H (fun H => ?_) fun H => ?_
 .refine wP ?_
  replace H := sI H; subst H
  exact wE [(2, .d)]
 .obtain ⟨w3, h3, H⟩ := bB H
  refine wG [.u 10 (.ss _ _ _ _ fun _ => h3)] fun _ => ?_
  replace H := sI H; subst H
  exact wE [(2, .d)]
def ZEd : L :=
sR [.mv 2 (.c (.str []))]
 (sR [.mv 3 (.c (.str []))]
 (.seq (sR [mV 6 0,.ln 7 (.t 6),.mv 8 (kI 0)]
 (.blk 0 (.loop (.gw (sR [bI 9 .lss 8 7]
 (.seq (.cond (.t 9) .skip
 (.exit 0))
 (.seq (.blk 1 (sR [iA 10 6 8 1,lD 11 10 1 false,mV 5 11]
 (.reg [mV 12 3,.sa 13 (.t 12) (.c (.str [32])),mV 14 5,cQ 15 Zc [14],.sa 16 (.t 13) (.t 15),mV 3 16])))
 (.reg [.bi 17 .add (.t 8) (kI 1),mV 8 17]))))))))
 (sR [mV 18 3,mV 2 18]
 gR)))
def Z94 (x3 : Int) (_ : Nat) (v3 : Str) (k3 : Str -> Option Str) : Option Str :=
 (catS v3 ([32] : Str)).bind fun w4 => (spec_NumText x3).bind fun w5 => (catS w4 w5).bind fun w6 => k3 w6
def Zw7 (v3 : Str) : Option Str :=
 some v3
def spec_l19Ints (l1 : List Int) : Option Str :=
 rgl Z94 Zw7 l1 0 ([] : Str)
theorem ZA2 {l1 : List Int} {r : Str} (H : spec_l19Ints l1 = some r) : Snd Tryz.prog Zb2 [.sl .rd 1 (l1.map eI)] (.str r) [] := by
 refine wS ZEd [.t 2] ?_
 unfold spec_l19Ints at H
 refine wG [.u 7 (.ln _ _ fun _ => lm l1 eI)] fun q2 => ?_
 refine wR (fun (i3 : Nat) (v3 : Str) => ⟨[(3, .str v3), (6, .sl .rd 1 (l1.map eI)), (7, .int .i64 (l1.length : Int)), (8, .int .i64 (i3 : Int))], [], [], []⟩) H (fun i3 x3 v3 I m k3 hxv3 hiv3 H N15 => ?_) (fun v3 I m H => ?_)
 .unfold Z94 at H
  refine wP ?_
  refine wt (ltT hiv3) ?_
  obtain ⟨w4, h4, H⟩ := bB H
  obtain ⟨w5, h5, H⟩ := bB H
  obtain ⟨w6, h6, H⟩ := bB H
  refine wG [.u 10 (.ix _ _ _ fun _ => Z0 eI (Z5 hxv3)), .u 13 (.sa _ _ _ fun _ => h4), .c 15 (Zm h5), .u 16 (.sa _ _ _ fun _ => h6), .w 17 (wi .i64 rfl hiv3 q2.1)] fun _ => ?_
  exact wT (N15 _ H)
 .unfold Zw7 at H
  refine wP ?_
  refine wf (ltF l1.length) ?_
  refine wP ?_
  replace H := sI H; subst H
  exact wE [(2, .d)]
def Z0b : L :=
sR [.bx 1 (.t 0),.mv 2 (.c (.str []))]
 (.seq (sR [lD 12 1 11 true,cQ 13 Zm9 [12],.un 14 (.t 13)]
 (.cond (.t 14) (sR [.mv 2 (.c (.str []))]
 gR)
 .skip))
 (.seq (.rq 17 [fA 15 1 0,lD 16 15 2 true,cQ 17 ZI8 [16],.sa 18 (.t 17) (.c (.str [115, 116, 97, 116, 101, 32])),fA 19 1 3,lD 20 19 3 true,cQ 21 ZB1 [20],.sa 22 (.t 18) (.t 21),fA 23 1 6,lD 24 23 1 false,fA 25 1 7,lD 26 25 1 false,.bs 27 1 [(.t 24), (.t 26)] false,cQ 28 Zb2 [27],.sa 29 (.t 22) (.t 28),.sa 30 (.t 29) (.c (.str [10])),mV 3 30])
 (.seq (sR [fA 31 1 2,lD 32 31 1 false,.ln 33 (.t 32),.mv 34 (kI 0)]
 (.blk 0 (.loop (.gw (sR [bI 35 .lss 34 33]
 (.seq (.cond (.t 35) .skip
 (.exit 0))
 (.seq (.blk 1 (sR [mV 36 34,iA 37 32 34 1,lD 38 37 1 false,mV 4 36,mV 5 38]
 (sR [mV 39 5,.un 40 (.t 39)]
 (.cond (.t 40) (.reg [mV 41 3,.sa 42 (.t 41) (.c (.str [100, 111, 119, 110])),mV 43 4,.bs 44 1 [(.t 43)] false,cQ 45 Zb2 [44],.sa 46 (.t 42) (.t 45),.sa 47 (.t 46) (.c (.str [10])),mV 3 47])
 .skip))))
 (.reg [.bi 48 .add (.t 34) (kI 1),mV 34 48]))))))))
 (.seq (sR [fA 49 1 8,lD 50 49 1 false,.ln 51 (.t 50),.mv 52 (kI 0)]
 (.blk 2 (.loop (.gw (sR [bI 53 .lss 52 51]
 (.seq (.cond (.t 53) .skip
 (.exit 2))
 (.seq (.blk 3 (sR [iA 54 50 52 11,lD 55 54 11 true,.al 7 [.int .i64 0, .int .i64 0, .int .i64 0, .int .i64 0, .int .i64 0, .int .i64 0, .int .i64 0, .int .i64 0, .int .i64 0, .int .i64 0, .int .i64 0],.st (.t 7) (.t 55) 11]
 (.reg [mV 56 3,.sa 57 (.t 56) (.c (.str [119, 97, 105, 116, 32])),lD 58 7 11 true,cQ 59 Zq6 [58],.sa 60 (.t 57) (.t 59),.sa 61 (.t 60) (.c (.str [10])),mV 3 61])))
 (.reg [.bi 62 .add (.t 52) (kI 1),mV 52 62]))))))))
 (.seq (sR [fA 63 1 9,lD 64 63 1 false,.ln 65 (.t 64),.mv 66 (kI 0)]
 (.blk 4 (.loop (.gw (sR [bI 67 .lss 66 65]
 (.seq (.cond (.t 67) .skip
 (.exit 4))
 (.seq (.blk 5 (sR [iA 68 64 66 13,lD 69 68 13 true,.al 9 [.int .i64 0, .int .i64 0, .int .i64 0, .int .i64 0, .int .i64 0, .int .i64 0, .int .i64 0, .int .i64 0, .int .i64 0, .int .i64 0, .int .i64 0, .int .i64 0, .nl],.st (.t 9) (.t 69) 13]
 (.rz [] [(0, false, mV 70 3),
 (1, false, .sa 71 (.t 70) (.c (.str [114, 117, 110]))),
 (2, false, fA 72 9 11),
 (3, false, lD 73 72 1 false),
 (4, false, fA 74 9 12),
 (5, false, lD 75 74 1 false),
 (6, false, .lq 76 (.t 75)),
 (8, false, fA 78 9 12),
 (9, false, lD 79 78 1 false),
 (14, false, fA 84 9 0),
 (15, false, lD 85 84 11 true),
 (7, true, .bs 77 1 [(.t 73), (.t 76)] true),
 (10, true, .ap 80 (.t 77) (.t 79) 1 8),
 (11, true, cQ 81 Zb2 [80]),
 (12, false, .sa 82 (.t 71) (.t 81)),
 (13, false, .sa 83 (.t 82) (.c (.str [32]))),
 (16, false, cQ 86 Zq6 [85])]
 [.sa 87 (.t 83) (.t 86),.sa 88 (.t 87) (.c (.str [10])),mV 3 88])))
 (.reg [.bi 89 .add (.t 66) (kI 1),mV 66 89]))))))))
 (.seq (sR [fA 90 1 10,lD 91 90 1 false,.ln 92 (.t 91),.mv 93 (kI 0)]
 (.blk 6 (.loop (.gw (sR [bI 94 .lss 93 92]
 (.seq (.cond (.t 94) .skip
 (.exit 6))
 (.seq (.blk 7 (sR [iA 95 91 93 3,lD 96 95 3 true,.al 11 [.int .i64 0, .int .i64 0, .int .i64 0],.st (.t 11) (.t 96) 3]
 (.reg [mV 97 3,.sa 98 (.t 97) (.c (.str [101, 110, 100])),fA 99 11 0,lD 100 99 1 false,fA 101 11 1,lD 102 101 1 false,fA 103 11 2,lD 104 103 1 false,.bs 105 1 [(.t 100), (.t 102), (.t 104)] false,cQ 106 Zb2 [105],.sa 107 (.t 98) (.t 106),.sa 108 (.t 107) (.c (.str [10])),mV 3 108])))
 (.reg [.bi 109 .add (.t 93) (kI 1),mV 93 109]))))))))
 (sR [mV 110 3,.sa 111 (.t 110) (.c (.str [111, 118, 101, 114, 10])),mV 2 111]
 gR)))))))
def ZK2 (x34 : End) (_ : Nat) (v34 : Str) (k34 : Str -> Option Str) : Option Str :=
 (catS v34 ([101, 110, 100] : Str)).bind fun w35 => (spec_l19Ints [x34.id, x34.t, x34.why]).bind fun w36 => (catS w35 w36).bind fun w37 => (catS w37 ([10] : Str)).bind fun w38 => k34 w38
def ZG2 (v34 : Str) : Option Str :=
 (catS v34 ([111, 118, 101, 114, 10] : Str)).bind fun w39 => some w39
def ZL2 (x23 : Run) (_ : Nat) (v23 : Str) (k23 : Str -> Option Str) : Option Str :=
 (catS v23 ([114, 117, 110] : Str)).bind fun w24 => (lenQ x23.nodes).bind fun _ => (appL 8 [x23.t, (x23.nodes.length : Int)] x23.nodes).bind fun xs26 => (spec_l19Ints xs26).bind fun w27 => (catS w24 w27).bind fun w28 => (catS w28 ([32] : Str)).bind fun w29 => (spec_JobText x23.job).bind fun w30 => (catS w29 w30).bind fun w31 => (catS w31 ([10] : Str)).bind fun w32 => k23 w32
def ZH2 (s1 : State) (v23 : Str) : Option Str :=
 rgl ZK2 ZG2 s1.ends 0 v23
def ZM2 (x17 : Job) (_ : Nat) (v17 : Str) (k17 : Str -> Option Str) : Option Str :=
 (catS v17 ([119, 97, 105, 116, 32] : Str)).bind fun w18 => (spec_JobText x17).bind fun w19 => (catS w18 w19).bind fun w20 => (catS w20 ([10] : Str)).bind fun w21 => k17 w21
def ZI2 (s1 : State) (v17 : Str) : Option Str :=
 rgl ZL2 (ZH2 s1) s1.runs 0 v17
def ZN2 (x11 : Bool) (i11 : Nat) (v11 : Str) (k11 : Str -> Option Str) : Option Str :=
 bif (!x11) then ((catS v11 ([100, 111, 119, 110] : Str)).bind fun w12 => (spec_l19Ints [(i11 : Int)]).bind fun w13 => (catS w12 w13).bind fun w14 => (catS w14 ([10] : Str)).bind fun w15 => k11 w15) else (k11 v11)
def ZJ2 (s1 : State) (v11 : Str) : Option Str :=
 rgl ZM2 (ZI2 s1) s1.queue 0 v11
def spec_StateText (s1 : State) : Option Str :=
 (spec_StateOk s1).bind fun b2 => bif (!b2) then (some ([] : Str)) else ((spec_TopoText s1.topo).bind fun w3 => (catS w3 ([115, 116, 97, 116, 101, 32] : Str)).bind fun w4 => (spec_VecText s1.lic).bind fun w5 => (catS w4 w5).bind fun w6 => (spec_l19Ints [s1.depth, s1.now]).bind fun w7 => (catS w6 w7).bind fun w8 => (catS w8 ([10] : Str)).bind fun w9 => rgl ZN2 (ZJ2 s1) s1.up 0 w9)
theorem ZIa {s1 : State} {r : Str} (H : spec_StateText s1 = some r) : Snd Tryz.prog ZQ7 [Ze .rd s1] (.str r) [] := by
 refine wS Z0b [.t 2] ?_
 unfold spec_StateText at H
 obtain ⟨b2, h2, H⟩ := bB H
 refine wG [.c 13 (ZVc h2)] fun _ => ?_
 refine Wh_iH H (fun H => ?_) fun H => ?_
 .refine wP ?_
  replace H := sI H; subst H
  exact wE [(2, .d)]
 .obtain ⟨w3, h3, H⟩ := bB H
  obtain ⟨w4, h4, H⟩ := bB H
  obtain ⟨w5, h5, H⟩ := bB H
  obtain ⟨w6, h6, H⟩ := bB H
  obtain ⟨w7, h7, H⟩ := bB H
  obtain ⟨w8, h8, H⟩ := bB H
  obtain ⟨w9, h9, H⟩ := bB H
  refine wG [.c 17 (ZUb h3), .u 18 (.sa _ _ _ fun _ => h4), .c 21 (ZF1 h5), .u 22 (.sa _ _ _ fun _ => h6), .c 28 (ZA2 h7), .u 29 (.sa _ _ _ fun _ => h8), .u 30 (.sa _ _ _ fun _ => h9), .u 33 (.ln _ _ fun _ => lm s1.up eBo)] fun q10 => ?_
  refine wR (fun (i11 : Nat) (v11 : Str) => ⟨[(1, .ptr 1 0), (3, .str v11), (32, .sl .rd 1 (s1.up.map eBo)), (33, .int .i64 (s1.up.length : Int)), (34, .int .i64 (i11 : Int))], [], [(1, (Ze .rd s1).cells)], []⟩) H (fun i11 x11 v11 I m k11 hxv11 hiv11 H N26 => ?_) (fun v11 I m H => ?_)
  .unfold ZN2 at H
   refine wP ?_
   refine wt (ltT hiv11) ?_
   refine wG [.u 37 (.ix _ _ _ fun _ => Z0 eBo (Z5 hxv11))] fun _ => ?_
   refine Wh_iH H (fun H => ?_) fun H => ?_
   .obtain ⟨w12, h12, H⟩ := bB H
    obtain ⟨w13, h13, H⟩ := bB H
    obtain ⟨w14, h14, H⟩ := bB H
    obtain ⟨w15, h15, H⟩ := bB H
    refine wG [.u 42 (.sa _ _ _ fun _ => h12), .c 45 (ZA2 h13), .u 46 (.sa _ _ _ fun _ => h14), .u 47 (.sa _ _ _ fun _ => h15), .w 48 (wi .i64 rfl hiv11 q10.1)] fun _ => ?_
    exact wT (N26 _ H)
   .refine wG [.w 48 (wi .i64 rfl hiv11 q10.1)] fun _ => ?_
    exact wT (N26 _ H)
  .unfold ZJ2 at H
   refine wP ?_
   refine wf (ltF s1.up.length) ?_
   refine wG [.u 51 (.ln _ _ fun _ => lm s1.queue eJob)] fun q16 => ?_
   refine wR (fun (i17 : Nat) (v17 : Str) => ⟨[(1, .ptr 1 0), (3, .str v17), (50, .sl .rd 11 (s1.queue.map eJob)), (51, .int .i64 (s1.queue.length : Int)), (52, .int .i64 (i17 : Int))], [], [(1, (Ze .rd s1).cells)], []⟩) H (fun i17 x17 v17 I m k17 hxv17 hiv17 H N42 => ?_) (fun v17 I m H => ?_)
   .unfold ZM2 at H
    refine wP ?_
    refine wt (ltT hiv17) ?_
    obtain ⟨w18, h18, H⟩ := bB H
    obtain ⟨w19, h19, H⟩ := bB H
    obtain ⟨w20, h20, H⟩ := bB H
    obtain ⟨w21, h21, H⟩ := bB H
    refine wG [.u 54 (.ix _ _ _ fun _ => Z0 eJob (Z5 hxv17)), .u 57 (.sa _ _ _ fun _ => h18), .c 59 (Zd8 h19), .u 60 (.sa _ _ _ fun _ => h20), .u 61 (.sa _ _ _ fun _ => h21), .w 62 (wi .i64 rfl hiv17 q16.1)] fun _ => ?_
    exact wT (N42 _ H)
   .unfold ZI2 at H
    refine wP ?_
    refine wf (ltF s1.queue.length) ?_
    refine wG [.u 65 (.ln _ _ fun _ => lm s1.runs (eRunT .rd))] fun q22 => ?_
    refine wR (fun (i23 : Nat) (v23 : Str) => ⟨[(1, .ptr 1 0), (3, .str v23), (64, .sl .rd 13 (s1.runs.map (eRunT .rd))), (65, .int .i64 (s1.runs.length : Int)), (66, .int .i64 (i23 : Int))], [], [(1, (Ze .rd s1).cells)], []⟩) H (fun i23 x23 v23 I m k23 hxv23 hiv23 H N58 => ?_) (fun v23 I m H => ?_)
    .unfold ZL2 at H
     refine wP ?_
     refine wt (ltT hiv23) ?_
     obtain ⟨w24, h24, H⟩ := bB H
     obtain ⟨u25, h25, H⟩ := bB H
     obtain ⟨xs26, h26, H⟩ := bB H
     obtain ⟨w27, h27, H⟩ := bB H
     obtain ⟨w28, h28, H⟩ := bB H
     obtain ⟨w29, h29, H⟩ := bB H
     obtain ⟨w30, h30, H⟩ := bB H
     obtain ⟨w31, h31, H⟩ := bB H
     obtain ⟨w32, h32, H⟩ := bB H
     refine wG [.u 68 (.ix _ _ _ fun _ => Z0 (eRunT .rd) (Z5 hxv23)), .u 71 (.sa _ _ _ fun _ => h24), .u 76 (.le _ _ (fun _ => lm x23.nodes eI) (fun _ => ZEk h25)), .u 80 (.ap _ _ _ _ fun _ => Zr eI h26), .c 81 (ZA2 h27), .u 82 (.sa _ _ _ fun _ => h28), .u 83 (.sa _ _ _ fun _ => h29), .c 86 (Zd8 h30), .u 87 (.sa _ _ _ fun _ => h31), .u 88 (.sa _ _ _ fun _ => h32), .w 89 (wi .i64 rfl hiv23 q22.1)] fun _ => ?_
     exact wT (N58 _ H)
    .unfold ZH2 at H
     refine wP ?_
     refine wf (ltF s1.runs.length) ?_
     refine wG [.u 92 (.ln _ _ fun _ => lm s1.ends eEnd)] fun q33 => ?_
     refine wR (fun (i34 : Nat) (v34 : Str) => ⟨[(3, .str v34), (91, .sl .rd 3 (s1.ends.map eEnd)), (92, .int .i64 (s1.ends.length : Int)), (93, .int .i64 (i34 : Int))], [], [], []⟩) H (fun i34 x34 v34 I m k34 hxv34 hiv34 H N74 => ?_) (fun v34 I m H => ?_)
     .unfold ZK2 at H
      refine wP ?_
      refine wt (ltT hiv34) ?_
      obtain ⟨w35, h35, H⟩ := bB H
      obtain ⟨w36, h36, H⟩ := bB H
      obtain ⟨w37, h37, H⟩ := bB H
      obtain ⟨w38, h38, H⟩ := bB H
      refine wG [.u 95 (.ix _ _ _ fun _ => Z0 eEnd (Z5 hxv34)), .u 98 (.sa _ _ _ fun _ => h35), .c 106 (ZA2 h36), .u 107 (.sa _ _ _ fun _ => h37), .u 108 (.sa _ _ _ fun _ => h38), .w 109 (wi .i64 rfl hiv34 q33.1)] fun _ => ?_
      exact wT (N74 _ H)
     .unfold ZG2 at H
      refine wP ?_
      refine wf (ltF s1.ends.length) ?_
      obtain ⟨w39, h39, H⟩ := bB H
      refine wG [.u 111 (.sa _ _ _ fun _ => h39)] fun _ => ?_
      replace H := sI H; subst H
      exact wE [(2, .d)]
def Z4b : L :=
sR [.bx 1 (.t 0),.mv 2 (.c (.str []))]
 (.seq (sR [lD 12 1 11 true,cQ 13 Zv6 [12],.un 14 (.t 13)]
 (.cond (.t 14) (sR [.mv 2 (.c (.str []))]
 gR)
 .skip))
 (.seq (.rq 17 [fA 15 1 0,lD 16 15 2 true,cQ 17 ZP8 [16],fA 18 1 3,lD 19 18 3 true,cQ 20 Zc2 [19],fA 21 1 6,lD 22 21 1 false,cQ 23 Zj [22],fA 24 1 7,lD 25 24 1 false,cQ 26 Zj [25],.bs 27 1 [(.c (.str [115, 116, 97, 116, 101])), (.t 20), (.t 23), (.t 26)] false,cQ 28 Z74 [27],.sa 29 (.t 17) (.t 28),.sa 30 (.t 29) (.c (.str [10])),mV 3 30])
 (.seq (sR [fA 31 1 2,lD 32 31 1 false,.ln 33 (.t 32),.mv 34 (kI 0)]
 (.blk 0 (.loop (.gw (sR [bI 35 .lss 34 33]
 (.seq (.cond (.t 35) .skip
 (.exit 0))
 (.seq (.blk 1 (sR [mV 36 34,iA 37 32 34 1,lD 38 37 1 false,mV 4 36,mV 5 38]
 (sR [mV 39 5,.un 40 (.t 39)]
 (.cond (.t 40) (.reg [mV 41 3,mV 42 4,.bs 43 1 [(.t 42)] false,.cq 44 ZP1 [(.c (.str [100, 111, 119, 110])), (.t 43)],.sa 45 (.t 41) (.t 44),.sa 46 (.t 45) (.c (.str [10])),mV 3 46])
 .skip))))
 (.reg [.bi 47 .add (.t 34) (kI 1),mV 34 47]))))))))
 (.seq (sR [fA 48 1 8,lD 49 48 1 false,.ln 50 (.t 49),.mv 51 (kI 0)]
 (.blk 2 (.loop (.gw (sR [bI 52 .lss 51 50]
 (.seq (.cond (.t 52) .skip
 (.exit 2))
 (.seq (.blk 3 (sR [iA 53 49 51 11,lD 54 53 11 true,.al 7 [.int .i64 0, .int .i64 0, .int .i64 0, .int .i64 0, .int .i64 0, .int .i64 0, .int .i64 0, .int .i64 0, .int .i64 0, .int .i64 0, .int .i64 0],.st (.t 7) (.t 54) 11]
 (.reg [mV 55 3,lD 56 7 11 true,cQ 57 Zu6 [56],.bs 58 1 [(.c (.str [119, 97, 105, 116])), (.t 57)] false,cQ 59 Z74 [58],.sa 60 (.t 55) (.t 59),.sa 61 (.t 60) (.c (.str [10])),mV 3 61])))
 (.reg [.bi 62 .add (.t 51) (kI 1),mV 51 62]))))))))
 (.seq (sR [fA 63 1 9,lD 64 63 1 false,.ln 65 (.t 64),.mv 66 (kI 0)]
 (.blk 4 (.loop (.gw (sR [bI 67 .lss 66 65]
 (.seq (.cond (.t 67) .skip
 (.exit 4))
 (.seq (.blk 5 (sR [iA 68 64 66 13,lD 69 68 13 true,.al 9 [.int .i64 0, .int .i64 0, .int .i64 0, .int .i64 0, .int .i64 0, .int .i64 0, .int .i64 0, .int .i64 0, .int .i64 0, .int .i64 0, .int .i64 0, .int .i64 0, .nl],.st (.t 9) (.t 69) 13]
 (.rq 18 [mV 70 3,fA 71 9 11,lD 72 71 1 false,fA 73 9 12,lD 74 73 1 false,.lq 75 (.t 74),.bs 76 1 [(.t 72), (.t 75)] false,.cq 77 ZP1 [(.c (.str [114, 117, 110])), (.t 76)],fA 78 9 12,lD 79 78 1 false,cQ 80 ZP1 [77, 79],fA 81 9 0,lD 82 81 11 true,cQ 83 Zu6 [82],.bs 84 1 [(.t 80), (.t 83)] false,cQ 85 Z74 [84],.sa 86 (.t 70) (.t 85),.sa 87 (.t 86) (.c (.str [10])),mV 3 87])))
 (.reg [.bi 88 .add (.t 66) (kI 1),mV 66 88]))))))))
 (.seq (sR [fA 89 1 10,lD 90 89 1 false,.ln 91 (.t 90),.mv 92 (kI 0)]
 (.blk 6 (.loop (.gw (sR [bI 93 .lss 92 91]
 (.seq (.cond (.t 93) .skip
 (.exit 6))
 (.seq (.blk 7 (sR [iA 94 90 92 3,lD 95 94 3 true,.al 11 [.int .i64 0, .int .i64 0, .int .i64 0],.st (.t 11) (.t 95) 3]
 (.reg [mV 96 3,fA 97 11 0,lD 98 97 1 false,fA 99 11 1,lD 100 99 1 false,fA 101 11 2,lD 102 101 1 false,.bs 103 1 [(.t 98), (.t 100), (.t 102)] false,.cq 104 ZP1 [(.c (.str [101, 110, 100])), (.t 103)],.sa 105 (.t 96) (.t 104),.sa 106 (.t 105) (.c (.str [10])),mV 3 106])))
 (.reg [.bi 107 .add (.t 92) (kI 1),mV 92 107]))))))))
 (sR [mV 108 3,.sa 109 (.t 108) (.c (.str [111, 118, 101, 114, 10])),mV 2 109]
 gR)))))))
def Z83 (x31 : End) (_ : Nat) (v31 : Str) (k31 : Str -> Option Str) : Option Str :=
 (impl_numTexts ([101, 110, 100] : Str) [x31.id, x31.t, x31.why]).bind fun w32 => (catS v31 w32).bind fun w33 => (catS w33 ([10] : Str)).bind fun w34 => k31 w34
def Z43 (v31 : Str) : Option Str :=
 (catS v31 ([111, 118, 101, 114, 10] : Str)).bind fun w35 => some w35
def Z93 (x22 : Run) (_ : Nat) (v22 : Str) (k22 : Str -> Option Str) : Option Str :=
 (lenQ x22.nodes).bind fun _ => (impl_numTexts ([114, 117, 110] : Str) [x22.t, (x22.nodes.length : Int)]).bind fun w24 => (impl_numTexts w24 x22.nodes).bind fun w25 => (impl_jobText x22.job).bind fun w26 => (impl_words [w25, w26]).bind fun w27 => (catS v22 w27).bind fun w28 => (catS w28 ([10] : Str)).bind fun w29 => k22 w29
def Z53 (s1 : State) (v22 : Str) : Option Str :=
 rgl Z83 Z43 s1.ends 0 v22
def Za3 (x16 : Job) (_ : Nat) (v16 : Str) (k16 : Str -> Option Str) : Option Str :=
 (impl_jobText x16).bind fun w17 => (impl_words [([119, 97, 105, 116] : Str), w17]).bind fun w18 => (catS v16 w18).bind fun w19 => (catS w19 ([10] : Str)).bind fun w20 => k16 w20
def Z63 (s1 : State) (v16 : Str) : Option Str :=
 rgl Z93 (Z53 s1) s1.runs 0 v16
def Zb3 (x11 : Bool) (i11 : Nat) (v11 : Str) (k11 : Str -> Option Str) : Option Str :=
 bif (!x11) then ((impl_numTexts ([100, 111, 119, 110] : Str) [(i11 : Int)]).bind fun w12 => (catS v11 w12).bind fun w13 => (catS w13 ([10] : Str)).bind fun w14 => k11 w14) else (k11 v11)
def Z73 (s1 : State) (v11 : Str) : Option Str :=
 rgl Za3 (Z63 s1) s1.queue 0 v11
def impl_StateText (s1 : State) : Option Str :=
 (impl_StateOk s1).bind fun b2 => bif (!b2) then (some ([] : Str)) else ((impl_TopoText s1.topo).bind fun w3 => (impl_VecText s1.lic).bind fun w4 => (impl_NumText s1.depth).bind fun w5 => (impl_NumText s1.now).bind fun w6 => (impl_words [([115, 116, 97, 116, 101] : Str), w4, w5, w6]).bind fun w7 => (catS w3 w7).bind fun w8 => (catS w8 ([10] : Str)).bind fun w9 => rgl Zb3 (Z73 s1) s1.up 0 w9)
theorem Z9b {s1 : State} {r : Str} (H : impl_StateText s1 = some r) : Snd Tryz.prog ZU7 [Ze .rd s1] (.str r) [] := by
 refine wS Z4b [.t 2] ?_
 unfold impl_StateText at H
 obtain ⟨b2, h2, H⟩ := bB H
 refine wG [.c 13 (Zp8 h2)] fun _ => ?_
 refine Wh_iH H (fun H => ?_) fun H => ?_
 .refine wP ?_
  replace H := sI H; subst H
  exact wE [(2, .d)]
 .obtain ⟨w3, h3, H⟩ := bB H
  obtain ⟨w4, h4, H⟩ := bB H
  obtain ⟨w5, h5, H⟩ := bB H
  obtain ⟨w6, h6, H⟩ := bB H
  obtain ⟨w7, h7, H⟩ := bB H
  obtain ⟨w8, h8, H⟩ := bB H
  obtain ⟨w9, h9, H⟩ := bB H
  refine wG [.c 17 (Zwc h3), .c 20 (Z03 h4), .c 23 (Zh h5), .c 26 (Zh h6), .c 28 (ZM4 h7), .u 29 (.sa _ _ _ fun _ => h8), .u 30 (.sa _ _ _ fun _ => h9), .u 33 (.ln _ _ fun _ => lm s1.up eBo)] fun q10 => ?_
  refine wR (fun (i11 : Nat) (v11 : Str) => ⟨[(1, .ptr 1 0), (3, .str v11), (32, .sl .rd 1 (s1.up.map eBo)), (33, .int .i64 (s1.up.length : Int)), (34, .int .i64 (i11 : Int))], [], [(1, (Ze .rd s1).cells)], []⟩) H (fun i11 x11 v11 I m k11 hxv11 hiv11 H N26 => ?_) (fun v11 I m H => ?_)
  .unfold Zb3 at H
   refine wP ?_
   refine wt (ltT hiv11) ?_
   refine wG [.u 37 (.ix _ _ _ fun _ => Z0 eBo (Z5 hxv11))] fun _ => ?_
   refine Wh_iH H (fun H => ?_) fun H => ?_
   .obtain ⟨w12, h12, H⟩ := bB H
    obtain ⟨w13, h13, H⟩ := bB H
    obtain ⟨w14, h14, H⟩ := bB H
    refine wG [.c 44 (Zp2 h12), .u 45 (.sa _ _ _ fun _ => h13), .u 46 (.sa _ _ _ fun _ => h14), .w 47 (wi .i64 rfl hiv11 q10.1)] fun _ => ?_
    exact wT (N26 _ H)
   .refine wG [.w 47 (wi .i64 rfl hiv11 q10.1)] fun _ => ?_
    exact wT (N26 _ H)
  .unfold Z73 at H
   refine wP ?_
   refine wf (ltF s1.up.length) ?_
   refine wG [.u 50 (.ln _ _ fun _ => lm s1.queue eJob)] fun q15 => ?_
   refine wR (fun (i16 : Nat) (v16 : Str) => ⟨[(1, .ptr 1 0), (3, .str v16), (49, .sl .rd 11 (s1.queue.map eJob)), (50, .int .i64 (s1.queue.length : Int)), (51, .int .i64 (i16 : Int))], [], [(1, (Ze .rd s1).cells)], []⟩) H (fun i16 x16 v16 I m k16 hxv16 hiv16 H N42 => ?_) (fun v16 I m H => ?_)
   .unfold Za3 at H
    refine wP ?_
    refine wt (ltT hiv16) ?_
    obtain ⟨w17, h17, H⟩ := bB H
    obtain ⟨w18, h18, H⟩ := bB H
    obtain ⟨w19, h19, H⟩ := bB H
    obtain ⟨w20, h20, H⟩ := bB H
    refine wG [.u 53 (.ix _ _ _ fun _ => Z0 eJob (Z5 hxv16)), .c 57 (Zm8 h17), .c 59 (ZM4 h18), .u 60 (.sa _ _ _ fun _ => h19), .u 61 (.sa _ _ _ fun _ => h20), .w 62 (wi .i64 rfl hiv16 q15.1)] fun _ => ?_
    exact wT (N42 _ H)
   .unfold Z63 at H
    refine wP ?_
    refine wf (ltF s1.queue.length) ?_
    refine wG [.u 65 (.ln _ _ fun _ => lm s1.runs (eRunT .rd))] fun q21 => ?_
    refine wR (fun (i22 : Nat) (v22 : Str) => ⟨[(1, .ptr 1 0), (3, .str v22), (64, .sl .rd 13 (s1.runs.map (eRunT .rd))), (65, .int .i64 (s1.runs.length : Int)), (66, .int .i64 (i22 : Int))], [], [(1, (Ze .rd s1).cells)], []⟩) H (fun i22 x22 v22 I m k22 hxv22 hiv22 H N58 => ?_) (fun v22 I m H => ?_)
    .unfold Z93 at H
     refine wP ?_
     refine wt (ltT hiv22) ?_
     obtain ⟨u23, h23, H⟩ := bB H
     obtain ⟨w24, h24, H⟩ := bB H
     obtain ⟨w25, h25, H⟩ := bB H
     obtain ⟨w26, h26, H⟩ := bB H
     obtain ⟨w27, h27, H⟩ := bB H
     obtain ⟨w28, h28, H⟩ := bB H
     obtain ⟨w29, h29, H⟩ := bB H
     refine wG [.u 68 (.ix _ _ _ fun _ => Z0 (eRunT .rd) (Z5 hxv22)), .u 75 (.le _ _ (fun _ => lm x22.nodes eI) (fun _ => ZEk h23)), .c 77 (Zp2 h24), .c 80 (Zp2 h25), .c 83 (Zm8 h26), .c 85 (ZM4 h27), .u 86 (.sa _ _ _ fun _ => h28), .u 87 (.sa _ _ _ fun _ => h29), .w 88 (wi .i64 rfl hiv22 q21.1)] fun _ => ?_
     exact wT (N58 _ H)
    .unfold Z53 at H
     refine wP ?_
     refine wf (ltF s1.runs.length) ?_
     refine wG [.u 91 (.ln _ _ fun _ => lm s1.ends eEnd)] fun q30 => ?_
     refine wR (fun (i31 : Nat) (v31 : Str) => ⟨[(3, .str v31), (90, .sl .rd 3 (s1.ends.map eEnd)), (91, .int .i64 (s1.ends.length : Int)), (92, .int .i64 (i31 : Int))], [], [], []⟩) H (fun i31 x31 v31 I m k31 hxv31 hiv31 H N74 => ?_) (fun v31 I m H => ?_)
     .unfold Z83 at H
      refine wP ?_
      refine wt (ltT hiv31) ?_
      obtain ⟨w32, h32, H⟩ := bB H
      obtain ⟨w33, h33, H⟩ := bB H
      obtain ⟨w34, h34, H⟩ := bB H
      refine wG [.u 94 (.ix _ _ _ fun _ => Z0 eEnd (Z5 hxv31)), .c 104 (Zp2 h32), .u 105 (.sa _ _ _ fun _ => h33), .u 106 (.sa _ _ _ fun _ => h34), .w 107 (wi .i64 rfl hiv31 q30.1)] fun _ => ?_
      exact wT (N74 _ H)
     .unfold Z43 at H
      refine wP ?_
      refine wf (ltF s1.ends.length) ?_
      obtain ⟨w35, h35, H⟩ := bB H
      refine wG [.u 109 (.sa _ _ _ fun _ => h35)] fun _ => ?_
      replace H := sI H; subst H
      exact wE [(2, .d)]
theorem ZFg {α γ : Type} {bd : α -> Nat -> Str -> (Str -> Option γ) -> Option γ} {kk : Str -> Option γ} {f : α -> Nat -> Str} (c : Nat) : ∀ {l : List α} {i : Nat} {s : Str}, (∀ x i, (f x i).length <= c) ->
  (∀ x ∈ l, ∀ i s k, s.length + c <= 4611686018427387904 -> bd x i s k = k (s ++ f x i)) -> s.length + l.length * c <= 4611686018427387904 -> rgl bd kk l i s = kk (s ++ (l.zipIdx i).flatMap fun q => f q.1 q.2)
 | [], _, s, _, _, _ => by simp [rgl]
 | x :: l, i, s, h1, h2, h3 => by
  have h0 : s.length + c + l.length * c <= 4611686018427387904 := by simp only [List.length_cons, Nat.add_mul, Nat.one_mul] at h3; omega
  have hx := h1 x i
  rw [rgl, h2 x (List.mem_cons_self ..) i s _ (by omega), ZFg c h1 (fun y hy => h2 y (List.mem_cons_of_mem _ hy)) (by simp; omega)]
  simp [List.zipIdx_cons]
theorem ZDi {α : Type} (f : α -> Nat -> Str) (c : Nat) (h : ∀ x i, (f x i).length <= c) : ∀ (l : List α) (i : Nat), ((l.zipIdx i).flatMap fun q => f q.1 q.2).length <= l.length * c
 | [], _ => by simp
 | x :: l, i => by
  have := ZDi f c h l (i + 1)
  have := h x i
  simp only [List.zipIdx_cons, List.flatMap_cons, List.length_append, List.length_cons, Nat.add_mul, Nat.one_mul]; omega
def intsT (l : List Int) : Str := l.flatMap fun n => 32 :: ZE n
theorem Zy1 (l : List Int) : (intsT l).length <= l.length * 11 := ZS4 _ 11 l fun x _ => by have := Z2 x; simp; omega
theorem ZB2 {l : List Int} (h : l.length <= 1048576) : spec_l19Ints l = some (intsT l) := by
 unfold spec_l19Ints
 rw [Zk2 11 (f := fun n => 32 :: ZE n) (fun x _ => by have := Z2 x; simp; omega) (fun x hx i s k hs => by
  have := Z2 x
  unfold Z94
  rw [Z1 (by simp; omega), bS, Zg1, bS, Z1 (by simp; omega), bS]
  simp) (by simp; omega)]
 rfl
theorem Zq2 {w : Str} {l : List Int} (hw : w.length <= 1048576) (h : l.length <= 1048576) : impl_numTexts w l = some (w ++ intsT l) := by
 unfold impl_numTexts
 rw [Zk2 11 (f := fun n => 32 :: ZE n) (fun x _ => by have := Z2 x; simp; omega) (fun x hx i s k hs => by
  have := Z2 x
  unfold ZD3
  rw [Z1 (by simp; omega), bS, Zn1, bS, Z1 (by simp; omega), bS]
  simp) (by omega)]
 rfl
def ZI7 (j : Job) : Str := ZE j.id ++ [32] ++ ZE j.prio ++ [32] ++ ZE j.nodes ++ [32] ++ Zs3 j.need ++ [32] ++ Zs3 j.lic ++ [32] ++ ZE j.wall ++ [32] ++ ZE j.level
theorem ZX4 (j : Job) : (ZI7 j).length <= 140 := by
 have := Z2 j.id; have := Z2 j.prio; have := Z2 j.nodes; have := Z2 j.wall; have := Z2 j.level
 have := ZO j.need; have := ZO j.lic
 simp [ZI7]; omega
theorem Zn8 (j : Job) : impl_jobText j = some (ZI7 j) := by
 have := Z2 j.id; have := Z2 j.prio; have := Z2 j.nodes; have := Z2 j.wall; have := Z2 j.level
 have := ZO j.need; have := ZO j.lic
 unfold impl_jobText
 simp only [Zn1, Za5, bS]
 rw [ZN4 _ (by simp [joinW]; omega), bS]
 simp [joinW, ZI7]
theorem Ze8 (j : Job) : spec_JobText j = some (bif spec_JobOk j then ZI7 j else []) := by
 have := Z2 j.id; have := Z2 j.prio; have := Z2 j.nodes; have := Z2 j.wall; have := Z2 j.level
 have := ZO j.need; have := ZO j.lic
 have hc : spec_CmdOk ⟨1, j, 0, ⟨0, 0, 0⟩⟩ = some (spec_JobOk j) := by
  unfold spec_CmdOk
  simp
 unfold spec_JobText spec_CmdText
 rw [hc, bS]
 cases spec_JobOk j with
 | false => rfl
 | true =>
  have hi : idx spec_l08Words 1 = some [115, 117, 98, 109, 105, 116] := rfl
  simp only [Bool.not_true, cond_false, cond_true, hi, bS, show ((1 : Int) == 1) = true from rfl, Zg1, ZE2]
  rw [Z1 (by simp), bS, Z1 (by simp; omega), bS, Z1 (by simp; omega), bS, Z1 (by simp; omega), bS, Z1 (by simp; omega), bS, Z1 (by simp; omega), bS, Z1 (by simp; omega), bS, Z1 (by simp; omega), bS, Z1 (by simp; omega), bS, Z1 (by simp; omega), bS, Z1 (by simp; omega), bS, Z1 (by simp; omega), bS, Z1 (by simp; omega), bS, Z1 (by simp; omega), bS, bS]
  have e : ∀ (z : Str), ([115, 117, 98, 109, 105, 116] ++ [32] ++ ZE j.id ++ [32] ++ ZE j.prio ++ [32] ++ ZE j.nodes ++ [32] ++ Zs3 j.need ++ [32] ++ Zs3 j.lic ++ [32] ++ ZE j.wall ++ [32] ++ ZE j.level : Str) = [115, 117, 98, 109, 105, 116, 32] ++ ZI7 j := fun _ => by simp [ZI7]
  rw [e []]
  rw [show (([115, 117, 98, 109, 105, 116, 32] ++ ZI7 j : Str) == []) = false from rfl]
  simp only [cond_false]
  have hcut : cutL ([115, 117, 98, 109, 105, 116, 32] ++ ZI7 j : Str) (some 7) none = some (ZI7 j) := by
   unfold cutL bhi blo
   simp only
   rw [if_pos (by simp; omega)]
   simp
  rw [hcut, bS]
def ZT4 (b : Bool) (i : Nat) : Str := bif !b then [100, 111, 119, 110] ++ intsT [(i : Int)] ++ [10] else []
def Zy4 (j : Job) : Str := [119, 97, 105, 116, 32] ++ ZI7 j ++ [10]
def Z07 (x : Run) : Str := [114, 117, 110] ++ intsT ([x.t, (x.nodes.length : Int)] ++ x.nodes) ++ [32] ++ ZI7 x.job ++ [10]
def Ze7 (e : End) : Str := [101, 110, 100] ++ intsT [e.id, e.t, e.why] ++ [10]
def ZZ5 (s : State) : Str := [115, 116, 97, 116, 101, 32] ++ Zs3 s.lic ++ intsT [s.depth, s.now] ++ [10]
noncomputable def Zw6 (s : State) : Str := if stateOk s = true then Zd2 s.topo ++ ZZ5 s ++ ((s.up.zipIdx 0).flatMap fun q => ZT4 q.1 q.2) ++ s.queue.flatMap Zy4 ++ s.runs.flatMap Z07 ++ s.ends.flatMap Ze7 ++ [111, 118, 101, 114, 10] else []
theorem Zy8 (b : Bool) (i : Nat) : (ZT4 b i).length <= 1000 := by have := Zy1 [(i : Int)]; cases b <;> simp [ZT4] at this ⊢; omega
theorem ZY7 (j : Job) : (Zy4 j).length <= 1000 := by have := ZX4 j; simp [Zy4]; omega
theorem ZK9 (e : End) : (Ze7 e).length <= 1000 := by have := Zy1 [e.id, e.t, e.why]; simp [Ze7] at this ⊢; omega
theorem ZAi (s : State) : (ZZ5 s).length <= 1000 := by
 have h1 := Zy1 [s.depth, s.now]
 have h2 := ZO s.lic
 simp only [List.length_cons, List.length_nil] at h1
 simp only [ZZ5, List.length_append, List.length_cons, List.length_nil]; omega
theorem ZB9 {x : Run} (h : x.nodes.length <= 24) : (Z07 x).length <= 1000 := by
 have := ZX4 x.job
 have := Zy1 ([x.t, (x.nodes.length : Int)] ++ x.nodes)
 simp [Z07] at this ⊢; omega
theorem StateP.run_len {s : State} (h : StateP s) {x : Run} (hx : x ∈ s.runs) : x.nodes.length <= 24 /\ spec_JobOk x.job = true := by
 obtain ⟨h1, h2, _⟩ := h.runs.job x hx
 have := (ZH6.1 h1).2.2.1
 exact ⟨by omega, h1⟩
theorem StateP.jobs {s : State} (h : StateP s) : s.queue.length + s.runs.length <= 60 /\ (∀ j ∈ s.queue, spec_JobOk j = true) := by
 have := h.queue
 unfold queueOk allJobs at this
 simp only [yD, decide_eq_true_eq, List.all_eq_true, List.length_append, List.length_map] at this
 exact ⟨this.1.1, fun j hj => this.1.2 j (List.mem_append.2 (.inl hj))⟩
theorem Zvb {s : State} (h : StateP s) : (Zd2 s.topo ++ ZZ5 s : Str).length <= 6000 /\ ((s.up.zipIdx 0).flatMap fun q => ZT4 q.1 q.2).length <= 24000 /\ (s.queue.flatMap Zy4).length <= 60000 /\ (s.runs.flatMap Z07).length <= 60000 /\ (s.ends.flatMap Ze7).length <= 300000 /\ s.up.length <= 24 /\ s.queue.length <= 60 /\ s.runs.length <= 60 /\ s.ends.length <= 300 := by
 have h1 := ZZ7 s.topo
 have h2 := ZAi s
 have h3 := ZDi ZT4 1000 Zy8 s.up 0
 have h4 := ZS4 Zy4 1000 s.queue fun x _ => ZY7 x
 have h5 := ZS4 Z07 1000 s.runs fun x hx => ZB9 (h.run_len hx).1
 have h6 := ZS4 Ze7 1000 s.ends fun x _ => ZK9 x
 have := h.up; have := h.topo.nodes; have := h.jobs.1; have := h.ends
 rw [List.length_append]
 refine ⟨by omega, by omega, by omega, by omega, by omega, by omega, by omega, by omega, by omega⟩
theorem ZJa {s : State} (hs : s.queue.length + s.runs.length <= 1048576) : spec_StateText s = some (Zw6 s) := by
 unfold spec_StateText Zw6
 rw [(Zqb hs).1, bS]
 cases ho : stateOk s with
 | false => rfl
 | true =>
  have h := ZYh ho
  obtain ⟨b1, b2, b3, b4, b5, c1, c2, c3, c4⟩ := Zvb h
  have d1 := ZZ7 s.topo
  have d2 := ZO s.lic
  have d3 := Zy1 [s.depth, s.now]
  simp only [List.length_cons, List.length_nil] at d3
  rw [if_pos rfl]
  simp only [Bool.not_true, cond_false, ZVb, ZE2, bS]
  rw [Z1 (by simp; omega), bS, Z1 (by simp; omega), bS, ZB2 (by simp), bS, Z1 (by simp; omega), bS, Z1 (by simp; omega), bS]
  rw [show (Zd2 s.topo ++ [115, 116, 97, 116, 101, 32] ++ Zs3 s.lic ++ intsT [s.depth, s.now] ++ [10] : Str) = Zd2 s.topo ++ ZZ5 s by simp [ZZ5]]
  rw [ZFg 1000 (f := ZT4) Zy8 (fun x hx i w k hw => by
   unfold ZN2 ZT4
   cases x with
   | true => simp
   | false =>
    have := Zy1 [(i : Int)]
    simp only [List.length_cons, List.length_nil] at this
    simp only [Bool.not_false, cond_true]
    rw [Z1 (by simp; omega), bS, ZB2 (by simp), bS, Z1 (by simp; omega), bS, Z1 (by simp; omega), bS]
    simp) (by omega)]
  unfold ZJ2
  rw [Zk2 1000 (f := Zy4) (fun x _ => ZY7 x) (fun x hx i w k hw => by
   have := ZX4 x
   unfold ZM2 Zy4
   rw [Z1 (by simp; omega), bS, Ze8, h.jobs.2 x hx, bS, cond_true, Z1 (by simp; omega), bS, Z1 (by simp; omega), bS]
   simp) (by rw [List.length_append]; omega)]
  unfold ZI2
  rw [Zk2 1000 (f := Z07) (fun x hx => ZB9 (h.run_len hx).1) (fun x hx i w k hw => by
   have := ZX4 x.job
   have hn := h.run_len hx
   have := Zy1 ([x.t, (x.nodes.length : Int)] ++ x.nodes)
   simp only [List.length_append, List.length_cons, List.length_nil] at this
   unfold ZL2 Z07
   rw [Z1 (by simp; omega), bS, show lenQ x.nodes = some () by unfold lenQ; rw [if_pos (by omega)], bS, Zs (by simp; omega), bS, ZB2 (by simp; omega), bS, Z1 (by rw [List.length_append]; simp only [List.length_cons, List.length_nil]; omega), bS,
    Z1 (by simp only [List.length_append, List.length_cons, List.length_nil]; omega), bS, Ze8, hn.2, bS, cond_true, Z1 (by simp only [List.length_append, List.length_cons, List.length_nil]; omega), bS, Z1 (by simp only [List.length_append, List.length_cons, List.length_nil]; omega), bS]
   simp) (by rw [List.length_append, List.length_append]; omega)]
  unfold ZH2
  rw [Zk2 1000 (f := Ze7) (fun x _ => ZK9 x) (fun x hx i w k hw => by
   have := Zy1 [x.id, x.t, x.why]
   simp only [List.length_cons, List.length_nil] at this
   unfold ZK2 Ze7
   rw [Z1 (by simp; omega), bS, ZB2 (by simp), bS, Z1 (by simp; omega), bS, Z1 (by simp; omega), bS]
   simp) (by rw [List.length_append, List.length_append, List.length_append]; omega)]
  unfold ZG2
  rw [Z1 (by simp only [List.length_append, List.length_cons, List.length_nil] at b1 ⊢; omega), bS]
theorem Zab {s : State} (hs : s.queue.length + s.runs.length <= 1048576) : impl_StateText s = some (Zw6 s) := by
 unfold impl_StateText Zw6
 rw [(Zqb hs).2, bS]
 cases ho : stateOk s with
 | false => rfl
 | true =>
  have h := ZYh ho
  obtain ⟨b1, b2, b3, b4, b5, c1, c2, c3, c4⟩ := Zvb h
  have d1 := ZZ7 s.topo
  have d2 := ZO s.lic
  have d3 := Z2 s.depth
  have d4 := Z2 s.now
  rw [if_pos rfl]
  simp only [Bool.not_true, cond_false, Zxc, Za5, Zn1, bS]
  rw [ZN4 _ (by simp [joinW]; omega), bS, Z1 (by simp [joinW]; omega), bS, Z1 (by simp [joinW]; omega), bS]
  rw [show (Zd2 s.topo ++ joinW [[115, 116, 97, 116, 101], Zs3 s.lic, ZE s.depth, ZE s.now] ++ [10] : Str) = Zd2 s.topo ++ ZZ5 s by simp [ZZ5, joinW, intsT]]
  rw [ZFg 1000 (f := ZT4) Zy8 (fun x hx i w k hw => by
   unfold Zb3 ZT4
   cases x with
   | true => simp
   | false =>
    have := Zy1 [(i : Int)]
    simp only [List.length_cons, List.length_nil] at this
    simp only [Bool.not_false, cond_true]
    rw [Zq2 (by simp) (by simp), bS, Z1 (by simp; omega), bS, Z1 (by simp; omega), bS]
    simp) (by omega)]
  unfold Z73
  rw [Zk2 1000 (f := Zy4) (fun x _ => ZY7 x) (fun x hx i w k hw => by
   have := ZX4 x
   unfold Za3 Zy4
   rw [Zn8, bS, ZN4 _ (by simp [joinW]; omega), bS, Z1 (by simp [joinW]; omega), bS, Z1 (by simp [joinW]; omega), bS]
   simp [joinW]) (by rw [List.length_append]; omega)]
  unfold Z63
  rw [Zk2 1000 (f := Z07) (fun x hx => ZB9 (h.run_len hx).1) (fun x hx i w k hw => by
   have := ZX4 x.job
   have hn := h.run_len hx
   have i1 := Zy1 [x.t, (x.nodes.length : Int)]
   have i2 := Zy1 x.nodes
   simp only [List.length_cons, List.length_nil] at i1
   unfold Z93 Z07
   rw [show lenQ x.nodes = some () by unfold lenQ; rw [if_pos (by omega)], bS, Zq2 (by simp) (by simp), bS, Zq2 (by simp only [List.length_append, List.length_cons, List.length_nil]; omega) (by omega), bS, Zn8, bS,
    ZN4 _ (by simp only [joinW, List.length_append, List.length_cons, List.length_nil]; omega), bS, Z1 (by simp only [joinW, List.length_append, List.length_cons, List.length_nil]; omega), bS, Z1 (by simp only [joinW, List.length_append, List.length_cons, List.length_nil]; omega), bS]
   simp [joinW, intsT]) (by rw [List.length_append, List.length_append]; omega)]
  unfold Z53
  rw [Zk2 1000 (f := Ze7) (fun x _ => ZK9 x) (fun x hx i w k hw => by
   have := Zy1 [x.id, x.t, x.why]
   simp only [List.length_cons, List.length_nil] at this
   unfold Z83 Ze7
   rw [Zq2 (by simp) (by simp), bS, Z1 (by simp; omega), bS, Z1 (by simp; omega), bS]
   simp) (by rw [List.length_append, List.length_append, List.length_append]; omega)]
  unfold Z43
  rw [Z1 (by simp only [List.length_append, List.length_cons, List.length_nil] at b1 ⊢; omega), bS]
theorem Zng {s : State} : (Zw6 s == ([] : Str)) = !stateOk s := by
 unfold Zw6
 cases stateOk s with
 | false => rfl
 | true => rw [if_pos rfl]; simp
def Zhf : L :=
sR [.bx 1 (.t 0),.al 2 [.str [], .nl, .int .i64 0, .int .i64 0],.mv 3 (cB false)]
 (sR [lD 5 1 11 true,cQ 6 ZQ7 [5],mV 4 6]
 (.seq (sR [mV 7 4,.bi 8 .eql (.t 7) (.c (.str []))]
 (.cond (.t 8) (sR [.bd 9 [.str [], .nl, .int .i64 0, .int .i64 0] [],.st (.t 2) (.t 9) 4,.mv 3 (cB false)]
 gR)
 .skip))
 (sR [mV 10 4,.bd 11 [.str [], .nl, .int .i64 0, .int .i64 0] [(0, 1, (.t 10))],.st (.t 2) (.t 11) 4,.mv 3 (cB true)]
 gR)))
def spec_PackOf (s1 : State) : Option (Pack × Bool) :=
 (spec_StateText s1).bind fun w2 => bif (w2 == ([] : Str)) then (some ((Pack.mk ([] : Str) (Journal.mk [] 0 0)), false)) else (some ((Pack.mk w2 (Journal.mk [] 0 0)), true))
theorem ZHe {s1 : State} {r : Pack × Bool} (H : spec_PackOf s1 = some r) : Snd Tryz.prog Zoa [Ze .rd s1] (.tup [Zx8 .nw r.1, .bool r.2]) [] := by
 refine wS Zhf [.c 2 4 true, .t 3] ?_
 unfold spec_PackOf at H
 obtain ⟨w2, h2, H⟩ := bB H
 refine wG [.c 6 (ZIa h2)] fun _ => ?_
 refine Wh_iH H (fun H => ?_) fun H => ?_
 .refine wP ?_
  replace H := sI H; subst H
  exact wN [(2, .d), (3, .d)] [(2, [.d, .n 1, .d, .d])] [] [] [] [⟨_, nw_B ([] : List Int)⟩]
 .refine wP ?_
  replace H := sI H; subst H
  exact wN [(2, .d), (3, .d)] [(2, [.d, .n 1, .d, .d])] [] [] [] [⟨_, nw_B ([] : List Int)⟩]
def ZLf : L :=
sR [.bx 1 (.t 0),.al 2 [.str [], .nl, .int .i64 0, .int .i64 0],.mv 3 (cB false)]
 (.seq (sR [lD 4 1 11 true,cQ 5 Zv6 [4],.un 6 (.t 5)]
 (.cond (.t 6) (sR [.bd 7 [.str [], .nl, .int .i64 0, .int .i64 0] [],.st (.t 2) (.t 7) 4,.mv 3 (cB false)]
 gR)
 .skip))
 (sR [lD 8 1 11 true,cQ 9 ZU7 [8],.bd 10 [.str [], .nl, .int .i64 0, .int .i64 0] [(0, 1, (.t 9))],.st (.t 2) (.t 10) 4,.mv 3 (cB true)]
 gR))
def impl_PackOf (s1 : State) : Option (Pack × Bool) :=
 (impl_StateOk s1).bind fun b2 => bif (!b2) then (some ((Pack.mk ([] : Str) (Journal.mk [] 0 0)), false)) else ((impl_StateText s1).bind fun w3 => some ((Pack.mk w3 (Journal.mk [] 0 0)), true))
theorem Zj9 {s1 : State} {r : Pack × Bool} (H : impl_PackOf s1 = some r) : Snd Tryz.prog Zv7 [Ze .rd s1] (.tup [Zx8 .nw r.1, .bool r.2]) [] := by
 refine wS ZLf [.c 2 4 true, .t 3] ?_
 unfold impl_PackOf at H
 obtain ⟨b2, h2, H⟩ := bB H
 refine wG [.c 5 (Zp8 h2)] fun _ => ?_
 refine Wh_iH H (fun H => ?_) fun H => ?_
 .refine wP ?_
  replace H := sI H; subst H
  exact wN [(2, .d), (3, .d)] [(2, [.d, .n 1, .d, .d])] [] [] [] [⟨_, nw_B ([] : List Int)⟩]
 .obtain ⟨w3, h3, H⟩ := bB H
  refine wG [.c 9 (Z9b h3)] fun _ => ?_
  replace H := sI H; subst H
  exact wN [(2, .d), (3, .d)] [(2, [.d, .n 1, .d, .d])] [] [] [] [⟨_, nw_B ([] : List Int)⟩]
theorem Zdl {s : State} (hs : s.queue.length + s.runs.length <= 1048576) : ∃ x b, spec_PackOf s = some (⟨x, ⟨[], 0, 0⟩⟩, b) /\ impl_PackOf s = some (⟨x, ⟨[], 0, 0⟩⟩, b) := by
 unfold spec_PackOf impl_PackOf
 rw [ZJa hs, Zab hs, (Zqb hs).2, bS, bS, bS, Zng]
 cases stateOk s with
 | false => exact ⟨_, _, rfl, rfl⟩
 | true => exact ⟨_, _, rfl, rfl⟩
def Zfh : L :=
sR [.bx 1 (.t 0),.al 2 [.int .i64 0, .int .i64 0, .int .i64 0]]
 (sR [.al 3 [.int .i64 0, .int .i64 0, .int .i64 0]]
 (sR [fA 4 1 0,lD 5 4 1 false,fA 6 3 0,.st (.t 6) (.t 5) 1]
 (sR [fA 7 1 1,lD 8 7 1 false,fA 9 3 1,.st (.t 9) (.t 8) 1]
 (sR [fA 10 1 2,lD 11 10 1 false,fA 12 3 2,.st (.t 12) (.t 11) 1]
 (sR [lD 13 3 3 true,.st (.t 2) (.t 13) 3]
 gR)))))
def ZF5 (a1 : Vec) : Option Vec :=
 some a1
theorem Zed {a1 : Vec} {r : Vec} (H : ZF5 a1 = some r) : Snd Tryz.prog Zy2 [eVec a1] (eVec r) [] := by
 refine wS Zfh [.c 2 3 true] ?_
 unfold ZF5 at H
 refine wP ?_
 replace H := sI H; subst H
 exact wN [(2, .d)] [(2, [])] [] [] [] []
def laws_toVec (a1 : Vec) : Vec :=
 a1
theorem Zni (a1 : Vec) : ZF5 a1 = some (laws_toVec a1) := by
 unfold ZF5 laws_toVec
 first | rfl | simp only [Zb]
theorem ZE4 (a1 : Vec) : Snd Tryz.prog Zy2 [eVec a1] (eVec (laws_toVec a1)) [] := Zed (Zni a1)
def Zkh : L :=
sR [.bx 2 (.t 0),.bx 3 (.t 1),.mv 4 (cB false)]
 (.seq (sR [fA 5 2 0,lD 6 5 1 false,fA 7 3 0,lD 8 7 1 false,bI 9 .neq 6 8]
 (.cond (.t 9) (.seq (rE 4 (cB false))
 gR)
 .skip))
 (.seq (sR [fA 10 2 1,lD 11 10 1 false,fA 12 3 1,lD 13 12 1 false,bI 14 .neq 11 13]
 (.cond (.t 14) (.seq (rE 4 (cB false))
 gR)
 .skip))
 (.seq (sR [fA 15 2 2,lD 16 15 1 false,fA 17 3 2,lD 18 17 1 false,bI 19 .neq 16 18]
 (.cond (.t 19) (.seq (rE 4 (cB false))
 gR)
 .skip))
 (.seq (rE 4 (cB true))
 gR))))
def ZK5 (a1 : Vec) (b2 : Vec) : Option Bool :=
 bif (a1.a != b2.a) then (some false) else (bif (a1.b != b2.b) then (some false) else (bif (a1.c != b2.c) then (some false) else (some true)))
theorem Zsd {a1 : Vec} {b2 : Vec} {r : Bool} (H : ZK5 a1 b2 = some r) : Snd Tryz.prog Zz2 [eVec a1, eVec b2] (.bool r) [] := by
 refine wS Zkh [.t 4] ?_
 unfold ZK5 at H
 refine wP ?_
 refine Wh_iH H (fun H => ?_) fun H => ?_
 .refine wP ?_
  replace H := sI H; subst H
  exact wE [(4, .d)]
 .refine wP ?_
  refine Wh_iH H (fun H => ?_) fun H => ?_
  .refine wP ?_
   replace H := sI H; subst H
   exact wE [(4, .d)]
  .refine wP ?_
   refine Wh_iH H (fun H => ?_) fun H => ?_
   .refine wP ?_
    replace H := sI H; subst H
    exact wE [(4, .d)]
   .refine wP ?_
    replace H := sI H; subst H
    exact wE [(4, .d)]
def laws_eqVec (a1 : Vec) (b2 : Vec) : Bool :=
 bif (a1.a != b2.a) then (false) else (bif (a1.b != b2.b) then (false) else (bif (a1.c != b2.c) then (false) else (true)))
theorem Zri (a1 : Vec) (b2 : Vec) : ZK5 a1 b2 = some (laws_eqVec a1 b2) := by
 unfold ZK5 laws_eqVec
 first | rfl | simp only [Zb]
theorem ZK4 (a1 : Vec) (b2 : Vec) : Snd Tryz.prog Zz2 [eVec a1, eVec b2] (.bool (laws_eqVec a1 b2)) [] := Zsd (Zri a1 b2)
def Znf : L :=
sR [.mv 2 (.c (.nl))]
 (sR [mV 5 0,.ln 6 (.t 5),.ms 7 1 8 [.int .i64 0] (.t 6),mV 3 7]
 (.seq (.seq (rE 4 (kI 0))
 (.blk 0 (.loop (.gw (.seq (sR [mV 8 4,mV 9 0,.ln 10 (.t 9),bI 11 .lss 8 10]
 (.cond (.t 11) .skip
 (.exit 0)))
 (.seq (.blk 1 (.reg [mV 14 3,mV 15 4,mV 16 0,mV 17 4,iA 18 16 17 1,lD 19 18 1 false,iA 20 14 15 1,.st (.t 20) (.t 19) 1]))
 (.reg [mV 12 4,.bi 13 .add (.t 12) (kI 1),mV 4 13])))))))
 (sR [mV 21 3,mV 2 21]
 gR)))
def ZU2 (a1 : List Int) (v4 : Int × (List Int)) (k4 : (Int × (List Int)) -> Option (List Int)) : Option (List Int) :=
 bif (decide (v4.1 < (a1.length : Int))) then ((idx a1 v4.1).bind fun e6 => (idx v4.2 v4.1).bind fun _ => k4 ((w64 (v4.1 + 1)), (v4.2.set v4.1.toNat e6))) else (some v4.2)
def laws_toIntS (a1 : List Int) : Option (List Int) :=
 (mkL 8 (a1.length : Int) 0).bind fun xs2 => whl (ZU2 a1) 9223372036854775807 (0, xs2)
theorem Zc9 {a1 : List Int} {r : (List Int)} (H : laws_toIntS a1 = some r) : Snd Tryz.prog Zm7 [.sl .rd 1 (a1.map eI)] (.sl .nw 1 (r.map eI)) [] := by
 refine wS Znf [.t 2] ?_
 unfold laws_toIntS at H
 obtain ⟨xs2, h2, H⟩ := bB H
 refine wG [.u 6 (.ln _ _ fun _ => lm a1 eI), .u 7 (.ms _ _ _ _ fun _ => ZQa eI h2)] fun q3 => ?_
 refine wW (fun (v4 : Int × (List Int)) => ⟨[(0, .sl .rd 1 (a1.map eI)), (3, .sref 7), (4, .int .i64 v4.1)], [], [], [(7, ⟨1, v4.2.map eI, false⟩)]⟩) H (fun v4 I m k4 H N13 => ?_)
 unfold ZU2 at H
 refine wG [.u 10 (.ln _ _ fun _ => lm a1 eI)] fun q5 => ?_
 refine Wh_iH H (fun H => ?_) fun H => ?_
 .obtain ⟨e6, h6, H⟩ := bB H
  obtain ⟨e7, h7, H⟩ := bB H
  refine wG [.u 18 (.ix _ _ _ fun _ => Z0 eI h6), .u 20 (.ix _ _ _ fun _ => Z0 eI h7), .u 1000000 (.sto _ _ _ (eI e6) _ (fun _ => gm eI (Z52 h7)) (fun _ => Zf8 ..))] fun _ => ?_
  exact wT (N13 _ H)
 .refine wP ?_
  replace H := sI H; subst H
  exact wN [(2, .f)] [] [] [7] [] [⟨_, nw_I v4.2⟩]
def Zlf : L :=
sR [.bx 1 (.t 0),.al 2 [.int .i64 0, .int .i64 0, .int .i64 0, .int .i64 0]]
 (sR [.al 3 [.int .i64 0, .int .i64 0, .int .i64 0, .int .i64 0]]
 (sR [fA 4 1 0,lD 5 4 1 false,fA 6 3 0,.st (.t 6) (.t 5) 1]
 (sR [fA 7 1 1,lD 8 7 3 true,cQ 9 Zy2 [8],fA 10 3 1,.st (.t 10) (.t 9) 3]
 (sR [lD 11 3 4 true,.st (.t 2) (.t 11) 4]
 gR))))
def ZF4 (a1 : Node) : Option Node :=
 some (Node.mk a1.leaf (laws_toVec a1.cap))
theorem ZXb {a1 : Node} {r : Node} (H : ZF4 a1 = some r) : Snd Tryz.prog Zl7 [eNode a1] (eNode r) [] := by
 refine wS Zlf [.c 2 4 true] ?_
 unfold ZF4 at H
 refine wG [.c 9 (ZE4 a1.cap)] fun _ => ?_
 replace H := sI H; subst H
 exact wN [(2, .d)] [(2, [])] [] [] [] []
def laws_toNode (a1 : Node) : Node :=
 (Node.mk a1.leaf (laws_toVec a1.cap))
theorem ZZg (a1 : Node) : ZF4 a1 = some (laws_toNode a1) := by
 unfold ZF4 laws_toNode
 first | rfl | simp only [Zb]
theorem ZPe (a1 : Node) : Snd Tryz.prog Zl7 [eNode a1] (eNode (laws_toNode a1)) [] := ZXb (ZZg a1)
def ZWd : L :=
sR [.mv 2 (.c (.nl))]
 (sR [mV 5 0,.ln 6 (.t 5),.ms 7 4 32 [.int .i64 0, .int .i64 0, .int .i64 0, .int .i64 0] (.t 6),mV 3 7]
 (.seq (.seq (rE 4 (kI 0))
 (.blk 0 (.loop (.gw (.seq (sR [mV 8 4,mV 9 0,.ln 10 (.t 9),bI 11 .lss 8 10]
 (.cond (.t 11) .skip
 (.exit 0)))
 (.seq (.blk 1 (.reg [mV 14 3,mV 15 4,mV 16 0,mV 17 4,iA 18 16 17 4,lD 19 18 4 true,cQ 20 Zl7 [19],iA 21 14 15 4,.st (.t 21) (.t 20) 4]))
 (.reg [mV 12 4,.bi 13 .add (.t 12) (kI 1),mV 4 13])))))))
 (sR [mV 22 3,mV 2 22]
 gR)))
def Zl2 (a1 : List Node) (v4 : Int × (List Node)) (k4 : (Int × (List Node)) -> Option (List Node)) : Option (List Node) :=
 bif (decide (v4.1 < (a1.length : Int))) then ((idx a1 v4.1).bind fun e6 => (idx v4.2 v4.1).bind fun _ => k4 ((w64 (v4.1 + 1)), (v4.2.set v4.1.toNat (Node.mk ((laws_toNode e6).leaf) ((laws_toNode e6).cap))))) else (some v4.2)
def laws_toNodeS (a1 : List Node) : Option (List Node) :=
 (mkL 32 (a1.length : Int) (Node.mk 0 (Vec.mk 0 0 0))).bind fun xs2 => whl (Zl2 a1) 9223372036854775807 (0, xs2)
theorem Zhd {a1 : List Node} {r : (List Node)} (H : laws_toNodeS a1 = some r) : Snd Tryz.prog Zr9 [.sl .rd 4 (a1.map eNode)] (.sl .nw 4 (r.map eNode)) [] := by
 refine wS ZWd [.t 2] ?_
 unfold laws_toNodeS at H
 obtain ⟨xs2, h2, H⟩ := bB H
 refine wG [.u 6 (.ln _ _ fun _ => lm a1 eNode), .u 7 (.ms _ _ _ _ fun _ => ZQa eNode h2)] fun q3 => ?_
 refine wW (fun (v4 : Int × (List Node)) => ⟨[(0, .sl .rd 4 (a1.map eNode)), (3, .sref 7), (4, .int .i64 v4.1)], [], [], [(7, ⟨4, v4.2.map eNode, false⟩)]⟩) H (fun v4 I m k4 H N13 => ?_)
 unfold Zl2 at H
 refine wG [.u 10 (.ln _ _ fun _ => lm a1 eNode)] fun q5 => ?_
 refine Wh_iH H (fun H => ?_) fun H => ?_
 .obtain ⟨e6, h6, H⟩ := bB H
  obtain ⟨e7, h7, H⟩ := bB H
  refine wG [.u 18 (.ix _ _ _ fun _ => Z0 eNode h6), .c 20 (ZPe e6), .u 21 (.ix _ _ _ fun _ => Z0 eNode h7), .u 1000000 (.sto _ _ _ (eNode (Node.mk ((laws_toNode e6).leaf) ((laws_toNode e6).cap))) _ (fun _ => gm eNode (Z52 h7)) (fun _ => Zf8 ..))] fun _ => ?_
  exact wT (N13 _ H)
 .refine wP ?_
  replace H := sI H; subst H
  exact wN [(2, .f)] [] [] [7] [] [⟨_, ZS v4.2⟩]
def Zjf : L :=
sR [.bx 1 (.t 0),.al 2 [.nl, .nl]]
 (sR [.al 3 [.nl, .nl]]
 (sR [fA 4 1 0,lD 5 4 1 false,cQ 6 Zm7 [5],fA 7 3 0,.st (.t 7) (.t 6) 1]
 (sR [fA 8 1 1,lD 9 8 1 false,cQ 10 Zr9 [9],fA 11 3 1,.st (.t 11) (.t 10) 1]
 (sR [lD 12 3 2 true,.st (.t 2) (.t 12) 2]
 gR))))
def laws_toTopo (a1 : Topo) : Option Topo :=
 (laws_toIntS a1.parents).bind fun y2 => (laws_toNodeS a1.nodes).bind fun y3 => some (Topo.mk y2 y3)
theorem ZLe {a1 : Topo} {r : Topo} (H : laws_toTopo a1 = some r) : Snd Tryz.prog Zqa [Zt .rd a1] (Zt .nw r) [] := by
 refine wS Zjf [.c 2 2 true] ?_
 unfold laws_toTopo at H
 obtain ⟨y2, h2, H⟩ := bB H
 obtain ⟨y3, h3, H⟩ := bB H
 refine wG [.c 6 (Zc9 h2), .c 10 (Zhd h3)] fun _ => ?_
 replace H := sI H; subst H
 exact wN [(2, .d)] [(2, [])] [] [] [] [⟨_, nw_I y2⟩, ⟨_, ZS y3⟩]
def Zsf : L :=
.seq (rE 4 (kI 0))
 (sR [mV 5 1,mV 6 0,.ln 7 (.t 6),bI 8 .sub 5 7,mV 1 8]
 (.seq (sR [mV 9 1,.bi 10 .lss (.t 9) (kI 0)]
 (.cond (.t 10) (.seq (rE 4 (kI (-1)))
 gR)
 .skip))
 (sR [mV 11 1,mV 4 11]
 gR)))
def ZI4 (a1 : List Int) (left2 : Int) : Option Int :=
 bif (decide ((w64 (left2 - (a1.length : Int))) < 0)) then (some (-1)) else (some (w64 (left2 - (a1.length : Int))))
theorem Z0c {a1 : List Int} {left2 : Int} {r : Int} (H : ZI4 a1 left2 = some r) : Snd Tryz.prog ZU4 [.sl .rd 1 (a1.map eI), .int .i64 left2] (.int .i64 r) [] := by
 refine wS Zsf [.t 4] ?_
 unfold ZI4 at H
 refine wG [.u 7 (.ln _ _ fun _ => lm a1 eI)] fun q3 => ?_
 refine Wh_iH H (fun H => ?_) fun H => ?_
 .refine wP ?_
  replace H := sI H; subst H
  exact wE [(4, .d)]
 .refine wP ?_
  replace H := sI H; subst H
  exact wE [(4, .d)]
def laws_szIntS (a1 : List Int) (left2 : Int) : Int :=
 bif (decide ((w64 (left2 - (a1.length : Int))) < 0)) then ((-1)) else ((w64 (left2 - (a1.length : Int))))
theorem Z4h (a1 : List Int) (left2 : Int) : ZI4 a1 left2 = some (laws_szIntS a1 left2) := by
 unfold ZI4 laws_szIntS
 first | rfl | simp only [Zb]
theorem Ze9 (a1 : List Int) (left2 : Int) : Snd Tryz.prog ZU4 [.sl .rd 1 (a1.map eI), .int .i64 left2] (.int .i64 (laws_szIntS a1 left2)) [] := Z0c (Z4h a1 left2)
def ZZd : L :=
.seq (rE 4 (kI 0))
 (sR [mV 5 1,mV 6 0,.ln 7 (.t 6),bI 8 .sub 5 7,mV 1 8]
 (.seq (sR [mV 9 1,.bi 10 .lss (.t 9) (kI 0)]
 (.cond (.t 10) (.seq (rE 4 (kI (-1)))
 gR)
 .skip))
 (sR [mV 11 1,mV 4 11]
 gR)))
def ZT3 (a1 : List Node) (left2 : Int) : Option Int :=
 bif (decide ((w64 (left2 - (a1.length : Int))) < 0)) then (some (-1)) else (some (w64 (left2 - (a1.length : Int))))
theorem ZSa {a1 : List Node} {left2 : Int} {r : Int} (H : ZT3 a1 left2 = some r) : Snd Tryz.prog Zr6 [.sl .rd 4 (a1.map eNode), .int .i64 left2] (.int .i64 r) [] := by
 refine wS ZZd [.t 4] ?_
 unfold ZT3 at H
 refine wG [.u 7 (.ln _ _ fun _ => lm a1 eNode)] fun q3 => ?_
 refine Wh_iH H (fun H => ?_) fun H => ?_
 .refine wP ?_
  replace H := sI H; subst H
  exact wE [(4, .d)]
 .refine wP ?_
  replace H := sI H; subst H
  exact wE [(4, .d)]
def laws_szNodeS (a1 : List Node) (left2 : Int) : Int :=
 bif (decide ((w64 (left2 - (a1.length : Int))) < 0)) then ((-1)) else ((w64 (left2 - (a1.length : Int))))
theorem ZXe (a1 : List Node) (left2 : Int) : ZT3 a1 left2 = some (laws_szNodeS a1 left2) := by
 unfold ZT3 laws_szNodeS
 first | rfl | simp only [Zb]
theorem Zqd (a1 : List Node) (left2 : Int) : Snd Tryz.prog Zr6 [.sl .rd 4 (a1.map eNode), .int .i64 left2] (.int .i64 (laws_szNodeS a1 left2)) [] := ZSa (ZXe a1 left2)
def Zpf : L :=
sR [.bx 2 (.t 0),.mv 4 (kI 0)]
 (sR [fA 5 2 0,lD 6 5 1 false,mV 7 1,cQ 8 ZU4 [6, 7],mV 1 8]
 (.seq (sR [mV 9 1,.bi 10 .lss (.t 9) (kI 0)]
 (.cond (.t 10) (.seq (rE 4 (kI (-1)))
 gR)
 .skip))
 (sR [fA 11 2 1,lD 12 11 1 false,mV 13 1,cQ 14 Zr6 [12, 13],mV 1 14]
 (.seq (sR [mV 15 1,.bi 16 .lss (.t 15) (kI 0)]
 (.cond (.t 16) (.seq (rE 4 (kI (-1)))
 gR)
 .skip))
 (sR [mV 17 1,mV 4 17]
 gR)))))
def ZG4 (a1 : Topo) (left2 : Int) : Option Int :=
 bif (decide ((laws_szIntS a1.parents left2) < 0)) then (some (-1)) else (bif (decide ((laws_szNodeS a1.nodes (laws_szIntS a1.parents left2)) < 0)) then (some (-1)) else (some (laws_szNodeS a1.nodes (laws_szIntS a1.parents left2))))
theorem ZYb {a1 : Topo} {left2 : Int} {r : Int} (H : ZG4 a1 left2 = some r) : Snd Tryz.prog Zn7 [Zt .rd a1, .int .i64 left2] (.int .i64 r) [] := by
 refine wS Zpf [.t 4] ?_
 unfold ZG4 at H
 refine wG [.c 8 (Ze9 a1.parents left2)] fun _ => ?_
 refine Wh_iH H (fun H => ?_) fun H => ?_
 .refine wP ?_
  replace H := sI H; subst H
  exact wE [(4, .d)]
 .refine wG [.u 14 (.call _ _ _ _ _ (AEs.refl _) (fun _ => Zqd a1.nodes (laws_szIntS a1.parents left2)))] fun _ => ?_
  refine Wh_iH H (fun H => ?_) fun H => ?_
  .refine wP ?_
   replace H := sI H; subst H
   exact wE [(4, .d)]
  .refine wP ?_
   replace H := sI H; subst H
   exact wE [(4, .d)]
def laws_szTopo (a1 : Topo) (left2 : Int) : Int :=
 bif (decide ((laws_szIntS a1.parents left2) < 0)) then ((-1)) else (bif (decide ((laws_szNodeS a1.nodes (laws_szIntS a1.parents left2)) < 0)) then ((-1)) else ((laws_szNodeS a1.nodes (laws_szIntS a1.parents left2))))
theorem Z1h (a1 : Topo) (left2 : Int) : ZG4 a1 left2 = some (laws_szTopo a1 left2) := by
 unfold ZG4 laws_szTopo
 first | rfl | simp only [Zb]
theorem ZUe (a1 : Topo) (left2 : Int) : Snd Tryz.prog Zn7 [Zt .rd a1, .int .i64 left2] (.int .i64 (laws_szTopo a1 left2)) [] := ZYb (Z1h a1 left2)
def Zzf : L :=
.seq (rE 4 (cB false))
 (.seq (sR [mV 6 0,.ln 7 (.t 6),mV 8 1,.ln 9 (.t 8),bI 10 .neq 7 9]
 (.cond (.t 10) (.seq (rE 4 (cB false))
 gR)
 .skip))
 (.seq (.seq (rE 5 (kI 0))
 (.blk 0 (.loop (.gw (.seq (sR [mV 11 5,mV 12 0,.ln 13 (.t 12),bI 14 .lss 11 13]
 (.cond (.t 14) .skip
 (.exit 0)))
 (.seq (.blk 1 (.seq (.rq 9 [mV 17 0,mV 18 5,iA 19 17 18 1,lD 20 19 1 false,mV 21 1,mV 22 5,iA 23 21 22 1,lD 24 23 1 false,bI 25 .neq 20 24])
 (.cond (.t 25) (.seq (rE 4 (cB false))
 gR)
 .skip)))
 (.reg [mV 15 5,.bi 16 .add (.t 15) (kI 1),mV 5 16])))))))
 (.seq (rE 4 (cB true))
 gR)))
def ZY2 (a1 : List Int) (b2 : List Int) (v4 : Int) (k4 : Int -> Option Bool) : Option Bool :=
 bif (decide (v4 < (a1.length : Int))) then ((idx a1 v4).bind fun e6 => (idx b2 v4).bind fun e7 => bif (e6 != e7) then (some false) else (k4 (w64 (v4 + 1)))) else (some true)
def laws_eqIntS (a1 : List Int) (b2 : List Int) : Option Bool :=
 bif ((a1.length : Int) != (b2.length : Int)) then (some false) else (whl (ZY2 a1 b2) 9223372036854775807 0)
theorem Zf9 {a1 : List Int} {b2 : List Int} {r : Bool} (H : laws_eqIntS a1 b2 = some r) : Snd Tryz.prog Zr7 [.sl .rd 1 (a1.map eI), .sl .rd 1 (b2.map eI)] (.bool r) [] := by
 refine wS Zzf [.t 4] ?_
 unfold laws_eqIntS at H
 refine wG [.u 7 (.ln _ _ fun _ => lm a1 eI), .u 9 (.ln _ _ fun _ => lm b2 eI)] fun q3 => ?_
 refine Wh_iH H (fun H => ?_) fun H => ?_
 .refine wP ?_
  replace H := sI H; subst H
  exact wE [(4, .d)]
 .refine wP ?_
  refine wW (fun (v4 : Int) => ⟨[(0, .sl .rd 1 (a1.map eI)), (1, .sl .rd 1 (b2.map eI)), (5, .int .i64 v4)], [], [], []⟩) H (fun v4 I m k4 H N25 => ?_)
  unfold ZY2 at H
  refine wG [.u 13 (.ln _ _ fun _ => lm a1 eI)] fun q5 => ?_
  refine Wh_iH H (fun H => ?_) fun H => ?_
  .obtain ⟨e6, h6, H⟩ := bB H
   obtain ⟨e7, h7, H⟩ := bB H
   refine wG [.u 19 (.ix _ _ _ fun _ => Z0 eI h6), .u 23 (.ix _ _ _ fun _ => Z0 eI h7)] fun _ => ?_
   refine Wh_iH H (fun H => ?_) fun H => ?_
   .refine wP ?_
    replace H := sI H; subst H
    exact wE [(4, .d)]
   .refine wP ?_
    exact wT (N25 _ H)
  .refine wP ?_
   replace H := sI H; subst H
   exact wE [(4, .d)]
def Zxf : L :=
sR [.bx 2 (.t 0),.bx 3 (.t 1),.mv 4 (cB false)]
 (.seq (sR [fA 5 2 0,lD 6 5 1 false,fA 7 3 0,lD 8 7 1 false,bI 9 .neq 6 8]
 (.cond (.t 9) (.seq (rE 4 (cB false))
 gR)
 .skip))
 (.seq (sR [fA 10 2 1,lD 11 10 3 true,fA 12 3 1,lD 13 12 3 true,cQ 14 Zz2 [11, 13],.un 15 (.t 14)]
 (.cond (.t 15) (.seq (rE 4 (cB false))
 gR)
 .skip))
 (.seq (rE 4 (cB true))
 gR)))
def ZL4 (a1 : Node) (b2 : Node) : Option Bool :=
 bif (a1.leaf != b2.leaf) then (some false) else (bif (!(laws_eqVec a1.cap b2.cap)) then (some false) else (some true))
theorem Z6c {a1 : Node} {b2 : Node} {r : Bool} (H : ZL4 a1 b2 = some r) : Snd Tryz.prog Zq7 [eNode a1, eNode b2] (.bool r) [] := by
 refine wS Zxf [.t 4] ?_
 unfold ZL4 at H
 refine wP ?_
 refine Wh_iH H (fun H => ?_) fun H => ?_
 .refine wP ?_
  replace H := sI H; subst H
  exact wE [(4, .d)]
 .refine wG [.c 14 (ZK4 a1.cap b2.cap)] fun _ => ?_
  refine Wh_iH H (fun H => ?_) fun H => ?_
  .refine wP ?_
   replace H := sI H; subst H
   exact wE [(4, .d)]
  .refine wP ?_
   replace H := sI H; subst H
   exact wE [(4, .d)]
def laws_eqNode (a1 : Node) (b2 : Node) : Bool :=
 bif (a1.leaf != b2.leaf) then (false) else (bif (!(laws_eqVec a1.cap b2.cap)) then (false) else (true))
theorem Z7h (a1 : Node) (b2 : Node) : ZL4 a1 b2 = some (laws_eqNode a1 b2) := by
 unfold ZL4 laws_eqNode
 first | rfl | simp only [Zb]
theorem Z4f (a1 : Node) (b2 : Node) : Snd Tryz.prog Zq7 [eNode a1, eNode b2] (.bool (laws_eqNode a1 b2)) [] := Z6c (Z7h a1 b2)
def Z2e : L :=
.seq (rE 4 (cB false))
 (.seq (sR [mV 6 0,.ln 7 (.t 6),mV 8 1,.ln 9 (.t 8),bI 10 .neq 7 9]
 (.cond (.t 10) (.seq (rE 4 (cB false))
 gR)
 .skip))
 (.seq (.seq (rE 5 (kI 0))
 (.blk 0 (.loop (.gw (.seq (sR [mV 11 5,mV 12 0,.ln 13 (.t 12),bI 14 .lss 11 13]
 (.cond (.t 14) .skip
 (.exit 0)))
 (.seq (.blk 1 (.seq (.rq 10 [mV 17 0,mV 18 5,iA 19 17 18 4,lD 20 19 4 true,mV 21 1,mV 22 5,iA 23 21 22 4,lD 24 23 4 true,cQ 25 Zq7 [20, 24],.un 26 (.t 25)])
 (.cond (.t 26) (.seq (rE 4 (cB false))
 gR)
 .skip)))
 (.reg [mV 15 5,.bi 16 .add (.t 15) (kI 1),mV 5 16])))))))
 (.seq (rE 4 (cB true))
 gR)))
def Zn2 (a1 : List Node) (b2 : List Node) (v4 : Int) (k4 : Int -> Option Bool) : Option Bool :=
 bif (decide (v4 < (a1.length : Int))) then ((idx a1 v4).bind fun e6 => (idx b2 v4).bind fun e7 => bif (!(laws_eqNode e6 e7)) then (some false) else (k4 (w64 (v4 + 1)))) else (some true)
def laws_eqNodeS (a1 : List Node) (b2 : List Node) : Option Bool :=
 bif ((a1.length : Int) != (b2.length : Int)) then (some false) else (whl (Zn2 a1 b2) 9223372036854775807 0)
theorem Zvd {a1 : List Node} {b2 : List Node} {r : Bool} (H : laws_eqNodeS a1 b2 = some r) : Snd Tryz.prog Zu9 [.sl .rd 4 (a1.map eNode), .sl .rd 4 (b2.map eNode)] (.bool r) [] := by
 refine wS Z2e [.t 4] ?_
 unfold laws_eqNodeS at H
 refine wG [.u 7 (.ln _ _ fun _ => lm a1 eNode), .u 9 (.ln _ _ fun _ => lm b2 eNode)] fun q3 => ?_
 refine Wh_iH H (fun H => ?_) fun H => ?_
 .refine wP ?_
  replace H := sI H; subst H
  exact wE [(4, .d)]
 .refine wP ?_
  refine wW (fun (v4 : Int) => ⟨[(0, .sl .rd 4 (a1.map eNode)), (1, .sl .rd 4 (b2.map eNode)), (5, .int .i64 v4)], [], [], []⟩) H (fun v4 I m k4 H N25 => ?_)
  unfold Zn2 at H
  refine wG [.u 13 (.ln _ _ fun _ => lm a1 eNode)] fun q5 => ?_
  refine Wh_iH H (fun H => ?_) fun H => ?_
  .obtain ⟨e6, h6, H⟩ := bB H
   obtain ⟨e7, h7, H⟩ := bB H
   refine wG [.u 19 (.ix _ _ _ fun _ => Z0 eNode h6), .u 23 (.ix _ _ _ fun _ => Z0 eNode h7), .c 25 (Z4f e6 e7)] fun _ => ?_
   refine Wh_iH H (fun H => ?_) fun H => ?_
   .refine wP ?_
    replace H := sI H; subst H
    exact wE [(4, .d)]
   .refine wP ?_
    exact wT (N25 _ H)
  .refine wP ?_
   replace H := sI H; subst H
   exact wE [(4, .d)]
def Zuf : L :=
sR [.bx 2 (.t 0),.bx 3 (.t 1),.mv 4 (cB false)]
 (.seq (sR [fA 5 2 0,lD 6 5 1 false,fA 7 3 0,lD 8 7 1 false,cQ 9 Zr7 [6, 8],.un 10 (.t 9)]
 (.cond (.t 10) (.seq (rE 4 (cB false))
 gR)
 .skip))
 (.seq (sR [fA 11 2 1,lD 12 11 1 false,fA 13 3 1,lD 14 13 1 false,cQ 15 Zu9 [12, 14],.un 16 (.t 15)]
 (.cond (.t 16) (.seq (rE 4 (cB false))
 gR)
 .skip))
 (.seq (rE 4 (cB true))
 gR)))
def laws_eqTopo (a1 : Topo) (b2 : Topo) : Option Bool :=
 (laws_eqIntS a1.parents b2.parents).bind fun b3 => bif (!b3) then (some false) else ((laws_eqNodeS a1.nodes b2.nodes).bind fun b4 => bif (!b4) then (some false) else (some true))
theorem Z1f {a1 : Topo} {b2 : Topo} {r : Bool} (H : laws_eqTopo a1 b2 = some r) : Snd Tryz.prog Zva [Zt .rd a1, Zt .rd b2] (.bool r) [] := by
 refine wS Zuf [.t 4] ?_
 unfold laws_eqTopo at H
 obtain ⟨b3, h3, H⟩ := bB H
 refine wG [.c 9 (Zf9 h3)] fun _ => ?_
 refine Wh_iH H (fun H => ?_) fun H => ?_
 .refine wP ?_
  replace H := sI H; subst H
  exact wE [(4, .d)]
 .obtain ⟨b4, h4, H⟩ := bB H
  refine wG [.c 15 (Zvd h4)] fun _ => ?_
  refine Wh_iH H (fun H => ?_) fun H => ?_
  .refine wP ?_
   replace H := sI H; subst H
   exact wE [(4, .d)]
  .refine wP ?_
   replace H := sI H; subst H
   exact wE [(4, .d)]
def Zhh : L :=
sR [.bx 1 (.t 0),.al 2 [.int .i64 0, .int .i64 0, .int .i64 0, .int .i64 0, .int .i64 0, .int .i64 0, .int .i64 0, .int .i64 0, .int .i64 0, .int .i64 0, .int .i64 0]]
 (sR [.al 3 [.int .i64 0, .int .i64 0, .int .i64 0, .int .i64 0, .int .i64 0, .int .i64 0, .int .i64 0, .int .i64 0, .int .i64 0, .int .i64 0, .int .i64 0]]
 (sR [fA 4 1 0,lD 5 4 1 false,fA 6 3 0,.st (.t 6) (.t 5) 1]
 (sR [fA 7 1 1,lD 8 7 1 false,fA 9 3 1,.st (.t 9) (.t 8) 1]
 (sR [fA 10 1 2,lD 11 10 1 false,fA 12 3 2,.st (.t 12) (.t 11) 1]
 (sR [fA 13 1 3,lD 14 13 3 true,cQ 15 Zy2 [14],fA 16 3 3,.st (.t 16) (.t 15) 3]
 (sR [fA 17 1 6,lD 18 17 3 true,cQ 19 Zy2 [18],fA 20 3 6,.st (.t 20) (.t 19) 3]
 (sR [fA 21 1 9,lD 22 21 1 false,fA 23 3 9,.st (.t 23) (.t 22) 1]
 (sR [fA 24 1 10,lD 25 24 1 false,fA 26 3 10,.st (.t 26) (.t 25) 1]
 (sR [lD 27 3 11 true,.st (.t 2) (.t 27) 11]
 gR)))))))))
def ZG5 (a1 : Job) : Option Job :=
 some (Job.mk a1.id a1.prio a1.nodes (laws_toVec a1.need) (laws_toVec a1.lic) a1.wall a1.level)
theorem Zjd {a1 : Job} {r : Job} (H : ZG5 a1 = some r) : Snd Tryz.prog Z16 [eJob a1] (eJob r) [] := by
 refine wS Zhh [.c 2 11 true] ?_
 unfold ZG5 at H
 refine wG [.c 15 (ZE4 a1.need), .c 19 (ZE4 a1.lic)] fun _ => ?_
 replace H := sI H; subst H
 exact wN [(2, .d)] [(2, [])] [] [] [] []
def laws_toJob (a1 : Job) : Job :=
 (Job.mk a1.id a1.prio a1.nodes (laws_toVec a1.need) (laws_toVec a1.lic) a1.wall a1.level)
theorem Zoi (a1 : Job) : ZG5 a1 = some (laws_toJob a1) := by
 unfold ZG5 laws_toJob
 first | rfl | simp only [Zb]
theorem Z2a (a1 : Job) : Snd Tryz.prog Z16 [eJob a1] (eJob (laws_toJob a1)) [] := Zjd (Zoi a1)
def ZXd : L :=
sR [.mv 2 (.c (.nl))]
 (sR [mV 5 0,.ln 6 (.t 5),.ms 7 1 1 [.bool false] (.t 6),mV 3 7]
 (.seq (.seq (rE 4 (kI 0))
 (.blk 0 (.loop (.gw (.seq (sR [mV 8 4,mV 9 0,.ln 10 (.t 9),bI 11 .lss 8 10]
 (.cond (.t 11) .skip
 (.exit 0)))
 (.seq (.blk 1 (.reg [mV 14 3,mV 15 4,mV 16 0,mV 17 4,iA 18 16 17 1,lD 19 18 1 false,iA 20 14 15 1,.st (.t 20) (.t 19) 1]))
 (.reg [mV 12 4,.bi 13 .add (.t 12) (kI 1),mV 4 13])))))))
 (sR [mV 21 3,mV 2 21]
 gR)))
def Zm2 (a1 : List Bool) (v4 : Int × (List Bool)) (k4 : (Int × (List Bool)) -> Option (List Bool)) : Option (List Bool) :=
 bif (decide (v4.1 < (a1.length : Int))) then ((idx a1 v4.1).bind fun e6 => (idx v4.2 v4.1).bind fun _ => k4 ((w64 (v4.1 + 1)), (v4.2.set v4.1.toNat e6))) else (some v4.2)
def laws_toBoolS (a1 : List Bool) : Option (List Bool) :=
 (mkL 1 (a1.length : Int) false).bind fun xs2 => whl (Zm2 a1) 9223372036854775807 (0, xs2)
theorem Zld {a1 : List Bool} {r : (List Bool)} (H : laws_toBoolS a1 = some r) : Snd Tryz.prog Zs9 [.sl .rd 1 (a1.map eBo)] (.sl .nw 1 (r.map eBo)) [] := by
 refine wS ZXd [.t 2] ?_
 unfold laws_toBoolS at H
 obtain ⟨xs2, h2, H⟩ := bB H
 refine wG [.u 6 (.ln _ _ fun _ => lm a1 eBo), .u 7 (.ms _ _ _ _ fun _ => ZQa eBo h2)] fun q3 => ?_
 refine wW (fun (v4 : Int × (List Bool)) => ⟨[(0, .sl .rd 1 (a1.map eBo)), (3, .sref 7), (4, .int .i64 v4.1)], [], [], [(7, ⟨1, v4.2.map eBo, false⟩)]⟩) H (fun v4 I m k4 H N13 => ?_)
 unfold Zm2 at H
 refine wG [.u 10 (.ln _ _ fun _ => lm a1 eBo)] fun q5 => ?_
 refine Wh_iH H (fun H => ?_) fun H => ?_
 .obtain ⟨e6, h6, H⟩ := bB H
  obtain ⟨e7, h7, H⟩ := bB H
  refine wG [.u 18 (.ix _ _ _ fun _ => Z0 eBo h6), .u 20 (.ix _ _ _ fun _ => Z0 eBo h7), .u 1000000 (.sto _ _ _ (eBo e6) _ (fun _ => gm eBo (Z52 h7)) (fun _ => Zf8 ..))] fun _ => ?_
  exact wT (N13 _ H)
 .refine wP ?_
  replace H := sI H; subst H
  exact wN [(2, .f)] [] [] [7] [] [⟨_, nw_Bo v4.2⟩]
def Z0e : L :=
.seq (rE 4 (kI 0))
 (sR [mV 5 1,mV 6 0,.ln 7 (.t 6),bI 8 .sub 5 7,mV 1 8]
 (.seq (sR [mV 9 1,.bi 10 .lss (.t 9) (kI 0)]
 (.cond (.t 10) (.seq (rE 4 (kI (-1)))
 gR)
 .skip))
 (sR [mV 11 1,mV 4 11]
 gR)))
def ZU3 (a1 : List Bool) (left2 : Int) : Option Int :=
 bif (decide ((w64 (left2 - (a1.length : Int))) < 0)) then (some (-1)) else (some (w64 (left2 - (a1.length : Int))))
theorem ZTa {a1 : List Bool} {left2 : Int} {r : Int} (H : ZU3 a1 left2 = some r) : Snd Tryz.prog Zs6 [.sl .rd 1 (a1.map eBo), .int .i64 left2] (.int .i64 r) [] := by
 refine wS Z0e [.t 4] ?_
 unfold ZU3 at H
 refine wG [.u 7 (.ln _ _ fun _ => lm a1 eBo)] fun q3 => ?_
 refine Wh_iH H (fun H => ?_) fun H => ?_
 .refine wP ?_
  replace H := sI H; subst H
  exact wE [(4, .d)]
 .refine wP ?_
  replace H := sI H; subst H
  exact wE [(4, .d)]
def laws_szBoolS (a1 : List Bool) (left2 : Int) : Int :=
 bif (decide ((w64 (left2 - (a1.length : Int))) < 0)) then ((-1)) else ((w64 (left2 - (a1.length : Int))))
theorem Z0f (a1 : List Bool) (left2 : Int) : ZU3 a1 left2 = some (laws_szBoolS a1 left2) := by
 unfold ZU3 laws_szBoolS
 first | rfl | simp only [Zb]
theorem Zrd (a1 : List Bool) (left2 : Int) : Snd Tryz.prog Zs6 [.sl .rd 1 (a1.map eBo), .int .i64 left2] (.int .i64 (laws_szBoolS a1 left2)) [] := ZTa (Z0f a1 left2)
def Z4e : L :=
.seq (rE 4 (cB false))
 (.seq (sR [mV 6 0,.ln 7 (.t 6),mV 8 1,.ln 9 (.t 8),bI 10 .neq 7 9]
 (.cond (.t 10) (.seq (rE 4 (cB false))
 gR)
 .skip))
 (.seq (.seq (rE 5 (kI 0))
 (.blk 0 (.loop (.gw (.seq (sR [mV 11 5,mV 12 0,.ln 13 (.t 12),bI 14 .lss 11 13]
 (.cond (.t 14) .skip
 (.exit 0)))
 (.seq (.blk 1 (.seq (.rq 9 [mV 17 0,mV 18 5,iA 19 17 18 1,lD 20 19 1 false,mV 21 1,mV 22 5,iA 23 21 22 1,lD 24 23 1 false,.eb 25 true (.t 20) (.t 24)])
 (.cond (.t 25) (.seq (rE 4 (cB false))
 gR)
 .skip)))
 (.reg [mV 15 5,.bi 16 .add (.t 15) (kI 1),mV 5 16])))))))
 (.seq (rE 4 (cB true))
 gR)))
def Zo2 (a1 : List Bool) (b2 : List Bool) (v4 : Int) (k4 : Int -> Option Bool) : Option Bool :=
 bif (decide (v4 < (a1.length : Int))) then ((idx a1 v4).bind fun e6 => (idx b2 v4).bind fun e7 => bif (!(e6 == e7)) then (some false) else (k4 (w64 (v4 + 1)))) else (some true)
def laws_eqBoolS (a1 : List Bool) (b2 : List Bool) : Option Bool :=
 bif ((a1.length : Int) != (b2.length : Int)) then (some false) else (whl (Zo2 a1 b2) 9223372036854775807 0)
theorem ZAd {a1 : List Bool} {b2 : List Bool} {r : Bool} (H : laws_eqBoolS a1 b2 = some r) : Snd Tryz.prog Zw9 [.sl .rd 1 (a1.map eBo), .sl .rd 1 (b2.map eBo)] (.bool r) [] := by
 refine wS Z4e [.t 4] ?_
 unfold laws_eqBoolS at H
 refine wG [.u 7 (.ln _ _ fun _ => lm a1 eBo), .u 9 (.ln _ _ fun _ => lm b2 eBo)] fun q3 => ?_
 refine Wh_iH H (fun H => ?_) fun H => ?_
 .refine wP ?_
  replace H := sI H; subst H
  exact wE [(4, .d)]
 .refine wP ?_
  refine wW (fun (v4 : Int) => ⟨[(0, .sl .rd 1 (a1.map eBo)), (1, .sl .rd 1 (b2.map eBo)), (5, .int .i64 v4)], [], [], []⟩) H (fun v4 I m k4 H N25 => ?_)
  unfold Zo2 at H
  refine wG [.u 13 (.ln _ _ fun _ => lm a1 eBo)] fun q5 => ?_
  refine Wh_iH H (fun H => ?_) fun H => ?_
  .obtain ⟨e6, h6, H⟩ := bB H
   obtain ⟨e7, h7, H⟩ := bB H
   refine wG [.u 19 (.ix _ _ _ fun _ => Z0 eBo h6), .u 23 (.ix _ _ _ fun _ => Z0 eBo h7)] fun _ => ?_
   refine Wh_iH H (fun H => ?_) fun H => ?_
   .refine wP ?_
    replace H := sI H; subst H
    exact wE [(4, .d)]
   .refine wP ?_
    exact wT (N25 _ H)
  .refine wP ?_
   replace H := sI H; subst H
   exact wE [(4, .d)]
def Zmf : L :=
sR [.mv 2 (.c (.nl))]
 (sR [mV 5 0,.ln 6 (.t 5),.ms 7 11 88 [.int .i64 0, .int .i64 0, .int .i64 0, .int .i64 0, .int .i64 0, .int .i64 0, .int .i64 0, .int .i64 0, .int .i64 0, .int .i64 0, .int .i64 0] (.t 6),mV 3 7]
 (.seq (.seq (rE 4 (kI 0))
 (.blk 0 (.loop (.gw (.seq (sR [mV 8 4,mV 9 0,.ln 10 (.t 9),bI 11 .lss 8 10]
 (.cond (.t 11) .skip
 (.exit 0)))
 (.seq (.blk 1 (.reg [mV 14 3,mV 15 4,mV 16 0,mV 17 4,iA 18 16 17 11,lD 19 18 11 true,cQ 20 Z16 [19],iA 21 14 15 11,.st (.t 21) (.t 20) 11]))
 (.reg [mV 12 4,.bi 13 .add (.t 12) (kI 1),mV 4 13])))))))
 (sR [mV 22 3,mV 2 22]
 gR)))
def ZT2 (a1 : List Job) (v4 : Int × (List Job)) (k4 : (Int × (List Job)) -> Option (List Job)) : Option (List Job) :=
 bif (decide (v4.1 < (a1.length : Int))) then ((idx a1 v4.1).bind fun e6 => (idx v4.2 v4.1).bind fun _ => k4 ((w64 (v4.1 + 1)), (v4.2.set v4.1.toNat (Job.mk ((laws_toJob e6).id) ((laws_toJob e6).prio) ((laws_toJob e6).nodes) ((laws_toJob e6).need) ((laws_toJob e6).lic) ((laws_toJob e6).wall) ((laws_toJob e6).level))))) else (some v4.2)
def laws_toJobS (a1 : List Job) : Option (List Job) :=
 (mkL 88 (a1.length : Int) (Job.mk 0 0 0 (Vec.mk 0 0 0) (Vec.mk 0 0 0) 0 0)).bind fun xs2 => whl (ZT2 a1) 9223372036854775807 (0, xs2)
theorem ZQe {a1 : List Job} {r : (List Job)} (H : laws_toJobS a1 = some r) : Snd Tryz.prog Zsa [.sl .rd 11 (a1.map eJob)] (.sl .nw 11 (r.map eJob)) [] := by
 refine wS Zmf [.t 2] ?_
 unfold laws_toJobS at H
 obtain ⟨xs2, h2, H⟩ := bB H
 refine wG [.u 6 (.ln _ _ fun _ => lm a1 eJob), .u 7 (.ms _ _ _ _ fun _ => ZQa eJob h2)] fun q3 => ?_
 refine wW (fun (v4 : Int × (List Job)) => ⟨[(0, .sl .rd 11 (a1.map eJob)), (3, .sref 7), (4, .int .i64 v4.1)], [], [], [(7, ⟨11, v4.2.map eJob, false⟩)]⟩) H (fun v4 I m k4 H N13 => ?_)
 unfold ZT2 at H
 refine wG [.u 10 (.ln _ _ fun _ => lm a1 eJob)] fun q5 => ?_
 refine Wh_iH H (fun H => ?_) fun H => ?_
 .obtain ⟨e6, h6, H⟩ := bB H
  obtain ⟨e7, h7, H⟩ := bB H
  refine wG [.u 18 (.ix _ _ _ fun _ => Z0 eJob h6), .c 20 (Z2a e6), .u 21 (.ix _ _ _ fun _ => Z0 eJob h7), .u 1000000 (.sto _ _ _ (eJob (Job.mk ((laws_toJob e6).id) ((laws_toJob e6).prio) ((laws_toJob e6).nodes) ((laws_toJob e6).need) ((laws_toJob e6).lic) ((laws_toJob e6).wall) ((laws_toJob e6).level))) _ (fun _ => gm eJob (Z52 h7)) (fun _ => Zf8 ..))] fun _ => ?_
  exact wT (N13 _ H)
 .refine wP ?_
  replace H := sI H; subst H
  exact wN [(2, .f)] [] [] [7] [] [⟨_, Ztj v4.2⟩]
def Zrf : L :=
.seq (rE 4 (kI 0))
 (sR [mV 5 1,mV 6 0,.ln 7 (.t 6),bI 8 .sub 5 7,mV 1 8]
 (.seq (sR [mV 9 1,.bi 10 .lss (.t 9) (kI 0)]
 (.cond (.t 10) (.seq (rE 4 (kI (-1)))
 gR)
 .skip))
 (sR [mV 11 1,mV 4 11]
 gR)))
def ZH4 (a1 : List Job) (left2 : Int) : Option Int :=
 bif (decide ((w64 (left2 - (a1.length : Int))) < 0)) then (some (-1)) else (some (w64 (left2 - (a1.length : Int))))
theorem ZZb {a1 : List Job} {left2 : Int} {r : Int} (H : ZH4 a1 left2 = some r) : Snd Tryz.prog Zo7 [.sl .rd 11 (a1.map eJob), .int .i64 left2] (.int .i64 r) [] := by
 refine wS Zrf [.t 4] ?_
 unfold ZH4 at H
 refine wG [.u 7 (.ln _ _ fun _ => lm a1 eJob)] fun q3 => ?_
 refine Wh_iH H (fun H => ?_) fun H => ?_
 .refine wP ?_
  replace H := sI H; subst H
  exact wE [(4, .d)]
 .refine wP ?_
  replace H := sI H; subst H
  exact wE [(4, .d)]
def laws_szJobS (a1 : List Job) (left2 : Int) : Int :=
 bif (decide ((w64 (left2 - (a1.length : Int))) < 0)) then ((-1)) else ((w64 (left2 - (a1.length : Int))))
theorem Z3h (a1 : List Job) (left2 : Int) : ZH4 a1 left2 = some (laws_szJobS a1 left2) := by
 unfold ZH4 laws_szJobS
 first | rfl | simp only [Zb]
theorem ZYe (a1 : List Job) (left2 : Int) : Snd Tryz.prog Zo7 [.sl .rd 11 (a1.map eJob), .int .i64 left2] (.int .i64 (laws_szJobS a1 left2)) [] := ZZb (Z3h a1 left2)
def Zmh : L :=
sR [.bx 2 (.t 0),.bx 3 (.t 1),.mv 4 (cB false)]
 (.seq (sR [fA 5 2 0,lD 6 5 1 false,fA 7 3 0,lD 8 7 1 false,bI 9 .neq 6 8]
 (.cond (.t 9) (.seq (rE 4 (cB false))
 gR)
 .skip))
 (.seq (sR [fA 10 2 1,lD 11 10 1 false,fA 12 3 1,lD 13 12 1 false,bI 14 .neq 11 13]
 (.cond (.t 14) (.seq (rE 4 (cB false))
 gR)
 .skip))
 (.seq (sR [fA 15 2 2,lD 16 15 1 false,fA 17 3 2,lD 18 17 1 false,bI 19 .neq 16 18]
 (.cond (.t 19) (.seq (rE 4 (cB false))
 gR)
 .skip))
 (.seq (sR [fA 20 2 3,lD 21 20 3 true,fA 22 3 3,lD 23 22 3 true,cQ 24 Zz2 [21, 23],.un 25 (.t 24)]
 (.cond (.t 25) (.seq (rE 4 (cB false))
 gR)
 .skip))
 (.seq (sR [fA 26 2 6,lD 27 26 3 true,fA 28 3 6,lD 29 28 3 true,cQ 30 Zz2 [27, 29],.un 31 (.t 30)]
 (.cond (.t 31) (.seq (rE 4 (cB false))
 gR)
 .skip))
 (.seq (sR [fA 32 2 9,lD 33 32 1 false,fA 34 3 9,lD 35 34 1 false,bI 36 .neq 33 35]
 (.cond (.t 36) (.seq (rE 4 (cB false))
 gR)
 .skip))
 (.seq (sR [fA 37 2 10,lD 38 37 1 false,fA 39 3 10,lD 40 39 1 false,bI 41 .neq 38 40]
 (.cond (.t 41) (.seq (rE 4 (cB false))
 gR)
 .skip))
 (.seq (rE 4 (cB true))
 gR))))))))
def ZL5 (a1 : Job) (b2 : Job) : Option Bool :=
 bif (a1.id != b2.id) then (some false) else (bif (a1.prio != b2.prio) then (some false) else (bif (a1.nodes != b2.nodes) then (some false) else (bif (!(laws_eqVec a1.need b2.need)) then (some false) else (bif (!(laws_eqVec a1.lic b2.lic)) then (some false) else (bif (a1.wall != b2.wall) then (some false) else (bif (a1.level != b2.level) then (some false) else (some true)))))))
theorem Zwd {a1 : Job} {b2 : Job} {r : Bool} (H : ZL5 a1 b2 = some r) : Snd Tryz.prog Z36 [eJob a1, eJob b2] (.bool r) [] := by
 refine wS Zmh [.t 4] ?_
 unfold ZL5 at H
 refine wP ?_
 refine Wh_iH H (fun H => ?_) fun H => ?_
 .refine wP ?_
  replace H := sI H; subst H
  exact wE [(4, .d)]
 .refine wP ?_
  refine Wh_iH H (fun H => ?_) fun H => ?_
  .refine wP ?_
   replace H := sI H; subst H
   exact wE [(4, .d)]
  .refine wP ?_
   refine Wh_iH H (fun H => ?_) fun H => ?_
   .refine wP ?_
    replace H := sI H; subst H
    exact wE [(4, .d)]
   .refine wG [.c 24 (ZK4 a1.need b2.need)] fun _ => ?_
    refine Wh_iH H (fun H => ?_) fun H => ?_
    .refine wP ?_
     replace H := sI H; subst H
     exact wE [(4, .d)]
    .refine wG [.c 30 (ZK4 a1.lic b2.lic)] fun _ => ?_
     refine Wh_iH H (fun H => ?_) fun H => ?_
     .refine wP ?_
      replace H := sI H; subst H
      exact wE [(4, .d)]
     .refine wP ?_
      refine Wh_iH H (fun H => ?_) fun H => ?_
      .refine wP ?_
       replace H := sI H; subst H
       exact wE [(4, .d)]
      .refine wP ?_
       refine Wh_iH H (fun H => ?_) fun H => ?_
       .refine wP ?_
        replace H := sI H; subst H
        exact wE [(4, .d)]
       .refine wP ?_
        replace H := sI H; subst H
        exact wE [(4, .d)]
def laws_eqJob (a1 : Job) (b2 : Job) : Bool :=
 bif (a1.id != b2.id) then (false) else (bif (a1.prio != b2.prio) then (false) else (bif (a1.nodes != b2.nodes) then (false) else (bif (!(laws_eqVec a1.need b2.need)) then (false) else (bif (!(laws_eqVec a1.lic b2.lic)) then (false) else (bif (a1.wall != b2.wall) then (false) else (bif (a1.level != b2.level) then (false) else (true)))))))
theorem Zsi (a1 : Job) (b2 : Job) : ZL5 a1 b2 = some (laws_eqJob a1 b2) := by
 unfold ZL5 laws_eqJob
 first | rfl | simp only [Zb]
theorem Z3a (a1 : Job) (b2 : Job) : Snd Tryz.prog Z36 [eJob a1, eJob b2] (.bool (laws_eqJob a1 b2)) [] := Zwd (Zsi a1 b2)
def Zyf : L :=
.seq (rE 4 (cB false))
 (.seq (sR [mV 6 0,.ln 7 (.t 6),mV 8 1,.ln 9 (.t 8),bI 10 .neq 7 9]
 (.cond (.t 10) (.seq (rE 4 (cB false))
 gR)
 .skip))
 (.seq (.seq (rE 5 (kI 0))
 (.blk 0 (.loop (.gw (.seq (sR [mV 11 5,mV 12 0,.ln 13 (.t 12),bI 14 .lss 11 13]
 (.cond (.t 14) .skip
 (.exit 0)))
 (.seq (.blk 1 (.seq (.rq 10 [mV 17 0,mV 18 5,iA 19 17 18 11,lD 20 19 11 true,mV 21 1,mV 22 5,iA 23 21 22 11,lD 24 23 11 true,cQ 25 Z36 [20, 24],.un 26 (.t 25)])
 (.cond (.t 26) (.seq (rE 4 (cB false))
 gR)
 .skip)))
 (.reg [mV 15 5,.bi 16 .add (.t 15) (kI 1),mV 5 16])))))))
 (.seq (rE 4 (cB true))
 gR)))
def ZX2 (a1 : List Job) (b2 : List Job) (v4 : Int) (k4 : Int -> Option Bool) : Option Bool :=
 bif (decide (v4 < (a1.length : Int))) then ((idx a1 v4).bind fun e6 => (idx b2 v4).bind fun e7 => bif (!(laws_eqJob e6 e7)) then (some false) else (k4 (w64 (v4 + 1)))) else (some true)
def laws_eqJobS (a1 : List Job) (b2 : List Job) : Option Bool :=
 bif ((a1.length : Int) != (b2.length : Int)) then (some false) else (whl (ZX2 a1 b2) 9223372036854775807 0)
theorem Z5f {a1 : List Job} {b2 : List Job} {r : Bool} (H : laws_eqJobS a1 b2 = some r) : Snd Tryz.prog Zxa [.sl .rd 11 (a1.map eJob), .sl .rd 11 (b2.map eJob)] (.bool r) [] := by
 refine wS Zyf [.t 4] ?_
 unfold laws_eqJobS at H
 refine wG [.u 7 (.ln _ _ fun _ => lm a1 eJob), .u 9 (.ln _ _ fun _ => lm b2 eJob)] fun q3 => ?_
 refine Wh_iH H (fun H => ?_) fun H => ?_
 .refine wP ?_
  replace H := sI H; subst H
  exact wE [(4, .d)]
 .refine wP ?_
  refine wW (fun (v4 : Int) => ⟨[(0, .sl .rd 11 (a1.map eJob)), (1, .sl .rd 11 (b2.map eJob)), (5, .int .i64 v4)], [], [], []⟩) H (fun v4 I m k4 H N25 => ?_)
  unfold ZX2 at H
  refine wG [.u 13 (.ln _ _ fun _ => lm a1 eJob)] fun q5 => ?_
  refine Wh_iH H (fun H => ?_) fun H => ?_
  .obtain ⟨e6, h6, H⟩ := bB H
   obtain ⟨e7, h7, H⟩ := bB H
   refine wG [.u 19 (.ix _ _ _ fun _ => Z0 eJob h6), .u 23 (.ix _ _ _ fun _ => Z0 eJob h7), .c 25 (Z3a e6 e7)] fun _ => ?_
   refine Wh_iH H (fun H => ?_) fun H => ?_
   .refine wP ?_
    replace H := sI H; subst H
    exact wE [(4, .d)]
   .refine wP ?_
    exact wT (N25 _ H)
  .refine wP ?_
   replace H := sI H; subst H
   exact wE [(4, .d)]
def Zgh : L :=
sR [.bx 1 (.t 0),.al 2 [.int .i64 0, .int .i64 0, .int .i64 0, .int .i64 0, .int .i64 0, .int .i64 0, .int .i64 0, .int .i64 0, .int .i64 0, .int .i64 0, .int .i64 0, .int .i64 0, .nl]]
 (sR [.al 3 [.int .i64 0, .int .i64 0, .int .i64 0, .int .i64 0, .int .i64 0, .int .i64 0, .int .i64 0, .int .i64 0, .int .i64 0, .int .i64 0, .int .i64 0, .int .i64 0, .nl]]
 (sR [fA 4 1 0,lD 5 4 11 true,cQ 6 Z16 [5],fA 7 3 0,.st (.t 7) (.t 6) 11]
 (sR [fA 8 1 11,lD 9 8 1 false,fA 10 3 11,.st (.t 10) (.t 9) 1]
 (sR [fA 11 1 12,lD 12 11 1 false,cQ 13 Zm7 [12],fA 14 3 12,.st (.t 14) (.t 13) 1]
 (sR [lD 15 3 13 true,.st (.t 2) (.t 15) 13]
 gR)))))
def laws_toRun (a1 : Run) : Option Run :=
 (laws_toIntS a1.nodes).bind fun y2 => some (Run.mk (Job.mk ((laws_toJob a1.job).id) ((laws_toJob a1.job).prio) ((laws_toJob a1.job).nodes) ((laws_toJob a1.job).need) ((laws_toJob a1.job).lic) ((laws_toJob a1.job).wall) ((laws_toJob a1.job).level)) a1.t y2)
theorem ZXg {a1 : Run} {r : Run} (H : laws_toRun a1 = some r) : Snd Tryz.prog ZFb [eRunT .rd a1] (eRunT .nw r) [] := by
 refine wS Zgh [.c 2 13 true] ?_
 unfold laws_toRun at H
 obtain ⟨y2, h2, H⟩ := bB H
 refine wG [.c 6 (Z2a a1.job), .c 13 (Zc9 h2)] fun _ => ?_
 replace H := sI H; subst H
 exact wN [(2, .d)] [(2, [])] [] [] [] [⟨_, nw_I y2⟩]
def Zkf : L :=
sR [.mv 2 (.c (.nl))]
 (sR [mV 5 0,.ln 6 (.t 5),.ms 7 13 120 [.int .i64 0, .int .i64 0, .int .i64 0, .int .i64 0, .int .i64 0, .int .i64 0, .int .i64 0, .int .i64 0, .int .i64 0, .int .i64 0, .int .i64 0, .int .i64 0, .sl .nw 1 []] (.t 6),mV 3 7]
 (.seq (.seq (rE 4 (kI 0))
 (.blk 0 (.loop (.gw (.seq (sR [mV 8 4,mV 9 0,.ln 10 (.t 9),bI 11 .lss 8 10]
 (.cond (.t 11) .skip
 (.exit 0)))
 (.seq (.blk 1 (.reg [mV 14 3,mV 15 4,mV 16 0,mV 17 4,iA 18 16 17 13,lD 19 18 13 true,cQ 20 ZFb [19],iA 21 14 15 13,.st (.t 21) (.t 20) 13]))
 (.reg [mV 12 4,.bi 13 .add (.t 12) (kI 1),mV 4 13])))))))
 (sR [mV 22 3,mV 2 22]
 gR)))
def ZS2 (a1 : List Run) (v4 : Int × (List Run)) (k4 : (Int × (List Run)) -> Option (List Run)) : Option (List Run) :=
 bif (decide (v4.1 < (a1.length : Int))) then ((idx a1 v4.1).bind fun e6 => (laws_toRun e6).bind fun y7 => (idx v4.2 v4.1).bind fun _ => k4 ((w64 (v4.1 + 1)), (v4.2.set v4.1.toNat y7))) else (some v4.2)
def laws_toRunS (a1 : List Run) : Option (List Run) :=
 (mkL 120 (a1.length : Int) (Run.mk (Job.mk 0 0 0 (Vec.mk 0 0 0) (Vec.mk 0 0 0) 0 0) 0 [])).bind fun xs2 => whl (ZS2 a1) 9223372036854775807 (0, xs2)
theorem ZNe {a1 : List Run} {r : (List Run)} (H : laws_toRunS a1 = some r) : Snd Tryz.prog Zra [.sl .rd 13 (a1.map (eRunT .rd))] (.sl .nw 13 (r.map (eRunT .nw))) [] := by
 refine wS Zkf [.t 2] ?_
 unfold laws_toRunS at H
 obtain ⟨xs2, h2, H⟩ := bB H
 refine wG [.u 6 (.ln _ _ fun _ => lm a1 (eRunT .rd)), .u 7 (.ms _ _ _ _ fun _ => ZQa (eRunT .nw) h2)] fun q3 => ?_
 refine wW (fun (v4 : Int × (List Run)) => ⟨[(0, .sl .rd 13 (a1.map (eRunT .rd))), (3, .sref 7), (4, .int .i64 v4.1)], [], [], [(7, ⟨13, v4.2.map (eRunT .nw), false⟩)]⟩) H (fun v4 I m k4 H N13 => ?_)
 unfold ZS2 at H
 refine wG [.u 10 (.ln _ _ fun _ => lm a1 (eRunT .rd))] fun q5 => ?_
 refine Wh_iH H (fun H => ?_) fun H => ?_
 .obtain ⟨e6, h6, H⟩ := bB H
  obtain ⟨y7, h7, H⟩ := bB H
  obtain ⟨e8, h8, H⟩ := bB H
  refine wG [.u 18 (.ix _ _ _ fun _ => Z0 (eRunT .rd) h6), .c 20 (ZXg h7), .u 21 (.ix _ _ _ fun _ => Z0 (eRunT .nw) h8), .u 1000000 (.sto _ _ _ (eRunT .nw y7) _ (fun _ => gm (eRunT .nw) (Z52 h8)) (fun _ => Zf8 ..))] fun _ => ?_
  exact wT (N13 _ H)
 .refine wP ?_
  replace H := sI H; subst H
  exact wN [(2, .f)] [] [] [7] [] [⟨_, Zsk v4.2⟩]
def Zih : L :=
sR [.bx 1 (.t 0),.al 2 [.int .i64 0, .int .i64 0, .int .i64 0]]
 (sR [.al 3 [.int .i64 0, .int .i64 0, .int .i64 0]]
 (sR [fA 4 1 0,lD 5 4 1 false,fA 6 3 0,.st (.t 6) (.t 5) 1]
 (sR [fA 7 1 1,lD 8 7 1 false,fA 9 3 1,.st (.t 9) (.t 8) 1]
 (sR [fA 10 1 2,lD 11 10 1 false,fA 12 3 2,.st (.t 12) (.t 11) 1]
 (sR [lD 13 3 3 true,.st (.t 2) (.t 13) 3]
 gR)))))
def ZH5 (a1 : End) : Option End :=
 some a1
theorem Zkd {a1 : End} {r : End} (H : ZH5 a1 = some r) : Snd Tryz.prog ZJ8 [eEnd a1] (eEnd r) [] := by
 refine wS Zih [.c 2 3 true] ?_
 unfold ZH5 at H
 refine wP ?_
 replace H := sI H; subst H
 exact wN [(2, .d)] [(2, [])] [] [] [] []
def laws_toEnd (a1 : End) : End :=
 a1
theorem Zpi (a1 : End) : ZH5 a1 = some (laws_toEnd a1) := by
 unfold ZH5 laws_toEnd
 first | rfl | simp only [Zb]
theorem Z0h (a1 : End) : Snd Tryz.prog ZJ8 [eEnd a1] (eEnd (laws_toEnd a1)) [] := Zkd (Zpi a1)
def Zof : L :=
sR [.mv 2 (.c (.nl))]
 (sR [mV 5 0,.ln 6 (.t 5),.ms 7 3 24 [.int .i64 0, .int .i64 0, .int .i64 0] (.t 6),mV 3 7]
 (.seq (.seq (rE 4 (kI 0))
 (.blk 0 (.loop (.gw (.seq (sR [mV 8 4,mV 9 0,.ln 10 (.t 9),bI 11 .lss 8 10]
 (.cond (.t 11) .skip
 (.exit 0)))
 (.seq (.blk 1 (.reg [mV 14 3,mV 15 4,mV 16 0,mV 17 4,iA 18 16 17 3,lD 19 18 3 true,cQ 20 ZJ8 [19],iA 21 14 15 3,.st (.t 21) (.t 20) 3]))
 (.reg [mV 12 4,.bi 13 .add (.t 12) (kI 1),mV 4 13])))))))
 (sR [mV 22 3,mV 2 22]
 gR)))
def ZV2 (a1 : List End) (v4 : Int × (List End)) (k4 : (Int × (List End)) -> Option (List End)) : Option (List End) :=
 bif (decide (v4.1 < (a1.length : Int))) then ((idx a1 v4.1).bind fun e6 => (idx v4.2 v4.1).bind fun _ => k4 ((w64 (v4.1 + 1)), (v4.2.set v4.1.toNat (laws_toEnd e6)))) else (some v4.2)
def laws_toEndS (a1 : List End) : Option (List End) :=
 (mkL 24 (a1.length : Int) (End.mk 0 0 0)).bind fun xs2 => whl (ZV2 a1) 9223372036854775807 (0, xs2)
theorem ZSe {a1 : List End} {r : (List End)} (H : laws_toEndS a1 = some r) : Snd Tryz.prog Zta [.sl .rd 3 (a1.map eEnd)] (.sl .nw 3 (r.map eEnd)) [] := by
 refine wS Zof [.t 2] ?_
 unfold laws_toEndS at H
 obtain ⟨xs2, h2, H⟩ := bB H
 refine wG [.u 6 (.ln _ _ fun _ => lm a1 eEnd), .u 7 (.ms _ _ _ _ fun _ => ZQa eEnd h2)] fun q3 => ?_
 refine wW (fun (v4 : Int × (List End)) => ⟨[(0, .sl .rd 3 (a1.map eEnd)), (3, .sref 7), (4, .int .i64 v4.1)], [], [], [(7, ⟨3, v4.2.map eEnd, false⟩)]⟩) H (fun v4 I m k4 H N13 => ?_)
 unfold ZV2 at H
 refine wG [.u 10 (.ln _ _ fun _ => lm a1 eEnd)] fun q5 => ?_
 refine Wh_iH H (fun H => ?_) fun H => ?_
 .obtain ⟨e6, h6, H⟩ := bB H
  obtain ⟨e7, h7, H⟩ := bB H
  refine wG [.u 18 (.ix _ _ _ fun _ => Z0 eEnd h6), .c 20 (Z0h e6), .u 21 (.ix _ _ _ fun _ => Z0 eEnd h7), .u 1000000 (.sto _ _ _ (eEnd (laws_toEnd e6)) _ (fun _ => gm eEnd (Z52 h7)) (fun _ => Zf8 ..))] fun _ => ?_
  exact wT (N13 _ H)
 .refine wP ?_
  replace H := sI H; subst H
  exact wN [(2, .f)] [] [] [7] [] [⟨_, nw_End v4.2⟩]
def ZVd : L :=
sR [.bx 1 (.t 0),.al 2 [.nl, .nl, .nl, .int .i64 0, .int .i64 0, .int .i64 0, .int .i64 0, .int .i64 0, .nl, .nl, .nl]]
 (sR [.al 3 [.nl, .nl, .nl, .int .i64 0, .int .i64 0, .int .i64 0, .int .i64 0, .int .i64 0, .nl, .nl, .nl]]
 (sR [fA 4 1 0,lD 5 4 2 true,cQ 6 Zqa [5],fA 7 3 0,.st (.t 7) (.t 6) 2]
 (sR [fA 8 1 2,lD 9 8 1 false,cQ 10 Zs9 [9],fA 11 3 2,.st (.t 11) (.t 10) 1]
 (sR [fA 12 1 3,lD 13 12 3 true,cQ 14 Zy2 [13],fA 15 3 3,.st (.t 15) (.t 14) 3]
 (sR [fA 16 1 6,lD 17 16 1 false,fA 18 3 6,.st (.t 18) (.t 17) 1]
 (sR [fA 19 1 7,lD 20 19 1 false,fA 21 3 7,.st (.t 21) (.t 20) 1]
 (sR [fA 22 1 8,lD 23 22 1 false,cQ 24 Zsa [23],fA 25 3 8,.st (.t 25) (.t 24) 1]
 (sR [fA 26 1 9,lD 27 26 1 false,cQ 28 Zra [27],fA 29 3 9,.st (.t 29) (.t 28) 1]
 (sR [fA 30 1 10,lD 31 30 1 false,cQ 32 Zta [31],fA 33 3 10,.st (.t 33) (.t 32) 1]
 (sR [lD 34 3 11 true,.st (.t 2) (.t 34) 11]
 gR))))))))))
def laws_toState (a1 : State) : Option State :=
 (laws_toTopo a1.topo).bind fun y2 => (laws_toBoolS a1.up).bind fun y3 => (laws_toJobS a1.queue).bind fun y4 => (laws_toRunS a1.runs).bind fun y5 => (laws_toEndS a1.ends).bind fun y6 => some (State.mk y2 y3 (laws_toVec a1.lic) a1.depth a1.now y4 y5 y6)
theorem Zfd {a1 : State} {r : State} (H : laws_toState a1 = some r) : Snd Tryz.prog ZC1 [Ze .rd a1] (Ze .nw r) [] := by
 refine wS ZVd [.c 2 11 true] ?_
 unfold laws_toState at H
 obtain ⟨y2, h2, H⟩ := bB H
 obtain ⟨y3, h3, H⟩ := bB H
 obtain ⟨y4, h4, H⟩ := bB H
 obtain ⟨y5, h5, H⟩ := bB H
 obtain ⟨y6, h6, H⟩ := bB H
 refine wG [.c 6 (ZLe h2), .c 10 (Zld h3), .c 14 (ZE4 a1.lic), .c 24 (ZQe h4), .c 28 (ZNe h5), .c 32 (ZSe h6)] fun _ => ?_
 replace H := sI H; subst H
 exact wN [(2, .d)] [(2, [])] [] [] [] [⟨_, nw_I y2.parents⟩, ⟨_, ZS y2.nodes⟩, ⟨_, nw_Bo y3⟩, ⟨_, Ztj y4⟩, ⟨_, Zsk y5⟩, ⟨_, nw_End y6⟩]
def Zjh : L :=
sR [.bx 2 (.t 0),.mv 4 (kI 0)]
 (sR [fA 5 2 12,lD 6 5 1 false,mV 7 1,cQ 8 ZU4 [6, 7],mV 1 8]
 (.seq (sR [mV 9 1,.bi 10 .lss (.t 9) (kI 0)]
 (.cond (.t 10) (.seq (rE 4 (kI (-1)))
 gR)
 .skip))
 (sR [mV 11 1,mV 4 11]
 gR)))
def ZI5 (a1 : Run) (left2 : Int) : Option Int :=
 bif (decide ((laws_szIntS a1.nodes left2) < 0)) then (some (-1)) else (some (laws_szIntS a1.nodes left2))
theorem Zpd {a1 : Run} {left2 : Int} {r : Int} (H : ZI5 a1 left2 = some r) : Snd Tryz.prog ZK8 [eRunT .rd a1, .int .i64 left2] (.int .i64 r) [] := by
 refine wS Zjh [.t 4] ?_
 unfold ZI5 at H
 refine wG [.c 8 (Ze9 a1.nodes left2)] fun _ => ?_
 refine Wh_iH H (fun H => ?_) fun H => ?_
 .refine wP ?_
  replace H := sI H; subst H
  exact wE [(4, .d)]
 .refine wP ?_
  replace H := sI H; subst H
  exact wE [(4, .d)]
def laws_szRun (a1 : Run) (left2 : Int) : Int :=
 bif (decide ((laws_szIntS a1.nodes left2) < 0)) then ((-1)) else ((laws_szIntS a1.nodes left2))
theorem Zqi (a1 : Run) (left2 : Int) : ZI5 a1 left2 = some (laws_szRun a1 left2) := by
 unfold ZI5 laws_szRun
 first | rfl | simp only [Zb]
theorem Z2h (a1 : Run) (left2 : Int) : Snd Tryz.prog ZK8 [eRunT .rd a1, .int .i64 left2] (.int .i64 (laws_szRun a1 left2)) [] := Zpd (Zqi a1 left2)
def Zqf : L :=
.seq (rE 4 (kI 0))
 (sR [mV 6 1,mV 7 0,.ln 8 (.t 7),bI 9 .sub 6 8,mV 1 9]
 (.seq (sR [mV 10 1,.bi 11 .lss (.t 10) (kI 0)]
 (.cond (.t 11) (.seq (rE 4 (kI (-1)))
 gR)
 .skip))
 (.seq (.seq (rE 5 (kI 0))
 (.blk 0 (.loop (.gw (.seq (sR [mV 12 5,mV 13 0,.ln 14 (.t 13),bI 15 .lss 12 14]
 (.cond (.t 15) .skip
 (.exit 0)))
 (.seq (.blk 1 (sR [mV 18 0,mV 19 5,iA 20 18 19 13,lD 21 20 13 true,mV 22 1,cQ 23 ZK8 [21, 22],mV 1 23]
 (sR [mV 24 1,.bi 25 .lss (.t 24) (kI 0)]
 (.cond (.t 25) (.seq (rE 4 (kI (-1)))
 gR)
 .skip))))
 (.reg [mV 16 5,.bi 17 .add (.t 16) (kI 1),mV 5 17])))))))
 (sR [mV 26 1,mV 4 26]
 gR))))
def Z35 (a1 : List Run) (v4 : Int × Int) (k4 : (Int × Int) -> Option Int) : Option Int :=
 bif (decide (v4.2 < (a1.length : Int))) then ((idx a1 v4.2).bind fun e6 => bif (decide ((laws_szRun e6 v4.1) < 0)) then (some (-1)) else (k4 ((laws_szRun e6 v4.1), (w64 (v4.2 + 1))))) else (some v4.1)
def laws_szRunS (a1 : List Run) (left2 : Int) : Option Int :=
 bif (decide ((w64 (left2 - (a1.length : Int))) < 0)) then (some (-1)) else (whl (Z35 a1) 9223372036854775807 ((w64 (left2 - (a1.length : Int))), 0))
theorem ZWe {a1 : List Run} {left2 : Int} {r : Int} (H : laws_szRunS a1 left2 = some r) : Snd Tryz.prog Zua [.sl .rd 13 (a1.map (eRunT .rd)), .int .i64 left2] (.int .i64 r) [] := by
 refine wS Zqf [.t 4] ?_
 unfold laws_szRunS at H
 refine wG [.u 8 (.ln _ _ fun _ => lm a1 (eRunT .rd))] fun q3 => ?_
 refine Wh_iH H (fun H => ?_) fun H => ?_
 .refine wP ?_
  replace H := sI H; subst H
  exact wE [(4, .d)]
 .refine wP ?_
  refine wW (fun (v4 : Int × Int) => ⟨[(0, .sl .rd 13 (a1.map (eRunT .rd))), (1, .int .i64 v4.1), (5, .int .i64 v4.2)], [], [], []⟩) H (fun v4 I m k4 H N28 => ?_)
  unfold Z35 at H
  refine wG [.u 14 (.ln _ _ fun _ => lm a1 (eRunT .rd))] fun q5 => ?_
  refine Wh_iH H (fun H => ?_) fun H => ?_
  .obtain ⟨e6, h6, H⟩ := bB H
   refine wG [.u 20 (.ix _ _ _ fun _ => Z0 (eRunT .rd) h6), .c 23 (Z2h e6 v4.1)] fun _ => ?_
   refine Wh_iH H (fun H => ?_) fun H => ?_
   .refine wP ?_
    replace H := sI H; subst H
    exact wE [(4, .d)]
   .refine wP ?_
    exact wT (N28 _ H)
  .refine wP ?_
   replace H := sI H; subst H
   exact wE [(4, .d)]
def Ztf : L :=
.seq (rE 4 (kI 0))
 (sR [mV 5 1,mV 6 0,.ln 7 (.t 6),bI 8 .sub 5 7,mV 1 8]
 (.seq (sR [mV 9 1,.bi 10 .lss (.t 9) (kI 0)]
 (.cond (.t 10) (.seq (rE 4 (kI (-1)))
 gR)
 .skip))
 (sR [mV 11 1,mV 4 11]
 gR)))
def ZJ4 (a1 : List End) (left2 : Int) : Option Int :=
 bif (decide ((w64 (left2 - (a1.length : Int))) < 0)) then (some (-1)) else (some (w64 (left2 - (a1.length : Int))))
theorem Z1c {a1 : List End} {left2 : Int} {r : Int} (H : ZJ4 a1 left2 = some r) : Snd Tryz.prog Zp7 [.sl .rd 3 (a1.map eEnd), .int .i64 left2] (.int .i64 r) [] := by
 refine wS Ztf [.t 4] ?_
 unfold ZJ4 at H
 refine wG [.u 7 (.ln _ _ fun _ => lm a1 eEnd)] fun q3 => ?_
 refine Wh_iH H (fun H => ?_) fun H => ?_
 .refine wP ?_
  replace H := sI H; subst H
  exact wE [(4, .d)]
 .refine wP ?_
  replace H := sI H; subst H
  exact wE [(4, .d)]
def laws_szEndS (a1 : List End) (left2 : Int) : Int :=
 bif (decide ((w64 (left2 - (a1.length : Int))) < 0)) then ((-1)) else ((w64 (left2 - (a1.length : Int))))
theorem Z5h (a1 : List End) (left2 : Int) : ZJ4 a1 left2 = some (laws_szEndS a1 left2) := by
 unfold ZJ4 laws_szEndS
 first | rfl | simp only [Zb]
theorem ZZe (a1 : List End) (left2 : Int) : Snd Tryz.prog Zp7 [.sl .rd 3 (a1.map eEnd), .int .i64 left2] (.int .i64 (laws_szEndS a1 left2)) [] := Z1c (Z5h a1 left2)
def ZYd : L :=
sR [.bx 2 (.t 0),.mv 4 (kI 0)]
 (sR [fA 5 2 0,lD 6 5 2 true,mV 7 1,cQ 8 Zn7 [6, 7],mV 1 8]
 (.seq (sR [mV 9 1,.bi 10 .lss (.t 9) (kI 0)]
 (.cond (.t 10) (.seq (rE 4 (kI (-1)))
 gR)
 .skip))
 (sR [fA 11 2 2,lD 12 11 1 false,mV 13 1,cQ 14 Zs6 [12, 13],mV 1 14]
 (.seq (sR [mV 15 1,.bi 16 .lss (.t 15) (kI 0)]
 (.cond (.t 16) (.seq (rE 4 (kI (-1)))
 gR)
 .skip))
 (sR [fA 17 2 8,lD 18 17 1 false,mV 19 1,cQ 20 Zo7 [18, 19],mV 1 20]
 (.seq (sR [mV 21 1,.bi 22 .lss (.t 21) (kI 0)]
 (.cond (.t 22) (.seq (rE 4 (kI (-1)))
 gR)
 .skip))
 (sR [fA 23 2 9,lD 24 23 1 false,mV 25 1,cQ 26 Zua [24, 25],mV 1 26]
 (.seq (sR [mV 27 1,.bi 28 .lss (.t 27) (kI 0)]
 (.cond (.t 28) (.seq (rE 4 (kI (-1)))
 gR)
 .skip))
 (sR [fA 29 2 10,lD 30 29 1 false,mV 31 1,cQ 32 Zp7 [30, 31],mV 1 32]
 (.seq (sR [mV 33 1,.bi 34 .lss (.t 33) (kI 0)]
 (.cond (.t 34) (.seq (rE 4 (kI (-1)))
 gR)
 .skip))
 (sR [mV 35 1,mV 4 35]
 gR)))))))))))
def laws_szState (a1 : State) (left2 : Int) : Option Int :=
 bif (decide ((laws_szTopo a1.topo left2) < 0)) then (some (-1)) else (bif (decide ((laws_szBoolS a1.up (laws_szTopo a1.topo left2)) < 0)) then (some (-1)) else (bif (decide ((laws_szJobS a1.queue (laws_szBoolS a1.up (laws_szTopo a1.topo left2))) < 0)) then (some (-1)) else ((laws_szRunS a1.runs (laws_szJobS a1.queue (laws_szBoolS a1.up (laws_szTopo a1.topo left2)))).bind fun n3 => bif (decide (n3 < 0)) then (some (-1)) else (bif (decide ((laws_szEndS a1.ends n3) < 0)) then (some (-1)) else (some (laws_szEndS a1.ends n3))))))
theorem Znd {a1 : State} {left2 : Int} {r : Int} (H : laws_szState a1 left2 = some r) : Snd Tryz.prog Zt9 [Ze .rd a1, .int .i64 left2] (.int .i64 r) [] := by
 refine wS ZYd [.t 4] ?_
 unfold laws_szState at H
 refine wG [.c 8 (ZUe a1.topo left2)] fun _ => ?_
 refine Wh_iH H (fun H => ?_) fun H => ?_
 .refine wP ?_
  replace H := sI H; subst H
  exact wE [(4, .d)]
 .refine wG [.u 14 (.call _ _ _ _ _ (AEs.refl _) (fun _ => Zrd a1.up (laws_szTopo a1.topo left2)))] fun _ => ?_
  refine Wh_iH H (fun H => ?_) fun H => ?_
  .refine wP ?_
   replace H := sI H; subst H
   exact wE [(4, .d)]
  .refine wG [.u 20 (.call _ _ _ _ _ (AEs.refl _) (fun _ => ZYe a1.queue (laws_szBoolS a1.up (laws_szTopo a1.topo left2))))] fun _ => ?_
   refine Wh_iH H (fun H => ?_) fun H => ?_
   .refine wP ?_
    replace H := sI H; subst H
    exact wE [(4, .d)]
   .obtain ⟨n3, h3, H⟩ := bB H
    refine wG [.c 26 (ZWe h3)] fun _ => ?_
    refine Wh_iH H (fun H => ?_) fun H => ?_
    .refine wP ?_
     replace H := sI H; subst H
     exact wE [(4, .d)]
    .refine wG [.c 32 (ZZe a1.ends n3)] fun _ => ?_
     refine Wh_iH H (fun H => ?_) fun H => ?_
     .refine wP ?_
      replace H := sI H; subst H
      exact wE [(4, .d)]
     .refine wP ?_
      replace H := sI H; subst H
      exact wE [(4, .d)]
def Zlh : L :=
sR [.bx 2 (.t 0),.bx 3 (.t 1),.mv 4 (cB false)]
 (.seq (sR [fA 5 2 0,lD 6 5 11 true,fA 7 3 0,lD 8 7 11 true,cQ 9 Z36 [6, 8],.un 10 (.t 9)]
 (.cond (.t 10) (.seq (rE 4 (cB false))
 gR)
 .skip))
 (.seq (sR [fA 11 2 11,lD 12 11 1 false,fA 13 3 11,lD 14 13 1 false,bI 15 .neq 12 14]
 (.cond (.t 15) (.seq (rE 4 (cB false))
 gR)
 .skip))
 (.seq (sR [fA 16 2 12,lD 17 16 1 false,fA 18 3 12,lD 19 18 1 false,cQ 20 Zr7 [17, 19],.un 21 (.t 20)]
 (.cond (.t 21) (.seq (rE 4 (cB false))
 gR)
 .skip))
 (.seq (rE 4 (cB true))
 gR))))
def laws_eqRun (a1 : Run) (b2 : Run) : Option Bool :=
 bif (!(laws_eqJob a1.job b2.job)) then (some false) else (bif (a1.t != b2.t) then (some false) else ((laws_eqIntS a1.nodes b2.nodes).bind fun b3 => bif (!b3) then (some false) else (some true)))
theorem Z6h {a1 : Run} {b2 : Run} {r : Bool} (H : laws_eqRun a1 b2 = some r) : Snd Tryz.prog ZGb [eRunT .rd a1, eRunT .rd b2] (.bool r) [] := by
 refine wS Zlh [.t 4] ?_
 unfold laws_eqRun at H
 refine wG [.c 9 (Z3a a1.job b2.job)] fun _ => ?_
 refine Wh_iH H (fun H => ?_) fun H => ?_
 .refine wP ?_
  replace H := sI H; subst H
  exact wE [(4, .d)]
 .refine wP ?_
  refine Wh_iH H (fun H => ?_) fun H => ?_
  .refine wP ?_
   replace H := sI H; subst H
   exact wE [(4, .d)]
  .obtain ⟨b3, h3, H⟩ := bB H
   refine wG [.c 20 (Zf9 h3)] fun _ => ?_
   refine Wh_iH H (fun H => ?_) fun H => ?_
   .refine wP ?_
    replace H := sI H; subst H
    exact wE [(4, .d)]
   .refine wP ?_
    replace H := sI H; subst H
    exact wE [(4, .d)]
def Zvf : L :=
.seq (rE 4 (cB false))
 (.seq (sR [mV 6 0,.ln 7 (.t 6),mV 8 1,.ln 9 (.t 8),bI 10 .neq 7 9]
 (.cond (.t 10) (.seq (rE 4 (cB false))
 gR)
 .skip))
 (.seq (.seq (rE 5 (kI 0))
 (.blk 0 (.loop (.gw (.seq (sR [mV 11 5,mV 12 0,.ln 13 (.t 12),bI 14 .lss 11 13]
 (.cond (.t 14) .skip
 (.exit 0)))
 (.seq (.blk 1 (.seq (.rq 10 [mV 17 0,mV 18 5,iA 19 17 18 13,lD 20 19 13 true,mV 21 1,mV 22 5,iA 23 21 22 13,lD 24 23 13 true,cQ 25 ZGb [20, 24],.un 26 (.t 25)])
 (.cond (.t 26) (.seq (rE 4 (cB false))
 gR)
 .skip)))
 (.reg [mV 15 5,.bi 16 .add (.t 15) (kI 1),mV 5 16])))))))
 (.seq (rE 4 (cB true))
 gR)))
def ZW2 (a1 : List Run) (b2 : List Run) (v4 : Int) (k4 : Int -> Option Bool) : Option Bool :=
 bif (decide (v4 < (a1.length : Int))) then ((idx a1 v4).bind fun e6 => (idx b2 v4).bind fun e7 => (laws_eqRun e6 e7).bind fun b8 => bif (!b8) then (some false) else (k4 (w64 (v4 + 1)))) else (some true)
def laws_eqRunS (a1 : List Run) (b2 : List Run) : Option Bool :=
 bif ((a1.length : Int) != (b2.length : Int)) then (some false) else (whl (ZW2 a1 b2) 9223372036854775807 0)
theorem Z2f {a1 : List Run} {b2 : List Run} {r : Bool} (H : laws_eqRunS a1 b2 = some r) : Snd Tryz.prog Zwa [.sl .rd 13 (a1.map (eRunT .rd)), .sl .rd 13 (b2.map (eRunT .rd))] (.bool r) [] := by
 refine wS Zvf [.t 4] ?_
 unfold laws_eqRunS at H
 refine wG [.u 7 (.ln _ _ fun _ => lm a1 (eRunT .rd)), .u 9 (.ln _ _ fun _ => lm b2 (eRunT .rd))] fun q3 => ?_
 refine Wh_iH H (fun H => ?_) fun H => ?_
 .refine wP ?_
  replace H := sI H; subst H
  exact wE [(4, .d)]
 .refine wP ?_
  refine wW (fun (v4 : Int) => ⟨[(0, .sl .rd 13 (a1.map (eRunT .rd))), (1, .sl .rd 13 (b2.map (eRunT .rd))), (5, .int .i64 v4)], [], [], []⟩) H (fun v4 I m k4 H N25 => ?_)
  unfold ZW2 at H
  refine wG [.u 13 (.ln _ _ fun _ => lm a1 (eRunT .rd))] fun q5 => ?_
  refine Wh_iH H (fun H => ?_) fun H => ?_
  .obtain ⟨e6, h6, H⟩ := bB H
   obtain ⟨e7, h7, H⟩ := bB H
   obtain ⟨b8, h8, H⟩ := bB H
   refine wG [.u 19 (.ix _ _ _ fun _ => Z0 (eRunT .rd) h6), .u 23 (.ix _ _ _ fun _ => Z0 (eRunT .rd) h7), .c 25 (Z6h h8)] fun _ => ?_
   refine Wh_iH H (fun H => ?_) fun H => ?_
   .refine wP ?_
    replace H := sI H; subst H
    exact wE [(4, .d)]
   .refine wP ?_
    exact wT (N25 _ H)
  .refine wP ?_
   replace H := sI H; subst H
   exact wE [(4, .d)]
def Znh : L :=
sR [.bx 2 (.t 0),.bx 3 (.t 1),.mv 4 (cB false)]
 (.seq (sR [fA 5 2 0,lD 6 5 1 false,fA 7 3 0,lD 8 7 1 false,bI 9 .neq 6 8]
 (.cond (.t 9) (.seq (rE 4 (cB false))
 gR)
 .skip))
 (.seq (sR [fA 10 2 1,lD 11 10 1 false,fA 12 3 1,lD 13 12 1 false,bI 14 .neq 11 13]
 (.cond (.t 14) (.seq (rE 4 (cB false))
 gR)
 .skip))
 (.seq (sR [fA 15 2 2,lD 16 15 1 false,fA 17 3 2,lD 18 17 1 false,bI 19 .neq 16 18]
 (.cond (.t 19) (.seq (rE 4 (cB false))
 gR)
 .skip))
 (.seq (rE 4 (cB true))
 gR))))
def ZM5 (a1 : End) (b2 : End) : Option Bool :=
 bif (a1.id != b2.id) then (some false) else (bif (a1.t != b2.t) then (some false) else (bif (a1.why != b2.why) then (some false) else (some true)))
theorem Zyd {a1 : End} {b2 : End} {r : Bool} (H : ZM5 a1 b2 = some r) : Snd Tryz.prog ZL8 [eEnd a1, eEnd b2] (.bool r) [] := by
 refine wS Znh [.t 4] ?_
 unfold ZM5 at H
 refine wP ?_
 refine Wh_iH H (fun H => ?_) fun H => ?_
 .refine wP ?_
  replace H := sI H; subst H
  exact wE [(4, .d)]
 .refine wP ?_
  refine Wh_iH H (fun H => ?_) fun H => ?_
  .refine wP ?_
   replace H := sI H; subst H
   exact wE [(4, .d)]
  .refine wP ?_
   refine Wh_iH H (fun H => ?_) fun H => ?_
   .refine wP ?_
    replace H := sI H; subst H
    exact wE [(4, .d)]
   .refine wP ?_
    replace H := sI H; subst H
    exact wE [(4, .d)]
def laws_eqEnd (a1 : End) (b2 : End) : Bool :=
 bif (a1.id != b2.id) then (false) else (bif (a1.t != b2.t) then (false) else (bif (a1.why != b2.why) then (false) else (true)))
theorem Zti (a1 : End) (b2 : End) : ZM5 a1 b2 = some (laws_eqEnd a1 b2) := by
 unfold ZM5 laws_eqEnd
 first | rfl | simp only [Zb]
theorem Z8h (a1 : End) (b2 : End) : Snd Tryz.prog ZL8 [eEnd a1, eEnd b2] (.bool (laws_eqEnd a1 b2)) [] := Zyd (Zti a1 b2)
def ZAf : L :=
.seq (rE 4 (cB false))
 (.seq (sR [mV 6 0,.ln 7 (.t 6),mV 8 1,.ln 9 (.t 8),bI 10 .neq 7 9]
 (.cond (.t 10) (.seq (rE 4 (cB false))
 gR)
 .skip))
 (.seq (.seq (rE 5 (kI 0))
 (.blk 0 (.loop (.gw (.seq (sR [mV 11 5,mV 12 0,.ln 13 (.t 12),bI 14 .lss 11 13]
 (.cond (.t 14) .skip
 (.exit 0)))
 (.seq (.blk 1 (.seq (.rq 10 [mV 17 0,mV 18 5,iA 19 17 18 3,lD 20 19 3 true,mV 21 1,mV 22 5,iA 23 21 22 3,lD 24 23 3 true,cQ 25 ZL8 [20, 24],.un 26 (.t 25)])
 (.cond (.t 26) (.seq (rE 4 (cB false))
 gR)
 .skip)))
 (.reg [mV 15 5,.bi 16 .add (.t 15) (kI 1),mV 5 16])))))))
 (.seq (rE 4 (cB true))
 gR)))
def ZZ2 (a1 : List End) (b2 : List End) (v4 : Int) (k4 : Int -> Option Bool) : Option Bool :=
 bif (decide (v4 < (a1.length : Int))) then ((idx a1 v4).bind fun e6 => (idx b2 v4).bind fun e7 => bif (!(laws_eqEnd e6 e7)) then (some false) else (k4 (w64 (v4 + 1)))) else (some true)
def laws_eqEndS (a1 : List End) (b2 : List End) : Option Bool :=
 bif ((a1.length : Int) != (b2.length : Int)) then (some false) else (whl (ZZ2 a1 b2) 9223372036854775807 0)
theorem Z6f {a1 : List End} {b2 : List End} {r : Bool} (H : laws_eqEndS a1 b2 = some r) : Snd Tryz.prog Zya [.sl .rd 3 (a1.map eEnd), .sl .rd 3 (b2.map eEnd)] (.bool r) [] := by
 refine wS ZAf [.t 4] ?_
 unfold laws_eqEndS at H
 refine wG [.u 7 (.ln _ _ fun _ => lm a1 eEnd), .u 9 (.ln _ _ fun _ => lm b2 eEnd)] fun q3 => ?_
 refine Wh_iH H (fun H => ?_) fun H => ?_
 .refine wP ?_
  replace H := sI H; subst H
  exact wE [(4, .d)]
 .refine wP ?_
  refine wW (fun (v4 : Int) => ⟨[(0, .sl .rd 3 (a1.map eEnd)), (1, .sl .rd 3 (b2.map eEnd)), (5, .int .i64 v4)], [], [], []⟩) H (fun v4 I m k4 H N25 => ?_)
  unfold ZZ2 at H
  refine wG [.u 13 (.ln _ _ fun _ => lm a1 eEnd)] fun q5 => ?_
  refine Wh_iH H (fun H => ?_) fun H => ?_
  .obtain ⟨e6, h6, H⟩ := bB H
   obtain ⟨e7, h7, H⟩ := bB H
   refine wG [.u 19 (.ix _ _ _ fun _ => Z0 eEnd h6), .u 23 (.ix _ _ _ fun _ => Z0 eEnd h7), .c 25 (Z8h e6 e7)] fun _ => ?_
   refine Wh_iH H (fun H => ?_) fun H => ?_
   .refine wP ?_
    replace H := sI H; subst H
    exact wE [(4, .d)]
   .refine wP ?_
    exact wT (N25 _ H)
  .refine wP ?_
   replace H := sI H; subst H
   exact wE [(4, .d)]
def Z1e : L :=
sR [.bx 2 (.t 0),.bx 3 (.t 1),.mv 4 (cB false)]
 (.seq (sR [fA 5 2 0,lD 6 5 2 true,fA 7 3 0,lD 8 7 2 true,cQ 9 Zva [6, 8],.un 10 (.t 9)]
 (.cond (.t 10) (.seq (rE 4 (cB false))
 gR)
 .skip))
 (.seq (sR [fA 11 2 2,lD 12 11 1 false,fA 13 3 2,lD 14 13 1 false,cQ 15 Zw9 [12, 14],.un 16 (.t 15)]
 (.cond (.t 16) (.seq (rE 4 (cB false))
 gR)
 .skip))
 (.seq (sR [fA 17 2 3,lD 18 17 3 true,fA 19 3 3,lD 20 19 3 true,cQ 21 Zz2 [18, 20],.un 22 (.t 21)]
 (.cond (.t 22) (.seq (rE 4 (cB false))
 gR)
 .skip))
 (.seq (sR [fA 23 2 6,lD 24 23 1 false,fA 25 3 6,lD 26 25 1 false,bI 27 .neq 24 26]
 (.cond (.t 27) (.seq (rE 4 (cB false))
 gR)
 .skip))
 (.seq (sR [fA 28 2 7,lD 29 28 1 false,fA 30 3 7,lD 31 30 1 false,bI 32 .neq 29 31]
 (.cond (.t 32) (.seq (rE 4 (cB false))
 gR)
 .skip))
 (.seq (sR [fA 33 2 8,lD 34 33 1 false,fA 35 3 8,lD 36 35 1 false,cQ 37 Zxa [34, 36],.un 38 (.t 37)]
 (.cond (.t 38) (.seq (rE 4 (cB false))
 gR)
 .skip))
 (.seq (sR [fA 39 2 9,lD 40 39 1 false,fA 41 3 9,lD 42 41 1 false,cQ 43 Zwa [40, 42],.un 44 (.t 43)]
 (.cond (.t 44) (.seq (rE 4 (cB false))
 gR)
 .skip))
 (.seq (sR [fA 45 2 10,lD 46 45 1 false,fA 47 3 10,lD 48 47 1 false,cQ 49 Zya [46, 48],.un 50 (.t 49)]
 (.cond (.t 50) (.seq (rE 4 (cB false))
 gR)
 .skip))
 (.seq (rE 4 (cB true))
 gR)))))))))
def laws_eqState (a1 : State) (b2 : State) : Option Bool :=
 (laws_eqTopo a1.topo b2.topo).bind fun b3 => bif (!b3) then (some false) else ((laws_eqBoolS a1.up b2.up).bind fun b4 => bif (!b4) then (some false) else (bif (!(laws_eqVec a1.lic b2.lic)) then (some false) else (bif (a1.depth != b2.depth) then (some false) else (bif (a1.now != b2.now) then (some false) else ((laws_eqJobS a1.queue b2.queue).bind fun b5 => bif (!b5) then (some false) else ((laws_eqRunS a1.runs b2.runs).bind fun b6 => bif (!b6) then (some false) else ((laws_eqEndS a1.ends b2.ends).bind fun b7 => bif (!b7) then (some false) else (some true))))))))
theorem Ztd {a1 : State} {b2 : State} {r : Bool} (H : laws_eqState a1 b2 = some r) : Snd Tryz.prog Zt6 [Ze .rd a1, Ze .rd b2] (.bool r) [] := by
 refine wS Z1e [.t 4] ?_
 unfold laws_eqState at H
 obtain ⟨b3, h3, H⟩ := bB H
 refine wG [.c 9 (Z1f h3)] fun _ => ?_
 refine Wh_iH H (fun H => ?_) fun H => ?_
 .refine wP ?_
  replace H := sI H; subst H
  exact wE [(4, .d)]
 .obtain ⟨b4, h4, H⟩ := bB H
  refine wG [.c 15 (ZAd h4)] fun _ => ?_
  refine Wh_iH H (fun H => ?_) fun H => ?_
  .refine wP ?_
   replace H := sI H; subst H
   exact wE [(4, .d)]
  .refine wG [.c 21 (ZK4 a1.lic b2.lic)] fun _ => ?_
   refine Wh_iH H (fun H => ?_) fun H => ?_
   .refine wP ?_
    replace H := sI H; subst H
    exact wE [(4, .d)]
   .refine wP ?_
    refine Wh_iH H (fun H => ?_) fun H => ?_
    .refine wP ?_
     replace H := sI H; subst H
     exact wE [(4, .d)]
    .refine wP ?_
     refine Wh_iH H (fun H => ?_) fun H => ?_
     .refine wP ?_
      replace H := sI H; subst H
      exact wE [(4, .d)]
     .obtain ⟨b5, h5, H⟩ := bB H
      refine wG [.c 37 (Z5f h5)] fun _ => ?_
      refine Wh_iH H (fun H => ?_) fun H => ?_
      .refine wP ?_
       replace H := sI H; subst H
       exact wE [(4, .d)]
      .obtain ⟨b6, h6, H⟩ := bB H
       refine wG [.c 43 (Z2f h6)] fun _ => ?_
       refine Wh_iH H (fun H => ?_) fun H => ?_
       .refine wP ?_
        replace H := sI H; subst H
        exact wE [(4, .d)]
       .obtain ⟨b7, h7, H⟩ := bB H
        refine wG [.c 49 (Z6f h7)] fun _ => ?_
        refine Wh_iH H (fun H => ?_) fun H => ?_
        .refine wP ?_
         replace H := sI H; subst H
         exact wE [(4, .d)]
        .refine wP ?_
         replace H := sI H; subst H
         exact wE [(4, .d)]
def Z3e : L :=
.seq (rE 4 (cB false))
 (.seq (sR [mV 6 0,.ln 7 (.t 6),mV 8 1,.ln 9 (.t 8),bI 10 .neq 7 9]
 (.cond (.t 10) (.seq (rE 4 (cB false))
 gR)
 .skip))
 (.seq (.seq (rE 5 (kI 0))
 (.blk 0 (.loop (.gw (.seq (sR [mV 11 5,mV 12 0,.ln 13 (.t 12),bI 14 .lss 11 13]
 (.cond (.t 14) .skip
 (.exit 0)))
 (.seq (.blk 1 (.seq (.rq 9 [mV 17 0,mV 18 5,iA 19 17 18 1,lD 20 19 1 false,mV 21 1,mV 22 5,iA 23 21 22 1,lD 24 23 1 false,bI 25 .neq 20 24])
 (.cond (.t 25) (.seq (rE 4 (cB false))
 gR)
 .skip)))
 (.reg [mV 15 5,.bi 16 .add (.t 15) (kI 1),mV 5 16])))))))
 (.seq (rE 4 (cB true))
 gR)))
def ZH7 (a1 : List Int) (b2 : List Int) (v4 : Int) (k4 : Int -> Option Bool) : Option Bool :=
 bif (decide (v4 < (a1.length : Int))) then ((idx a1 v4).bind fun e6 => (idx b2 v4).bind fun e7 => bif (e6 != e7) then (some false) else (k4 (w64 (v4 + 1)))) else (some true)
def laws_eqByteS (a1 : List Int) (b2 : List Int) : Option Bool :=
 bif ((a1.length : Int) != (b2.length : Int)) then (some false) else (whl (ZH7 a1 b2) 9223372036854775807 0)
theorem Zzd {a1 : List Int} {b2 : List Int} {r : Bool} (H : laws_eqByteS a1 b2 = some r) : Snd Tryz.prog Zv9 [.sl .rd 1 (a1.map eB), .sl .rd 1 (b2.map eB)] (.bool r) [] := by
 refine wS Z3e [.t 4] ?_
 unfold laws_eqByteS at H
 refine wG [.u 7 (.ln _ _ fun _ => lm a1 eB), .u 9 (.ln _ _ fun _ => lm b2 eB)] fun q3 => ?_
 refine Wh_iH H (fun H => ?_) fun H => ?_
 .refine wP ?_
  replace H := sI H; subst H
  exact wE [(4, .d)]
 .refine wP ?_
  refine wW (fun (v4 : Int) => ⟨[(0, .sl .rd 1 (a1.map eB)), (1, .sl .rd 1 (b2.map eB)), (5, .int .i64 v4)], [], [], []⟩) H (fun v4 I m k4 H N25 => ?_)
  unfold ZH7 at H
  refine wG [.u 13 (.ln _ _ fun _ => lm a1 eB)] fun q5 => ?_
  refine Wh_iH H (fun H => ?_) fun H => ?_
  .obtain ⟨e6, h6, H⟩ := bB H
   obtain ⟨e7, h7, H⟩ := bB H
   refine wG [.u 19 (.ix _ _ _ fun _ => Z0 eB h6), .u 23 (.ix _ _ _ fun _ => Z0 eB h7)] fun _ => ?_
   refine Wh_iH H (fun H => ?_) fun H => ?_
   .refine wP ?_
    replace H := sI H; subst H
    exact wE [(4, .d)]
   .refine wP ?_
    exact wT (N25 _ H)
  .refine wP ?_
   replace H := sI H; subst H
   exact wE [(4, .d)]
def Z1b : L :=
.seq (rE 4 (kI 0))
 (.seq (.seq (rE 5 (kI 0))
 (.blk 0 (.loop (.gw (.seq (sR [mV 6 5,mV 7 0,.ln 8 (.t 7),bI 9 .lss 6 8]
 (.cond (.t 9) .skip
 (.exit 0)))
 (.seq (.blk 1 (.seq (sR [mV 12 0,mV 13 5,iA 14 12 13 1,lD 15 14 1 false,mV 16 1,.cv 17 .u8 (.t 16),bI 18 .neq 15 17]
 (.cond (.t 18) (.seq (rE 4 (kI (-1)))
 gR)
 .skip))
 (.reg [mV 19 1,.bi 20 .add (.t 19) (kI 1),mV 1 20])))
 (.reg [mV 10 5,.bi 11 .add (.t 10) (kI 1),mV 5 11])))))))
 (sR [mV 21 1,mV 4 21]
 gR))
def ZJ5 (a1 : List Int) (v3 : Int × Int) (k3 : (Int × Int) -> Option Int) : Option Int :=
 bif (decide (v3.2 < (a1.length : Int))) then ((idx a1 v3.2).bind fun e5 => bif (e5 != (IntKind.wrap .u8 v3.1)) then (some (-1)) else (k3 ((w64 (v3.1 + 1)), (w64 (v3.2 + 1))))) else (some v3.1)
def laws_heldByteS (a1 : List Int) (k2 : Int) : Option Int :=
 whl (ZJ5 a1) 9223372036854775807 (k2, 0)
theorem ZUa {a1 : List Int} {k2 : Int} {r : Int} (H : laws_heldByteS a1 k2 = some r) : Snd Tryz.prog ZR7 [.sl .rd 1 (a1.map eB), .int .i64 k2] (.int .i64 r) [] := by
 refine wS Z1b [.t 4] ?_
 unfold laws_heldByteS at H
 refine wP ?_
 refine wW (fun (v3 : Int × Int) => ⟨[(0, .sl .rd 1 (a1.map eB)), (1, .int .i64 v3.1), (5, .int .i64 v3.2)], [], [], []⟩) H (fun v3 I m k3 H N20 => ?_)
 unfold ZJ5 at H
 refine wG [.u 8 (.ln _ _ fun _ => lm a1 eB)] fun q4 => ?_
 refine Wh_iH H (fun H => ?_) fun H => ?_
 .obtain ⟨e5, h5, H⟩ := bB H
  refine wG [.u 14 (.ix _ _ _ fun _ => Z0 eB h5)] fun _ => ?_
  refine Wh_iH H (fun H => ?_) fun H => ?_
  .refine wP ?_
   replace H := sI H; subst H
   exact wE [(4, .d)]
  .refine wP ?_
   exact wT (N20 _ H)
 .refine wP ?_
  replace H := sI H; subst H
  exact wE [(4, .d)]
def Z2b : L :=
sR [.bx 2 (.t 0),.bx 3 (.t 1),.mv 4 (cB false)]
 (.seq (sR [fA 5 2 0,lD 6 5 1 false,fA 7 3 0,lD 8 7 1 false,cQ 9 Zv9 [6, 8],.un 10 (.t 9)]
 (.cond (.t 10) (.seq (rE 4 (cB false))
 gR)
 .skip))
 (.seq (sR [fA 11 2 1,lD 12 11 1 false,fA 13 3 1,lD 14 13 1 false,bI 15 .neq 12 14]
 (.cond (.t 15) (.seq (rE 4 (cB false))
 gR)
 .skip))
 (.seq (sR [fA 16 2 2,lD 17 16 1 false,fA 18 3 2,lD 19 18 1 false,bI 20 .neq 17 19]
 (.cond (.t 20) (.seq (rE 4 (cB false))
 gR)
 .skip))
 (.seq (rE 4 (cB true))
 gR))))
def laws_eqJournal (a1 : Journal) (b2 : Journal) : Option Bool :=
 (laws_eqByteS a1.bytes b2.bytes).bind fun b3 => bif (!b3) then (some false) else (bif (a1.synced != b2.synced) then (some false) else (bif (a1.count != b2.count) then (some false) else (some true)))
theorem ZXa {a1 : Journal} {b2 : Journal} {r : Bool} (H : laws_eqJournal a1 b2 = some r) : Snd Tryz.prog ZS7 [ZR6 .rd a1, ZR6 .rd b2] (.bool r) [] := by
 refine wS Z2b [.t 4] ?_
 unfold laws_eqJournal at H
 obtain ⟨b3, h3, H⟩ := bB H
 refine wG [.c 9 (Zzd h3)] fun _ => ?_
 refine Wh_iH H (fun H => ?_) fun H => ?_
 .refine wP ?_
  replace H := sI H; subst H
  exact wE [(4, .d)]
 .refine wP ?_
  refine Wh_iH H (fun H => ?_) fun H => ?_
  .refine wP ?_
   replace H := sI H; subst H
   exact wE [(4, .d)]
  .refine wP ?_
   refine Wh_iH H (fun H => ?_) fun H => ?_
   .refine wP ?_
    replace H := sI H; subst H
    exact wE [(4, .d)]
   .refine wP ?_
    replace H := sI H; subst H
    exact wE [(4, .d)]
def ZF9 : L :=
sR [.bx 2 (.t 0),.mv 4 (kI 0)]
 (sR [fA 5 2 0,lD 6 5 1 false,mV 7 1,cQ 8 ZR7 [6, 7],mV 1 8]
 (.seq (sR [mV 9 1,.bi 10 .lss (.t 9) (kI 0)]
 (.cond (.t 10) (.seq (rE 4 (kI (-1)))
 gR)
 .skip))
 (sR [mV 11 1,mV 4 11]
 gR)))
def laws_heldJournal (a1 : Journal) (k2 : Int) : Option Int :=
 (laws_heldByteS a1.bytes k2).bind fun n3 => bif (decide (n3 < 0)) then (some (-1)) else (some n3)
theorem ZC9 {a1 : Journal} {k2 : Int} {r : Int} (H : laws_heldJournal a1 k2 = some r) : Snd Tryz.prog Z26 [ZR6 .rd a1, .int .i64 k2] (.int .i64 r) [] := by
 refine wS ZF9 [.t 4] ?_
 unfold laws_heldJournal at H
 obtain ⟨n3, h3, H⟩ := bB H
 refine wG [.c 8 (ZUa h3)] fun _ => ?_
 refine Wh_iH H (fun H => ?_) fun H => ?_
 .refine wP ?_
  replace H := sI H; subst H
  exact wE [(4, .d)]
 .refine wP ?_
  replace H := sI H; subst H
  exact wE [(4, .d)]
def Zwf : L :=
sR [.bx 2 (.t 0),.bx 3 (.t 1),.mv 4 (cB false)]
 (.seq (sR [fA 5 2 0,lD 6 5 1 false,fA 7 3 0,lD 8 7 1 false,bI 9 .neq 6 8]
 (.cond (.t 9) (.seq (rE 4 (cB false))
 gR)
 .skip))
 (.seq (sR [fA 10 2 1,lD 11 10 3 true,fA 12 3 1,lD 13 12 3 true,cQ 14 ZS7 [11, 13],.un 15 (.t 14)]
 (.cond (.t 15) (.seq (rE 4 (cB false))
 gR)
 .skip))
 (.seq (rE 4 (cB true))
 gR)))
def laws_eqPack (a1 : Pack) (b2 : Pack) : Option Bool :=
 bif (a1.snap != b2.snap) then (some false) else ((laws_eqJournal a1.journal b2.journal).bind fun b3 => bif (!b3) then (some false) else (some true))
theorem Z3f {a1 : Pack} {b2 : Pack} {r : Bool} (H : laws_eqPack a1 b2 = some r) : Snd Tryz.prog Zp3 [Zx8 .rd a1, Zx8 .rd b2] (.bool r) [] := by
 refine wS Zwf [.t 4] ?_
 unfold laws_eqPack at H
 refine wP ?_
 refine Wh_iH H (fun H => ?_) fun H => ?_
 .refine wP ?_
  replace H := sI H; subst H
  exact wE [(4, .d)]
 .obtain ⟨b3, h3, H⟩ := bB H
  refine wG [.c 14 (ZXa h3)] fun _ => ?_
  refine Wh_iH H (fun H => ?_) fun H => ?_
  .refine wP ?_
   replace H := sI H; subst H
   exact wE [(4, .d)]
  .refine wP ?_
   replace H := sI H; subst H
   exact wE [(4, .d)]
def Zgc : L :=
sR [.bx 2 (.t 0),.mv 4 (kI 0)]
 (sR [fA 5 2 1,lD 6 5 3 true,mV 7 1,cQ 8 Z26 [6, 7],mV 1 8]
 (.seq (sR [mV 9 1,.bi 10 .lss (.t 9) (kI 0)]
 (.cond (.t 10) (.seq (rE 4 (kI (-1)))
 gR)
 .skip))
 (sR [mV 11 1,mV 4 11]
 gR)))
def laws_heldPack (a1 : Pack) (k2 : Int) : Option Int :=
 (laws_heldJournal a1.journal k2).bind fun n3 => bif (decide (n3 < 0)) then (some (-1)) else (some n3)
theorem Z2c {a1 : Pack} {k2 : Int} {r : Int} (H : laws_heldPack a1 k2 = some r) : Snd Tryz.prog Zo3 [Zx8 .rd a1, .int .i64 k2] (.int .i64 r) [] := by
 refine wS Zgc [.t 4] ?_
 unfold laws_heldPack at H
 obtain ⟨n3, h3, H⟩ := bB H
 refine wG [.c 8 (ZC9 h3)] fun _ => ?_
 refine Wh_iH H (fun H => ?_) fun H => ?_
 .refine wP ?_
  replace H := sI H; subst H
  exact wE [(4, .d)]
 .refine wP ?_
  replace H := sI H; subst H
  exact wE [(4, .d)]
end Go.Proofs.YtndemhaoilhbbaaGreat
namespace Go.Proofs.YtndemhaoilhbbaaGreat.Eng
open Go Go.RowKit
def CE (a b : AV) : Prop := AE a b /\ (a.one = true -> b.one = true)
def CEs (l m : List AV) : Prop := l.length = m.length /\ ∀ (i : Nat) (a b : AV), l[i]? = some a -> m[i]? = some b -> CE a b
theorem CE.refl (a : AV) : CE a a := ⟨AE.refl a, id⟩
theorem CEs.refl (l : List AV) : CEs l l := ⟨rfl, fun i a b h h' => by rw [h] at h'; cases h'; exact .refl a⟩
theorem CEs.one {a b : AV} (h : CE a b) : CEs [a] [b] := ⟨rfl, fun i x y hx hy => by
 cases i with
 | zero => simp at hx hy; subst hx; subst hy; exact h
 | succ i => simp at hx⟩
theorem CEs.append {l1 l2 m1 m2 : List AV} (h1 : CEs l1 m1) (h2 : CEs l2 m2) : CEs (l1 ++ l2) (m1 ++ m2) := by
 refine ⟨by rw [List.length_append, List.length_append, h1.1, h2.1], fun i a b ha hb => ?_⟩
 by_cases hi : i < l1.length
 .rw [List.getElem?_append_left hi] at ha
  rw [List.getElem?_append_left (by rw [← h1.1]; exact hi)] at hb
  exact h1.2 i a b ha hb
 .rw [List.getElem?_append_right (by omega)] at ha
  rw [List.getElem?_append_right (by rw [← h1.1]; omega), ← h1.1] at hb
  exact h2.2 _ a b ha hb
theorem CEs.flat {α : Type} {E : α -> AV} : ∀ {es : List AV} {ys : List α}, es.length = ys.length -> (∀ (i : Nat) (x : AV) (y : α), es[i]? = some x -> ys[i]? = some y -> CEs x.cells (E y).cells) -> CEs (Eng.flat es) (Eng.flat (ys.map E))
 | [], [], _, _ => CEs.refl []
 | x :: es, y :: ys, hl, h => by
  have h0 := h 0 x y rfl rfl
  have h1 := CEs.flat (es := es) (ys := ys) (by simpa using hl) fun i x y hx hy => h (i + 1) x y (by simpa using hx) (by simpa using hy)
  simpa [Eng.flat] using h0.append h1
 | [], _ :: _, hl, _ => by simp at hl
 | _ :: _, [], hl, _ => by simp at hl
theorem AE.agg {cs ds : List AV} (h : CEs cs ds) : AE (.agg cs) (.agg ds) := by
 intro w S v hr
 cases hr with
 | agg _ vs hl h1 h2 =>
  refine .agg ds vs (by rw [← h.1, hl]) (fun b hb => ?_) fun i b u hb hu => ?_
  .obtain ⟨i, hi⟩ := List.getElem?_of_mem hb
   have hlt : i < cs.length := by rw [h.1]; exact (yB hi).1
   exact (h.2 i cs[i] b (yA hlt) hi).2 (h1 _ (List.getElem_mem hlt))
  .have hlt : i < cs.length := by rw [h.1]; exact (yB hb).1
   exact (h.2 i cs[i] b (yA hlt) hb).1 w S u (h2 i _ u (yA hlt) hu)
theorem AE.nl {sz : Nat} : AE .nl (.sl .rd sz []) := by
 intro w S v hr
 cases hr
 exact .sl0 _ _ _ _ fun _ _ => trivial
theorem AE.sl {g : Tag} {sz : Nat} {es ds : List AV} (hl : es.length = ds.length) (hs : ∀ e ∈ ds, e.cells.length = sz) (h : CEs (Eng.flat es) (Eng.flat ds)) : AE (.sl g sz es) (.sl g sz ds) := by
 intro w S v hr
 cases hr with
 | sl0 _ _ a c ho =>
  cases ds with
  | nil => exact .sl0 _ _ _ _ ho
  | cons _ _ => simp at hl
 | sl _ _ _ b o c cv hc hm _ hw ho h2 =>
  rw [hl]
  have hx : ∀ (j : Nat) (d : AV), (Eng.flat ds)[j]? = some d -> ∃ e, (Eng.flat es)[j]? = some e /\ CE e d := fun j d hj => by
   have hlt : j < (Eng.flat es).length := by rw [h.1]; exact (yB hj).1
   exact ⟨_, yA hlt, h.2 j _ d (yA hlt) hj⟩
  refine .sl g sz ds b o c cv (by rw [← hl]; exact hc) hm hs (fun j d hj => ?_) ho fun j d hj => ?_
  .obtain ⟨e, he, hce⟩ := hx j d hj
   obtain ⟨q1, q2, q3, _⟩ := hw j e he
   exact ⟨q1, q2, hce.2 q3, trivial⟩
  .obtain ⟨e, he, hce⟩ := hx j d hj
   exact hce.1 w S _ (h2 j e he)
theorem Snd.wkS {P : Program} {f : FuncId} {xs1 xs2 : List AV} {res : AV} {rows : List Row} (h : Snd P f xs2 res rows) (hae : AEs xs1 xs2) : Snd P f xs1 res rows := by
 intro w S N vs hS hl hr
 have hal := hae.1
 refine h w S TT vs hS (by omega) fun i b v hb hv => ?_
 have hi : i < xs1.length := by have := (yB hb).1; omega
 exact hae.2 w S i _ b v (yA hi) hb ((hr i _ v (yA hi) hv).mono (fun _ _ h => h) ⟨fun _ _ _ _ _ _ _ _ => trivial, fun _ _ _ _ => trivial⟩ fun _ _ _ => rfl)
def EncOf {α : Type} (τ : Ty) (e : α -> List AV) (W : α -> Prop) : Prop := ∀ l, τ.ok l -> ∃ y, CEs l (e y) /\ W y
def Zp {α : Type} (τs : List Ty) (e : α -> List AV) (W : α -> Prop) : Prop := ∀ l, okL τs l -> ∃ y, CEs l (e y) /\ W y
def FitL {α : Type} (W : α -> Prop) (l : List α) : Prop := l.length <= maxLen /\ ∀ x ∈ l, W x
def FitT {α : Type} (_ : α) : Prop := True
section
variable {α β : Type}
theorem EncOf.int (k : IntKind) : EncOf (.int k) (fun n : Int => [.int k n]) FitT := by
 intro l h
 obtain ⟨n, rfl, _⟩ := h
 exact ⟨n, .refl _, trivial⟩
theorem EncOf.bool : EncOf .bool (fun n : Bool => [.bool n]) FitT := by
 intro l h
 obtain ⟨n, rfl⟩ := h
 exact ⟨n, .refl _, trivial⟩
theorem Zp.nil : Zp [] (fun _ : Unit => []) FitT := by
 intro l h
 simp only [okL] at h
 subst h
 exact ⟨(), .refl _, trivial⟩
theorem Zp.cons {f : Ty} {fs : List Ty} {e1 : α -> List AV} {e2 : β -> List AV} {W1 : α -> Prop} {W2 : β -> Prop} (h1 : EncOf f e1 W1) (h2 : Zp fs e2 W2) : Zp (f :: fs) (fun p : α × β => e1 p.1 ++ e2 p.2) (fun p => W1 p.1 /\ W2 p.2) := by
 intro l h
 simp only [okL] at h
 obtain ⟨l1, l2, rfl, q1, q2⟩ := h
 obtain ⟨y1, c1, w1⟩ := h1 l1 q1
 obtain ⟨y2, c2, w2⟩ := h2 l2 q2
 exact ⟨(y1, y2), c1.append c2, w1, w2⟩
theorem Zp.st {fs : List Ty} {e : α -> List AV} {W : α -> Prop} (h : Zp fs e W) (g : α -> β) {e' : β -> List AV} {W' : β -> Prop} (he : ∀ x, e x = e' (g x)) (hW : ∀ x, W x -> W' (g x)) : EncOf (.st fs) e' W' := by
 intro l hl
 simp only [Ty.ok] at hl
 obtain ⟨y, c, w⟩ := h l hl
 exact ⟨g y, he y ▸ c, hW y w⟩
theorem exL {R : AV -> α -> Prop} : ∀ {es : List AV}, (∀ x ∈ es, ∃ y, R x y) -> ∃ ys : List α, es.length = ys.length /\ ∀ (i : Nat) (x : AV) (y : α), es[i]? = some x -> ys[i]? = some y -> R x y
 | [], _ => ⟨[], rfl, fun i x y h => by simp at h⟩
 | x :: es, h => by
  obtain ⟨y, hy⟩ := h x (List.mem_cons_self ..)
  obtain ⟨ys, hl, hys⟩ := exL (es := es) fun z hz => h z (List.mem_cons_of_mem _ hz)
  refine ⟨y :: ys, by simp [hl], fun i a b ha hb => ?_⟩
  cases i with
  | zero => simp at ha hb; subst ha; subst hb; exact hy
  | succ i => exact hys i a b (by simpa using ha) (by simpa using hb)
theorem EncOf.sl {τ : Ty} {e : α -> List AV} {W : α -> Prop} (h : EncOf τ e W) (E : α -> AV) (hE : ∀ y, (E y).cells = e y) {n : Nat} (hn : τ.size = n) : EncOf (.sl τ) (fun l : List α => [.sl .rd n (l.map E)]) (FitL W) := by
 intro l hl
 simp only [Ty.ok] at hl
 rcases hl with rfl | ⟨es, rfl, hm, h2⟩
 .exact ⟨[], .one ⟨AE.nl, fun _ => rfl⟩, Nat.zero_le _, fun x hx => by simp at hx⟩
 .obtain ⟨ys, hys, hR⟩ := exL (α := α) (R := fun x y => CEs x.cells (E y).cells /\ W y /\ x.cells.length = τ.size) (es := es) fun x hx => by
   obtain ⟨a1, _, a3⟩ := h2 x hx
   obtain ⟨y, c, w⟩ := h _ a3
   exact ⟨y, (hE y).symm ▸ c, w, a1⟩
  have get : ∀ y ∈ ys, ∃ (i : Nat) (x : AV), es[i]? = some x /\ ys[i]? = some y := fun y hy => by
   obtain ⟨i, hi⟩ := List.getElem?_of_mem hy
   exact ⟨i, _, yA (by rw [hys]; exact (yB hi).1), hi⟩
  refine ⟨ys, .one ⟨?_, fun _ => rfl⟩, by rw [← hys]; exact hm, fun y hy => ?_⟩
  .rw [hn]
   refine AE.sl (by simpa using hys) (fun d hd => ?_) (CEs.flat hys fun i x y hx hy => (hR i x y hx hy).1)
   obtain ⟨y, hy, rfl⟩ := List.mem_map.1 hd
   obtain ⟨i, x, hx, hy'⟩ := get y hy
   have := hR i x y hx hy'
   rw [← this.1.1, this.2.2, hn]
  .obtain ⟨i, x, hx, hy'⟩ := get y hy
   exact (hR i x y hx hy').2.1
theorem EncOf.okV_st {fs : List Ty} {e : α -> List AV} {W : α -> Prop} (h : EncOf (.st fs) e W) {a : AV} (ha : (Ty.st fs).okV a) : ∃ y, AE a (.agg (e y)) /\ W y := by
 obtain ⟨cs, rfl, hc⟩ := ha
 obtain ⟨y, c, w⟩ := h cs (by simpa only [Ty.ok] using hc)
 exact ⟨y, .agg c, w⟩
end
end Go.Proofs.YtndemhaoilhbbaaGreat.Eng
namespace Go.Proofs.YtndemhaoilhbbaaGreat
open Go Go.RowKit Eng
def tyVec : Ty := .st [.int .i64, .int .i64, .int .i64]
def ZFi (x : Vec) : Prop := FitT x.a /\ FitT x.b /\ FitT x.c /\ True
theorem ofVec : EncOf tyVec (fun x : Vec => (eVec x).cells) ZFi := Zp.st (Zp.cons (EncOf.int .i64) (Zp.cons (EncOf.int .i64) (Zp.cons (EncOf.int .i64) Zp.nil))) (fun p => ⟨p.1, p.2.1, p.2.2.1⟩) (fun _ => by rfl) (fun _ h => by exact h)
def tyNode : Ty := .st [.int .i64, tyVec]
def ZUk (x : Node) : Prop := FitT x.leaf /\ ZFi x.cap /\ True
theorem ofNode : EncOf tyNode (fun x : Node => (eNode x).cells) ZUk := Zp.st (Zp.cons (EncOf.int .i64) (Zp.cons ofVec Zp.nil)) (fun p => ⟨p.1, p.2.1⟩) (fun _ => by rfl) (fun _ h => by exact h)
def tyTopo : Ty := .st [.sl (.int .i64), .sl tyNode]
def ZSk (x : Topo) : Prop := (FitL FitT) x.parents /\ (FitL ZUk) x.nodes /\ True
theorem ofTopo : EncOf tyTopo (fun x : Topo => (Zt .rd x).cells) ZSk := Zp.st (Zp.cons (EncOf.sl (EncOf.int .i64) eI (fun _ => rfl) rfl) (Zp.cons (EncOf.sl ofNode eNode (fun _ => rfl) rfl) Zp.nil)) (fun p => ⟨p.1, p.2.1⟩) (fun _ => by rfl) (fun _ h => by exact h)
def tyJob : Ty := .st [.int .i64, .int .i64, .int .i64, tyVec, tyVec, .int .i64, .int .i64]
def ZVk (x : Job) : Prop := FitT x.id /\ FitT x.prio /\ FitT x.nodes /\ ZFi x.need /\ ZFi x.lic /\ FitT x.wall /\ FitT x.level /\ True
theorem ofJob : EncOf tyJob (fun x : Job => (eJob x).cells) ZVk := Zp.st (Zp.cons (EncOf.int .i64) (Zp.cons (EncOf.int .i64) (Zp.cons (EncOf.int .i64) (Zp.cons ofVec (Zp.cons ofVec (Zp.cons (EncOf.int .i64) (Zp.cons (EncOf.int .i64) Zp.nil))))))) (fun p => ⟨p.1, p.2.1, p.2.2.1, p.2.2.2.1, p.2.2.2.2.1, p.2.2.2.2.2.1, p.2.2.2.2.2.2.1⟩) (fun _ => by rfl) (fun _ h => by exact h)
def tyRun : Ty := .st [tyJob, .int .i64, .sl (.int .i64)]
def ZTk (x : Run) : Prop := ZVk x.job /\ FitT x.t /\ (FitL FitT) x.nodes /\ True
theorem ofRun : EncOf tyRun (fun x : Run => (eRunT .rd x).cells) ZTk := Zp.st (Zp.cons ofJob (Zp.cons (EncOf.int .i64) (Zp.cons (EncOf.sl (EncOf.int .i64) eI (fun _ => rfl) rfl) Zp.nil))) (fun p => ⟨p.1, p.2.1, p.2.2.1⟩) (fun _ => by rfl) (fun _ h => by exact h)
def tyEnd : Ty := .st [.int .i64, .int .i64, .int .i64]
def fitEnd (x : End) : Prop := FitT x.id /\ FitT x.t /\ FitT x.why /\ True
theorem ofEnd : EncOf tyEnd (fun x : End => (eEnd x).cells) fitEnd := Zp.st (Zp.cons (EncOf.int .i64) (Zp.cons (EncOf.int .i64) (Zp.cons (EncOf.int .i64) Zp.nil))) (fun p => ⟨p.1, p.2.1, p.2.2.1⟩) (fun _ => by rfl) (fun _ h => by exact h)
def Zlg : Ty := .st [tyTopo, .sl .bool, tyVec, .int .i64, .int .i64, .sl tyJob, .sl tyRun, .sl tyEnd]
def Zba (x : State) : Prop := ZSk x.topo /\ (FitL FitT) x.up /\ ZFi x.lic /\ FitT x.depth /\ FitT x.now /\ (FitL ZVk) x.queue /\ (FitL ZTk) x.runs /\ (FitL fitEnd) x.ends /\ True
theorem ofState : EncOf Zlg (fun x : State => (Ze .rd x).cells) Zba := Zp.st (Zp.cons ofTopo (Zp.cons (EncOf.sl EncOf.bool eBo (fun _ => rfl) rfl) (Zp.cons ofVec (Zp.cons (EncOf.int .i64) (Zp.cons (EncOf.int .i64) (Zp.cons (EncOf.sl ofJob eJob (fun _ => rfl) rfl) (Zp.cons (EncOf.sl ofRun (eRunT .rd) (fun _ => rfl) rfl) (Zp.cons (EncOf.sl ofEnd eEnd (fun _ => rfl) rfl) Zp.nil)))))))) (fun p => ⟨p.1, p.2.1, p.2.2.1, p.2.2.2.1, p.2.2.2.2.1, p.2.2.2.2.2.1, p.2.2.2.2.2.2.1, p.2.2.2.2.2.2.2.1⟩) (fun _ => by rfl) (fun _ h => by exact h)
section
variable {α : Type}
theorem set_take {a ys : List α} {i : Nat} {x : α} (hx : a[i]? = some x) (hl : ys.length = a.length) (h : ys.take i = a.take i) : (ys.set i x).take (i + 1) = a.take (i + 1) := by
 have hi := (yB hx).1
 apply List.ext_getElem?
 intro j
 by_cases hj : j < i + 1
 .rw [List.getElem?_take_of_lt hj, List.getElem?_take_of_lt hj, List.getElem?_set]
  by_cases e : i = j
  .subst e; rw [if_pos rfl, if_pos (by omega), hx]
  .rw [if_neg e]
   have := congrArg (fun l : List α => l[j]?) h
   rwa [List.getElem?_take_of_lt (by omega), List.getElem?_take_of_lt (by omega)] at this
 .rw [List.getElem?_eq_none (by simp; omega), List.getElem?_eq_none (by simp; omega)]
theorem ZZ8 {bd : Int × List α -> (Int × List α -> Option (List α)) -> Option (List α)} {a : List α} (hm : a.length < 9223372036854775807)
  (h1 : ∀ (i : Nat) ys k x, a[i]? = some x -> ys.length = a.length -> bd ((i : Int), ys) k = k (((i + 1 : Nat) : Int), ys.set i x)) (h2 : ∀ ys k, bd ((a.length : Int), ys) k = some ys) {ys : List α} (hy : ys.length = a.length) : whl bd 9223372036854775807 (0, ys) = some a := by
 refine ZX7 (fun _ o => o = some a) (fun b => a.length - b.1.toNat) (fun b => ∃ i : Nat, b.1 = (i : Int) /\ i <= a.length /\ b.2.length = a.length /\ b.2.take i = a.take i) ?_ 9223372036854775807 (0, ys) ⟨0, rfl, Nat.zero_le _, hy, rfl⟩ (by simp only; omega)
 rintro ⟨n, zs⟩ k ⟨i, hi, hle, hz, ht⟩ hk
 simp only at hi hz ht hk
 subst hi
 by_cases h : i < a.length
 .rw [h1 i zs k a[i] (yA h) hz]
  exact hk _ ⟨i + 1, rfl, h, by simp [hz], set_take (yA h) hz ht⟩ (by simp only; omega)
 .have : i = a.length := by omega
  subst this
  rw [h2]
  rw [List.take_length, ← hz, List.take_length] at ht
  rw [ht]
theorem ZPa {bs : Nat} {n : Nat} {z : α} (h : bs * n <= 140737488355328) (h' : n <= 9223372036854775807) : mkL bs (n : Int) z = some (List.replicate n z) := by
 unfold mkL
 have e : (bs : Int) * (n : Int) = ((bs * n : Nat) : Int) := by rw [Int.natCast_mul]
 rw [if_pos ⟨by omega, by omega, by omega⟩]
 simp
theorem Zoe {bd : Int -> (Int -> Option Bool) -> Option Bool} {n : Nat} (hm : n < 9223372036854775807) (h1 : ∀ (i : Nat) k, i < n -> bd (i : Int) k = k ((i + 1 : Nat) : Int)) (h2 : ∀ k, bd (n : Int) k = some true) : whl bd 9223372036854775807 0 = some true := by
 refine ZX7 (fun _ o => o = some true) (fun b => n - b.toNat) (fun b => ∃ i : Nat, b = (i : Int) /\ i <= n) ?_ 9223372036854775807 0 ⟨0, rfl, Nat.zero_le _⟩ (by omega)
 rintro _ k ⟨i, rfl, hle⟩ hk
 by_cases h : i < n
 .rw [h1 i k h]
  exact hk _ ⟨i + 1, rfl, h⟩ (by omega)
 .have : i = n := by omega
  subst this
  exact h2 k
theorem ZU6 {n : Nat} : ¬ ((n : Int) < (n : Int)) := by omega
end
theorem Zd9 {l : List Int} (h : l.length <= 1048576) : laws_toIntS l = some l := by
 unfold laws_toIntS
 rw [ZPa (by omega) (by omega), bS]
 refine ZZ8 (by omega) (fun i ys k x hx hl => ?_) (fun ys k => ?_) (by simp)
 .have hi := (yB hx).1
  have hlt : (i : Int) < (l.length : Int) := by omega
  obtain ⟨y, hy⟩ : ∃ y, ys[i]? = some y := ⟨_, yA (by omega)⟩
  simp only [ZU2, hlt, decide_true, cond_true, Zd, hx, hy, bS, Zb1 (n := i) (by omega), Int.toNat_natCast]
 .simp only [ZU2, ZU6, decide_false, cond_false]
theorem Zid {l : List Node} (h : l.length <= 1048576) : laws_toNodeS l = some l := by
 unfold laws_toNodeS
 rw [ZPa (by omega) (by omega), bS]
 refine ZZ8 (by omega) (fun i ys k x hx hl => ?_) (fun ys k => ?_) (by simp)
 .have hi := (yB hx).1
  have hlt : (i : Int) < (l.length : Int) := by omega
  obtain ⟨y, hy⟩ : ∃ y, ys[i]? = some y := ⟨_, yA (by omega)⟩
  simp only [Zl2, hlt, decide_true, cond_true, Zd, hx, hy, bS, Zb1 (n := i) (by omega), Int.toNat_natCast]
  rfl
 .simp only [Zl2, ZU6, decide_false, cond_false]
theorem Zmd {l : List Bool} (h : l.length <= 1048576) : laws_toBoolS l = some l := by
 unfold laws_toBoolS
 rw [ZPa (by omega) (by omega), bS]
 refine ZZ8 (by omega) (fun i ys k x hx hl => ?_) (fun ys k => ?_) (by simp)
 .have hi := (yB hx).1
  have hlt : (i : Int) < (l.length : Int) := by omega
  obtain ⟨y, hy⟩ : ∃ y, ys[i]? = some y := ⟨_, yA (by omega)⟩
  simp only [Zm2, hlt, decide_true, cond_true, Zd, hx, hy, bS, Zb1 (n := i) (by omega), Int.toNat_natCast]
 .simp only [Zm2, ZU6, decide_false, cond_false]
theorem ZRe {l : List Job} (h : l.length <= 1048576) : laws_toJobS l = some l := by
 unfold laws_toJobS
 rw [ZPa (by omega) (by omega), bS]
 refine ZZ8 (by omega) (fun i ys k x hx hl => ?_) (fun ys k => ?_) (by simp)
 .have hi := (yB hx).1
  have hlt : (i : Int) < (l.length : Int) := by omega
  obtain ⟨y, hy⟩ : ∃ y, ys[i]? = some y := ⟨_, yA (by omega)⟩
  simp only [ZT2, hlt, decide_true, cond_true, Zd, hx, hy, bS, Zb1 (n := i) (by omega), Int.toNat_natCast]
  rfl
 .simp only [ZT2, ZU6, decide_false, cond_false]
theorem ZTe {l : List End} (h : l.length <= 1048576) : laws_toEndS l = some l := by
 unfold laws_toEndS
 rw [ZPa (by omega) (by omega), bS]
 refine ZZ8 (by omega) (fun i ys k x hx hl => ?_) (fun ys k => ?_) (by simp)
 .have hi := (yB hx).1
  have hlt : (i : Int) < (l.length : Int) := by omega
  obtain ⟨y, hy⟩ : ∃ y, ys[i]? = some y := ⟨_, yA (by omega)⟩
  simp only [ZV2, hlt, decide_true, cond_true, Zd, hx, hy, bS, Zb1 (n := i) (by omega), Int.toNat_natCast]
  rfl
 .simp only [ZV2, ZU6, decide_false, cond_false]
theorem ZMe {t : Topo} (h1 : t.parents.length <= 1048576) (h2 : t.nodes.length <= 1048576) : laws_toTopo t = some t := by
 unfold laws_toTopo
 rw [Zd9 h1, bS, Zid h2, bS]
theorem ZYg {x : Run} (h : x.nodes.length <= 1048576) : laws_toRun x = some x := by
 unfold laws_toRun
 rw [Zd9 h, bS]
 rfl
theorem ZOe {l : List Run} (h : l.length <= 1048576) (hn : ∀ x ∈ l, x.nodes.length <= 1048576) : laws_toRunS l = some l := by
 unfold laws_toRunS
 rw [ZPa (by omega) (by omega), bS]
 refine ZZ8 (by omega) (fun i ys k x hx hl => ?_) (fun ys k => ?_) (by simp)
 .have hi := (yB hx).1
  have hlt : (i : Int) < (l.length : Int) := by omega
  obtain ⟨y, hy⟩ : ∃ y, ys[i]? = some y := ⟨_, yA (by omega)⟩
  simp only [ZS2, hlt, decide_true, cond_true, Zd, hx, hy, bS, Zb1 (n := i) (by omega), Int.toNat_natCast, ZYg (hn x (yE hx))]
 .simp only [ZS2, ZU6, decide_false, cond_false]
structure SizedS (s : State) : Prop where
 parents : s.topo.parents.length <= 1048576
 nodes : s.topo.nodes.length <= 1048576
 up : s.up.length <= 1048576
 jobs : s.queue.length + s.runs.length <= 1048576
 run : ∀ x ∈ s.runs, x.nodes.length <= 1048576
 ends : s.ends.length <= 1048576
theorem Zgd {s : State} (h : SizedS s) : laws_toState s = some s := by
 have := h.jobs
 unfold laws_toState
 rw [ZMe h.parents h.nodes, bS, Zmd h.up, bS, ZRe (by omega), bS, ZOe (by omega) h.run, bS, ZTe h.ends, bS]
 rfl
theorem Zg3 {α : Type} [BEq α] [LawfulBEq α] (a : α) : (a != a) = false := by simp
theorem Z45 (v : Vec) : laws_eqVec v v = true := by simp [laws_eqVec]
theorem Z5c (v : Node) : laws_eqNode v v = true := by simp [laws_eqNode, Z45]
theorem Zl8 (v : Job) : laws_eqJob v v = true := by simp [laws_eqJob, Z45]
theorem Zxd (v : End) : laws_eqEnd v v = true := by simp [laws_eqEnd]
theorem ZG7 {l : List Int} (h : l.length <= 1048576) : laws_eqIntS l l = some true := by
 unfold laws_eqIntS
 rw [Zg3, cond_false]
 refine Zoe (n := l.length) (by omega) (fun i k hi => ?_) (fun k => ?_)
 .have hlt : (i : Int) < (l.length : Int) := by omega
  obtain ⟨x, hx⟩ : ∃ x, l[i]? = some x := ⟨_, yA hi⟩
  simp only [ZY2, hlt, decide_true, cond_true, Zd, hx, bS, Zb1 (n := i) (by omega), Zg3, cond_false]
 .simp only [ZY2, ZU6, decide_false, cond_false]
theorem ZWa {l : List Node} (h : l.length <= 1048576) : laws_eqNodeS l l = some true := by
 unfold laws_eqNodeS
 rw [Zg3, cond_false]
 refine Zoe (n := l.length) (by omega) (fun i k hi => ?_) (fun k => ?_)
 .have hlt : (i : Int) < (l.length : Int) := by omega
  obtain ⟨x, hx⟩ : ∃ x, l[i]? = some x := ⟨_, yA hi⟩
  simp only [Zn2, hlt, decide_true, cond_true, Zd, hx, bS, Zb1 (n := i) (by omega), Z5c, Bool.not_true, cond_false]
 .simp only [Zn2, ZU6, decide_false, cond_false]
theorem ZYa {l : List Bool} (h : l.length <= 1048576) : laws_eqBoolS l l = some true := by
 unfold laws_eqBoolS
 rw [Zg3, cond_false]
 refine Zoe (n := l.length) (by omega) (fun i k hi => ?_) (fun k => ?_)
 .have hlt : (i : Int) < (l.length : Int) := by omega
  obtain ⟨x, hx⟩ : ∃ x, l[i]? = some x := ⟨_, yA hi⟩
  simp only [Zo2, hlt, decide_true, cond_true, Zd, hx, bS, Zb1 (n := i) (by omega), beq_self_eq_true, Bool.not_true, cond_false]
 .simp only [Zo2, ZU6, decide_false, cond_false]
theorem Z7c {l : List Job} (h : l.length <= 1048576) : laws_eqJobS l l = some true := by
 unfold laws_eqJobS
 rw [Zg3, cond_false]
 refine Zoe (n := l.length) (by omega) (fun i k hi => ?_) (fun k => ?_)
 .have hlt : (i : Int) < (l.length : Int) := by omega
  obtain ⟨x, hx⟩ : ∃ x, l[i]? = some x := ⟨_, yA hi⟩
  simp only [ZX2, hlt, decide_true, cond_true, Zd, hx, bS, Zb1 (n := i) (by omega), Zl8, Bool.not_true, cond_false]
 .simp only [ZX2, ZU6, decide_false, cond_false]
theorem Z8c {l : List End} (h : l.length <= 1048576) : laws_eqEndS l l = some true := by
 unfold laws_eqEndS
 rw [Zg3, cond_false]
 refine Zoe (n := l.length) (by omega) (fun i k hi => ?_) (fun k => ?_)
 .have hlt : (i : Int) < (l.length : Int) := by omega
  obtain ⟨x, hx⟩ : ∃ x, l[i]? = some x := ⟨_, yA hi⟩
  simp only [ZZ2, hlt, decide_true, cond_true, Zd, hx, bS, Zb1 (n := i) (by omega), Zxd, Bool.not_true, cond_false]
 .simp only [ZZ2, ZU6, decide_false, cond_false]
theorem Z3c {t : Topo} (h1 : t.parents.length <= 1048576) (h2 : t.nodes.length <= 1048576) : laws_eqTopo t t = some true := by
 unfold laws_eqTopo
 rw [ZG7 h1, bS, ZWa h2]
 rfl
theorem Zud {x : Run} (h : x.nodes.length <= 1048576) : laws_eqRun x x = some true := by
 unfold laws_eqRun
 rw [Zl8, ZG7 h, Zg3]
 rfl
theorem Z4c {l : List Run} (h : l.length <= 1048576) (hn : ∀ x ∈ l, x.nodes.length <= 1048576) : laws_eqRunS l l = some true := by
 unfold laws_eqRunS
 rw [Zg3, cond_false]
 refine Zoe (n := l.length) (by omega) (fun i k hi => ?_) (fun k => ?_)
 .have hlt : (i : Int) < (l.length : Int) := by omega
  obtain ⟨x, hx⟩ : ∃ x, l[i]? = some x := ⟨_, yA hi⟩
  simp only [ZW2, hlt, decide_true, cond_true, Zd, hx, bS, Zb1 (n := i) (by omega), Zud (hn x (yE hx)), Bool.not_true, cond_false]
 .simp only [ZW2, ZU6, decide_false, cond_false]
theorem ZVa {s : State} (h : SizedS s) : laws_eqState s s = some true := by
 have := h.jobs
 unfold laws_eqState
 rw [Z3c h.parents h.nodes, ZYa h.up, Z45, Zg3, Zg3, Z7c (by omega), Z4c (by omega) h.run, Z8c h.ends]
 rfl
theorem sz_eq {n : Int} {c : Nat} (h0 : 0 <= n) (h : n <= 1048576) (hc : c <= maxLen) : (bif decide (w64 (n - (c : Int)) < 0) then (-1 : Int) else w64 (n - (c : Int))) = szr n c := by
 have hm : maxLen = 9223372036854775807 := rfl
 rw [ZD1 (by omega)]
 unfold szr
 by_cases q : n < c
 .rw [if_pos q, show decide (n - (c : Int) < 0) = true by rw [decide_eq_true_eq]; omega]; rfl
 .rw [if_neg q, show decide (n - (c : Int) < 0) = false by rw [decide_eq_false_iff_not]; omega]; rfl
theorem Zz9 {n : Int} {c : Nat} : (szr n c < 0) \/ (0 <= szr n c /\ (c : Int) <= n /\ szr n c = n - c) := by
 unfold szr; split
 .exact .inl (by omega)
 .exact .inr (by omega)
theorem szRun_eq {x : Run} {n : Int} (h0 : 0 <= n) (h : n <= 1048576) (hc : x.nodes.length <= maxLen) : laws_szRun x n = szr n x.nodes.length := by
 unfold laws_szRun laws_szIntS
 rw [sz_eq h0 h hc]
 rcases Zz9 (n := n) (c := x.nodes.length) with q | q
 .have : szr n x.nodes.length = -1 := by unfold szr at q ⊢; split <;> omega
  rw [this]; rfl
 .have : decide (szr n x.nodes.length < 0) = false := by simp; omega
  rw [this]; rfl
theorem Zfk {l : List Run} {n : Int} (h0 : 0 <= n) (h : n <= 1048576) (hc : FitL ZTk l) : ∃ r, laws_szRunS l n = some r /\ r <= n /\ (0 <= r -> (l.length : Int) + r <= n /\ ∀ x ∈ l, x.nodes.length <= 1048576) := by
 have hm : maxLen = 9223372036854775807 := rfl
 obtain ⟨c1, c2⟩ := hc
 unfold laws_szRunS
 rw [ZD1 (by omega)]
 by_cases q : n - (l.length : Int) < 0
 .exact ⟨-1, by simp [q], by omega, fun h => by omega⟩
 .simp only [q, decide_false, cond_false]
  refine ZX7 (fun _ o => ∃ r, o = some r /\ r <= n /\ (0 <= r -> (l.length : Int) + r <= n /\ ∀ x ∈ l, x.nodes.length <= 1048576)) (fun b => l.length - b.2.toNat) (fun b => ∃ i : Nat, b.2 = (i : Int) /\ i <= l.length /\ 0 <= b.1 /\ (l.length : Int) + b.1 <= n /\ ∀ j x, j < i -> l[j]? = some x -> x.nodes.length <= 1048576) ?_ 9223372036854775807 (n - (l.length : Int), 0) ⟨0, rfl, Nat.zero_le _, by simp only; omega, by simp only; omega, fun j x hj => by omega⟩ (by simp only; omega)
  rintro ⟨m, _⟩ k ⟨i, rfl, hi, hm0, hmn, hall⟩ hk
  simp only at hm0 hmn hk
  unfold Z35
  by_cases hlt : i < l.length
  .have hlt' : (i : Int) < (l.length : Int) := by omega
   have hx : l[i]? = some l[i] := yA hlt
   simp only [hlt', decide_true, cond_true, Zd, hx, bS, Zb1 (n := i) (by omega)]
   rw [szRun_eq hm0 (by omega) (c2 _ (List.getElem_mem hlt)).2.2.1.1]
   rcases Zz9 (n := m) (c := l[i].nodes.length) with q | q
   .simp only [q, decide_true, cond_true]
    exact ⟨-1, rfl, by omega, fun h => by omega⟩
   .have : ¬ szr m l[i].nodes.length < 0 := by omega
    simp only [this, decide_false, cond_false]
    refine hk _ ⟨i + 1, rfl, hlt, q.1, by simp only; omega, fun j x hj hx' => ?_⟩ (by simp only; omega)
    by_cases e : j = i
    .subst e; rw [hx] at hx'; cases hx'; omega
    .exact hall j x (by omega) hx'
  .have : i = l.length := by omega
   subst this
   simp only [ZU6, decide_false, cond_false]
   exact ⟨m, rfl, by omega, fun _ => ⟨hmn, fun x hx => by
    obtain ⟨j, hj⟩ := List.getElem?_of_mem hx
    exact hall j x (yB hj).1 hj⟩⟩
theorem ZVe {s : State} (hf : Zba s) {n : Int} (hn0 : 0 <= n) (hn : n <= 1048576) : ∃ r, laws_szState s n = some r /\ (r < 0 \/ (SizedS s /\ r <= n)) := by
 obtain ⟨⟨p1, p2, _⟩, p3, _, _, _, p4, p5, p6, _⟩ := hf
 have no : ∀ {c : Prop} [Decidable c], c -> (decide c) = true := fun h => by simp [h]
 have nn : ∀ {c : Prop} [Decidable c], ¬ c -> (decide c) = false := fun h => by simp [h]
 have bad : ∃ r, (some (-1) : Option Int) = some r /\ (r < 0 \/ (SizedS s /\ r <= n)) := ⟨-1, rfl, .inl (by omega)⟩
 unfold laws_szState
 have e1 : laws_szIntS s.topo.parents n = szr n s.topo.parents.length := sz_eq hn0 hn p1.1
 have et : laws_szTopo s.topo n < 0 \/ (s.topo.parents.length <= 1048576 /\ s.topo.nodes.length <= 1048576 /\ 0 <= laws_szTopo s.topo n /\ laws_szTopo s.topo n <= n) := by
  unfold laws_szTopo
  rw [e1]
  rcases Zz9 (n := n) (c := s.topo.parents.length) with q | q
  .rw [no q, cond_true]; exact .inl (by omega)
  .rw [nn (by omega), cond_false]
   have e2 : laws_szNodeS s.topo.nodes (szr n s.topo.parents.length) = szr (szr n s.topo.parents.length) s.topo.nodes.length := sz_eq q.1 (by omega) p2.1
   rw [e2]
   rcases Zz9 (n := szr n s.topo.parents.length) (c := s.topo.nodes.length) with q' | q'
   .rw [no q', cond_true]; exact .inl (by omega)
   .rw [nn (by omega), cond_false]
    exact .inr (by omega)
 generalize laws_szTopo s.topo n = m0 at et ⊢
 rcases et with q | q
 .rw [no q, cond_true]; exact bad
 rw [nn (by omega), cond_false]
 have e3 : laws_szBoolS s.up m0 = szr m0 s.up.length := sz_eq (by omega) (by omega) p3.1
 rw [e3]
 rcases Zz9 (n := m0) (c := s.up.length) with r | r
 .rw [no r, cond_true]; exact bad
 rw [nn (by omega), cond_false]
 generalize szr m0 s.up.length = m1 at r ⊢
 have e4 : laws_szJobS s.queue m1 = szr m1 s.queue.length := sz_eq (by omega) (by omega) p4.1
 rw [e4]
 rcases Zz9 (n := m1) (c := s.queue.length) with t | t
 .rw [no t, cond_true]; exact bad
 rw [nn (by omega), cond_false]
 generalize szr m1 s.queue.length = m2 at t ⊢
 obtain ⟨m3, e5, u1, u2⟩ := Zfk (n := m2) (by omega) (by omega) p5
 rw [e5, bS]
 by_cases u : m3 < 0
 .rw [no u, cond_true]; exact bad
 rw [nn u, cond_false]
 have u' := u2 (by omega)
 have e6 : laws_szEndS s.ends m3 = szr m3 s.ends.length := sz_eq (by omega) (by omega) p6.1
 rw [e6]
 rcases Zz9 (n := m3) (c := s.ends.length) with v | v
 .rw [no v, cond_true]; exact bad
 rw [nn (by omega), cond_false]
 exact ⟨_, rfl, .inr ⟨⟨q.1, q.2.1, by omega, by omega, u'.2, by omega⟩, by omega⟩⟩
theorem Zod {s : State} (hf : Zba s) : ∃ r, laws_szState s 1048576 = some r /\ (r < 0 \/ SizedS s) := by
 obtain ⟨r, h1, h2⟩ := ZVe hf (n := 1048576) (by omega) (by omega)
 exact ⟨r, h1, h2.imp id And.left⟩
end Go.Proofs.YtndemhaoilhbbaaGreat
namespace Go.Proofs.YtndemhaoilhbbaaGreat.Eng
open Go Go.RowKit
section
variable {P : Program} {s : St} {K : St -> Prop}
@[simp] theorem wop_oln {d : Nat} {x : X} : wop P (.oln d x) K s = match s.get x with
  | .od _ _ n => K (s.set d (.int .i64 n))
  | _ => False := _root_.id rfl
@[simp] theorem wop_oia {d n : Nat} {x i : X} : wop P (.oia d x i n) K s = match s.get x with
  | .od m ks l => match isIdx (s.get i) l with
   | some _ => ks.length = n /\ K (s.set d (.op m ks 0))
   | none => False
  | _ => False := _root_.id rfl
@[simp] theorem wop_ofa {d off : Nat} {x : X} : wop P (.ofa d x off) K s = match s.get x with
  | .op m ks o => K (s.set d (.op m ks (o + off)))
  | _ => False := _root_.id rfl
@[simp] theorem wop_old {d : Nat} {p : X} : wop P (.old d p) K s = match s.get p with
  | .op m ks off => match ks[off]? with
   | some (.l ks') => ∀ n, n <= 1048576 -> K (s.set d (.od m ks' n))
   | _ => False
  | _ => False := _root_.id rfl
@[simp] theorem wop_ost {p x : X} : wop P (.ost p x) K s = match s.get p with
  | .op m ks off => match ks[off]? with
   | some k => s.my m /\ s.kn m /\ kindOk k (s.get x) = true /\ K s
   | none => False
  | _ => False := _root_.id rfl
section
variable {m : Nat} {rks : List Nat}
@[simp] theorem losing_e {i : Nat} : (s.losing m rks).e i = (s.e i).lose m := _root_.id rfl
@[simp] theorem losing_bx {k : Nat} : (s.losing m rks).bx k = (s.bx k).map fun cs => cs.map (AV.lose1 m) := _root_.id rfl
@[simp] theorem losing_rw {k : Nat} : (s.losing m rks).rw k = if k ∈ rks then s.rw k else none := _root_.id rfl
@[simp] theorem losing_nx : (s.losing m rks).nx = s.nx := _root_.id rfl
@[simp] theorem losing_my : (s.losing m rks).my = s.my := _root_.id rfl
@[simp] theorem losing_kn : (s.losing m rks).kn = s.kn := _root_.id rfl
end
theorem do_cf {d f m : Nat} {xs : List X} {az : List AV} {Φ : Int -> Prop} (rks : List Nat) (hv : Hav P f az Φ) (ha : hvLs m (xs.map s.get) az) (hm : s.my m) (hr : ∀ k ∈ rks, ∀ r, s.rw k = some r -> freeL m r.es = true)
  (h : ∀ k, Φ k -> K (St.set (s.losing m rks) d (.int .i64 k))) : wop P (.cf d f m xs) K s := ⟨hm, az, Φ, rks, hv, ha, hr, h⟩
theorem do_co (n : Nat) {d f : Nat} {xs : List X} {az : List AV} {res : AV} {rows : List Row} (hs : Snd P f az res rows) (ha : argsW s xs az) (hp : (res.nwd rows).pl) (hn : s.nx = n) (h : K (St.set { s with nx := n + 1 } d ((res.nwd rows).ownt n))) : wop P (.co d f xs) K s := by
 subst hn
 obtain ⟨l, e, hs⟩ := ZSj ha hs
 exact ⟨l, e, res, rows, hs, hp, h⟩
attribute [simp] AV.lose AV.lose1 AV.free freeL AV.ownt owntL AV.pl plL hv1 hvA hvL hvLs AV.fitX fitC kindOk
@[simp] theorem freeL_map {α : Type} (m : Nat) (e : α -> AV) (l : List α) : freeL m (l.map e) = true ↔ ∀ x ∈ l, (e x).free m = true := by rw [Ze3]; simp
@[simp] theorem fitE_nil (m : Nat) (ks : List DK) : fitE m ks [] = True := by simp [fitE]
@[simp] theorem fitE_cons (m : Nat) (ks : List DK) (e : AV) (l : List AV) : fitE m ks (e :: l) = (AV.fitX m ks e /\ fitE m ks l) := by simp [fitE]
@[simp] theorem fitE_map {α : Type} (m : Nat) (ks : List DK) (e : α -> AV) : ∀ l : List α, fitE m ks (l.map e) ↔ ∀ x ∈ l, AV.fitX m ks (e x)
 | [] => by simp
 | a :: l => by simp [fitE_map m ks e l]
@[simp] theorem plL_map {α : Type} (e : α -> AV) : ∀ l : List α, plL (l.map e) ↔ ∀ x ∈ l, (e x).pl
 | [] => by simp
 | a :: l => by simp [plL_map e l]
theorem Zai {α : Type} (i : Nat) (e e' : α -> AV) (h : ∀ x, (e x).ownt i = e' x) (l : List α) : owntL i (l.map e) = l.map e' := by rw [ZG6, List.map_map]; exact List.map_congr_left fun x _ => h x
def postH (rs : List Rv) (Φ : Int -> Prop) (e : Ex) (s : St) : Prop := (match e with | .ext _ => False | _ => True) /\ ∃ k, s.rvs rs = some [.int .i64 k] /\ Φ k
theorem hav_of {f : FuncId} {fn : Func} {l : L} {rs : List Rv} {args : List AV} {Φ : Int -> Prop} (hf : P.funcs[f]? = some fn) (hc : chkF P args.length l rs fn = true) (h : den P l (postH rs Φ) (stH args)) : Hav P f args Φ := by
  simp only [chkF, yD, decide_eq_true_eq] at hc
  obtain ⟨⟨⟨⟨hc, hr⟩, hr4⟩, hn⟩, hnb⟩ := hc
  cases hb : fn.body with
  | none => rw [hb] at hc; cases hc
  | some code =>
    rw [hb] at hc
    simp only at hc
    intro w D vs hD hvl hvs
    let c : Cx := { nt := fn.ntmps, X := D, Y := fun _ => True, S0 := fun _ _ => False, w0 := w, rv0 := fun _ => undef, bb0 := fun _ => 0, ntb := hnb, D := D, s0 := fun _ _ h => h.elim, sx := fun _ _ h => h.elim }
    have ov0 : ∀ i E, (ghD D).ov i = some E -> i = 0 /\ E = D := by
      intro i E h
      simp only [ghD] at h
      split at h
      · rename_i hi; cases h; exact ⟨hi, rfl⟩
      · cases h
    have I : Inv c (ghD D) (stH args) { tmps := vs.toArray ++ Array.replicate (fn.ntmps - vs.toArray.size) undef, defers := [] } w := by
      refine ⟨rfl, by simp only [Array.size_append, List.size_toArray, Array.size_replicate, c]; omega, ⟨rfl, rfl, rfl, Nat.le_refl _, fun _ _ _ => rfl⟩, fun i => ?_, fun k cs h => (by cases h), fun k cs h => (by cases h), fun k r h => (by cases h), fun k r h => (by cases h), fun k k' cs cs' h => (by cases h), fun k k' cs r h => (by cases h), fun k k' r r' h => (by cases h), fun b o h => (show False from h).elim, fun b h => trivial, fun b _ _ => trivial, fun _ _ => ⟨rfl, rfl⟩, fun _ _ h => h, fun _ _ h => .inl h,
        ⟨⟨fun i E h => ?_, fun i E h b hb => ?_, fun i j E E' h1 h2 hne => ?_, fun k cs h => (by cases h), fun k r h => (by cases h), fun i E h b hb => ?_⟩, fun i E h _ b hb => ?_, rfl, Nat.zero_le _, fun i h => absurd h (Nat.not_lt_zero i), fun b hb => ⟨0, D, rfl, hb⟩, fun i hi => ⟨?_, fun E h b hb => ?_⟩, fun b o v _ hv => ⟨v, hv, .refl v⟩⟩, fun b o h => (show False from h).elim, fun b o h => (show False from h).elim⟩
      · simp only [stH]
        rcases Nat.lt_or_ge i args.length with hi | hi
        · have hiv : i < vs.length := by omega
          have e1 : args.getD i .und = args[i] := by simp [List.getD_eq_getElem?_getD, hi]
          have e2 : (vs.toArray ++ Array.replicate (fn.ntmps - vs.toArray.size) undef).getD i undef = vs[i] := by
            simp [Array.getD_eq_getD_getElem?, Array.getElem?_append_left, hiv]
          rw [e1, e2]
          exact Gv.turn (s := stH []) (s' := stH args) (ZXh rfl rfl (fun _ _ _ => rfl) kd_id) (hvs i args[i] vs[i] (yA hi) (yA hiv))
        · have e1 : args.getD i .und = .und := by simp [List.getD_eq_getElem?_getD, List.getElem?_eq_none hi]
          have e2 : (vs.toArray ++ Array.replicate (fn.ntmps - vs.toArray.size) undef).getD i undef = undef := by
            rw [Array.getD_eq_getD_getElem?, Array.getElem?_append_right (by simp; omega), Array.getElem?_replicate]
            split <;> rfl
          rw [e1, e2]
          exact .und
      · obtain ⟨rfl, _⟩ := ov0 i E h; exact Nat.one_pos
      · obtain ⟨_, rfl⟩ := ov0 i E h; exact ⟨(hD b hb).1, trivial⟩
      · obtain ⟨rfl, _⟩ := ov0 i E h1; obtain ⟨rfl, _⟩ := ov0 j E' h2; exact absurd rfl hne
      · obtain ⟨_, rfl⟩ := ov0 i E h; exact (hD b hb).2
      · obtain ⟨_, rfl⟩ := ov0 i E h; exact ⟨trivial, fun _ => hb⟩
      · have hi' : i = 0 := hi
        subst hi'; exact Nat.one_pos
      · obtain ⟨_, rfl⟩ := ov0 i E h; exact hb
    refine calls_of_wp hf hb ?_
    refine Zdg (c := c) hc (fun e g' s' a' w' I' hp => ?_) I h
    have fin : (∃ v, (results fn a'.tmps).run P w' = .ok v w' /\ ∃ k, Ending.returned v = .returned (.int .i64 k) /\ Φ k /\ Kept D w w' /\ (∀ b, D b -> UnfB w' b) /\
        ∀ b o v, D b -> w.cell? ⟨b, o, none⟩ = some v -> ∃ v', w'.cell? ⟨b, o, none⟩ = some v' /\ KRel v v') := by
      obtain ⟨_, k, h1, h2⟩ := hp
      obtain ⟨u, q1, q2⟩ := Z6d (P := P) I' hr4 hr h1
      have hu : u = .int .i64 k := (show Gv w' g' s' (.int .i64 k) u from q2).int_inv
      refine ⟨u, q1, k, by rw [hu], h2, ⟨I'.fr.os, I'.fr.tape, I'.fr.output, I'.fr.size, fun k hk hx => I'.fr.block k hk hx⟩, fun b hb => ?_, fun b o v hb hv => I'.ow.dk b o v hb hv⟩
      obtain ⟨i, E, e1, e2⟩ := I'.ow.dd b hb
      exact I'.ow.uf i E e1 b e2
    cases e with
    | nrm => exact ⟨I'.defers, fin⟩
    | ret => exact ⟨I'.defers, fin⟩
    | ext id => exact hp.1.elim
theorem Zv8 {f : FuncId} {l : L} {rs : List Rv} {args : List AV} {Φ : Int -> Prop} {n : Nat} (hc : chkFn P f n l rs = true) (hn : args.length = n) (h : den P l (postH rs Φ) (stH args)) : Hav P f args Φ := by
 unfold chkFn at hc
 split at hc
 .rename_i fn hf
  subst hn
  exact hav_of hf hc h
 .cases hc
attribute [simp] stH
@[simp] theorem set_my {d : Nat} {v : AV} : (s.set d v).my = s.my := _root_.id rfl
@[simp] theorem set_nx {d : Nat} {v : AV} : (s.set d v).nx = s.nx := _root_.id rfl
@[simp] theorem kill_nx {k : Nat} : (s.kill k).nx = s.nx := _root_.id rfl
@[simp] theorem st0_nx {args : List AV} : (st0 args).nx = 0 := _root_.id rfl
@[simp] theorem st0_my {args : List AV} : (st0 args).my = fun _ => True := _root_.id rfl
@[simp] theorem ownt_int {i : Nat} {k : IntKind} {n : Int} : (AV.int k n).ownt i = .int k n := _root_.id rfl
@[simp] theorem ownt_bool {i : Nat} {b : Bool} : (AV.bool b).ownt i = .bool b := _root_.id rfl
@[simp] theorem ownt_str {i : Nat} {b : List UInt8} : (AV.str b).ownt i = .str b := _root_.id rfl
@[simp] theorem ownt_nl {i : Nat} : AV.nl.ownt i = .nl := _root_.id rfl
@[simp] theorem ZB3 {α : Type} {i : Nat} {e : α -> AV} (h : ∀ x, (e x).ownt i = e x) (l : List α) : owntL i (l.map e) = l.map e := Zai i e e h l
@[simp] theorem kill_my {k : Nat} : (s.kill k).my = s.my := _root_.id rfl
@[simp] theorem kill_kn {k : Nat} : (s.kill k).kn = s.kn := _root_.id rfl
@[simp] theorem set_kn {d : Nat} {v : AV} : (s.set d v).kn = s.kn := _root_.id rfl
end
end Go.Proofs.YtndemhaoilhbbaaGreat.Eng
namespace Go.Proofs.YtndemhaoilhbbaaGreat
open Go Go.RowKit Eng
def kB (k b : Int) : Int -> Prop := fun j => k <= j /\ j <= k + b
def ZN6 : L :=
 .seq (
 .reg [.mv 4 (.c (.int .i64 0))]) (
 .seq (
 .seq (
 .reg [.mv 5 (.c (.int .i64 0))]) (
 .blk 0 (
  .loop (
   .seq (
   .seq (
   .reg [.mv 6 (.t 5),.mv 7 (.t 0),.oln 8 (.t 7),.bi 9 .lss (.t 6) (.t 8)]) (
   .cond (.t 9) (
    .skip) (
    .exit 0))) (
   .seq (
   .blk 1 (
    .seq (
    .reg [.mv 12 (.t 0),.mv 13 (.t 5),.mv 14 (.t 1),.oia 15 (.t 12) (.t 13) 1,.ost (.t 15) (.t 14)]) (
    .reg [.mv 16 (.t 1),.bi 17 .add (.t 16) (.c (.int .i64 1)),.mv 1 (.t 17)]))) (
   .reg [.mv 10 (.t 5),.bi 11 .add (.t 10) (.c (.int .i64 1)),.mv 5 (.t 11)])))))) (
 .seq (
 .reg [.mv 18 (.t 1),.mv 4 (.t 18)]) (
 .ret)))
def ZD6 : List Rv := [.t 4]
theorem Zlb : chkFn Tryz.prog Zn3 2 ZN6 ZD6 = true := by kernel_rfl
set_option maxRecDepth 10000 in
theorem Zyb (n : Nat) (hn : n <= 1048576) (k : Int) (h0 : 0 <= k) (h1 : k <= 2251799813685248) :
  Hav Tryz.prog Zn3 [.od 0 [.i .i64] n, .int .i64 k] (kB k (1 * n)) := by
 refine Zv8 Zlb rfl (den_W ?_)
 unfold ZN6 ZD6
 simp
 refine Zla (fun m s => ∃ (i : Nat) (j : Int), m = n - i /\ i <= n /\ k <= j /\ j <= k + 1 * i /\ s.e 0 = .od 0 [.i .i64] n /\ s.e 1 = .int .i64 j /\ s.e 5 = .int .i64 (i : Nat) /\ s.my 0 /\ s.kn 0) n ?_ ?_
 .exact ⟨0, k, by simp⟩
 .rintro m s ⟨i, j, rfl, hi, hj0, hj1, e0, e1, e5, hm, hk⟩
  by_cases h : i < n
  .have hw : ∀ q : Int, 0 <= q -> q <= 4611686018427387904 -> IntKind.i64.wrap q = q := fun q h0 h1 => Z76 (by omega) (by omega)
   simp [e0, e1, e5, h, hm, hk, hw (j + 1) (by omega) (by omega)]
   exact ⟨n - (i + 1), by omega, i + 1, rfl, by omega, j + 1, by omega, by simp; omega, rfl, by rw [hw _ (by omega) (by omega)]; simp⟩
  .have : i = n := by omega
   subst this
   simp [e0, e1, e5, kB, postH]
   omega
def ZP5 : L :=
 .seq (
 .reg [.mv 4 (.c (.int .i64 0))]) (
 .seq (
 .seq (
 .reg [.mv 5 (.c (.int .i64 0))]) (
 .blk 0 (
  .loop (
   .seq (
   .seq (
   .reg [.mv 6 (.t 5),.mv 7 (.t 0),.oln 8 (.t 7),.bi 9 .lss (.t 6) (.t 8)]) (
   .cond (.t 9) (
    .skip) (
    .exit 0))) (
   .seq (
   .blk 1 (
    .seq (
    .reg [.mv 12 (.t 0),.mv 13 (.t 5),.mv 14 (.t 1),.oia 15 (.t 12) (.t 13) 4,.ofa 16 (.t 15) 0,.ost (.t 16) (.t 14)]) (
    .seq (
    .reg [.mv 17 (.t 1),.bi 18 .add (.t 17) (.c (.int .i64 1)),.mv 1 (.t 18)]) (
    .seq (
    .reg [.mv 19 (.t 0),.mv 20 (.t 5),.mv 21 (.t 1),.oia 22 (.t 19) (.t 20) 4,.ofa 23 (.t 22) 1,.ofa 24 (.t 23) 0,.ost (.t 24) (.t 21)]) (
    .seq (
    .reg [.mv 25 (.t 1),.bi 26 .add (.t 25) (.c (.int .i64 1)),.mv 1 (.t 26)]) (
    .seq (
    .reg [.mv 27 (.t 0),.mv 28 (.t 5),.mv 29 (.t 1),.oia 30 (.t 27) (.t 28) 4,.ofa 31 (.t 30) 1,.ofa 32 (.t 31) 1,.ost (.t 32) (.t 29)]) (
    .seq (
    .reg [.mv 33 (.t 1),.bi 34 .add (.t 33) (.c (.int .i64 1)),.mv 1 (.t 34)]) (
    .seq (
    .reg [.mv 35 (.t 0),.mv 36 (.t 5),.mv 37 (.t 1),.oia 38 (.t 35) (.t 36) 4,.ofa 39 (.t 38) 1,.ofa 40 (.t 39) 2,.ost (.t 40) (.t 37)]) (
    .reg [.mv 41 (.t 1),.bi 42 .add (.t 41) (.c (.int .i64 1)),.mv 1 (.t 42)]))))))))) (
   .reg [.mv 10 (.t 5),.bi 11 .add (.t 10) (.c (.int .i64 1)),.mv 5 (.t 11)])))))) (
 .seq (
 .reg [.mv 43 (.t 1),.mv 4 (.t 43)]) (
 .ret)))
def Zz5 : List Rv := [.t 4]
theorem Zha : chkFn Tryz.prog Zt4 2 ZP5 Zz5 = true := by kernel_rfl
set_option maxRecDepth 10000 in
theorem ZSg (n : Nat) (hn : n <= 1048576) (k : Int) (h0 : 0 <= k) (h1 : k <= 2251799813685248) :
  Hav Tryz.prog Zt4 [.od 0 [.i .i64, .i .i64, .i .i64, .i .i64] n, .int .i64 k] (kB k (4 * n)) := by
 refine Zv8 Zha rfl (den_W ?_)
 unfold ZP5 Zz5
 simp
 refine Zla (fun m s => ∃ (i : Nat) (j : Int), m = n - i /\ i <= n /\ k <= j /\ j <= k + 4 * i /\ s.e 0 = .od 0 [.i .i64, .i .i64, .i .i64, .i .i64] n /\ s.e 1 = .int .i64 j /\ s.e 5 = .int .i64 (i : Nat) /\ s.my 0 /\ s.kn 0) n ?_ ?_
 .exact ⟨0, k, by simp⟩
 .rintro m s ⟨i, j, rfl, hi, hj0, hj1, e0, e1, e5, hm, hk⟩
  by_cases h : i < n
  .have hw : ∀ q : Int, 0 <= q -> q <= 4611686018427387904 -> IntKind.i64.wrap q = q := fun q h0 h1 => Z76 (by omega) (by omega)
   simp [e0, e1, e5, h, hm, hk, hw (j + 1) (by omega) (by omega), hw (j + 1 + 1) (by omega) (by omega), hw (j + 1 + 1 + 1) (by omega) (by omega), hw (j + 1 + 1 + 1 + 1) (by omega) (by omega)]
   exact ⟨n - (i + 1), by omega, i + 1, rfl, by omega, j + 1 + 1 + 1 + 1, by omega, by simp; omega, rfl, by rw [hw _ (by omega) (by omega)]; simp⟩
  .have : i = n := by omega
   subst this
   simp [e0, e1, e5, kB, postH]
   omega
def ZR5 : L :=
 .seq (
 .reg [.mv 4 (.c (.int .i64 0))]) (
 .seq (
 .seq (
 .reg [.mv 5 (.c (.int .i64 0))]) (
 .blk 0 (
  .loop (
   .seq (
   .seq (
   .reg [.mv 6 (.t 5),.mv 7 (.t 0),.oln 8 (.t 7),.bi 9 .lss (.t 6) (.t 8)]) (
   .cond (.t 9) (
    .skip) (
    .exit 0))) (
   .seq (
   .blk 1 (
    .seq (
    .reg [.mv 12 (.t 0),.mv 13 (.t 5),.mv 14 (.t 1),.bi 15 .rem (.t 14) (.c (.int .i64 3)),.bi 16 .eql (.t 15) (.c (.int .i64 0)),.oia 17 (.t 12) (.t 13) 1,.ost (.t 17) (.t 16)]) (
    .reg [.mv 18 (.t 1),.bi 19 .add (.t 18) (.c (.int .i64 1)),.mv 1 (.t 19)]))) (
   .reg [.mv 10 (.t 5),.bi 11 .add (.t 10) (.c (.int .i64 1)),.mv 5 (.t 11)])))))) (
 .seq (
 .reg [.mv 20 (.t 1),.mv 4 (.t 20)]) (
 .ret)))
def ZB5 : List Rv := [.t 4]
theorem Zja : chkFn Tryz.prog Zv4 2 ZR5 ZB5 = true := by kernel_rfl
set_option maxRecDepth 10000 in
theorem ZUg (n : Nat) (hn : n <= 1048576) (k : Int) (h0 : 0 <= k) (h1 : k <= 2251799813685248) :
  Hav Tryz.prog Zv4 [.od 0 [.b] n, .int .i64 k] (kB k (1 * n)) := by
 refine Zv8 Zja rfl (den_W ?_)
 unfold ZR5 ZB5
 simp
 refine Zla (fun m s => ∃ (i : Nat) (j : Int), m = n - i /\ i <= n /\ k <= j /\ j <= k + 1 * i /\ s.e 0 = .od 0 [.b] n /\ s.e 1 = .int .i64 j /\ s.e 5 = .int .i64 (i : Nat) /\ s.my 0 /\ s.kn 0) n ?_ ?_
 .exact ⟨0, k, by simp⟩
 .rintro m s ⟨i, j, rfl, hi, hj0, hj1, e0, e1, e5, hm, hk⟩
  by_cases h : i < n
  .have hw : ∀ q : Int, 0 <= q -> q <= 4611686018427387904 -> IntKind.i64.wrap q = q := fun q h0 h1 => Z76 (by omega) (by omega)
   simp [e0, e1, e5, h, hm, hk, hw (j + 1) (by omega) (by omega)]
   exact ⟨n - (i + 1), by omega, i + 1, rfl, by omega, j + 1, by omega, by simp; omega, rfl, by rw [hw _ (by omega) (by omega)]; simp⟩
  .have : i = n := by omega
   subst this
   simp [e0, e1, e5, kB, postH]
   omega
def ZM6 : L :=
 .seq (
 .reg [.mv 4 (.c (.int .i64 0))]) (
 .seq (
 .seq (
 .reg [.mv 5 (.c (.int .i64 0))]) (
 .blk 0 (
  .loop (
   .seq (
   .seq (
   .reg [.mv 6 (.t 5),.mv 7 (.t 0),.oln 8 (.t 7),.bi 9 .lss (.t 6) (.t 8)]) (
   .cond (.t 9) (
    .skip) (
    .exit 0))) (
   .seq (
   .blk 1 (
    .seq (
    .reg [.mv 12 (.t 0),.mv 13 (.t 5),.mv 14 (.t 1),.oia 15 (.t 12) (.t 13) 11,.ofa 16 (.t 15) 0,.ost (.t 16) (.t 14)]) (
    .seq (
    .reg [.mv 17 (.t 1),.bi 18 .add (.t 17) (.c (.int .i64 1)),.mv 1 (.t 18)]) (
    .seq (
    .reg [.mv 19 (.t 0),.mv 20 (.t 5),.mv 21 (.t 1),.oia 22 (.t 19) (.t 20) 11,.ofa 23 (.t 22) 1,.ost (.t 23) (.t 21)]) (
    .seq (
    .reg [.mv 24 (.t 1),.bi 25 .add (.t 24) (.c (.int .i64 1)),.mv 1 (.t 25)]) (
    .seq (
    .reg [.mv 26 (.t 0),.mv 27 (.t 5),.mv 28 (.t 1),.oia 29 (.t 26) (.t 27) 11,.ofa 30 (.t 29) 2,.ost (.t 30) (.t 28)]) (
    .seq (
    .reg [.mv 31 (.t 1),.bi 32 .add (.t 31) (.c (.int .i64 1)),.mv 1 (.t 32)]) (
    .seq (
    .reg [.mv 33 (.t 0),.mv 34 (.t 5),.mv 35 (.t 1),.oia 36 (.t 33) (.t 34) 11,.ofa 37 (.t 36) 3,.ofa 38 (.t 37) 0,.ost (.t 38) (.t 35)]) (
    .seq (
    .reg [.mv 39 (.t 1),.bi 40 .add (.t 39) (.c (.int .i64 1)),.mv 1 (.t 40)]) (
    .seq (
    .reg [.mv 41 (.t 0),.mv 42 (.t 5),.mv 43 (.t 1),.oia 44 (.t 41) (.t 42) 11,.ofa 45 (.t 44) 3,.ofa 46 (.t 45) 1,.ost (.t 46) (.t 43)]) (
    .seq (
    .reg [.mv 47 (.t 1),.bi 48 .add (.t 47) (.c (.int .i64 1)),.mv 1 (.t 48)]) (
    .seq (
    .reg [.mv 49 (.t 0),.mv 50 (.t 5),.mv 51 (.t 1),.oia 52 (.t 49) (.t 50) 11,.ofa 53 (.t 52) 3,.ofa 54 (.t 53) 2,.ost (.t 54) (.t 51)]) (
    .seq (
    .reg [.mv 55 (.t 1),.bi 56 .add (.t 55) (.c (.int .i64 1)),.mv 1 (.t 56)]) (
    .seq (
    .reg [.mv 57 (.t 0),.mv 58 (.t 5),.mv 59 (.t 1),.oia 60 (.t 57) (.t 58) 11,.ofa 61 (.t 60) 6,.ofa 62 (.t 61) 0,.ost (.t 62) (.t 59)]) (
    .seq (
    .reg [.mv 63 (.t 1),.bi 64 .add (.t 63) (.c (.int .i64 1)),.mv 1 (.t 64)]) (
    .seq (
    .reg [.mv 65 (.t 0),.mv 66 (.t 5),.mv 67 (.t 1),.oia 68 (.t 65) (.t 66) 11,.ofa 69 (.t 68) 6,.ofa 70 (.t 69) 1,.ost (.t 70) (.t 67)]) (
    .seq (
    .reg [.mv 71 (.t 1),.bi 72 .add (.t 71) (.c (.int .i64 1)),.mv 1 (.t 72)]) (
    .seq (
    .reg [.mv 73 (.t 0),.mv 74 (.t 5),.mv 75 (.t 1),.oia 76 (.t 73) (.t 74) 11,.ofa 77 (.t 76) 6,.ofa 78 (.t 77) 2,.ost (.t 78) (.t 75)]) (
    .seq (
    .reg [.mv 79 (.t 1),.bi 80 .add (.t 79) (.c (.int .i64 1)),.mv 1 (.t 80)]) (
    .seq (
    .reg [.mv 81 (.t 0),.mv 82 (.t 5),.mv 83 (.t 1),.oia 84 (.t 81) (.t 82) 11,.ofa 85 (.t 84) 9,.ost (.t 85) (.t 83)]) (
    .seq (
    .reg [.mv 86 (.t 1),.bi 87 .add (.t 86) (.c (.int .i64 1)),.mv 1 (.t 87)]) (
    .seq (
    .reg [.mv 88 (.t 0),.mv 89 (.t 5),.mv 90 (.t 1),.oia 91 (.t 88) (.t 89) 11,.ofa 92 (.t 91) 10,.ost (.t 92) (.t 90)]) (
    .reg [.mv 93 (.t 1),.bi 94 .add (.t 93) (.c (.int .i64 1)),.mv 1 (.t 94)]))))))))))))))))))))))) (
   .reg [.mv 10 (.t 5),.bi 11 .add (.t 10) (.c (.int .i64 1)),.mv 5 (.t 11)])))))) (
 .seq (
 .reg [.mv 95 (.t 1),.mv 4 (.t 95)]) (
 .ret)))
def ZC6 : List Rv := [.t 4]
theorem Zkb : chkFn Tryz.prog Zl5 2 ZM6 ZC6 = true := by kernel_rfl
set_option maxRecDepth 10000 in
theorem Zhi (n : Nat) (hn : n <= 1048576) (k : Int) (h0 : 0 <= k) (h1 : k <= 2251799813685248) :
  Hav Tryz.prog Zl5 [.od 0 [.i .i64, .i .i64, .i .i64, .i .i64, .i .i64, .i .i64, .i .i64, .i .i64, .i .i64, .i .i64, .i .i64] n, .int .i64 k] (kB k (11 * n)) := by
 refine Zv8 Zkb rfl (den_W ?_)
 unfold ZM6 ZC6
 simp
 refine Zla (fun m s => ∃ (i : Nat) (j : Int), m = n - i /\ i <= n /\ k <= j /\ j <= k + 11 * i /\ s.e 0 = .od 0 [.i .i64, .i .i64, .i .i64, .i .i64, .i .i64, .i .i64, .i .i64, .i .i64, .i .i64, .i .i64, .i .i64] n /\ s.e 1 = .int .i64 j /\ s.e 5 = .int .i64 (i : Nat) /\ s.my 0 /\ s.kn 0) n ?_ ?_
 .exact ⟨0, k, by simp⟩
 .rintro m s ⟨i, j, rfl, hi, hj0, hj1, e0, e1, e5, hm, hk⟩
  by_cases h : i < n
  .have hw : ∀ q : Int, 0 <= q -> q <= 4611686018427387904 -> IntKind.i64.wrap q = q := fun q h0 h1 => Z76 (by omega) (by omega)
   simp [e0, e1, e5, h, hm, hk, hw (j + 1) (by omega) (by omega), hw (j + 1 + 1) (by omega) (by omega), hw (j + 1 + 1 + 1) (by omega) (by omega), hw (j + 1 + 1 + 1 + 1) (by omega) (by omega), hw (j + 1 + 1 + 1 + 1 + 1) (by omega) (by omega), hw (j + 1 + 1 + 1 + 1 + 1 + 1) (by omega) (by omega), hw (j + 1 + 1 + 1 + 1 + 1 + 1 + 1) (by omega) (by omega), hw (j + 1 + 1 + 1 + 1 + 1 + 1 + 1 + 1) (by omega) (by omega), hw (j + 1 + 1 + 1 + 1 + 1 + 1 + 1 + 1 + 1) (by omega) (by omega), hw (j + 1 + 1 + 1 + 1 + 1 + 1 + 1 + 1 + 1 + 1) (by omega) (by omega), hw (j + 1 + 1 + 1 + 1 + 1 + 1 + 1 + 1 + 1 + 1 + 1) (by omega) (by omega)]
   exact ⟨n - (i + 1), by omega, i + 1, rfl, by omega, j + 1 + 1 + 1 + 1 + 1 + 1 + 1 + 1 + 1 + 1 + 1, by omega, by simp; omega, rfl, by rw [hw _ (by omega) (by omega)]; simp⟩
  .have : i = n := by omega
   subst this
   simp [e0, e1, e5, kB, postH]
   omega
def ZO6 : L :=
 .seq (
 .reg [.mv 4 (.c (.int .i64 0))]) (
 .seq (
 .seq (
 .reg [.mv 5 (.c (.int .i64 0))]) (
 .blk 0 (
  .loop (
   .seq (
   .seq (
   .reg [.mv 6 (.t 5),.mv 7 (.t 0),.oln 8 (.t 7),.bi 9 .lss (.t 6) (.t 8)]) (
   .cond (.t 9) (
    .skip) (
    .exit 0))) (
   .seq (
   .blk 1 (
    .seq (
    .reg [.mv 12 (.t 0),.mv 13 (.t 5),.mv 14 (.t 1),.oia 15 (.t 12) (.t 13) 3,.ofa 16 (.t 15) 0,.ost (.t 16) (.t 14)]) (
    .seq (
    .reg [.mv 17 (.t 1),.bi 18 .add (.t 17) (.c (.int .i64 1)),.mv 1 (.t 18)]) (
    .seq (
    .reg [.mv 19 (.t 0),.mv 20 (.t 5),.mv 21 (.t 1),.oia 22 (.t 19) (.t 20) 3,.ofa 23 (.t 22) 1,.ost (.t 23) (.t 21)]) (
    .seq (
    .reg [.mv 24 (.t 1),.bi 25 .add (.t 24) (.c (.int .i64 1)),.mv 1 (.t 25)]) (
    .seq (
    .reg [.mv 26 (.t 0),.mv 27 (.t 5),.mv 28 (.t 1),.oia 29 (.t 26) (.t 27) 3,.ofa 30 (.t 29) 2,.ost (.t 30) (.t 28)]) (
    .reg [.mv 31 (.t 1),.bi 32 .add (.t 31) (.c (.int .i64 1)),.mv 1 (.t 32)]))))))) (
   .reg [.mv 10 (.t 5),.bi 11 .add (.t 10) (.c (.int .i64 1)),.mv 5 (.t 11)])))))) (
 .seq (
 .reg [.mv 33 (.t 1),.mv 4 (.t 33)]) (
 .ret)))
def ZE6 : List Rv := [.t 4]
theorem Zmb : chkFn Tryz.prog Zm5 2 ZO6 ZE6 = true := by kernel_rfl
set_option maxRecDepth 10000 in
theorem Zii (n : Nat) (hn : n <= 1048576) (k : Int) (h0 : 0 <= k) (h1 : k <= 2251799813685248) :
  Hav Tryz.prog Zm5 [.od 0 [.i .i64, .i .i64, .i .i64] n, .int .i64 k] (kB k (3 * n)) := by
 refine Zv8 Zmb rfl (den_W ?_)
 unfold ZO6 ZE6
 simp
 refine Zla (fun m s => ∃ (i : Nat) (j : Int), m = n - i /\ i <= n /\ k <= j /\ j <= k + 3 * i /\ s.e 0 = .od 0 [.i .i64, .i .i64, .i .i64] n /\ s.e 1 = .int .i64 j /\ s.e 5 = .int .i64 (i : Nat) /\ s.my 0 /\ s.kn 0) n ?_ ?_
 .exact ⟨0, k, by simp⟩
 .rintro m s ⟨i, j, rfl, hi, hj0, hj1, e0, e1, e5, hm, hk⟩
  by_cases h : i < n
  .have hw : ∀ q : Int, 0 <= q -> q <= 4611686018427387904 -> IntKind.i64.wrap q = q := fun q h0 h1 => Z76 (by omega) (by omega)
   simp [e0, e1, e5, h, hm, hk, hw (j + 1) (by omega) (by omega), hw (j + 1 + 1) (by omega) (by omega), hw (j + 1 + 1 + 1) (by omega) (by omega)]
   exact ⟨n - (i + 1), by omega, i + 1, rfl, by omega, j + 1 + 1 + 1, by omega, by simp; omega, rfl, by rw [hw _ (by omega) (by omega)]; simp⟩
  .have : i = n := by omega
   subst this
   simp [e0, e1, e5, kB, postH]
   omega
def ZQ5 : L :=
 .seq (
 .reg [.mv 4 (.c (.int .i64 0))]) (
 .seq (
 .seq (
 .reg [.mv 5 (.c (.int .i64 0))]) (
 .blk 0 (
  .loop (
   .seq (
   .seq (
   .reg [.mv 6 (.t 5),.mv 7 (.t 0),.oln 8 (.t 7),.bi 9 .lss (.t 6) (.t 8)]) (
   .cond (.t 9) (
    .skip) (
    .exit 0))) (
   .seq (
   .blk 1 (
    .seq (
    .reg [.mv 12 (.t 0),.mv 13 (.t 5),.mv 14 (.t 1),.cv 15 .u8 (.t 14),.oia 16 (.t 12) (.t 13) 1,.ost (.t 16) (.t 15)]) (
    .reg [.mv 17 (.t 1),.bi 18 .add (.t 17) (.c (.int .i64 1)),.mv 1 (.t 18)]))) (
   .reg [.mv 10 (.t 5),.bi 11 .add (.t 10) (.c (.int .i64 1)),.mv 5 (.t 11)])))))) (
 .seq (
 .reg [.mv 19 (.t 1),.mv 4 (.t 19)]) (
 .ret)))
def ZA5 : List Rv := [.t 4]
theorem Zia : chkFn Tryz.prog Zu4 2 ZQ5 ZA5 = true := by kernel_rfl
set_option maxRecDepth 10000 in
theorem ZTg (n : Nat) (hn : n <= 1048576) (k : Int) (h0 : 0 <= k) (h1 : k <= 2251799813685248) :
  Hav Tryz.prog Zu4 [.od 0 [.i .u8] n, .int .i64 k] (kB k (1 * n)) := by
 refine Zv8 Zia rfl (den_W ?_)
 unfold ZQ5 ZA5
 simp
 refine Zla (fun m s => ∃ (i : Nat) (j : Int), m = n - i /\ i <= n /\ k <= j /\ j <= k + 1 * i /\ s.e 0 = .od 0 [.i .u8] n /\ s.e 1 = .int .i64 j /\ s.e 5 = .int .i64 (i : Nat) /\ s.my 0 /\ s.kn 0) n ?_ ?_
 .exact ⟨0, k, by simp⟩
 .rintro m s ⟨i, j, rfl, hi, hj0, hj1, e0, e1, e5, hm, hk⟩
  by_cases h : i < n
  .have hw : ∀ q : Int, 0 <= q -> q <= 4611686018427387904 -> IntKind.i64.wrap q = q := fun q h0 h1 => Z76 (by omega) (by omega)
   simp [e0, e1, e5, h, hm, hk, hw (j + 1) (by omega) (by omega)]
   exact ⟨n - (i + 1), by omega, i + 1, rfl, by omega, j + 1, by omega, by simp; omega, rfl, by rw [hw _ (by omega) (by omega)]; simp⟩
  .have : i = n := by omega
   subst this
   simp [e0, e1, e5, kB, postH]
   omega
def ZK6 : L :=
 .seq (
 .reg [.mv 4 (.c (.int .i64 0))]) (
 .seq (
 .seq (
 .reg [.mv 5 (.c (.int .i64 0))]) (
 .blk 0 (
  .loop (
   .seq (
   .seq (
   .reg [.mv 6 (.t 5),.mv 7 (.t 0),.oln 8 (.t 7),.bi 9 .lss (.t 6) (.t 8)]) (
   .cond (.t 9) (
    .skip) (
    .exit 0))) (
   .seq (
   .blk 1 (
    .seq (
    .reg [.mv 12 (.t 0),.mv 13 (.t 5),.mv 14 (.t 1),.oia 15 (.t 12) (.t 13) 13,.ofa 16 (.t 15) 0,.ofa 17 (.t 16) 0,.ost (.t 17) (.t 14)]) (
    .seq (
    .reg [.mv 18 (.t 1),.bi 19 .add (.t 18) (.c (.int .i64 1)),.mv 1 (.t 19)]) (
    .seq (
    .reg [.mv 20 (.t 0),.mv 21 (.t 5),.mv 22 (.t 1),.oia 23 (.t 20) (.t 21) 13,.ofa 24 (.t 23) 0,.ofa 25 (.t 24) 1,.ost (.t 25) (.t 22)]) (
    .seq (
    .reg [.mv 26 (.t 1),.bi 27 .add (.t 26) (.c (.int .i64 1)),.mv 1 (.t 27)]) (
    .seq (
    .reg [.mv 28 (.t 0),.mv 29 (.t 5),.mv 30 (.t 1),.oia 31 (.t 28) (.t 29) 13,.ofa 32 (.t 31) 0,.ofa 33 (.t 32) 2,.ost (.t 33) (.t 30)]) (
    .seq (
    .reg [.mv 34 (.t 1),.bi 35 .add (.t 34) (.c (.int .i64 1)),.mv 1 (.t 35)]) (
    .seq (
    .reg [.mv 36 (.t 0),.mv 37 (.t 5),.mv 38 (.t 1),.oia 39 (.t 36) (.t 37) 13,.ofa 40 (.t 39) 0,.ofa 41 (.t 40) 3,.ofa 42 (.t 41) 0,.ost (.t 42) (.t 38)]) (
    .seq (
    .reg [.mv 43 (.t 1),.bi 44 .add (.t 43) (.c (.int .i64 1)),.mv 1 (.t 44)]) (
    .seq (
    .reg [.mv 45 (.t 0),.mv 46 (.t 5),.mv 47 (.t 1),.oia 48 (.t 45) (.t 46) 13,.ofa 49 (.t 48) 0,.ofa 50 (.t 49) 3,.ofa 51 (.t 50) 1,.ost (.t 51) (.t 47)]) (
    .seq (
    .reg [.mv 52 (.t 1),.bi 53 .add (.t 52) (.c (.int .i64 1)),.mv 1 (.t 53)]) (
    .seq (
    .reg [.mv 54 (.t 0),.mv 55 (.t 5),.mv 56 (.t 1),.oia 57 (.t 54) (.t 55) 13,.ofa 58 (.t 57) 0,.ofa 59 (.t 58) 3,.ofa 60 (.t 59) 2,.ost (.t 60) (.t 56)]) (
    .seq (
    .reg [.mv 61 (.t 1),.bi 62 .add (.t 61) (.c (.int .i64 1)),.mv 1 (.t 62)]) (
    .seq (
    .reg [.mv 63 (.t 0),.mv 64 (.t 5),.mv 65 (.t 1),.oia 66 (.t 63) (.t 64) 13,.ofa 67 (.t 66) 0,.ofa 68 (.t 67) 6,.ofa 69 (.t 68) 0,.ost (.t 69) (.t 65)]) (
    .seq (
    .reg [.mv 70 (.t 1),.bi 71 .add (.t 70) (.c (.int .i64 1)),.mv 1 (.t 71)]) (
    .seq (
    .reg [.mv 72 (.t 0),.mv 73 (.t 5),.mv 74 (.t 1),.oia 75 (.t 72) (.t 73) 13,.ofa 76 (.t 75) 0,.ofa 77 (.t 76) 6,.ofa 78 (.t 77) 1,.ost (.t 78) (.t 74)]) (
    .seq (
    .reg [.mv 79 (.t 1),.bi 80 .add (.t 79) (.c (.int .i64 1)),.mv 1 (.t 80)]) (
    .seq (
    .reg [.mv 81 (.t 0),.mv 82 (.t 5),.mv 83 (.t 1),.oia 84 (.t 81) (.t 82) 13,.ofa 85 (.t 84) 0,.ofa 86 (.t 85) 6,.ofa 87 (.t 86) 2,.ost (.t 87) (.t 83)]) (
    .seq (
    .reg [.mv 88 (.t 1),.bi 89 .add (.t 88) (.c (.int .i64 1)),.mv 1 (.t 89)]) (
    .seq (
    .reg [.mv 90 (.t 0),.mv 91 (.t 5),.mv 92 (.t 1),.oia 93 (.t 90) (.t 91) 13,.ofa 94 (.t 93) 0,.ofa 95 (.t 94) 9,.ost (.t 95) (.t 92)]) (
    .seq (
    .reg [.mv 96 (.t 1),.bi 97 .add (.t 96) (.c (.int .i64 1)),.mv 1 (.t 97)]) (
    .seq (
    .reg [.mv 98 (.t 0),.mv 99 (.t 5),.mv 100 (.t 1),.oia 101 (.t 98) (.t 99) 13,.ofa 102 (.t 101) 0,.ofa 103 (.t 102) 10,.ost (.t 103) (.t 100)]) (
    .seq (
    .reg [.mv 104 (.t 1),.bi 105 .add (.t 104) (.c (.int .i64 1)),.mv 1 (.t 105)]) (
    .seq (
    .reg [.mv 106 (.t 0),.mv 107 (.t 5),.mv 108 (.t 1),.oia 109 (.t 106) (.t 107) 13,.ofa 110 (.t 109) 11,.ost (.t 110) (.t 108)]) (
    .seq (
    .reg [.mv 111 (.t 1),.bi 112 .add (.t 111) (.c (.int .i64 1)),.mv 1 (.t 112)]) (
    .reg [.mv 113 (.t 0),.mv 114 (.t 5),.oia 115 (.t 113) (.t 114) 13,.ofa 116 (.t 115) 12,.old 117 (.t 116),.mv 118 (.t 1),.cf 119 Zn3 0 [(.t 117), (.t 118)],.mv 1 (.t 119)])))))))))))))))))))))))))) (
   .reg [.mv 10 (.t 5),.bi 11 .add (.t 10) (.c (.int .i64 1)),.mv 5 (.t 11)])))))) (
 .seq (
 .reg [.mv 120 (.t 1),.mv 4 (.t 120)]) (
 .ret)))
def ZA6 : List Rv := [.t 4]
theorem Zib : chkFn Tryz.prog Zj5 2 ZK6 ZA6 = true := by kernel_rfl
set_option maxRecDepth 10000 in
theorem Zfi (n : Nat) (hn : n <= 1048576) (k : Int) (h0 : 0 <= k) (h1 : k <= 1125899906842624) :
  Hav Tryz.prog Zj5 [.od 0 [.i .i64, .i .i64, .i .i64, .i .i64, .i .i64, .i .i64, .i .i64, .i .i64, .i .i64, .i .i64, .i .i64, .i .i64, .l [.i .i64]] n, .int .i64 k] (kB k (1048588 * n)) := by
 refine Zv8 Zib rfl (den_W ?_)
 unfold ZK6 ZA6
 simp
 refine Zla (fun m s => ∃ (i : Nat) (j : Int), m = n - i /\ i <= n /\ k <= j /\ j <= k + 1048588 * i /\ s.e 0 = .od 0 [.i .i64, .i .i64, .i .i64, .i .i64, .i .i64, .i .i64, .i .i64, .i .i64, .i .i64, .i .i64, .i .i64, .i .i64, .l [.i .i64]] n /\ s.e 1 = .int .i64 j /\ s.e 5 = .int .i64 (i : Nat) /\ s.my 0 /\ s.kn 0) n ?_ ?_
 .exact ⟨0, k, by simp⟩
 .rintro m s ⟨i, j, rfl, hi, hj0, hj1, e0, e1, e5, hm, hk⟩
  by_cases h : i < n
  .have hw : ∀ q : Int, 0 <= q -> q <= 4611686018427387904 -> IntKind.i64.wrap q = q := fun q h0 h1 => Z76 (by omega) (by omega)
   simp [e0, e1, e5, h, hm, hk, hw (j + 1) (by omega) (by omega), hw (j + 1 + 1) (by omega) (by omega), hw (j + 1 + 1 + 1) (by omega) (by omega), hw (j + 1 + 1 + 1 + 1) (by omega) (by omega), hw (j + 1 + 1 + 1 + 1 + 1) (by omega) (by omega), hw (j + 1 + 1 + 1 + 1 + 1 + 1) (by omega) (by omega), hw (j + 1 + 1 + 1 + 1 + 1 + 1 + 1) (by omega) (by omega), hw (j + 1 + 1 + 1 + 1 + 1 + 1 + 1 + 1) (by omega) (by omega), hw (j + 1 + 1 + 1 + 1 + 1 + 1 + 1 + 1 + 1) (by omega) (by omega), hw (j + 1 + 1 + 1 + 1 + 1 + 1 + 1 + 1 + 1 + 1) (by omega) (by omega), hw (j + 1 + 1 + 1 + 1 + 1 + 1 + 1 + 1 + 1 + 1 + 1) (by omega) (by omega), hw (j + 1 + 1 + 1 + 1 + 1 + 1 + 1 + 1 + 1 + 1 + 1 + 1) (by omega) (by omega)]
   intro n2 hn2
   refine do_cf [] (Zyb n2 hn2 (j + 1 + 1 + 1 + 1 + 1 + 1 + 1 + 1 + 1 + 1 + 1 + 1) (by omega) (by omega)) (by simp) (by simp [hm]) (by simp) ?_
   rintro q ⟨hq0, hq1⟩
   simp [e0, e5, hm, hk]
   exact ⟨n - (i + 1), by omega, i + 1, rfl, by omega, q, by omega, by simp; omega, rfl, by rw [hw _ (by omega) (by omega)]; simp⟩
  .have : i = n := by omega
   subst this
   simp [e0, e1, e5, kB, postH]
   omega
def Zx4 : L :=
 .seq (
 .reg [.bx 2 (.t 0),.mv 4 (.c (.int .i64 0))]) (
 .seq (
 .reg [.fa 5 (.t 2) 0,.ld 6 (.t 5) 1 false,.mv 7 (.t 1),.cf 8 Zu4 0 [(.t 6), (.t 7)],.mv 1 (.t 8)]) (
 .seq (
 .reg [.mv 9 (.t 1),.mv 4 (.t 9)]) (
 .ret)))
def Zw4 : List Rv := [.t 4]
theorem Z49 : chkFn Tryz.prog Zm3 2 Zx4 Zw4 = true := by kernel_rfl
theorem Zdd (n : Nat) (hn : n <= 1048576) (a b : Int) (k : Int) (h0 : 0 <= k) (h1 : k <= 562949953421312) :
  Hav Tryz.prog Zm3 [.agg [.od 0 [.i .u8] n, .int .i64 a, .int .i64 b], .int .i64 k] (kB k n) := by
 refine Zv8 Z49 rfl (den_W ?_)
 unfold Zx4 Zw4
 simp
 refine do_cf [] (ZTg n hn k (by omega) (by omega)) (by simp) (by simp) (by simp) ?_
 rintro q0 ⟨hq0, hr0⟩
 simp [kB, postH]
 omega
def ZL6 : L :=
 .seq (
 .reg [.bx 2 (.t 0),.mv 4 (.c (.int .i64 0))]) (
 .seq (
 .reg [.fa 5 (.t 2) 1,.ld 6 (.t 5) 3 true,.mv 7 (.t 1),.cf 8 Zm3 0 [(.t 6), (.t 7)],.mv 1 (.t 8)]) (
 .seq (
 .reg [.mv 9 (.t 1),.mv 4 (.t 9)]) (
 .ret)))
def ZB6 : List Rv := [.t 4]
theorem Zjb : chkFn Tryz.prog Zk5 2 ZL6 ZB6 = true := by kernel_rfl
theorem Zgi (n : Nat) (hn : n <= 1048576) (x : Str) (a b : Int) (k : Int) (h0 : 0 <= k) (h1 : k <= 281474976710656) :
  Hav Tryz.prog Zk5 [.agg [.str x, .od 0 [.i .u8] n, .int .i64 a, .int .i64 b], .int .i64 k] (kB k n) := by
 refine Zv8 Zjb rfl (den_W ?_)
 unfold ZL6 ZB6
 simp
 refine do_cf [] (Zdd n hn a b k (by omega) (by omega)) (by simp) (by simp) (by simp) ?_
 rintro q0 ⟨hq0, hr0⟩
 simp [kB, postH]
 omega
def ZJ6 : L :=
 .seq (
 .reg [.bx 2 (.t 0),.mv 4 (.c (.int .i64 0))]) (
 .seq (
 .reg [.fa 5 (.t 2) 0,.ld 6 (.t 5) 1 false,.mv 7 (.t 1),.cf 8 Zn3 0 [(.t 6), (.t 7)],.mv 1 (.t 8)]) (
 .seq (
 .reg [.fa 9 (.t 2) 1,.ld 10 (.t 9) 1 false,.mv 11 (.t 1),.cf 12 Zt4 0 [(.t 10), (.t 11)],.mv 1 (.t 12)]) (
 .seq (
 .reg [.mv 13 (.t 1),.mv 4 (.t 13)]) (
 .ret))))
def Zz6 : List Rv := [.t 4]
theorem Zhb : chkFn Tryz.prog Zi5 2 ZJ6 Zz6 = true := by kernel_rfl
set_option maxRecDepth 10000 in
theorem Zei (n1 n2 : Nat) (hn1 : n1 <= 1048576) (hn2 : n2 <= 1048576) (k : Int) (h0 : 0 <= k) (h1 : k <= 562949953421312) :
  Hav Tryz.prog Zi5 [.agg [.od 0 [.i .i64] n1, .od 0 [.i .i64, .i .i64, .i .i64, .i .i64] n2], .int .i64 k] (kB k 5242880) := by
 refine Zv8 Zhb rfl (den_W ?_)
 unfold ZJ6 Zz6
 simp
 refine do_cf [] (Zyb n1 hn1 k (by omega) (by omega)) (by simp) (by simp) (by simp) ?_
 rintro q0 ⟨hq0, hr0⟩
 simp
 refine do_cf [] (ZSg n2 hn2 q0 (by omega) (by omega)) (by simp) (by simp) (by simp) ?_
 rintro q1 ⟨hq1, hr1⟩
 simp [kB, postH]
 omega
def ZO5 : L :=
 .seq (
 .reg [.bx 2 (.t 0),.mv 4 (.c (.int .i64 0))]) (
 .seq (
 .reg [.fa 5 (.t 2) 0,.ld 6 (.t 5) 2 true,.mv 7 (.t 1),.cf 8 Zi5 0 [(.t 6), (.t 7)],.mv 1 (.t 8)]) (
 .seq (
 .reg [.fa 9 (.t 2) 2,.ld 10 (.t 9) 1 false,.mv 11 (.t 1),.cf 12 Zv4 0 [(.t 10), (.t 11)],.mv 1 (.t 12)]) (
 .seq (
 .reg [.fa 13 (.t 2) 8,.ld 14 (.t 13) 1 false,.mv 15 (.t 1),.cf 16 Zl5 0 [(.t 14), (.t 15)],.mv 1 (.t 16)]) (
 .seq (
 .reg [.fa 17 (.t 2) 9,.ld 18 (.t 17) 1 false,.mv 19 (.t 1),.cf 20 Zj5 0 [(.t 18), (.t 19)],.mv 1 (.t 20)]) (
 .seq (
 .reg [.fa 21 (.t 2) 10,.ld 22 (.t 21) 1 false,.mv 23 (.t 1),.cf 24 Zm5 0 [(.t 22), (.t 23)],.mv 1 (.t 24)]) (
 .seq (
 .reg [.mv 25 (.t 1),.mv 4 (.t 25)]) (
 .ret)))))))
def Zy5 : List Rv := [.t 4]
theorem Zga : chkFn Tryz.prog Zu2 2 ZO5 Zy5 = true := by kernel_rfl
set_option maxRecDepth 10000 in
theorem ZRg (n1 n2 n3 n4 n5 n6 : Nat) (a b c d e : Int) (hn1 : n1 <= 1048576) (hn2 : n2 <= 1048576) (hn3 : n3 <= 1048576) (hn4 : n4 <= 1048576) (hn5 : n5 <= 1048576) (hn6 : n6 <= 1048576) (k : Int) (h0 : 0 <= k) (h1 : k <= 562949953421312) :
  Hav Tryz.prog Zu2 [.agg [.od 0 [.i .i64] n1, .od 0 [.i .i64, .i .i64, .i .i64, .i .i64] n2, .od 0 [.b] n3, .int .i64 a, .int .i64 b, .int .i64 c, .int .i64 d, .int .i64 e, .od 0 [.i .i64, .i .i64, .i .i64, .i .i64, .i .i64, .i .i64, .i .i64, .i .i64, .i .i64, .i .i64, .i .i64] n4, .od 0 [.i .i64, .i .i64, .i .i64, .i .i64, .i .i64, .i .i64, .i .i64, .i .i64, .i .i64, .i .i64, .i .i64, .i .i64, .l [.i .i64]] n5, .od 0 [.i .i64, .i .i64, .i .i64] n6], .int .i64 k] (kB k 1099545182208) := by
 refine Zv8 Zga rfl (den_W ?_)
 unfold ZO5 Zy5
 simp
 refine do_cf [] (Zei n1 n2 hn1 hn2 k (by omega) (by omega)) (by simp) (by simp) (by simp) ?_
 rintro q0 ⟨hq0, hr0⟩
 simp
 refine do_cf [] (ZUg n3 hn3 q0 (by omega) (by omega)) (by simp) (by simp) (by simp) ?_
 rintro q1 ⟨hq1, hr1⟩
 simp
 refine do_cf [] (Zhi n4 hn4 q1 (by omega) (by omega)) (by simp) (by simp) (by simp) ?_
 rintro q2 ⟨hq2, hr2⟩
 simp
 refine do_cf [] (Zfi n5 hn5 q2 (by omega) (by omega)) (by simp) (by simp) (by simp) ?_
 rintro q3 ⟨hq3, hr3⟩
 simp
 refine do_cf [] (Zii n6 hn6 q3 (by omega) (by omega)) (by simp) (by simp) (by simp) ?_
 rintro q4 ⟨hq4, hr4⟩
 simp [kB, postH]
 omega
@[simp] theorem ownt_IS (i : Nat) (l : List Int) : owntL i (l.map eI) = l.map eI := ZB3 (fun _ => rfl) l
@[simp] theorem ownt_SS (i : Nat) (l : List Str) : owntL i (l.map eS) = l.map eS := ZB3 (fun _ => rfl) l
@[simp] theorem ownt_BS (i : Nat) (l : List Int) : owntL i (l.map eB) = l.map eB := ZB3 (fun _ => rfl) l
@[simp] theorem ownt_BoS (i : Nat) (l : List Bool) : owntL i (l.map eBo) = l.map eBo := ZB3 (fun _ => rfl) l
@[simp] theorem ownt_NodeS (i : Nat) (l : List Node) : owntL i (l.map eNode) = l.map eNode := ZB3 (fun x => by simp) l
@[simp] theorem ownt_JobS (i : Nat) (l : List Job) : owntL i (l.map eJob) = l.map eJob := ZB3 (fun x => by simp) l
@[simp] theorem ownt_EndS (i : Nat) (l : List End) : owntL i (l.map eEnd) = l.map eEnd := ZB3 (fun x => by simp) l
@[simp] theorem ownt_RunT (i : Nat) (g : Tag) (l : List Run) : owntL i (l.map (eRunT g)) = l.map (eRunT (.own i)) := by
 refine Zai i _ _ (fun x => ?_) l
 simp
@[simp] theorem beq_10 : Nat.beq 1 0 = false := rfl
@[simp] theorem beq_01 : Nat.beq 0 1 = false := rfl
theorem ZQ9 {s : State} (hS : SizedS s) : Snd Tryz.prog ZC1 [Ze .rd s] (Ze .nw s) [] := Zfd (Zgd hS)
theorem ZXk {s : State} (hS : SizedS s) : Snd Tryz.prog Zt6 [Ze .rd s, Ze .rd s] (.bool true) [] := Ztd (ZVa hS)
def ZIk (s : State) : AV := .agg [.od 0 [.i .i64] s.topo.parents.length, .od 0 [.i .i64, .i .i64, .i .i64, .i .i64] s.topo.nodes.length, .od 0 [.b] s.up.length, .int .i64 s.lic.a, .int .i64 s.lic.b, .int .i64 s.lic.c, .int .i64 s.depth, .int .i64 s.now,
 .od 0 [.i .i64, .i .i64, .i .i64, .i .i64, .i .i64, .i .i64, .i .i64, .i .i64, .i .i64, .i .i64, .i .i64] s.queue.length, .od 0 [.i .i64, .i .i64, .i .i64, .i .i64, .i .i64, .i .i64, .i .i64, .i .i64, .i .i64, .i .i64, .i .i64, .i .i64, .l [.i .i64]] s.runs.length, .od 0 [.i .i64, .i .i64, .i .i64] s.ends.length]
theorem Z0j {s : State} (hS : SizedS s) (k : Int) (h0 : 0 <= k) (h1 : k <= 562949953421312) : Hav Tryz.prog Zu2 [ZIk s, .int .i64 k] (kB k 1099545182208) :=
 have := hS.jobs
 ZRg s.topo.parents.length s.topo.nodes.length s.up.length s.queue.length s.runs.length s.ends.length s.lic.a s.lic.b s.lic.c s.depth s.now hS.parents hS.nodes hS.up (by omega) (by omega) hS.ends k h0 h1
theorem hvState {s : State} (hS : SizedS s) (i : Nat) (k : Int) : hvLs i [Ze (.own i) s, .int .i64 k] [ZIk s, .int .i64 k] := by
  have := hS.jobs
  simp [ZIk]
  exact ⟨⟨_, _, _, ⟨rfl, rfl, rfl⟩, by simp, .inr hS.parents⟩, ⟨_, _, _, ⟨rfl, rfl, rfl⟩, by simp, .inr hS.nodes⟩, ⟨_, _, _, ⟨rfl, rfl, rfl⟩, by simp, .inr hS.up⟩, ⟨_, _, _, ⟨rfl, rfl, rfl⟩, by simp, .inr (by omega)⟩,
    ⟨_, _, _, ⟨rfl, rfl, rfl⟩, by simp, .inr ⟨by omega, fun x hx => .inr (hS.run x hx)⟩⟩, ⟨_, _, _, ⟨rfl, rfl, rfl⟩, by simp, .inr hS.ends⟩⟩
theorem Zcl {a : AV} (h : Zlg.okV a) : ∃ s, AE a (Ze .rd s) /\ Zba s := EncOf.okV_st ofState h
theorem ZNh (x : Str) : Snd Tryz.prog Zp3 [Zx8 .rd ⟨x, ⟨[], 0, 0⟩⟩, Zx8 .rd ⟨x, ⟨[], 0, 0⟩⟩] (.bool true) [] := by
 refine Z3f ?_
 have h : laws_eqByteS [] [] = some true := by
  unfold laws_eqByteS
  rw [Zg3, cond_false]
  exact Zoe (n := 0) (by omega) (fun i k hi => by omega) (fun k => rfl)
 unfold laws_eqPack laws_eqJournal
 simp [h]
theorem Zag (x : Str) (k : Int) (h0 : 0 <= k) : Snd Tryz.prog Zo3 [Zx8 .rd ⟨x, ⟨[], 0, 0⟩⟩, .int .i64 k] (.int .i64 k) [] := by
 refine Z2c ?_
 have h : laws_heldByteS [] k = some k := by
  unfold laws_heldByteS
  refine ZX7 (fun _ o => o = some k) (fun _ => 0) (fun b => b = (k, 0)) (fun b kk hb _ => ?_) 9223372036854775807 (k, 0) rfl (by decide)
  subst hb
  rfl
 have hk : ¬ k < 0 := by omega
 unfold laws_heldPack laws_heldJournal
 simp [h, hk]
def Z54 : L :=
 .seq (
 .reg [.bx 1 (.t 0),.mv 2 (.c (.bool false))]) (
 .seq (
 .reg [.mv 3 (.c (.int .i64 1048576))]) (
 .seq (
 .reg [.ld 14 (.t 1) 11 true,.mv 15 (.t 3),.cq 16 Zt9 [(.t 14), (.t 15)],.mv 3 (.t 16)]) (
 .seq (
 .seq (
 .reg [.mv 17 (.t 3),.bi 18 .lss (.t 17) (.c (.int .i64 0))]) (
 .cond (.t 18) (
  .seq (
  .reg [.mv 2 (.c (.bool true))]) (
  .ret)) (
  .skip))) (
 .seq (
 .reg [.ld 20 (.t 1) 11 true,.cq 21 ZC1 [(.t 20)],.cq 22 Zoa [(.t 21)],.mv 19 (.t 22),.ex 23 (.t 19) 0,.ex 24 (.t 19) 1,.al 4 [.str [], .nl, .int .i64 0, .int .i64 0],.st (.t 4) (.t 23) 4,.mv 5 (.t 24)]) (
 .seq (
 .reg [.ld 25 (.t 1) 11 true,.co 26 ZC1 [(.t 25)],.al 6 [.nl, .nl, .nl, .int .i64 0, .int .i64 0, .int .i64 0, .int .i64 0, .int .i64 0, .nl, .nl, .nl],.st (.t 6) (.t 26) 11]) (
 .seq (
 .reg [.ld 28 (.t 6) 11 true,.cq 29 Zv7 [(.t 28)],.mv 27 (.t 29),.ex 30 (.t 27) 0,.ex 31 (.t 27) 1,.al 7 [.str [], .nl, .int .i64 0, .int .i64 0],.st (.t 7) (.t 30) 4,.mv 8 (.t 31)]) (
 .seq (
 .seq (
 .reg [.ld 32 (.t 7) 4 true,.ld 33 (.t 4) 4 true,.cq 34 Zp3 [(.t 32), (.t 33)],.un 35 (.t 34),.mv 36 (.t 35),.g 36 false (.mv 37 (.t 8)),.g 36 false (.mv 38 (.t 5)),.g 36 false (.eb 39 true (.t 37) (.t 38)),.pk 40 (.t 36) (.c (.bool true)) (.t 39)]) (
 .cond (.t 40) (
  .seq (
  .reg [.mv 2 (.c (.bool false))]) (
  .ret)) (
  .skip))) (
 .seq (
 .seq (
 .rq 5 [.ld 41 (.t 6) 11 true,.ld 42 (.t 1) 11 true,.cq 43 ZC1 [(.t 42)],.cq 44 Zt6 [(.t 41), (.t 43)],.un 45 (.t 44)]) (
 .cond (.t 45) (
  .seq (
  .reg [.mv 2 (.c (.bool false))]) (
  .ret)) (
  .skip))) (
 .seq (
 .reg [.mv 9 (.c (.int .i64 1))]) (
 .seq (
 .reg [.ld 46 (.t 6) 11 true,.mv 47 (.t 9),.cf 48 Zu2 0 [(.t 46), (.t 47)],.mv 9 (.t 48)]) (
 .seq (
 .seq (
 .reg [.mv 49 (.t 9),.bi 50 .lss (.t 49) (.c (.int .i64 0)),.mv 51 (.t 50),.g 51 false (.ld 52 (.t 7) 4 true),.g 51 false (.ld 53 (.t 4) 4 true),.g 51 false (.cq 54 Zp3 [(.t 52), (.t 53)]),.g 51 false (.un 55 (.t 54)),.pk 56 (.t 51) (.c (.bool true)) (.t 55),.mv 57 (.t 56),.g 57 false (.mv 58 (.t 8)),.g 57 false (.mv 59 (.t 5)),.g 57 false (.eb 60 true (.t 58) (.t 59)),.pk 61 (.t 57) (.c (.bool true)) (.t 60)]) (
 .cond (.t 61) (
  .seq (
  .reg [.mv 2 (.c (.bool false))]) (
  .ret)) (
  .skip))) (
 .seq (
 .reg [.mv 10 (.c (.int .i64 1))]) (
 .seq (
 .reg [.ld 62 (.t 7) 4 true,.mv 63 (.t 10),.cf 64 Zk5 1 [(.t 62), (.t 63)],.mv 10 (.t 64)]) (
 .seq (
 .reg [.mv 11 (.c (.int .i64 1))]) (
 .seq (
 .reg [.ld 65 (.t 7) 4 true,.mv 66 (.t 11),.cq 67 Zo3 [(.t 65), (.t 66)],.mv 11 (.t 67)]) (
 .seq (
 .seq (
 .reg [.mv 68 (.t 11),.bi 69 .lss (.t 68) (.c (.int .i64 0))]) (
 .cond (.t 69) (
  .seq (
  .reg [.mv 2 (.c (.bool false))]) (
  .ret)) (
  .skip))) (
 .seq (
 .seq (
 .reg [.mv 70 (.t 11),.mv 71 (.t 10),.bi 72 .neq (.t 70) (.t 71)]) (
 .cond (.t 72) (
  .seq (
  .reg [.mv 2 (.c (.bool false))]) (
  .ret)) (
  .skip))) (
 .seq (
 .reg [.ld 74 (.t 1) 11 true,.cq 75 ZC1 [(.t 74)],.cq 76 Zv7 [(.t 75)],.mv 73 (.t 76),.ex 77 (.t 73) 0,.ex 78 (.t 73) 1,.al 12 [.str [], .nl, .int .i64 0, .int .i64 0],.st (.t 12) (.t 77) 4,.mv 13 (.t 78)]) (
 .seq (
 .seq (
 .reg [.ld 79 (.t 12) 4 true,.ld 80 (.t 4) 4 true,.cq 81 Zp3 [(.t 79), (.t 80)],.un 82 (.t 81),.mv 83 (.t 82),.g 83 false (.mv 84 (.t 13)),.g 83 false (.mv 85 (.t 5)),.g 83 false (.eb 86 true (.t 84) (.t 85)),.pk 87 (.t 83) (.c (.bool true)) (.t 86)]) (
 .cond (.t 87) (
  .seq (
  .reg [.mv 2 (.c (.bool false))]) (
  .ret)) (
  .skip))) (
 .seq (
 .reg [.mv 11 (.c (.int .i64 1))]) (
 .seq (
 .reg [.ld 88 (.t 7) 4 true,.mv 89 (.t 11),.cq 90 Zo3 [(.t 88), (.t 89)],.mv 11 (.t 90)]) (
 .seq (
 .seq (
 .reg [.mv 91 (.t 11),.bi 92 .lss (.t 91) (.c (.int .i64 0))]) (
 .cond (.t 92) (
  .seq (
  .reg [.mv 2 (.c (.bool false))]) (
  .ret)) (
  .skip))) (
 .seq (
 .seq (
 .reg [.mv 93 (.t 11),.mv 94 (.t 10),.bi 95 .neq (.t 93) (.t 94)]) (
 .cond (.t 95) (
  .seq (
  .reg [.mv 2 (.c (.bool false))]) (
  .ret)) (
  .skip))) (
 .seq (
 .reg [.mv 2 (.c (.bool true))]) (
 .ret)))))))))))))))))))))))))
def Z24 : List Rv := [.t 2]
theorem ZC8 : chkFn Tryz.prog Za1 1 Z54 Z24 = true := by kernel_rfl
set_option maxRecDepth 10000 in
set_option maxHeartbeats 1000000 in
theorem Zxe {s : State} (hf : Zba s) : Snd Tryz.prog Za1 [Ze .rd s] (.bool true) [] := by
 obtain ⟨r, h1, h2⟩ := Zod hf
 refine snd_by ZC8 rfl (by simp) (den_W ?_)
 unfold Z54 Z24
 simp
 refine do_cq (Znd h1) (by simp [St.args]) ?_
 simp
 intro hr
 have hS : SizedS s := h2.resolve_left (by omega)
 obtain ⟨x, b, q2, q1⟩ := Zdl hS.jobs
 refine do_cq (ZQ9 hS) (by simp [St.args]) ?_
 simp
 refine do_cq (ZHe q2) (by simp [St.args]) ?_
 simp
 refine do_co 0 (ZQ9 hS) (by simp [St.args]) (by simp) (by simp) ?_
 simp
 refine do_cq (Zj9 q1) (by simp [St.args]) ?_
 simp
 refine do_cq (ZNh x) (by simp [St.args]) ?_
 simp
 refine do_cq (ZQ9 hS) (by simp [St.args]) ?_
 simp
 refine do_cq (ZXk hS) (by simp [St.args]) ?_
 simp
 refine do_cf [] (Z0j hS 1 (by omega) (by omega)) (by simpa using hvState hS 0 1) (by simp) (by simp) ?_
 rintro k ⟨hk0, hk1⟩
 have hkn : ¬ k < 0 := by omega
 simp [hkn]
 refine do_cq (ZNh x) (by simp [St.args]) ?_
 simp
 refine do_cf [] (Zgi 0 (by omega) x 0 0 1 (by omega) (by omega)) (by simp; exact ⟨_, _, _, ⟨rfl, rfl, rfl⟩, rfl⟩) (by simp) (by simp) ?_
 rintro k2 ⟨hk2, hk3⟩
 have hkk : k2 = 1 := by omega
 subst hkk
 simp
 refine do_cq (Zag x 1 (by omega)) (by simp [St.args]) ?_
 simp
 refine do_cq (ZQ9 hS) (by simp [St.args]) ?_
 simp
 refine do_cq (Zj9 q1) (by simp [St.args]) ?_
 simp
 refine do_cq (ZNh x) (by simp [St.args]) ?_
 simp
 refine do_cq (Zag x 1 (by omega)) (by simp [St.args]) ?_
 simp
theorem Zzc (xs : List AV) (h : okVs [Zlg] xs) : Snd Tryz.prog Za1 xs (.bool true) [] := by
 obtain ⟨a, _, rfl, ha, rfl⟩ := h
 obtain ⟨s, ha, hf⟩ := Zcl ha
 exact (Zxe hf).wkS (.cons ha .nil)
end Go.Proofs.YtndemhaoilhbbaaGreat
