/-
  Lemmas, part 8: the engine that steps through the code, the walks of functions, and the laws of what they compute.
-/
import Derived.Test.YtndemhaoilhbbaaGreatDig7
namespace Go.Proofs.YtndemhaoilhbbaaGreat
open Go Go.RowKit Eng
def ir_spec_ProfOk : L :=
.seq (.reg [.bx 1 (.t 0),.mv 2 (.c (.bool false))])
 (.seq (.seq (.reg [.fa 5 (.t 1) 0,.ld 6 (.t 5) 1 false,.ln 7 (.t 6),.bi 8 .lss (.t 7) (.c (.int .i64 1)),.mv 9 (.t 8),.g 9 false (.fa 10 (.t 1) 0),.g 9 false (.ld 11 (.t 10) 1 false),.g 9 false (.ln 12 (.t 11)),.g 9 false (.bi 13 .gtr (.t 12) (.c (.int .i64 200))),.pk 14 (.t 9) (.c (.bool true)) (.t 13),.mv 15 (.t 14),.g 15 false (.fa 16 (.t 1) 0),.g 15 false (.ld 17 (.t 16) 1 false),.g 15 false (.ia 18 (.t 17) (.c (.int .i64 0)) 4),.g 15 false (.fa 19 (.t 18) 0),.g 15 false (.ld 20 (.t 19) 1 false),.g 15 false (.bi 21 .neq (.t 20) (.c (.int .i64 0))),.pk 22 (.t 15) (.c (.bool true)) (.t 21)])
 (.cond (.t 22) (.seq (.reg [.mv 2 (.c (.bool false))])
 (.gw (.ret)))
 (.skip)))
 (.seq (.seq (.reg [.fa 23 (.t 1) 0,.ld 24 (.t 23) 1 false,.ln 25 (.t 24),.mv 26 (.c (.int .i64 0))])
 (.blk 0 (.loop (.gw (.seq (.reg [.bi 27 .lss (.t 26) (.t 25)])
 (.seq (.cond (.t 27) (.skip)
 (.exit 0))
 (.seq (.blk 1 (.seq (.reg [.mv 28 (.t 26),.ia 29 (.t 24) (.t 26) 4,.ld 30 (.t 29) 4 true,.al 4 [.int .i64 0, .int .i64 0, .int .i64 0, .int .i64 0],.mv 3 (.t 28),.st (.t 4) (.t 30) 4])
 (.seq (.rq 38 [.fa 31 (.t 4) 0,.ld 32 (.t 31) 1 false,.cq 33 F.spec_l01Time [(.t 32)],.un 34 (.t 33),.mv 35 (.t 34),.g 35 false (.fa 36 (.t 4) 1),.g 35 false (.ld 37 (.t 36) 3 true),.g 35 false (.cq 38 F.spec_VecOk [(.t 37)]),.g 35 false (.un 39 (.t 38)),.pk 40 (.t 35) (.c (.bool true)) (.t 39),.mv 41 (.t 40),.g 41 false (.mv 42 (.t 3)),.g 41 false (.bi 43 .gtr (.t 42) (.c (.int .i64 0))),.g 41 false (.mv 44 (.t 43)),.g 44 true (.fa 45 (.t 1) 0),.g 44 true (.ld 46 (.t 45) 1 false),.g 44 true (.mv 47 (.t 3)),.g 44 true (.bi 48 .sub (.t 47) (.c (.int .i64 1))),.g 44 true (.ia 49 (.t 46) (.t 48) 4),.g 44 true (.fa 50 (.t 49) 0),.g 44 true (.ld 51 (.t 50) 1 false),.g 44 true (.fa 52 (.t 4) 0),.g 44 true (.ld 53 (.t 52) 1 false),.g 44 true (.bi 54 .geq (.t 51) (.t 53)),.g 44 true (.mv 55 (.t 54)),.g 55 false (.fa 56 (.t 1) 0),.g 55 false (.ld 57 (.t 56) 1 false),.g 55 false (.mv 58 (.t 3)),.g 55 false (.bi 59 .sub (.t 58) (.c (.int .i64 1))),.g 55 false (.ia 60 (.t 57) (.t 59) 4),.g 55 false (.fa 61 (.t 60) 1),.g 55 false (.ld 62 (.t 61) 3 true),.g 55 false (.fa 63 (.t 4) 1),.g 55 false (.ld 64 (.t 63) 3 true),.g 55 false (.es 65 false [0, 0, 0] (.t 62) (.t 64)),.g 44 true (.pk 66 (.t 55) (.c (.bool true)) (.t 65)),.g 41 false (.pk 67 (.t 44) (.t 66) (.c (.bool false))),.pk 68 (.t 41) (.c (.bool true)) (.t 67)])
 (.cond (.t 68) (.seq (.reg [.mv 2 (.c (.bool false))])
 (.gw (.ret)))
 (.skip)))))
 (.reg [.bi 69 .add (.t 26) (.c (.int .i64 1)),.mv 26 (.t 69)]))))))))
 (.seq (.reg [.mv 2 (.c (.bool true))])
 (.gw (.ret)))))
def rs_spec_ProfOk : List Rv := [.t 2]
theorem ck_spec_ProfOk : chkFn Tryz.prog F.spec_ProfOk 1 ir_spec_ProfOk rs_spec_ProfOk = true := by kernel_rfl
def spec_ProfOk_b27 (p1 : List Pt) (x5 : Pt) (i5 : Nat) (_ : Unit) (k5 : Unit → Option Bool) : Option Bool :=
 (bif ((!(spec_l01Time x5.t)) || (!(spec_VecOk x5.free))) then some default else (bif (decide (0 < (i5 : Int))) then (idx p1 (w64 ((i5 : Int) - 1))) else some default)).bind fun e6 => (bif ((!(spec_l01Time x5.t)) || (!(spec_VecOk x5.free))) then some default else (bif (decide (0 < (i5 : Int))) then (bif (decide (x5.t ≤ e6.t)) then some default else (idx p1 (w64 ((i5 : Int) - 1)))) else some default)).bind fun e7 => bif (((!(spec_l01Time x5.t)) || (!(spec_VecOk x5.free))) || ((decide (0 < (i5 : Int))) && ((decide (x5.t ≤ e6.t)) || (e7.free.a == x5.free.a && (e7.free.b == x5.free.b && (e7.free.c == x5.free.c && true)))))) then (some false) else (k5 ())
def spec_ProfOk_k27 (_ : Unit) : Option Bool :=
 some true
def spec_ProfOk (p1 : List Pt) : Option Bool :=
 (bif ((decide ((p1.length : Int) < 1)) || (decide (200 < (p1.length : Int)))) then some default else (idx p1 0)).bind fun e2 => bif (((decide ((p1.length : Int) < 1)) || (decide (200 < (p1.length : Int)))) || (e2.t != 0)) then (some false) else (rgl (spec_ProfOk_b27 p1) spec_ProfOk_k27 p1 0 ())
theorem spec_ProfOk_ok {p1 : List Pt} {r : Bool} (H : spec_ProfOk p1 = some r) : Snd Tryz.prog F.spec_ProfOk [.agg [.sl .rd 4 (p1.map ePt)]] (.bool r) [] := by
 refine snd_g ck_spec_ProfOk rfl (by simp) ?_
 unfold spec_ProfOk at H
 obtain ⟨e2, h2, H⟩ := bB H
 refine Wh_go 99 [.u 7 (.ln _ _ fun _ => lm p1 ePt), .g 12 [((decide ((p1.length : Int) < 1)), false)] (.ln _ _ fun _ => lm p1 ePt), .g 18 [(_, false)] (.ix _ _ _ fun q => idx_map ePt (bF q.1 h2))] (by kernel_rfl) fun q3 => ?_
 refine Wh_iH H (fun H => ?_) fun H => ?_
 ·refine Wh_o fun _ => ?_
  replace H := sI H; subst H
  exact Wh_end [(2, .d)] [] [] [] [] [] (by kernel_rfl)
 ·refine Wh_go 99 [.u 25 (.ln _ _ fun _ => lm p1 ePt)] (by kernel_rfl) fun q4 => ?_
  refine Wh_rgl (fun (i5 : Nat) (v5 : Unit) => ⟨[(1, .ptr 1 0), (24, .sl .rd 4 (p1.map ePt)), (25, .int .i64 (p1.length : Int)), (26, .int .i64 (i5 : Int))], [], [(1, [.sl .rd 4 (p1.map ePt)])], []⟩) [] [] [] [] (by kernel_rfl) (by kernel_rfl) H (fun i5 x5 v5 I m k5 hxv5 hiv5 H N27 => ?_) (fun v5 I m H => ?_)
  ·unfold spec_ProfOk_b27 at H
   refine Wh_o fun _ => ?_
   refine Wh_ifT (ltT hiv5) (by kernel_rfl) ?_
   obtain ⟨e6, h6, H⟩ := bB H
   obtain ⟨e7, h7, H⟩ := bB H
   refine Wh_go 99 [.u 29 (.ix _ _ _ fun _ => idx_map ePt (idx_nat hxv5)), .c 33 (spec_l01Time_ok x5.t), .g 38 [((!(spec_l01Time x5.t)), false)] (.call _ _ _ _ _ (AEs.refl _) (fun _ => spec_VecOk_ok x5.free)), .g 49 [(_, true), (_, false)] (.ix _ _ _ fun q => idx_map ePt (bT q.1 (bF q.2.1 h6))), .g 60 [(_, false), (_, true), (_, false)] (.ix _ _ _ fun q => idx_map ePt (bF q.1 (bT q.2.1 (bF q.2.2.1 h7))))] (by kernel_rfl) fun _ => ?_
   refine Wh_iH H (fun H => ?_) fun H => ?_
   ·refine Wh_o fun _ => ?_
    replace H := sI H; subst H
    exact Wh_end [(2, .d)] [] [] [] [] [] (by kernel_rfl)
   ·refine Wh_go 99 [.w 69 (wi .i64 rfl hiv5 q3.1)] (by kernel_rfl) fun _ => ?_
    exact Wh_to (N27 () H) [] [] [] [] (by kernel_rfl) (by kernel_rfl)
  ·unfold spec_ProfOk_k27 at H
   refine Wh_o fun _ => ?_
   refine Wh_ifF (ltF p1.length) (by kernel_rfl) ?_
   refine Wh_o fun _ => ?_
   replace H := sI H; subst H
   exact Wh_end [(2, .d)] [] [] [] [] [] (by kernel_rfl)
def ir_spec_ProfNew : L :=
.seq (.reg [.bx 1 (.t 0),.al 2 [.nl],.mv 3 (.c (.bool false))])
 (.seq (.seq (.reg [.ld 4 (.t 1) 3 true,.cq 5 F.spec_VecOk [(.t 4)],.un 6 (.t 5)])
 (.cond (.t 6) (.seq (.reg [.bd 7 [.nl] [],.st (.t 2) (.t 7) 1,.mv 3 (.c (.bool false))])
 (.gw (.ret)))
 (.skip)))
 (.seq (.reg [.ld 8 (.t 1) 3 true,.bd 9 [.int .i64 0, .int .i64 0, .int .i64 0, .int .i64 0] [(1, 3, (.t 8))],.bs 10 4 [(.t 9)] true,.bd 11 [.nl] [(0, 1, (.t 10))],.st (.t 2) (.t 11) 1,.mv 3 (.c (.bool true))])
 (.gw (.ret))))
def rs_spec_ProfNew : List Rv := [.c 2 1 true, .t 3]
theorem ck_spec_ProfNew : chkFn Tryz.prog F.spec_ProfNew 1 ir_spec_ProfNew rs_spec_ProfNew = true := by kernel_rfl
def spec_ProfNew_o (v1 : Vec) : Option ((List Pt) × Bool) :=
 bif (!(spec_VecOk v1)) then (some ([], false)) else (some ([(Pt.mk 0 v1)], true))
theorem spec_ProfNew_o_ok {v1 : Vec} {r : (List Pt) × Bool} (H : spec_ProfNew_o v1 = some r) : Snd Tryz.prog F.spec_ProfNew [eVec v1] (.tup [eProfT .nw r.1, .bool r.2]) [] := by
 refine snd_g ck_spec_ProfNew rfl (by simp) ?_
 unfold spec_ProfNew_o at H
 refine Wh_go 99 [.c 5 (spec_VecOk_ok v1)] (by kernel_rfl) fun _ => ?_
 refine Wh_iH H (fun H => ?_) fun H => ?_
 ·refine Wh_o fun _ => ?_
  replace H := sI H; subst H
  exact Wh_end [(2, .d), (3, .d)] [(2, [.n 4])] [] [] [] [⟨_, nw_Pt ([] : List Pt)⟩] (by kernel_rfl)
 ·refine Wh_o fun _ => ?_
  replace H := sI H; subst H
  exact Wh_end [(2, .d), (3, .d)] [(2, [.f])] [] [10] [] [⟨_, nw_Pt [(Pt.mk 0 v1)]⟩] (by kernel_rfl)
def spec_ProfNew (v1 : Vec) : (List Pt) × Bool :=
 bif (!(spec_VecOk v1)) then (([], false)) else (([(Pt.mk 0 v1)], true))
theorem spec_ProfNew_e (v1 : Vec) : spec_ProfNew_o v1 = some (spec_ProfNew v1) := by
 unfold spec_ProfNew_o spec_ProfNew
 first | rfl | simp only [bif_some]
theorem spec_ProfNew_ok (v1 : Vec) : Snd Tryz.prog F.spec_ProfNew [eVec v1] (.tup [eProfT .nw ((spec_ProfNew v1).1), .bool ((spec_ProfNew v1).2)]) [] := spec_ProfNew_o_ok (spec_ProfNew_e v1)
def ir_spec_l03At : L :=
.seq (.reg [.bx 2 (.t 0),.al 4 [.int .i64 0, .int .i64 0, .int .i64 0]])
 (.seq (.reg [.bd 8 [.int .i64 0, .int .i64 0, .int .i64 0] [],.al 5 [.int .i64 0, .int .i64 0, .int .i64 0],.st (.t 5) (.t 8) 3])
 (.seq (.seq (.reg [.fa 9 (.t 2) 0,.ld 10 (.t 9) 1 false,.ln 11 (.t 10),.mv 12 (.c (.int .i64 0))])
 (.blk 0 (.loop (.gw (.seq (.reg [.bi 13 .lss (.t 12) (.t 11)])
 (.seq (.cond (.t 13) (.skip)
 (.exit 0))
 (.seq (.blk 1 (.seq (.reg [.ia 14 (.t 10) (.t 12) 4,.ld 15 (.t 14) 4 true,.al 7 [.int .i64 0, .int .i64 0, .int .i64 0, .int .i64 0],.st (.t 7) (.t 15) 4])
 (.seq (.reg [.fa 16 (.t 7) 0,.ld 17 (.t 16) 1 false,.mv 18 (.t 1),.bi 19 .leq (.t 17) (.t 18)])
 (.cond (.t 19) (.reg [.fa 20 (.t 7) 1,.ld 21 (.t 20) 3 true,.st (.t 5) (.t 21) 3])
 (.skip)))))
 (.reg [.bi 22 .add (.t 12) (.c (.int .i64 1)),.mv 12 (.t 22)]))))))))
 (.seq (.reg [.ld 23 (.t 5) 3 true,.st (.t 4) (.t 23) 3])
 (.gw (.ret)))))
def rs_spec_l03At : List Rv := [.c 4 3 true]
theorem ck_spec_l03At : chkFn Tryz.prog F.spec_l03At 2 ir_spec_l03At rs_spec_l03At = true := by kernel_rfl
def spec_l03At_b19 (t2 : Int) (x4 : Pt) (_ : Nat) (v4 : Vec) (k4 : Vec → Option Vec) : Option Vec :=
 bif (decide (x4.t ≤ t2)) then (k4 x4.free) else (k4 v4)
def spec_l03At_k19 (v4 : Vec) : Option Vec :=
 some v4
def spec_l03At (p1 : List Pt) (t2 : Int) : Option Vec :=
 rgl (spec_l03At_b19 t2) spec_l03At_k19 p1 0 (Vec.mk 0 0 0)
theorem spec_l03At_ok {p1 : List Pt} {t2 : Int} {r : Vec} (H : spec_l03At p1 t2 = some r) : Snd Tryz.prog F.spec_l03At [.agg [.sl .rd 4 (p1.map ePt)], .int .i64 t2] (eVec r) [] := by
 refine snd_g ck_spec_l03At rfl (by simp) ?_
 unfold spec_l03At at H
 refine Wh_go 99 [.u 11 (.ln _ _ fun _ => lm p1 ePt)] (by kernel_rfl) fun q3 => ?_
 refine Wh_rgl (fun (i4 : Nat) (v4 : Vec) => ⟨[(1, .int .i64 t2), (4, .ptr 4 0), (5, .ptr 5 0), (10, .sl .rd 4 (p1.map ePt)), (11, .int .i64 (p1.length : Int)), (12, .int .i64 (i4 : Int))], [], [(4, (eVec (Vec.mk 0 0 0)).cells), (5, (eVec v4).cells)], []⟩) [] [] [] [] (by kernel_rfl) (by kernel_rfl) H (fun i4 x4 v4 I m k4 hxv4 hiv4 H N19 => ?_) (fun v4 I m H => ?_)
 ·unfold spec_l03At_b19 at H
  refine Wh_o fun _ => ?_
  refine Wh_ifT (ltT hiv4) (by kernel_rfl) ?_
  refine Wh_go 99 [.u 14 (.ix _ _ _ fun _ => idx_map ePt (idx_nat hxv4))] (by kernel_rfl) fun _ => ?_
  refine Wh_iH H (fun H => ?_) fun H => ?_
  ·refine Wh_go 99 [.w 22 (wi .i64 rfl hiv4 q3.1)] (by kernel_rfl) fun _ => ?_
   exact Wh_to (N19 _ H) [] [] [] [] (by kernel_rfl) (by kernel_rfl)
  ·refine Wh_go 99 [.w 22 (wi .i64 rfl hiv4 q3.1)] (by kernel_rfl) fun _ => ?_
   exact Wh_to (N19 _ H) [] [] [] [] (by kernel_rfl) (by kernel_rfl)
 ·unfold spec_l03At_k19 at H
  refine Wh_o fun _ => ?_
  refine Wh_ifF (ltF p1.length) (by kernel_rfl) ?_
  refine Wh_o fun _ => ?_
  replace H := sI H; subst H
  exact Wh_end [(4, .d)] [(4, [])] [] [] [] [] (by kernel_rfl)
def ir_spec_ProfMin : L :=
.seq (.reg [.bx 3 (.t 0),.al 6 [.int .i64 0, .int .i64 0, .int .i64 0],.mv 7 (.c (.bool false))])
 (.seq (.seq (.reg [.ld 11 (.t 3) 1 true,.cq 12 F.spec_ProfOk [(.t 11)],.un 13 (.t 12),.mv 14 (.t 13),.g 14 false (.mv 15 (.t 1)),.g 14 false (.cq 16 F.spec_l01Time [(.t 15)]),.g 14 false (.un 17 (.t 16)),.pk 18 (.t 14) (.c (.bool true)) (.t 17),.mv 19 (.t 18),.g 19 false (.mv 20 (.t 2)),.g 19 false (.cq 21 F.spec_l01Time [(.t 20)]),.g 19 false (.un 22 (.t 21)),.pk 23 (.t 19) (.c (.bool true)) (.t 22),.mv 24 (.t 23),.g 24 false (.mv 25 (.t 1)),.g 24 false (.mv 26 (.t 2)),.g 24 false (.bi 27 .geq (.t 25) (.t 26)),.pk 28 (.t 24) (.c (.bool true)) (.t 27)])
 (.cond (.t 28) (.seq (.reg [.bd 29 [.int .i64 0, .int .i64 0, .int .i64 0] [],.st (.t 6) (.t 29) 3,.mv 7 (.c (.bool false))])
 (.gw (.ret)))
 (.skip)))
 (.seq (.reg [.ld 30 (.t 3) 1 true,.mv 31 (.t 1),.cq 32 F.spec_l03At [(.t 30), (.t 31)],.al 8 [.int .i64 0, .int .i64 0, .int .i64 0],.st (.t 8) (.t 32) 3])
 (.seq (.seq (.reg [.fa 33 (.t 3) 0,.ld 34 (.t 33) 1 false,.ln 35 (.t 34),.mv 36 (.c (.int .i64 0))])
 (.blk 0 (.loop (.gw (.seq (.reg [.bi 37 .lss (.t 36) (.t 35)])
 (.seq (.cond (.t 37) (.skip)
 (.exit 0))
 (.seq (.blk 1 (.seq (.reg [.ia 38 (.t 34) (.t 36) 4,.ld 39 (.t 38) 4 true,.al 10 [.int .i64 0, .int .i64 0, .int .i64 0, .int .i64 0],.st (.t 10) (.t 39) 4])
 (.seq (.reg [.fa 40 (.t 10) 0,.ld 41 (.t 40) 1 false,.mv 42 (.t 1),.bi 43 .geq (.t 41) (.t 42),.mv 44 (.t 43),.g 44 true (.fa 45 (.t 10) 0),.g 44 true (.ld 46 (.t 45) 1 false),.g 44 true (.mv 47 (.t 2)),.g 44 true (.bi 48 .lss (.t 46) (.t 47)),.pk 49 (.t 44) (.t 48) (.c (.bool false))])
 (.cond (.t 49) (.reg [.ld 50 (.t 8) 3 true,.fa 51 (.t 10) 1,.ld 52 (.t 51) 3 true,.cq 53 F.spec_VecMin [(.t 50), (.t 52)],.st (.t 8) (.t 53) 3])
 (.skip)))))
 (.reg [.bi 54 .add (.t 36) (.c (.int .i64 1)),.mv 36 (.t 54)]))))))))
 (.seq (.reg [.ld 55 (.t 8) 3 true,.st (.t 6) (.t 55) 3,.mv 7 (.c (.bool true))])
 (.gw (.ret))))))
def rs_spec_ProfMin : List Rv := [.c 6 3 true, .t 7]
theorem ck_spec_ProfMin : chkFn Tryz.prog F.spec_ProfMin 3 ir_spec_ProfMin rs_spec_ProfMin = true := by kernel_rfl
def spec_ProfMin_b26 (from2 : Int) (to3 : Int) (x7 : Pt) (_ : Nat) (v7 : Vec) (k7 : Vec → Option (Vec × Bool)) : Option (Vec × Bool) :=
 bif ((decide (from2 ≤ x7.t)) && (decide (x7.t < to3))) then (k7 (spec_VecMin v7 x7.free)) else (k7 v7)
def spec_ProfMin_k26 (v7 : Vec) : Option (Vec × Bool) :=
 some (v7, true)
def spec_ProfMin (p1 : List Pt) (from2 : Int) (to3 : Int) : Option (Vec × Bool) :=
 (spec_ProfOk p1).bind fun b4 => bif ((((!b4) || (!(spec_l01Time from2))) || (!(spec_l01Time to3))) || (decide (to3 ≤ from2))) then (some ((Vec.mk 0 0 0), false)) else ((spec_l03At p1 from2).bind fun y5 => rgl (spec_ProfMin_b26 from2 to3) spec_ProfMin_k26 p1 0 y5)
theorem spec_ProfMin_ok {p1 : List Pt} {from2 : Int} {to3 : Int} {r : Vec × Bool} (H : spec_ProfMin p1 from2 to3 = some r) : Snd Tryz.prog F.spec_ProfMin [.agg [.sl .rd 4 (p1.map ePt)], .int .i64 from2, .int .i64 to3] (.tup [eVec r.1, .bool r.2]) [] := by
 refine snd_g ck_spec_ProfMin rfl (by simp) ?_
 unfold spec_ProfMin at H
 obtain ⟨b4, h4, H⟩ := bB H
 refine Wh_go 99 [.c 12 (spec_ProfOk_ok h4), .g 16 [((!b4), false)] (.call _ _ _ _ _ (AEs.refl _) (fun _ => spec_l01Time_ok from2)), .g 21 [(((!b4) || (!(spec_l01Time from2))), false)] (.call _ _ _ _ _ (AEs.refl _) (fun _ => spec_l01Time_ok to3))] (by kernel_rfl) fun _ => ?_
 refine Wh_iH H (fun H => ?_) fun H => ?_
 ·refine Wh_o fun _ => ?_
  replace H := sI H; subst H
  exact Wh_end [(6, .d), (7, .d)] [(6, [])] [] [] [] [] (by kernel_rfl)
 ·obtain ⟨y5, h5, H⟩ := bB H
  refine Wh_go 99 [.c 32 (spec_l03At_ok h5), .u 35 (.ln _ _ fun _ => lm p1 ePt)] (by kernel_rfl) fun q6 => ?_
  refine Wh_rgl (fun (i7 : Nat) (v7 : Vec) => ⟨[(1, .int .i64 from2), (2, .int .i64 to3), (6, .ptr 6 0), (8, .ptr 8 0), (34, .sl .rd 4 (p1.map ePt)), (35, .int .i64 (p1.length : Int)), (36, .int .i64 (i7 : Int))], [], [(6, (eVec (Vec.mk 0 0 0)).cells), (8, (eVec v7).cells)], []⟩) [] [] [] [] (by kernel_rfl) (by kernel_rfl) H (fun i7 x7 v7 I m k7 hxv7 hiv7 H N26 => ?_) (fun v7 I m H => ?_)
  ·unfold spec_ProfMin_b26 at H
   refine Wh_o fun _ => ?_
   refine Wh_ifT (ltT hiv7) (by kernel_rfl) ?_
   refine Wh_go 99 [.u 38 (.ix _ _ _ fun _ => idx_map ePt (idx_nat hxv7))] (by kernel_rfl) fun _ => ?_
   refine Wh_iH H (fun H => ?_) fun H => ?_
   ·refine Wh_go 99 [.c 53 (spec_VecMin_ok v7 x7.free), .w 54 (wi .i64 rfl hiv7 q6.1)] (by kernel_rfl) fun _ => ?_
    exact Wh_to (N26 _ H) [] [] [] [] (by kernel_rfl) (by kernel_rfl)
   ·refine Wh_go 99 [.w 54 (wi .i64 rfl hiv7 q6.1)] (by kernel_rfl) fun _ => ?_
    exact Wh_to (N26 _ H) [] [] [] [] (by kernel_rfl) (by kernel_rfl)
  ·unfold spec_ProfMin_k26 at H
   refine Wh_o fun _ => ?_
   refine Wh_ifF (ltF p1.length) (by kernel_rfl) ?_
   refine Wh_o fun _ => ?_
   replace H := sI H; subst H
   exact Wh_end [(6, .d), (7, .d)] [(6, [])] [] [] [] [] (by kernel_rfl)
def ir_spec_l03Times : L :=
.seq (.reg [.bx 3 (.t 0),.mv 6 (.c (.nl))])
 (.seq (.reg [.bs 16 1 [] true,.mv 7 (.t 16)])
 (.seq (.seq (.reg [.fa 17 (.t 3) 0,.ld 18 (.t 17) 1 false,.ln 19 (.t 18),.mv 20 (.c (.int .i64 0))])
 (.blk 0 (.loop (.gw (.seq (.reg [.bi 21 .lss (.t 20) (.t 19)])
 (.seq (.cond (.t 21) (.skip)
 (.exit 0))
 (.seq (.blk 1 (.seq (.reg [.ia 22 (.t 18) (.t 20) 4,.ld 23 (.t 22) 4 true,.al 9 [.int .i64 0, .int .i64 0, .int .i64 0, .int .i64 0],.st (.t 9) (.t 23) 4])
 (.reg [.mv 24 (.t 7),.fa 25 (.t 9) 0,.ld 26 (.t 25) 1 false,.bs 27 1 [(.t 26)] false,.ap 28 (.t 24) (.t 27) 1 8,.mv 7 (.t 28)])))
 (.reg [.bi 29 .add (.t 20) (.c (.int .i64 1)),.mv 20 (.t 29)]))))))))
 (.seq (.seq (.reg [.mv 30 (.t 1),.mv 31 (.t 2),.bs 32 1 [(.t 30), (.t 31)] false,.ln 33 (.t 32),.mv 34 (.c (.int .i64 0))])
 (.blk 2 (.loop (.gw (.seq (.reg [.bi 35 .lss (.t 34) (.t 33)])
 (.seq (.cond (.t 35) (.skip)
 (.exit 2))
 (.seq (.blk 3 (.seq (.reg [.ia 36 (.t 32) (.t 34) 1,.ld 37 (.t 36) 1 false,.mv 11 (.t 37)])
 (.seq (.reg [.bs 38 1 [] true,.mv 12 (.t 38)])
 (.seq (.reg [.mv 13 (.c (.bool false))])
 (.seq (.seq (.reg [.mv 39 (.t 7),.ln 40 (.t 39),.mv 41 (.c (.int .i64 0))])
 (.blk 4 (.loop (.gw (.seq (.reg [.bi 42 .lss (.t 41) (.t 40)])
 (.seq (.cond (.t 42) (.skip)
 (.exit 4))
 (.seq (.blk 5 (.seq (.reg [.ia 43 (.t 39) (.t 41) 1,.ld 44 (.t 43) 1 false,.mv 15 (.t 44)])
 (.seq (.seq (.reg [.mv 45 (.t 13),.un 46 (.t 45),.mv 47 (.t 46),.g 47 true (.mv 48 (.t 11)),.g 47 true (.mv 49 (.t 15)),.g 47 true (.bi 50 .leq (.t 48) (.t 49)),.pk 51 (.t 47) (.t 50) (.c (.bool false))])
 (.cond (.t 51) (.seq (.reg [.mv 52 (.t 12),.mv 53 (.t 11),.bs 54 1 [(.t 53)] false,.ap 55 (.t 52) (.t 54) 1 8,.mv 12 (.t 55)])
 (.reg [.mv 13 (.c (.bool true))]))
 (.skip)))
 (.gw (.seq (.reg [.mv 56 (.t 15),.mv 57 (.t 11),.bi 58 .neq (.t 56) (.t 57)])
 (.cond (.t 58) (.reg [.mv 59 (.t 12),.mv 60 (.t 15),.bs 61 1 [(.t 60)] false,.ap 62 (.t 59) (.t 61) 1 8,.mv 12 (.t 62)])
 (.skip)))))))
 (.reg [.bi 63 .add (.t 41) (.c (.int .i64 1)),.mv 41 (.t 63)]))))))))
 (.seq (.seq (.reg [.mv 64 (.t 13),.un 65 (.t 64)])
 (.cond (.t 65) (.reg [.mv 66 (.t 12),.mv 67 (.t 11),.bs 68 1 [(.t 67)] false,.ap 69 (.t 66) (.t 68) 1 8,.mv 12 (.t 69)])
 (.skip)))
 (.reg [.mv 70 (.t 12),.mv 7 (.t 70)])))))))
 (.reg [.bi 71 .add (.t 34) (.c (.int .i64 1)),.mv 34 (.t 71)]))))))))
 (.seq (.reg [.mv 72 (.t 7),.mv 6 (.t 72)])
 (.gw (.ret))))))
def rs_spec_l03Times : List Rv := [.t 6]
theorem ck_spec_l03Times : chkFn Tryz.prog F.spec_l03Times 3 ir_spec_l03Times rs_spec_l03Times = true := by kernel_rfl
def spec_l03Times_j43 (x8 : Int) (x10 : Int) (k10 : (Bool × (List Int)) → Option (List Int)) (v12 : Bool × (List Int)) : Option (List Int) :=
 bif (x10 != x8) then ((appL 8 v12.2 [x10]).bind fun xs13 => k10 (v12.1, xs13)) else (k10 (v12.1, v12.2))
def spec_l03Times_b51 (x8 : Int) (x10 : Int) (_ : Nat) (v10 : Bool × (List Int)) (k10 : (Bool × (List Int)) → Option (List Int)) : Option (List Int) :=
 bif ((!v10.1) && (decide (x8 ≤ x10))) then ((appL 8 v10.2 [x8]).bind fun xs11 => (spec_l03Times_j43 x8 x10 k10) (true, xs11)) else ((spec_l03Times_j43 x8 x10 k10) (v10.1, v10.2))
def spec_l03Times_k51 (x8 : Int) (k8 : (List Int) → Option (List Int)) (v10 : Bool × (List Int)) : Option (List Int) :=
 bif (!v10.1) then ((appL 8 v10.2 [x8]).bind fun xs14 => k8 xs14) else (k8 v10.2)
def spec_l03Times_b70 (x8 : Int) (_ : Nat) (v8 : (List Int)) (k8 : (List Int) → Option (List Int)) : Option (List Int) :=
 rgl (spec_l03Times_b51 x8) (spec_l03Times_k51 x8 k8) v8 0 (false, [])
def spec_l03Times_k70 (v8 : (List Int)) : Option (List Int) :=
 some v8
def spec_l03Times_b15 (x5 : Pt) (_ : Nat) (v5 : (List Int)) (k5 : (List Int) → Option (List Int)) : Option (List Int) :=
 (appL 8 v5 [x5.t]).bind fun xs6 => k5 xs6
def spec_l03Times_k15 (from2 : Int) (to3 : Int) (v5 : (List Int)) : Option (List Int) :=
 rgl spec_l03Times_b70 spec_l03Times_k70 [from2, to3] 0 v5
def spec_l03Times (p1 : List Pt) (from2 : Int) (to3 : Int) : Option (List Int) :=
 rgl spec_l03Times_b15 (spec_l03Times_k15 from2 to3) p1 0 []
theorem spec_l03Times_ok {p1 : List Pt} {from2 : Int} {to3 : Int} {r : (List Int)} (H : spec_l03Times p1 from2 to3 = some r) : Snd Tryz.prog F.spec_l03Times [.agg [.sl .rd 4 (p1.map ePt)], .int .i64 from2, .int .i64 to3] (.sl .nw 1 (r.map eI)) [] := by
 refine snd_g ck_spec_l03Times rfl (by simp) ?_
 unfold spec_l03Times at H
 refine Wh_go 99 [.u 19 (.ln _ _ fun _ => lm p1 ePt)] (by kernel_rfl) fun q4 => ?_
 refine Wh_rgl (fun (i5 : Nat) (v5 : (List Int)) => ⟨[(1, .int .i64 from2), (2, .int .i64 to3), (7, .sref 16), (18, .sl .rd 4 (p1.map ePt)), (19, .int .i64 (p1.length : Int)), (20, .int .i64 (i5 : Int))], [], [], [(16, ⟨1, v5.map eI, false⟩)]⟩) [] [] [] [] (by kernel_rfl) (by kernel_rfl) H (fun i5 x5 v5 I m k5 hxv5 hiv5 H N15 => ?_) (fun v5 I m H => ?_)
 ·unfold spec_l03Times_b15 at H
  refine Wh_o fun _ => ?_
  refine Wh_ifT (ltT hiv5) (by kernel_rfl) ?_
  obtain ⟨xs6, h6, H⟩ := bB H
  refine Wh_go 99 [.u 22 (.ix _ _ _ fun _ => idx_map ePt (idx_nat hxv5)), .u 28 (.ap _ _ _ _ fun _ => appL_map eI h6), .w 29 (wi .i64 rfl hiv5 q4.1)] (by kernel_rfl) fun _ => ?_
  exact Wh_to (N15 _ H) [] [] [] [] (by kernel_rfl) (by kernel_rfl)
 ·unfold spec_l03Times_k15 at H
  refine Wh_o fun _ => ?_
  refine Wh_ifF (ltF p1.length) (by kernel_rfl) ?_
  refine Wh_go 99 [.u 33 (.ln _ _ fun _ => lm ([from2, to3] : List Int) eI)] (by kernel_rfl) fun q7 => ?_
  refine Wh_rgl (fun (i8 : Nat) (v8 : (List Int)) => ⟨[(7, .sref 16), (32, .sl .nw 1 (([from2, to3]).map eI)), (33, .int .i64 (([from2, to3] : List Int).length : Int)), (34, .int .i64 (i8 : Int))], [], [], [(16, ⟨1, v8.map eI, false⟩)]⟩) [] [] [] [] (by kernel_rfl) (by kernel_rfl) H (fun i8 x8 v8 I m k8 hxv8 hiv8 H N70 => ?_) (fun v8 I m H => ?_)
  ·unfold spec_l03Times_b70 at H
   refine Wh_o fun _ => ?_
   refine Wh_ifT (ltT hiv8) (by kernel_rfl) ?_
   refine Wh_go 99 [.u 36 (.ix _ _ _ fun _ => idx_map eI (idx_nat hxv8)), .u 40 (.ln _ _ fun _ => lm v8 eI)] (by kernel_rfl) fun q9 => ?_
   refine Wh_rgl (fun (i10 : Nat) (v10 : Bool × (List Int)) => ⟨[(11, .int .i64 x8), (12, .sref 38), (13, .bool v10.1), (32, .sl .nw 1 (([from2, to3]).map eI)), (33, .int .i64 (([from2, to3] : List Int).length : Int)), (34, .int .i64 (i8 : Int)), (39, .sref 16), (40, .int .i64 (v8.length : Int)), (41, .int .i64 (i10 : Int))], [], [], [(38, ⟨1, v10.2.map eI, false⟩), (16, ⟨1, v8.map eI, false⟩)]⟩) [] [] [] [] (by kernel_rfl) (by kernel_rfl) H (fun i10 x10 v10 I m k10 hxv10 hiv10 H N51 => ?_) (fun v10 I m H => ?_)
   ·unfold spec_l03Times_b51 at H
    refine Wh_o fun _ => ?_
    refine Wh_ifT (ltT hiv10) (by kernel_rfl) ?_
    refine Wh_go 99 [.u 43 (.ix _ _ _ fun _ => idx_map eI (idx_nat hxv10)), .u 44 (.el _ _ _ fun _ => gm eI (idx_get (idx_nat hxv10)))] (by kernel_rfl) fun _ => ?_
    refine Wh_join (r := r) (spec_l03Times_j43 x8 x10 k10) 0 (fun v12 : Bool × (List Int) => ⟨[(11, .int .i64 x8), (12, .sref 38), (13, .bool v12.1), (15, .int .i64 x10), (32, .sl .nw 1 (([from2, to3]).map eI)), (33, .int .i64 (([from2, to3] : List Int).length : Int)), (34, .int .i64 (i8 : Int)), (39, .sref 16), (40, .int .i64 (v8.length : Int)), (41, .int .i64 (i10 : Int))], [], [], [(38, ⟨1, v12.2.map eI, false⟩), (16, ⟨1, v8.map eI, false⟩)]⟩) (by kernel_rfl) (fun v12 H => ?_) (fun J43 => ?_)
    ·unfold spec_l03Times_j43 at H
     refine Wh_o fun _ => ?_
     refine Wh_iH H (fun H => ?_) fun H => ?_
     ·obtain ⟨xs13, h13, H⟩ := bB H
      refine Wh_go 99 [.u 62 (.ap _ _ _ _ fun _ => appL_map eI h13), .w 63 (wi .i64 rfl hiv10 q9.1)] (by kernel_rfl) fun _ => ?_
      exact Wh_to (N51 _ H) [] [] [] [] (by kernel_rfl) (by kernel_rfl)
     ·refine Wh_go 99 [.w 63 (wi .i64 rfl hiv10 q9.1)] (by kernel_rfl) fun _ => ?_
      exact Wh_to (N51 _ H) [] [] [] [] (by kernel_rfl) (by kernel_rfl)
    ·refine Wh_iH H (fun H => ?_) fun H => ?_
     ·obtain ⟨xs11, h11, H⟩ := bB H
      refine Wh_go 99 [.u 55 (.ap _ _ _ _ fun _ => appL_map eI h11)] (by kernel_rfl) fun _ => ?_
      exact Wh_to (J43 _ H) [] [] [] [] (by kernel_rfl) (by kernel_rfl)
     ·refine Wh_o fun _ => ?_
      exact Wh_to (J43 _ H) [] [] [] [] (by kernel_rfl) (by kernel_rfl)
   ·unfold spec_l03Times_k51 at H
    refine Wh_o fun _ => ?_
    refine Wh_ifF (ltF v8.length) (by kernel_rfl) ?_
    refine Wh_o fun _ => ?_
    refine Wh_iH H (fun H => ?_) fun H => ?_
    ·obtain ⟨xs14, h14, H⟩ := bB H
     refine Wh_go 99 [.u 69 (.ap _ _ _ _ fun _ => appL_map eI h14), .w 71 (wi .i64 rfl hiv8 q7.1)] (by kernel_rfl) fun _ => ?_
     exact Wh_to (N70 _ H) [] [] [(16, (some 38, 0))] [] (by kernel_rfl) (by kernel_rfl)
    ·refine Wh_go 99 [.w 71 (wi .i64 rfl hiv8 q7.1)] (by kernel_rfl) fun _ => ?_
     exact Wh_to (N70 _ H) [] [] [(16, (some 38, 0))] [] (by kernel_rfl) (by kernel_rfl)
  ·unfold spec_l03Times_k70 at H
   refine Wh_o fun _ => ?_
   refine Wh_ifF (ltF [from2, to3].length) (by kernel_rfl) ?_
   refine Wh_o fun _ => ?_
   replace H := sI H; subst H
   exact Wh_end [(6, .f)] [] [] [16] [] [⟨_, nw_I v8⟩] (by kernel_rfl)
def ir_spec_l03Change : L :=
.seq (.reg [.bx 5 (.t 0),.bx 8 (.t 3),.al 10 [.nl],.mv 11 (.c (.bool false))])
 (.seq (.reg [.bd 18 [.nl] [],.al 12 [.nl],.st (.t 12) (.t 18) 1])
 (.seq (.seq (.reg [.ld 19 (.t 5) 1 true,.mv 20 (.t 1),.mv 21 (.t 2),.cq 22 F.spec_l03Times [(.t 19), (.t 20), (.t 21)],.ln 23 (.t 22),.mv 24 (.c (.int .i64 0))])
 (.blk 0 (.loop (.gw (.seq (.reg [.bi 25 .lss (.t 24) (.t 23)])
 (.seq (.cond (.t 25) (.skip)
 (.exit 0))
 (.seq (.blk 1 (.seq (.reg [.ia 26 (.t 22) (.t 24) 1,.ld 27 (.t 26) 1 false,.mv 14 (.t 27)])
 (.seq (.reg [.ld 28 (.t 5) 1 true,.mv 29 (.t 14),.cq 30 F.spec_l03At [(.t 28), (.t 29)],.al 15 [.int .i64 0, .int .i64 0, .int .i64 0],.st (.t 15) (.t 30) 3])
 (.seq (.seq (.reg [.mv 31 (.t 14),.mv 32 (.t 1),.bi 33 .geq (.t 31) (.t 32),.mv 34 (.t 33),.g 34 true (.mv 35 (.t 14)),.g 34 true (.mv 36 (.t 2)),.g 34 true (.bi 37 .lss (.t 35) (.t 36)),.pk 38 (.t 34) (.t 37) (.c (.bool false))])
 (.cond (.t 38) (.seq (.reg [.mv 16 (.c (.bool false))])
 (.seq (.seq (.reg [.mv 39 (.t 4)])
 (.cond (.t 39) (.reg [.ld 41 (.t 15) 3 true,.ld 42 (.t 8) 3 true,.cq 43 F.spec_VecAdd [(.t 41), (.t 42)],.mv 40 (.t 43),.ex 44 (.t 40) 0,.ex 45 (.t 40) 1,.st (.t 15) (.t 44) 3,.mv 16 (.t 45)])
 (.reg [.ld 47 (.t 15) 3 true,.ld 48 (.t 8) 3 true,.cq 49 F.spec_VecSub [(.t 47), (.t 48)],.mv 46 (.t 49),.ex 50 (.t 46) 0,.ex 51 (.t 46) 1,.st (.t 15) (.t 50) 3,.mv 16 (.t 51)])))
 (.gw (.seq (.reg [.mv 52 (.t 16),.un 53 (.t 52)])
 (.cond (.t 53) (.seq (.reg [.bd 54 [.nl] [],.st (.t 10) (.t 54) 1,.mv 11 (.c (.bool false))])
 (.gw (.ret)))
 (.skip))))))
 (.skip)))
 (.gw (.seq (.reg [.fa 55 (.t 12) 0,.ld 56 (.t 55) 1 false,.ln 57 (.t 56),.mv 17 (.t 57)])
 (.seq (.rq 13 [.mv 58 (.t 17),.bi 59 .eql (.t 58) (.c (.int .i64 0)),.mv 60 (.t 59),.g 60 false (.fa 61 (.t 12) 0),.g 60 false (.ld 62 (.t 61) 1 false),.g 60 false (.mv 63 (.t 17)),.g 60 false (.bi 64 .sub (.t 63) (.c (.int .i64 1))),.g 60 false (.ia 65 (.t 62) (.t 64) 4),.g 60 false (.fa 66 (.t 65) 1),.g 60 false (.ld 67 (.t 66) 3 true),.g 60 false (.ld 68 (.t 15) 3 true),.g 60 false (.es 69 true [0, 0, 0] (.t 67) (.t 68)),.pk 70 (.t 60) (.c (.bool true)) (.t 69)])
 (.cond (.t 70) (.reg [.fa 71 (.t 12) 0,.ld 72 (.t 71) 1 false,.mv 73 (.t 14),.ld 74 (.t 15) 3 true,.bd 75 [.int .i64 0, .int .i64 0, .int .i64 0, .int .i64 0] [(0, 1, (.t 73)), (1, 3, (.t 74))],.bs 76 4 [(.t 75)] false,.ap 77 (.t 72) (.t 76) 4 32,.fa 78 (.t 12) 0,.st (.t 78) (.t 77) 1])
 (.skip)))))))))
 (.reg [.bi 79 .add (.t 24) (.c (.int .i64 1)),.mv 24 (.t 79)]))))))))
 (.seq (.seq (.reg [.ld 80 (.t 12) 1 true,.cq 81 F.spec_ProfOk [(.t 80)],.un 82 (.t 81)])
 (.cond (.t 82) (.seq (.reg [.bd 83 [.nl] [],.st (.t 10) (.t 83) 1,.mv 11 (.c (.bool false))])
 (.gw (.ret)))
 (.skip)))
 (.seq (.reg [.ld 84 (.t 12) 1 true,.st (.t 10) (.t 84) 1,.mv 11 (.c (.bool true))])
 (.gw (.ret))))))
def rs_spec_l03Change : List Rv := [.c 10 1 true, .t 11]
theorem ck_spec_l03Change : chkFn Tryz.prog F.spec_l03Change 5 ir_spec_l03Change rs_spec_l03Change = true := by kernel_rfl
def spec_l03Change_j34 (v8 : (List Pt)) (x8 : Int) (k8 : (List Pt) → Option ((List Pt) × Bool)) (v11 : Vec) : Option ((List Pt) × Bool) :=
 (bif ((v8.length : Int) == 0) then some default else (idx v8 (w64 ((v8.length : Int) - 1)))).bind fun e12 => bif (((v8.length : Int) == 0) || (!(e12.free.a == v11.a && (e12.free.b == v11.b && (e12.free.c == v11.c && true))))) then ((appL 32 v8 [(Pt.mk x8 v11)]).bind fun xs14 => k8 xs14) else (k8 v8)
def spec_l03Change_j22 (v8 : (List Pt)) (x8 : Int) (k8 : (List Pt) → Option ((List Pt) × Bool)) (v10 : Vec × Bool) : Option ((List Pt) × Bool) :=
 bif (!v10.2) then (some ([], false)) else ((spec_l03Change_j34 v8 x8 k8) v10.1)
def spec_l03Change_b43 (p1 : List Pt) (from2 : Int) (to3 : Int) (v4 : Vec) (add5 : Bool) (x8 : Int) (_ : Nat) (v8 : (List Pt)) (k8 : (List Pt) → Option ((List Pt) × Bool)) : Option ((List Pt) × Bool) :=
 (spec_l03At p1 x8).bind fun y9 => bif ((decide (from2 ≤ x8)) && (decide (x8 < to3))) then (bif add5 then ((spec_l03Change_j22 v8 x8 k8) (((spec_VecAdd y9 v4).1), (spec_VecAdd y9 v4).2)) else ((spec_l03Change_j22 v8 x8 k8) (((spec_VecSub y9 v4).1), (spec_VecSub y9 v4).2))) else ((spec_l03Change_j34 v8 x8 k8) y9)
def spec_l03Change_k43 (v8 : (List Pt)) : Option ((List Pt) × Bool) :=
 (spec_ProfOk v8).bind fun b15 => bif (!b15) then (some ([], false)) else (some (v8, true))
def spec_l03Change (p1 : List Pt) (from2 : Int) (to3 : Int) (v4 : Vec) (add5 : Bool) : Option ((List Pt) × Bool) :=
 (spec_l03Times p1 from2 to3).bind fun y6 => rgl (spec_l03Change_b43 p1 from2 to3 v4 add5) spec_l03Change_k43 y6 0 []
theorem spec_l03Change_ok {p1 : List Pt} {from2 : Int} {to3 : Int} {v4 : Vec} {add5 : Bool} {r : (List Pt) × Bool} (H : spec_l03Change p1 from2 to3 v4 add5 = some r) : Snd Tryz.prog F.spec_l03Change [.agg [.sl .rd 4 (p1.map ePt)], .int .i64 from2, .int .i64 to3, eVec v4, .bool add5] (.tup [eProfT .nw r.1, .bool r.2]) [] := by
 refine snd_g ck_spec_l03Change rfl (by simp) ?_
 unfold spec_l03Change at H
 obtain ⟨y6, h6, H⟩ := bB H
 refine Wh_go 99 [.c 22 (spec_l03Times_ok h6), .u 23 (.ln _ _ fun _ => lm y6 eI)] (by kernel_rfl) fun q7 => ?_
 refine Wh_rgl (fun (i8 : Nat) (v8 : (List Pt)) => ⟨[(1, .int .i64 from2), (2, .int .i64 to3), (4, .bool add5), (5, .ptr 5 0), (8, .ptr 8 0), (10, .ptr 10 0), (12, .ptr 12 0), (22, .sl .nw 1 (y6.map eI)), (23, .int .i64 (y6.length : Int)), (24, .int .i64 (i8 : Int))], [], [(5, [.sl .rd 4 (p1.map ePt)]), (8, (eVec v4).cells), (10, [.nl]), (12, [.sref 573000])], [(573000, ⟨4, v8.map ePt, false⟩)]⟩) [] [(12, [.z 573000])] [(573000, (none, 4))] [] (by kernel_rfl) (by kernel_rfl) H (fun i8 x8 v8 I m k8 hxv8 hiv8 H N43 => ?_) (fun v8 I m H => ?_)
 ·unfold spec_l03Change_b43 at H
  refine Wh_o fun _ => ?_
  refine Wh_ifT (ltT hiv8) (by kernel_rfl) ?_
  obtain ⟨y9, h9, H⟩ := bB H
  refine Wh_go 99 [.u 26 (.ix _ _ _ fun _ => idx_map eI (idx_nat hxv8)), .c 30 (spec_l03At_ok h9)] (by kernel_rfl) fun _ => ?_
  refine Wh_join (r := r) (spec_l03Change_j34 v8 x8 k8) 0 (fun v11 : Vec => ⟨[(1, .int .i64 from2), (2, .int .i64 to3), (4, .bool add5), (5, .ptr 5 0), (8, .ptr 8 0), (10, .ptr 10 0), (12, .ptr 12 0), (14, .int .i64 x8), (15, .ptr 15 0), (22, .sl .nw 1 (y6.map eI)), (23, .int .i64 (y6.length : Int)), (24, .int .i64 (i8 : Int))], [], [(5, [.sl .rd 4 (p1.map ePt)]), (8, (eVec v4).cells), (10, [.nl]), (12, [.sref 573000]), (15, (eVec v11).cells)], [(573000, ⟨4, v8.map ePt, false⟩)]⟩) (by kernel_rfl) (fun v11 H => ?_) (fun J34 => ?_)
  ·unfold spec_l03Change_j34 at H
   obtain ⟨e12, h12, H⟩ := bB H
   refine Wh_go 99 [.u 57 (.ln _ _ fun _ => lm v8 ePt), .g 65 [(_, false)] (.ix _ _ _ fun q => idx_map ePt (bF q.1 h12)), .g 67 [(_, false)] (.el _ _ _ fun q => gm ePt (idx_get (bF q.1 h12)))] (by kernel_rfl) fun q13 => ?_
   refine Wh_iH H (fun H => ?_) fun H => ?_
   ·obtain ⟨xs14, h14, H⟩ := bB H
    refine Wh_go 99 [.u 77 (.ap _ _ _ _ fun _ => appL_map ePt h14), .w 79 (wi .i64 rfl hiv8 q7.1)] (by kernel_rfl) fun _ => ?_
    exact Wh_to (N43 _ H) [] [] [] [] (by kernel_rfl) (by kernel_rfl)
   ·refine Wh_go 99 [.w 79 (wi .i64 rfl hiv8 q7.1)] (by kernel_rfl) fun _ => ?_
    exact Wh_to (N43 _ H) [] [] [] [] (by kernel_rfl) (by kernel_rfl)
  ·refine Wh_iH H (fun H => ?_) fun H => ?_
   ·refine Wh_o fun _ => ?_
    refine Wh_join (r := r) (spec_l03Change_j22 v8 x8 k8) 0 (fun v10 : Vec × Bool => ⟨[(1, .int .i64 from2), (2, .int .i64 to3), (4, .bool add5), (5, .ptr 5 0), (8, .ptr 8 0), (10, .ptr 10 0), (12, .ptr 12 0), (14, .int .i64 x8), (15, .ptr 15 0), (16, .bool v10.2), (22, .sl .nw 1 (y6.map eI)), (23, .int .i64 (y6.length : Int)), (24, .int .i64 (i8 : Int))], [], [(5, [.sl .rd 4 (p1.map ePt)]), (8, (eVec v4).cells), (10, [.nl]), (12, [.sref 573000]), (15, (eVec v10.1).cells)], [(573000, ⟨4, v8.map ePt, false⟩)]⟩) (by kernel_rfl) (fun v10 H => ?_) (fun J22 => ?_)
    ·unfold spec_l03Change_j22 at H
     refine Wh_o fun _ => ?_
     refine Wh_iH H (fun H => ?_) fun H => ?_
     ·refine Wh_o fun _ => ?_
      replace H := sI H; subst H
      exact Wh_end [(10, .d), (11, .d)] [(10, [.n 4])] [] [] [] [⟨_, nw_Pt ([] : List Pt)⟩] (by kernel_rfl)
     ·refine Wh_o fun _ => ?_
      exact Wh_to (J34 _ H) [] [] [] [] (by kernel_rfl) (by kernel_rfl)
    ·refine Wh_iH H (fun H => ?_) fun H => ?_
     ·refine Wh_go 99 [.c 43 (spec_VecAdd_ok y9 v4)] (by kernel_rfl) fun _ => ?_
      exact Wh_to (J22 _ H) [] [] [] [] (by kernel_rfl) (by kernel_rfl)
     ·refine Wh_go 99 [.c 49 (spec_VecSub_ok y9 v4)] (by kernel_rfl) fun _ => ?_
      exact Wh_to (J22 _ H) [] [] [] [] (by kernel_rfl) (by kernel_rfl)
   ·refine Wh_o fun _ => ?_
    exact Wh_to (J34 _ H) [] [] [] [] (by kernel_rfl) (by kernel_rfl)
 ·unfold spec_l03Change_k43 at H
  refine Wh_o fun _ => ?_
  refine Wh_ifF (ltF y6.length) (by kernel_rfl) ?_
  obtain ⟨b15, h15, H⟩ := bB H
  refine Wh_go 99 [.c 81 (spec_ProfOk_ok h15)] (by kernel_rfl) fun _ => ?_
  refine Wh_iH H (fun H => ?_) fun H => ?_
  ·refine Wh_o fun _ => ?_
   replace H := sI H; subst H
   exact Wh_end [(10, .d), (11, .d)] [(10, [.n 4])] [] [] [] [⟨_, nw_Pt ([] : List Pt)⟩] (by kernel_rfl)
  ·refine Wh_o fun _ => ?_
   replace H := sI H; subst H
   exact Wh_end [(10, .d), (11, .d)] [(10, [.f])] [] [573000] [] [⟨_, nw_Pt v8⟩] (by kernel_rfl)
def ir_spec_ProfTake : L :=
.seq (.reg [.bx 4 (.t 0),.bx 7 (.t 3),.al 8 [.nl],.mv 9 (.c (.bool false))])
 (.seq (.reg [.ld 13 (.t 4) 1 true,.mv 14 (.t 1),.mv 15 (.t 2),.cq 16 F.spec_ProfMin [(.t 13), (.t 14), (.t 15)],.mv 12 (.t 16),.ex 17 (.t 12) 0,.ex 18 (.t 12) 1,.al 10 [.int .i64 0, .int .i64 0, .int .i64 0],.st (.t 10) (.t 17) 3,.mv 11 (.t 18)])
 (.seq (.seq (.reg [.mv 19 (.t 11),.un 20 (.t 19)])
 (.cond (.t 20) (.seq (.reg [.bd 21 [.nl] [],.st (.t 8) (.t 21) 1,.mv 9 (.c (.bool false))])
 (.gw (.ret)))
 (.skip)))
 (.seq (.reg [.ld 22 (.t 4) 1 true,.mv 23 (.t 1),.mv 24 (.t 2),.ld 25 (.t 7) 3 true,.cq 26 F.spec_l03Change [(.t 22), (.t 23), (.t 24), (.t 25), (.c (.bool false))],.ex 27 (.t 26) 0,.ex 28 (.t 26) 1,.st (.t 8) (.t 27) 1,.mv 9 (.t 28)])
 (.gw (.ret)))))
def rs_spec_ProfTake : List Rv := [.c 8 1 true, .t 9]
theorem ck_spec_ProfTake : chkFn Tryz.prog F.spec_ProfTake 4 ir_spec_ProfTake rs_spec_ProfTake = true := by kernel_rfl
def spec_ProfTake (p1 : List Pt) (from2 : Int) (to3 : Int) (v4 : Vec) : Option ((List Pt) × Bool) :=
 (spec_ProfMin p1 from2 to3).bind fun y5 => bif (!y5.2) then (some ([], false)) else ((spec_l03Change p1 from2 to3 v4 false).bind fun y6 => some (y6.1, y6.2))
theorem spec_ProfTake_ok {p1 : List Pt} {from2 : Int} {to3 : Int} {v4 : Vec} {r : (List Pt) × Bool} (H : spec_ProfTake p1 from2 to3 v4 = some r) : Snd Tryz.prog F.spec_ProfTake [.agg [.sl .rd 4 (p1.map ePt)], .int .i64 from2, .int .i64 to3, eVec v4] (.tup [eProfT .nw r.1, .bool r.2]) [] := by
 refine snd_g ck_spec_ProfTake rfl (by simp) ?_
 unfold spec_ProfTake at H
 obtain ⟨y5, h5, H⟩ := bB H
 refine Wh_go 99 [.c 16 (spec_ProfMin_ok h5)] (by kernel_rfl) fun _ => ?_
 refine Wh_iH H (fun H => ?_) fun H => ?_
 ·refine Wh_o fun _ => ?_
  replace H := sI H; subst H
  exact Wh_end [(8, .d), (9, .d)] [(8, [.n 4])] [] [] [] [⟨_, nw_Pt ([] : List Pt)⟩] (by kernel_rfl)
 ·obtain ⟨y6, h6, H⟩ := bB H
  refine Wh_go 99 [.c 26 (spec_l03Change_ok h6)] (by kernel_rfl) fun _ => ?_
  replace H := sI H; subst H
  exact Wh_end [(8, .d), (9, .d)] [(8, [])] [] [] [] [⟨_, nw_Pt y6.1⟩] (by kernel_rfl)
def ir_impl_copyProf : L :=
.seq (.reg [.bx 1 (.t 0),.al 2 [.nl]])
 (.seq (.reg [.fa 3 (.t 1) 0,.ld 4 (.t 3) 1 false,.ap 5 (.c (.nl)) (.t 4) 4 32,.bd 6 [.nl] [(0, 1, (.t 5))],.st (.t 2) (.t 6) 1])
 (.gw (.ret)))
def rs_impl_copyProf : List Rv := [.c 2 1 true]
theorem ck_impl_copyProf : chkFn Tryz.prog F.impl_copyProf 1 ir_impl_copyProf rs_impl_copyProf = true := by kernel_rfl
def impl_copyProf (p1 : List Pt) : Option (List Pt) :=
 (appL 32 ([] : List Pt) p1).bind fun xs2 => some xs2
theorem impl_copyProf_ok {p1 : List Pt} {r : (List Pt)} (H : impl_copyProf p1 = some r) : Snd Tryz.prog F.impl_copyProf [.agg [.sl .rd 4 (p1.map ePt)]] (eProfT .nw r) [] := by
 refine snd_g ck_impl_copyProf rfl (by simp) ?_
 unfold impl_copyProf at H
 obtain ⟨xs2, h2, H⟩ := bB H
 refine Wh_go 99 [.u 5 (.ap _ _ _ _ fun _ => appL_map ePt h2)] (by kernel_rfl) fun _ => ?_
 replace H := sI H; subst H
 exact Wh_end [(2, .d)] [(2, [.f])] [] [5] [] [⟨_, nw_Pt xs2⟩] (by kernel_rfl)
def ir_impl_ProfOk : L :=
.seq (.reg [.bx 1 (.t 0),.mv 2 (.c (.bool false))])
 (.seq (.seq (.reg [.fa 5 (.t 1) 0,.ld 6 (.t 5) 1 false,.ln 7 (.t 6),.cq 8 F.impl_within [(.t 7), (.c (.int .i64 1)), (.c (.int .i64 200))],.un 9 (.t 8),.mv 10 (.t 9),.g 10 false (.fa 11 (.t 1) 0),.g 10 false (.ld 12 (.t 11) 1 false),.g 10 false (.ia 13 (.t 12) (.c (.int .i64 0)) 4),.g 10 false (.fa 14 (.t 13) 0),.g 10 false (.ld 15 (.t 14) 1 false),.g 10 false (.bi 16 .neq (.t 15) (.c (.int .i64 0))),.pk 17 (.t 10) (.c (.bool true)) (.t 16)])
 (.cond (.t 17) (.seq (.reg [.mv 2 (.c (.bool false))])
 (.gw (.ret)))
 (.skip)))
 (.seq (.seq (.reg [.fa 18 (.t 1) 0,.ld 19 (.t 18) 1 false,.ln 20 (.t 19),.mv 21 (.c (.int .i64 0))])
 (.blk 0 (.loop (.gw (.seq (.reg [.bi 22 .lss (.t 21) (.t 20)])
 (.seq (.cond (.t 22) (.skip)
 (.exit 0))
 (.seq (.blk 1 (.seq (.reg [.mv 23 (.t 21),.ia 24 (.t 19) (.t 21) 4,.ld 25 (.t 24) 4 true,.al 4 [.int .i64 0, .int .i64 0, .int .i64 0, .int .i64 0],.mv 3 (.t 23),.st (.t 4) (.t 25) 4])
 (.seq (.rq 38 [.fa 26 (.t 4) 0,.ld 27 (.t 26) 1 false,.cq 28 F.impl_isTime [(.t 27)],.un 29 (.t 28),.mv 30 (.t 29),.g 30 false (.fa 31 (.t 4) 1),.g 30 false (.ld 32 (.t 31) 3 true),.g 30 false (.cq 33 F.impl_VecOk [(.t 32)]),.g 30 false (.un 34 (.t 33)),.pk 35 (.t 30) (.c (.bool true)) (.t 34),.mv 36 (.t 35),.g 36 false (.mv 37 (.t 3)),.g 36 false (.bi 38 .gtr (.t 37) (.c (.int .i64 0))),.g 36 false (.mv 39 (.t 38)),.g 39 true (.fa 40 (.t 1) 0),.g 39 true (.ld 41 (.t 40) 1 false),.g 39 true (.mv 42 (.t 3)),.g 39 true (.bi 43 .sub (.t 42) (.c (.int .i64 1))),.g 39 true (.ia 44 (.t 41) (.t 43) 4),.g 39 true (.fa 45 (.t 44) 0),.g 39 true (.ld 46 (.t 45) 1 false),.g 39 true (.fa 47 (.t 4) 0),.g 39 true (.ld 48 (.t 47) 1 false),.g 39 true (.bi 49 .geq (.t 46) (.t 48)),.g 39 true (.mv 50 (.t 49)),.g 50 false (.fa 51 (.t 1) 0),.g 50 false (.ld 52 (.t 51) 1 false),.g 50 false (.mv 53 (.t 3)),.g 50 false (.bi 54 .sub (.t 53) (.c (.int .i64 1))),.g 50 false (.ia 55 (.t 52) (.t 54) 4),.g 50 false (.fa 56 (.t 55) 1),.g 50 false (.ld 57 (.t 56) 3 true),.g 50 false (.fa 58 (.t 4) 1),.g 50 false (.ld 59 (.t 58) 3 true),.g 50 false (.es 60 false [0, 0, 0] (.t 57) (.t 59)),.g 39 true (.pk 61 (.t 50) (.c (.bool true)) (.t 60)),.g 36 false (.pk 62 (.t 39) (.t 61) (.c (.bool false))),.pk 63 (.t 36) (.c (.bool true)) (.t 62)])
 (.cond (.t 63) (.seq (.reg [.mv 2 (.c (.bool false))])
 (.gw (.ret)))
 (.skip)))))
 (.reg [.bi 64 .add (.t 21) (.c (.int .i64 1)),.mv 21 (.t 64)]))))))))
 (.seq (.reg [.mv 2 (.c (.bool true))])
 (.gw (.ret)))))
def rs_impl_ProfOk : List Rv := [.t 2]
theorem ck_impl_ProfOk : chkFn Tryz.prog F.impl_ProfOk 1 ir_impl_ProfOk rs_impl_ProfOk = true := by kernel_rfl
def impl_ProfOk_b27 (p1 : List Pt) (x5 : Pt) (i5 : Nat) (_ : Unit) (k5 : Unit → Option Bool) : Option Bool :=
 (bif ((!(impl_isTime x5.t)) || (!(impl_VecOk x5.free))) then some default else (bif (decide (0 < (i5 : Int))) then (idx p1 (w64 ((i5 : Int) - 1))) else some default)).bind fun e6 => (bif ((!(impl_isTime x5.t)) || (!(impl_VecOk x5.free))) then some default else (bif (decide (0 < (i5 : Int))) then (bif (decide (x5.t ≤ e6.t)) then some default else (idx p1 (w64 ((i5 : Int) - 1)))) else some default)).bind fun e7 => bif (((!(impl_isTime x5.t)) || (!(impl_VecOk x5.free))) || ((decide (0 < (i5 : Int))) && ((decide (x5.t ≤ e6.t)) || (e7.free.a == x5.free.a && (e7.free.b == x5.free.b && (e7.free.c == x5.free.c && true)))))) then (some false) else (k5 ())
def impl_ProfOk_k27 (_ : Unit) : Option Bool :=
 some true
def impl_ProfOk (p1 : List Pt) : Option Bool :=
 (bif (!(impl_within (p1.length : Int) 1 200)) then some default else (idx p1 0)).bind fun e2 => bif ((!(impl_within (p1.length : Int) 1 200)) || (e2.t != 0)) then (some false) else (rgl (impl_ProfOk_b27 p1) impl_ProfOk_k27 p1 0 ())
theorem impl_ProfOk_ok {p1 : List Pt} {r : Bool} (H : impl_ProfOk p1 = some r) : Snd Tryz.prog F.impl_ProfOk [.agg [.sl .rd 4 (p1.map ePt)]] (.bool r) [] := by
 refine snd_g ck_impl_ProfOk rfl (by simp) ?_
 unfold impl_ProfOk at H
 obtain ⟨e2, h2, H⟩ := bB H
 refine Wh_go 99 [.u 7 (.ln _ _ fun _ => lm p1 ePt), .u 8 (.call _ _ _ _ _ (AEs.refl _) (fun _ => impl_within_ok (p1.length : Int) 1 200)), .g 13 [(_, false)] (.ix _ _ _ fun q => idx_map ePt (bF q.1 h2))] (by kernel_rfl) fun q3 => ?_
 refine Wh_iH H (fun H => ?_) fun H => ?_
 ·refine Wh_o fun _ => ?_
  replace H := sI H; subst H
  exact Wh_end [(2, .d)] [] [] [] [] [] (by kernel_rfl)
 ·refine Wh_go 99 [.u 20 (.ln _ _ fun _ => lm p1 ePt)] (by kernel_rfl) fun q4 => ?_
  refine Wh_rgl (fun (i5 : Nat) (v5 : Unit) => ⟨[(1, .ptr 1 0), (19, .sl .rd 4 (p1.map ePt)), (20, .int .i64 (p1.length : Int)), (21, .int .i64 (i5 : Int))], [], [(1, [.sl .rd 4 (p1.map ePt)])], []⟩) [] [] [] [] (by kernel_rfl) (by kernel_rfl) H (fun i5 x5 v5 I m k5 hxv5 hiv5 H N27 => ?_) (fun v5 I m H => ?_)
  ·unfold impl_ProfOk_b27 at H
   refine Wh_o fun _ => ?_
   refine Wh_ifT (ltT hiv5) (by kernel_rfl) ?_
   obtain ⟨e6, h6, H⟩ := bB H
   obtain ⟨e7, h7, H⟩ := bB H
   refine Wh_go 99 [.u 24 (.ix _ _ _ fun _ => idx_map ePt (idx_nat hxv5)), .c 28 (impl_isTime_ok x5.t), .g 33 [((!(impl_isTime x5.t)), false)] (.call _ _ _ _ _ (AEs.refl _) (fun _ => impl_VecOk_ok x5.free)), .g 44 [(_, true), (_, false)] (.ix _ _ _ fun q => idx_map ePt (bT q.1 (bF q.2.1 h6))), .g 55 [(_, false), (_, true), (_, false)] (.ix _ _ _ fun q => idx_map ePt (bF q.1 (bT q.2.1 (bF q.2.2.1 h7))))] (by kernel_rfl) fun _ => ?_
   refine Wh_iH H (fun H => ?_) fun H => ?_
   ·refine Wh_o fun _ => ?_
    replace H := sI H; subst H
    exact Wh_end [(2, .d)] [] [] [] [] [] (by kernel_rfl)
   ·refine Wh_go 99 [.w 64 (wi .i64 rfl hiv5 q3.1)] (by kernel_rfl) fun _ => ?_
    exact Wh_to (N27 () H) [] [] [] [] (by kernel_rfl) (by kernel_rfl)
  ·unfold impl_ProfOk_k27 at H
   refine Wh_o fun _ => ?_
   refine Wh_ifF (ltF p1.length) (by kernel_rfl) ?_
   refine Wh_o fun _ => ?_
   replace H := sI H; subst H
   exact Wh_end [(2, .d)] [] [] [] [] [] (by kernel_rfl)
def ir_impl_ProfNew : L :=
.seq (.reg [.bx 1 (.t 0),.al 2 [.nl],.mv 3 (.c (.bool false))])
 (.seq (.seq (.reg [.ld 4 (.t 1) 3 true,.cq 5 F.impl_VecOk [(.t 4)],.un 6 (.t 5)])
 (.cond (.t 6) (.seq (.reg [.bd 7 [.nl] [],.st (.t 2) (.t 7) 1,.mv 3 (.c (.bool false))])
 (.gw (.ret)))
 (.skip)))
 (.seq (.reg [.ld 8 (.t 1) 3 true,.bd 9 [.int .i64 0, .int .i64 0, .int .i64 0, .int .i64 0] [(1, 3, (.t 8))],.bs 10 4 [(.t 9)] true,.bd 11 [.nl] [(0, 1, (.t 10))],.st (.t 2) (.t 11) 1,.mv 3 (.c (.bool true))])
 (.gw (.ret))))
def rs_impl_ProfNew : List Rv := [.c 2 1 true, .t 3]
theorem ck_impl_ProfNew : chkFn Tryz.prog F.impl_ProfNew 1 ir_impl_ProfNew rs_impl_ProfNew = true := by kernel_rfl
def impl_ProfNew_o (v1 : Vec) : Option ((List Pt) × Bool) :=
 bif (!(impl_VecOk v1)) then (some ([], false)) else (some ([(Pt.mk 0 v1)], true))
theorem impl_ProfNew_o_ok {v1 : Vec} {r : (List Pt) × Bool} (H : impl_ProfNew_o v1 = some r) : Snd Tryz.prog F.impl_ProfNew [eVec v1] (.tup [eProfT .nw r.1, .bool r.2]) [] := by
 refine snd_g ck_impl_ProfNew rfl (by simp) ?_
 unfold impl_ProfNew_o at H
 refine Wh_go 99 [.c 5 (impl_VecOk_ok v1)] (by kernel_rfl) fun _ => ?_
 refine Wh_iH H (fun H => ?_) fun H => ?_
 ·refine Wh_o fun _ => ?_
  replace H := sI H; subst H
  exact Wh_end [(2, .d), (3, .d)] [(2, [.n 4])] [] [] [] [⟨_, nw_Pt ([] : List Pt)⟩] (by kernel_rfl)
 ·refine Wh_o fun _ => ?_
  replace H := sI H; subst H
  exact Wh_end [(2, .d), (3, .d)] [(2, [.f])] [] [10] [] [⟨_, nw_Pt [(Pt.mk 0 v1)]⟩] (by kernel_rfl)
def impl_ProfNew (v1 : Vec) : (List Pt) × Bool :=
 bif (!(impl_VecOk v1)) then (([], false)) else (([(Pt.mk 0 v1)], true))
theorem impl_ProfNew_e (v1 : Vec) : impl_ProfNew_o v1 = some (impl_ProfNew v1) := by
 unfold impl_ProfNew_o impl_ProfNew
 first | rfl | simp only [bif_some]
theorem impl_ProfNew_ok (v1 : Vec) : Snd Tryz.prog F.impl_ProfNew [eVec v1] (.tup [eProfT .nw ((impl_ProfNew v1).1), .bool ((impl_ProfNew v1).2)]) [] := impl_ProfNew_o_ok (impl_ProfNew_e v1)
def ir_impl_Prof_free : L :=
.seq (.reg [.bx 2 (.t 0),.al 4 [.int .i64 0, .int .i64 0, .int .i64 0]])
 (.seq (.reg [.bd 8 [.int .i64 0, .int .i64 0, .int .i64 0] [],.al 5 [.int .i64 0, .int .i64 0, .int .i64 0],.st (.t 5) (.t 8) 3])
 (.seq (.seq (.reg [.fa 9 (.t 2) 0,.ld 10 (.t 9) 1 false,.ln 11 (.t 10),.mv 12 (.c (.int .i64 0))])
 (.blk 0 (.loop (.gw (.seq (.reg [.bi 13 .lss (.t 12) (.t 11)])
 (.seq (.cond (.t 13) (.skip)
 (.exit 0))
 (.seq (.blk 1 (.seq (.reg [.ia 14 (.t 10) (.t 12) 4,.ld 15 (.t 14) 4 true,.al 7 [.int .i64 0, .int .i64 0, .int .i64 0, .int .i64 0],.st (.t 7) (.t 15) 4])
 (.seq (.reg [.fa 16 (.t 7) 0,.ld 17 (.t 16) 1 false,.mv 18 (.t 1),.bi 19 .leq (.t 17) (.t 18)])
 (.cond (.t 19) (.reg [.fa 20 (.t 7) 1,.ld 21 (.t 20) 3 true,.st (.t 5) (.t 21) 3])
 (.skip)))))
 (.reg [.bi 22 .add (.t 12) (.c (.int .i64 1)),.mv 12 (.t 22)]))))))))
 (.seq (.reg [.ld 23 (.t 5) 3 true,.st (.t 4) (.t 23) 3])
 (.gw (.ret)))))
def rs_impl_Prof_free : List Rv := [.c 4 3 true]
theorem ck_impl_Prof_free : chkFn Tryz.prog F.impl_Prof_free 2 ir_impl_Prof_free rs_impl_Prof_free = true := by kernel_rfl
def impl_Prof_free_b19 (t2 : Int) (x4 : Pt) (_ : Nat) (v4 : Vec) (k4 : Vec → Option Vec) : Option Vec :=
 bif (decide (x4.t ≤ t2)) then (k4 x4.free) else (k4 v4)
def impl_Prof_free_k19 (v4 : Vec) : Option Vec :=
 some v4
def impl_Prof_free (p1 : List Pt) (t2 : Int) : Option Vec :=
 rgl (impl_Prof_free_b19 t2) impl_Prof_free_k19 p1 0 (Vec.mk 0 0 0)
theorem impl_Prof_free_ok {p1 : List Pt} {t2 : Int} {r : Vec} (H : impl_Prof_free p1 t2 = some r) : Snd Tryz.prog F.impl_Prof_free [.agg [.sl .rd 4 (p1.map ePt)], .int .i64 t2] (eVec r) [] := by
 refine snd_g ck_impl_Prof_free rfl (by simp) ?_
 unfold impl_Prof_free at H
 refine Wh_go 99 [.u 11 (.ln _ _ fun _ => lm p1 ePt)] (by kernel_rfl) fun q3 => ?_
 refine Wh_rgl (fun (i4 : Nat) (v4 : Vec) => ⟨[(1, .int .i64 t2), (4, .ptr 4 0), (5, .ptr 5 0), (10, .sl .rd 4 (p1.map ePt)), (11, .int .i64 (p1.length : Int)), (12, .int .i64 (i4 : Int))], [], [(4, (eVec (Vec.mk 0 0 0)).cells), (5, (eVec v4).cells)], []⟩) [] [] [] [] (by kernel_rfl) (by kernel_rfl) H (fun i4 x4 v4 I m k4 hxv4 hiv4 H N19 => ?_) (fun v4 I m H => ?_)
 ·unfold impl_Prof_free_b19 at H
  refine Wh_o fun _ => ?_
  refine Wh_ifT (ltT hiv4) (by kernel_rfl) ?_
  refine Wh_go 99 [.u 14 (.ix _ _ _ fun _ => idx_map ePt (idx_nat hxv4))] (by kernel_rfl) fun _ => ?_
  refine Wh_iH H (fun H => ?_) fun H => ?_
  ·refine Wh_go 99 [.w 22 (wi .i64 rfl hiv4 q3.1)] (by kernel_rfl) fun _ => ?_
   exact Wh_to (N19 _ H) [] [] [] [] (by kernel_rfl) (by kernel_rfl)
  ·refine Wh_go 99 [.w 22 (wi .i64 rfl hiv4 q3.1)] (by kernel_rfl) fun _ => ?_
   exact Wh_to (N19 _ H) [] [] [] [] (by kernel_rfl) (by kernel_rfl)
 ·unfold impl_Prof_free_k19 at H
  refine Wh_o fun _ => ?_
  refine Wh_ifF (ltF p1.length) (by kernel_rfl) ?_
  refine Wh_o fun _ => ?_
  replace H := sI H; subst H
  exact Wh_end [(4, .d)] [(4, [])] [] [] [] [] (by kernel_rfl)
def ir_impl_isSpan : L :=
.seq (.reg [.mv 4 (.c (.bool false))])
 (.seq (.reg [.mv 5 (.t 0),.cq 6 F.impl_isTime [(.t 5)],.mv 7 (.t 6),.g 7 true (.mv 8 (.t 1)),.g 7 true (.cq 9 F.impl_isTime [(.t 8)]),.pk 10 (.t 7) (.t 9) (.c (.bool false)),.mv 11 (.t 10),.g 11 true (.mv 12 (.t 0)),.g 11 true (.mv 13 (.t 1)),.g 11 true (.bi 14 .lss (.t 12) (.t 13)),.pk 15 (.t 11) (.t 14) (.c (.bool false)),.mv 4 (.t 15)])
 (.gw (.ret)))
def rs_impl_isSpan : List Rv := [.t 4]
theorem ck_impl_isSpan : chkFn Tryz.prog F.impl_isSpan 2 ir_impl_isSpan rs_impl_isSpan = true := by kernel_rfl
def impl_isSpan_o (from1 : Int) (to2 : Int) : Option Bool :=
 some (((impl_isTime from1) && (impl_isTime to2)) && (decide (from1 < to2)))
theorem impl_isSpan_o_ok {from1 : Int} {to2 : Int} {r : Bool} (H : impl_isSpan_o from1 to2 = some r) : Snd Tryz.prog F.impl_isSpan [.int .i64 from1, .int .i64 to2] (.bool r) [] := by
 refine snd_g ck_impl_isSpan rfl (by simp) ?_
 unfold impl_isSpan_o at H
 refine Wh_go 99 [.c 6 (impl_isTime_ok from1), .g 9 [((impl_isTime from1), true)] (.call _ _ _ _ _ (AEs.refl _) (fun _ => impl_isTime_ok to2))] (by kernel_rfl) fun _ => ?_
 replace H := sI H; subst H
 exact Wh_end [(4, .d)] [] [] [] [] [] (by kernel_rfl)
def impl_isSpan (from1 : Int) (to2 : Int) : Bool :=
 (((impl_isTime from1) && (impl_isTime to2)) && (decide (from1 < to2)))
theorem impl_isSpan_e (from1 : Int) (to2 : Int) : impl_isSpan_o from1 to2 = some (impl_isSpan from1 to2) := by
 unfold impl_isSpan_o impl_isSpan
 first | rfl | simp only [bif_some]
theorem impl_isSpan_ok (from1 : Int) (to2 : Int) : Snd Tryz.prog F.impl_isSpan [.int .i64 from1, .int .i64 to2] (.bool (impl_isSpan from1 to2)) [] := impl_isSpan_o_ok (impl_isSpan_e from1 to2)
def ir_impl_ProfTake_1 : L :=
.seq (.reg [.bx 2 (.t 0),.al 3 [.int .i64 0, .int .i64 0, .int .i64 0],.mv 4 (.c (.bool false))])
 (.seq (.reg [.ld 5 (.t 2) 3 true,.ld 6 (.t 1) 3 true,.cq 7 F.impl_VecSub [(.t 5), (.t 6)],.ex 8 (.t 7) 0,.ex 9 (.t 7) 1,.st (.t 3) (.t 8) 3,.mv 4 (.t 9)])
 (.gw (.ret)))
def rs_impl_ProfTake_1 : List Rv := [.c 3 3 true, .t 4]
theorem ck_impl_ProfTake_1 : chkFn Tryz.prog F.impl_ProfTake_1 2 ir_impl_ProfTake_1 rs_impl_ProfTake_1 = true := by kernel_rfl
def impl_ProfTake_1_o (x1 : Vec) (x2 : Vec) : Option (Vec × Bool) :=
 some (((impl_VecSub x1 x2).1), (impl_VecSub x1 x2).2)
theorem impl_ProfTake_1_o_ok {x1 : Vec} {x2 : Vec} {r : Vec × Bool} (H : impl_ProfTake_1_o x1 x2 = some r) : Snd Tryz.prog F.impl_ProfTake_1 [eVec x1, .ept (eVec x2) 0] (.tup [eVec r.1, .bool r.2]) [] := by
 refine snd_g ck_impl_ProfTake_1 rfl (by simp) ?_
 unfold impl_ProfTake_1_o at H
 refine Wh_go 99 [.c 7 (impl_VecSub_ok x1 x2)] (by kernel_rfl) fun _ => ?_
 replace H := sI H; subst H
 exact Wh_end [(3, .d), (4, .d)] [(3, [])] [] [] [] [] (by kernel_rfl)
def impl_ProfTake_1 (x1 : Vec) (x2 : Vec) : Vec × Bool :=
 (((impl_VecSub x1 x2).1), (impl_VecSub x1 x2).2)
theorem impl_ProfTake_1_e (x1 : Vec) (x2 : Vec) : impl_ProfTake_1_o x1 x2 = some (impl_ProfTake_1 x1 x2) := by
 unfold impl_ProfTake_1_o impl_ProfTake_1
 first | rfl | simp only [bif_some]
theorem impl_ProfTake_1_ok (x1 : Vec) (x2 : Vec) : Snd Tryz.prog F.impl_ProfTake_1 [eVec x1, .ept (eVec x2) 0] (.tup [eVec ((impl_ProfTake_1 x1 x2).1), .bool ((impl_ProfTake_1 x1 x2).2)]) [] := impl_ProfTake_1_o_ok (impl_ProfTake_1_e x1 x2)
def ir_impl_Prof_changed_impl_ProfTake_1 : L :=
.seq (.reg [.bx 4 (.t 0),.al 8 [.nl],.mv 9 (.c (.bool false))])
 (.seq (.reg [.mv 20 (.t 1),.mv 21 (.t 2),.bs 22 1 [(.t 20), (.t 21)] true,.mv 10 (.t 22)])
 (.seq (.seq (.reg [.fa 23 (.t 4) 0,.ld 24 (.t 23) 1 false,.ln 25 (.t 24),.mv 26 (.c (.int .i64 0))])
 (.blk 0 (.loop (.gw (.seq (.reg [.bi 27 .lss (.t 26) (.t 25)])
 (.seq (.cond (.t 27) (.skip)
 (.exit 0))
 (.seq (.blk 1 (.seq (.reg [.ia 28 (.t 24) (.t 26) 4,.ld 29 (.t 28) 4 true,.al 12 [.int .i64 0, .int .i64 0, .int .i64 0, .int .i64 0],.st (.t 12) (.t 29) 4])
 (.reg [.mv 30 (.t 10),.fa 31 (.t 12) 0,.ld 32 (.t 31) 1 false,.bs 33 1 [(.t 32)] false,.ap 34 (.t 30) (.t 33) 1 8,.mv 10 (.t 34)])))
 (.reg [.bi 35 .add (.t 26) (.c (.int .i64 1)),.mv 26 (.t 35)]))))))))
 (.seq (.reg [.mv 36 (.t 10),.cm 37 F.slices_Sort_int_int [(.t 36)]])
 (.seq (.reg [.bd 38 [.nl] [],.al 13 [.nl],.st (.t 13) (.t 38) 1])
 (.seq (.seq (.reg [.mv 39 (.t 10),.cm 40 F.slices_Compact_int_int [(.t 39)],.ln 41 (.t 40),.mv 42 (.c (.int .i64 0))])
 (.blk 2 (.loop (.gw (.seq (.reg [.bi 43 .lss (.t 42) (.t 41)])
 (.seq (.cond (.t 43) (.skip)
 (.exit 2))
 (.seq (.blk 3 (.seq (.reg [.ia 44 (.t 40) (.t 42) 1,.ld 45 (.t 44) 1 false,.mv 15 (.t 45)])
 (.seq (.reg [.ld 46 (.t 4) 1 true,.mv 47 (.t 15),.cq 48 F.impl_Prof_free [(.t 46), (.t 47)],.al 16 [.int .i64 0, .int .i64 0, .int .i64 0],.st (.t 16) (.t 48) 3])
 (.seq (.seq (.reg [.mv 49 (.t 15),.mv 50 (.t 1),.bi 51 .geq (.t 49) (.t 50),.mv 52 (.t 51),.g 52 true (.mv 53 (.t 15)),.g 52 true (.mv 54 (.t 2)),.g 52 true (.bi 55 .lss (.t 53) (.t 54)),.pk 56 (.t 52) (.t 55) (.c (.bool false))])
 (.cond (.t 56) (.seq (.reg [.mv 58 (.t 3),.ld 59 (.t 16) 3 true,.cc 60 (.t 58) [(.t 59)],.mv 57 (.t 60),.ex 61 (.t 57) 0,.ex 62 (.t 57) 1,.al 17 [.int .i64 0, .int .i64 0, .int .i64 0],.st (.t 17) (.t 61) 3,.mv 18 (.t 62)])
 (.seq (.seq (.reg [.mv 63 (.t 18),.un 64 (.t 63)])
 (.cond (.t 64) (.seq (.reg [.bd 65 [.nl] [],.st (.t 8) (.t 65) 1,.mv 9 (.c (.bool false))])
 (.gw (.ret)))
 (.skip)))
 (.reg [.ld 66 (.t 17) 3 true,.st (.t 16) (.t 66) 3])))
 (.skip)))
 (.gw (.seq (.reg [.fa 67 (.t 13) 0,.ld 68 (.t 67) 1 false,.ln 69 (.t 68),.mv 19 (.t 69)])
 (.seq (.rq 13 [.mv 70 (.t 19),.bi 71 .eql (.t 70) (.c (.int .i64 0)),.mv 72 (.t 71),.g 72 false (.fa 73 (.t 13) 0),.g 72 false (.ld 74 (.t 73) 1 false),.g 72 false (.mv 75 (.t 19)),.g 72 false (.bi 76 .sub (.t 75) (.c (.int .i64 1))),.g 72 false (.ia 77 (.t 74) (.t 76) 4),.g 72 false (.fa 78 (.t 77) 1),.g 72 false (.ld 79 (.t 78) 3 true),.g 72 false (.ld 80 (.t 16) 3 true),.g 72 false (.es 81 true [0, 0, 0] (.t 79) (.t 80)),.pk 82 (.t 72) (.c (.bool true)) (.t 81)])
 (.cond (.t 82) (.reg [.fa 83 (.t 13) 0,.ld 84 (.t 83) 1 false,.mv 85 (.t 15),.ld 86 (.t 16) 3 true,.bd 87 [.int .i64 0, .int .i64 0, .int .i64 0, .int .i64 0] [(0, 1, (.t 85)), (1, 3, (.t 86))],.bs 88 4 [(.t 87)] false,.ap 89 (.t 84) (.t 88) 4 32,.fa 90 (.t 13) 0,.st (.t 90) (.t 89) 1])
 (.skip)))))))))
 (.reg [.bi 91 .add (.t 42) (.c (.int .i64 1)),.mv 42 (.t 91)]))))))))
 (.seq (.seq (.reg [.fa 92 (.t 13) 0,.ld 93 (.t 92) 1 false,.ln 94 (.t 93),.bi 95 .gtr (.t 94) (.c (.int .i64 200))])
 (.cond (.t 95) (.seq (.reg [.bd 96 [.nl] [],.st (.t 8) (.t 96) 1,.mv 9 (.c (.bool false))])
 (.gw (.ret)))
 (.skip)))
 (.seq (.reg [.ld 97 (.t 13) 1 true,.st (.t 8) (.t 97) 1,.mv 9 (.c (.bool true))])
 (.gw (.ret)))))))))
def rs_impl_Prof_changed_impl_ProfTake_1 : List Rv := [.c 8 1 true, .t 9]
theorem ck_impl_Prof_changed_impl_ProfTake_1 : chkFn Tryz.prog F.impl_Prof_changed 4 ir_impl_Prof_changed_impl_ProfTake_1 rs_impl_Prof_changed_impl_ProfTake_1 = true := by kernel_rfl
def impl_Prof_changed_impl_ProfTake_1_j48 (v10 : (List Pt)) (x10 : Int) (k10 : (List Pt) → Option ((List Pt) × Bool)) (v12 : Vec) : Option ((List Pt) × Bool) :=
 (bif ((v10.length : Int) == 0) then some default else (idx v10 (w64 ((v10.length : Int) - 1)))).bind fun e13 => bif (((v10.length : Int) == 0) || (!(e13.free.a == v12.a && (e13.free.b == v12.b && (e13.free.c == v12.c && true))))) then ((appL 32 v10 [(Pt.mk x10 v12)]).bind fun xs15 => k10 xs15) else (k10 v10)
def impl_Prof_changed_impl_ProfTake_1_b57 (p1 : List Pt) (from2 : Int) (to3 : Int) (c4 : Vec) (x10 : Int) (_ : Nat) (v10 : (List Pt)) (k10 : (List Pt) → Option ((List Pt) × Bool)) : Option ((List Pt) × Bool) :=
 (impl_Prof_free p1 x10).bind fun y11 => bif ((decide (from2 ≤ x10)) && (decide (x10 < to3))) then (bif (!(impl_ProfTake_1 y11 c4).2) then (some ([], false)) else ((impl_Prof_changed_impl_ProfTake_1_j48 v10 x10 k10) ((impl_ProfTake_1 y11 c4).1))) else ((impl_Prof_changed_impl_ProfTake_1_j48 v10 x10 k10) y11)
def impl_Prof_changed_impl_ProfTake_1_k57 (v10 : (List Pt)) : Option ((List Pt) × Bool) :=
 bif (decide (200 < (v10.length : Int))) then (some ([], false)) else (some (v10, true))
def impl_Prof_changed_impl_ProfTake_1_b15 (x6 : Pt) (_ : Nat) (v6 : (List Int)) (k6 : (List Int) → Option ((List Pt) × Bool)) : Option ((List Pt) × Bool) :=
 (appL 8 v6 [x6.t]).bind fun xs7 => k6 xs7
def impl_Prof_changed_impl_ProfTake_1_k15 (p1 : List Pt) (from2 : Int) (to3 : Int) (c4 : Vec) (v6 : (List Int)) : Option ((List Pt) × Bool) :=
 (sortQ v6).bind fun xs8 => rgl (impl_Prof_changed_impl_ProfTake_1_b57 p1 from2 to3 c4) impl_Prof_changed_impl_ProfTake_1_k57 (compactI xs8) 0 []
def impl_Prof_changed_impl_ProfTake_1 (p1 : List Pt) (from2 : Int) (to3 : Int) (c4 : Vec) : Option ((List Pt) × Bool) :=
 rgl impl_Prof_changed_impl_ProfTake_1_b15 (impl_Prof_changed_impl_ProfTake_1_k15 p1 from2 to3 c4) p1 0 [from2, to3]
theorem impl_Prof_changed_impl_ProfTake_1_ok {p1 : List Pt} {from2 : Int} {to3 : Int} {c4 : Vec} {r : (List Pt) × Bool} (H : impl_Prof_changed_impl_ProfTake_1 p1 from2 to3 c4 = some r) : Snd Tryz.prog F.impl_Prof_changed [.agg [.sl .rd 4 (p1.map ePt)], .int .i64 from2, .int .i64 to3, .fn F.impl_ProfTake_1 [.ept (eVec c4) 0]] (.tup [eProfT .nw r.1, .bool r.2]) [] := by
 refine snd_g ck_impl_Prof_changed_impl_ProfTake_1 rfl (by simp) ?_
 unfold impl_Prof_changed_impl_ProfTake_1 at H
 refine Wh_go 99 [.u 25 (.ln _ _ fun _ => lm p1 ePt)] (by kernel_rfl) fun q5 => ?_
 refine Wh_rgl (fun (i6 : Nat) (v6 : (List Int)) => ⟨[(1, .int .i64 from2), (2, .int .i64 to3), (3, .fn F.impl_ProfTake_1 [.ept (eVec c4) 0]), (4, .ptr 4 0), (8, .ptr 8 0), (10, .sref 22), (24, .sl .rd 4 (p1.map ePt)), (25, .int .i64 (p1.length : Int)), (26, .int .i64 (i6 : Int))], [], [(4, [.sl .rd 4 (p1.map ePt)]), (8, [.nl])], [(22, ⟨1, v6.map eI, false⟩)]⟩) [] [] [] [] (by kernel_rfl) (by kernel_rfl) H (fun i6 x6 v6 I m k6 hxv6 hiv6 H N15 => ?_) (fun v6 I m H => ?_)
 ·unfold impl_Prof_changed_impl_ProfTake_1_b15 at H
  refine Wh_o fun _ => ?_
  refine Wh_ifT (ltT hiv6) (by kernel_rfl) ?_
  obtain ⟨xs7, h7, H⟩ := bB H
  refine Wh_go 99 [.u 28 (.ix _ _ _ fun _ => idx_map ePt (idx_nat hxv6)), .u 34 (.ap _ _ _ _ fun _ => appL_map eI h7), .w 35 (wi .i64 rfl hiv6 q5.1)] (by kernel_rfl) fun _ => ?_
  exact Wh_to (N15 _ H) [] [] [] [] (by kernel_rfl) (by kernel_rfl)
 ·unfold impl_Prof_changed_impl_ProfTake_1_k15 at H
  refine Wh_o fun _ => ?_
  refine Wh_ifF (ltF p1.length) (by kernel_rfl) ?_
  obtain ⟨xs8, h8, H⟩ := bB H
  refine Wh_go 99 [.u 37 (.cr F.slices_Sort_int_int 1 _ [] [] false _ (fun _ => i64s_noO v6) (fun _ => trivial) (fun _ => rfl) (fun _ => sortQ_ok h8)), .u 40 (.cr F.slices_Compact_int_int 1 _ [] [] true _ (fun _ => i64s_noO xs8) (fun _ => trivial) (fun _ => rfl) (fun _ => compactI_ok xs8)), .u 41 (.ln _ _ fun _ => lm (compactI xs8) eI)] (by kernel_rfl) fun q9 => ?_
  refine Wh_rgl (fun (i10 : Nat) (v10 : (List Pt)) => ⟨[(1, .int .i64 from2), (2, .int .i64 to3), (3, .fn F.impl_ProfTake_1 [.ept (eVec c4) 0]), (4, .ptr 4 0), (8, .ptr 8 0), (13, .ptr 13 0), (40, .sref 41000), (41, .int .i64 ((compactI xs8).length : Int)), (42, .int .i64 (i10 : Int))], [], [(4, [.sl .rd 4 (p1.map ePt)]), (8, [.nl]), (13, [.sref 266000])], [(266000, ⟨4, v10.map ePt, false⟩), (41000, ⟨1, (compactI xs8).map eI, false⟩)]⟩) [] [(13, [.z 266000])] [(266000, (none, 4))] [] (by kernel_rfl) (by kernel_rfl) H (fun i10 x10 v10 I m k10 hxv10 hiv10 H N57 => ?_) (fun v10 I m H => ?_)
  ·unfold impl_Prof_changed_impl_ProfTake_1_b57 at H
   refine Wh_o fun _ => ?_
   refine Wh_ifT (ltT hiv10) (by kernel_rfl) ?_
   obtain ⟨y11, h11, H⟩ := bB H
   refine Wh_go 99 [.u 44 (.ix _ _ _ fun _ => idx_map eI (idx_nat hxv10)), .u 45 (.el _ _ _ fun _ => gm eI (idx_get (idx_nat hxv10))), .c 48 (impl_Prof_free_ok h11)] (by kernel_rfl) fun _ => ?_
   refine Wh_join (r := r) (impl_Prof_changed_impl_ProfTake_1_j48 v10 x10 k10) 0 (fun v12 : Vec => ⟨[(1, .int .i64 from2), (2, .int .i64 to3), (3, .fn F.impl_ProfTake_1 [.ept (eVec c4) 0]), (4, .ptr 4 0), (8, .ptr 8 0), (13, .ptr 13 0), (15, .int .i64 x10), (16, .ptr 16 0), (40, .sref 41000), (41, .int .i64 ((compactI xs8).length : Int)), (42, .int .i64 (i10 : Int))], [], [(4, [.sl .rd 4 (p1.map ePt)]), (8, [.nl]), (13, [.sref 266000]), (16, (eVec v12).cells)], [(266000, ⟨4, v10.map ePt, false⟩), (41000, ⟨1, (compactI xs8).map eI, false⟩)]⟩) (by kernel_rfl) (fun v12 H => ?_) (fun J48 => ?_)
   ·unfold impl_Prof_changed_impl_ProfTake_1_j48 at H
    obtain ⟨e13, h13, H⟩ := bB H
    refine Wh_go 99 [.u 69 (.ln _ _ fun _ => lm v10 ePt), .g 77 [(_, false)] (.ix _ _ _ fun q => idx_map ePt (bF q.1 h13)), .g 79 [(_, false)] (.el _ _ _ fun q => gm ePt (idx_get (bF q.1 h13)))] (by kernel_rfl) fun q14 => ?_
    refine Wh_iH H (fun H => ?_) fun H => ?_
    ·obtain ⟨xs15, h15, H⟩ := bB H
     refine Wh_go 99 [.u 89 (.ap _ _ _ _ fun _ => appL_map ePt h15), .w 91 (wi .i64 rfl hiv10 q9.1)] (by kernel_rfl) fun _ => ?_
     exact Wh_to (N57 _ H) [] [] [] [] (by kernel_rfl) (by kernel_rfl)
    ·refine Wh_go 99 [.w 91 (wi .i64 rfl hiv10 q9.1)] (by kernel_rfl) fun _ => ?_
     exact Wh_to (N57 _ H) [] [] [] [] (by kernel_rfl) (by kernel_rfl)
   ·refine Wh_iH H (fun H => ?_) fun H => ?_
    ·refine Wh_go 99 [.u 60 (.clsr _ _ _ _ _ (AEs.refl _) (by kernel_rfl) (fun _ => impl_ProfTake_1_ok y11 c4))] (by kernel_rfl) fun _ => ?_
     refine Wh_iH H (fun H => ?_) fun H => ?_
     ·refine Wh_o fun _ => ?_
      replace H := sI H; subst H
      exact Wh_end [(8, .d), (9, .d)] [(8, [.n 4])] [] [] [] [⟨_, nw_Pt ([] : List Pt)⟩] (by kernel_rfl)
     ·refine Wh_o fun _ => ?_
      exact Wh_to (J48 _ H) [] [] [] [] (by kernel_rfl) (by kernel_rfl)
    ·refine Wh_o fun _ => ?_
     exact Wh_to (J48 _ H) [] [] [] [] (by kernel_rfl) (by kernel_rfl)
  ·unfold impl_Prof_changed_impl_ProfTake_1_k57 at H
   refine Wh_o fun _ => ?_
   refine Wh_ifF (ltF (compactI xs8).length) (by kernel_rfl) ?_
   refine Wh_go 99 [.u 94 (.ln _ _ fun _ => lm v10 ePt)] (by kernel_rfl) fun q16 => ?_
   refine Wh_iH H (fun H => ?_) fun H => ?_
   ·refine Wh_o fun _ => ?_
    replace H := sI H; subst H
    exact Wh_end [(8, .d), (9, .d)] [(8, [.n 4])] [] [] [] [⟨_, nw_Pt ([] : List Pt)⟩] (by kernel_rfl)
   ·refine Wh_o fun _ => ?_
    replace H := sI H; subst H
    exact Wh_end [(8, .d), (9, .d)] [(8, [.f])] [] [266000] [] [⟨_, nw_Pt v10⟩] (by kernel_rfl)
def ir_impl_ProfTake : L :=
.seq (.reg [.bx 4 (.t 0),.bx 7 (.t 3),.al 8 [.nl],.mv 9 (.c (.bool false))])
 (.seq (.seq (.reg [.ld 10 (.t 4) 1 true,.cq 11 F.impl_ProfOk [(.t 10)],.un 12 (.t 11),.mv 13 (.t 12),.g 13 false (.mv 14 (.t 1)),.g 13 false (.mv 15 (.t 2)),.g 13 false (.cq 16 F.impl_isSpan [(.t 14), (.t 15)]),.g 13 false (.un 17 (.t 16)),.pk 18 (.t 13) (.c (.bool true)) (.t 17),.mv 19 (.t 18),.g 19 false (.ld 20 (.t 7) 3 true),.g 19 false (.cq 21 F.impl_VecOk [(.t 20)]),.g 19 false (.un 22 (.t 21)),.pk 23 (.t 19) (.c (.bool true)) (.t 22)])
 (.cond (.t 23) (.seq (.reg [.bd 24 [.nl] [],.st (.t 8) (.t 24) 1,.mv 9 (.c (.bool false))])
 (.gw (.ret)))
 (.skip)))
 (.seq (.reg [.fb 7,.ld 25 (.t 4) 1 true,.mv 26 (.t 1),.mv 27 (.t 2),.mf 28 F.impl_ProfTake_1 [(.t 7)],.cq 29 F.impl_Prof_changed [(.t 25), (.t 26), (.t 27), (.t 28)],.ex 30 (.t 29) 0,.ex 31 (.t 29) 1,.st (.t 8) (.t 30) 1,.mv 9 (.t 31)])
 (.gw (.ret))))
def rs_impl_ProfTake : List Rv := [.c 8 1 true, .t 9]
theorem ck_impl_ProfTake : chkFn Tryz.prog F.impl_ProfTake 4 ir_impl_ProfTake rs_impl_ProfTake = true := by kernel_rfl
def impl_ProfTake (p1 : List Pt) (from2 : Int) (to3 : Int) (v4 : Vec) : Option ((List Pt) × Bool) :=
 (impl_ProfOk p1).bind fun b5 => bif (((!b5) || (!(impl_isSpan from2 to3))) || (!(impl_VecOk v4))) then (some ([], false)) else ((impl_Prof_changed_impl_ProfTake_1 p1 from2 to3 v4).bind fun y6 => some (y6.1, y6.2))
theorem impl_ProfTake_ok {p1 : List Pt} {from2 : Int} {to3 : Int} {v4 : Vec} {r : (List Pt) × Bool} (H : impl_ProfTake p1 from2 to3 v4 = some r) : Snd Tryz.prog F.impl_ProfTake [.agg [.sl .rd 4 (p1.map ePt)], .int .i64 from2, .int .i64 to3, eVec v4] (.tup [eProfT .nw r.1, .bool r.2]) [] := by
 refine snd_g ck_impl_ProfTake rfl (by simp) ?_
 unfold impl_ProfTake at H
 obtain ⟨b5, h5, H⟩ := bB H
 refine Wh_go 99 [.c 11 (impl_ProfOk_ok h5), .g 16 [((!b5), false)] (.call _ _ _ _ _ (AEs.refl _) (fun _ => impl_isSpan_ok from2 to3)), .g 21 [(((!b5) || (!(impl_isSpan from2 to3))), false)] (.call _ _ _ _ _ (AEs.refl _) (fun _ => impl_VecOk_ok v4))] (by kernel_rfl) fun _ => ?_
 refine Wh_iH H (fun H => ?_) fun H => ?_
 ·refine Wh_o fun _ => ?_
  replace H := sI H; subst H
  exact Wh_end [(8, .d), (9, .d)] [(8, [.n 4])] [] [] [] [⟨_, nw_Pt ([] : List Pt)⟩] (by kernel_rfl)
 ·obtain ⟨y6, h6, H⟩ := bB H
  refine Wh_go 99 [.c 29 (impl_Prof_changed_impl_ProfTake_1_ok h6)] (by kernel_rfl) fun _ => ?_
  replace H := sI H; subst H
  exact Wh_end [(8, .d), (9, .d)] [(8, [])] [] [] [] [⟨_, nw_Pt y6.1⟩] (by kernel_rfl)
/-- A right profile. -/
structure ProfP (p : List Pt) : Prop where
 pos : 0 < p.length
 le : p.length ≤ 200
 zero : ∀ x, p[0]? = some x → x.t = 0
 ok : ∀ x ∈ p, time x.t = true ∧ spec_VecOk x.free = true
 asc : ∀ (i : Nat) (x y : Pt), p[i]? = some x → p[i + 1]? = some y → x.t < y.t ∧ x.free ≠ y.free
theorem impl_ProfOk_eq (p : List Pt) : impl_ProfOk p = spec_ProfOk p := by
 have e : (!impl_within (p.length : Int) 1 200) = (decide ((p.length : Int) < 1) || decide (200 < (p.length : Int))) := by
  unfold impl_within
  rw [Bool.eq_iff_iff]; simp
 unfold impl_ProfOk spec_ProfOk
 rw [e]
 rfl
theorem vec_beq (a b : Vec) : (a.a == b.a && (a.b == b.b && (a.c == b.c && true))) = decide (a = b) := by
 cases a; cases b
 simp only [Vec.mk.injEq, Bool.and_true]
 rw [Bool.eq_iff_iff]
 simp
theorem spec_ProfOk_iff (p : List Pt) : ∃ b, spec_ProfOk p = some b ∧ (b = true ↔ ProfP p) := by
 unfold spec_ProfOk
 by_cases h1 : p.length < 1
 ·exact ⟨false, by simp [show ((p.length : Int) < 1) by omega], iff_not fun h => by have := h.pos; omega⟩
 by_cases h2 : 200 < p.length
 ·exact ⟨false, by simp [show ((200 : Int) < p.length) by omega], iff_not fun h => by have := h.le; omega⟩
 obtain ⟨p0, hp0⟩ : ∃ p0, p[0]? = some p0 := ⟨_, List.getElem?_eq_getElem (by omega)⟩
 have e1 : decide ((p.length : Int) < 1) = false := by simp; omega
 have e2 : decide ((200 : Int) < (p.length : Int)) = false := by simp; omega
 rw [e1, e2]
 simp only [Bool.or_self, cond_false, Bool.false_or, show idx p 0 = some p0 from by rw [← hp0]; exact idx_ofNat (i := 0), Option.bind_some]
 by_cases h4 : p0.t = 0
 rotate_left
 ·refine ⟨false, by rw [show (p0.t != 0) = true by simpa using h4]; rfl, iff_not fun h => h4 (h.zero _ hp0)⟩
 rw [h4]
 simp only [bne_self_eq_false, cond_false]
 refine rgl_inv (fun i (_ : Unit) => (∀ j x, j < i → p[j]? = some x → time x.t = true ∧ spec_VecOk x.free = true) ∧ ∀ j x y, j + 1 < i → p[j]? = some x → p[j + 1]? = some y → x.t < y.t ∧ x.free ≠ y.free)
  (fun r => ∃ b, r = some b ∧ (b = true ↔ ProfP p)) ?_ ?_ ⟨fun j x h => by omega, fun j x y h => by omega⟩
 ·intro i x _ k hi hI hk
  have hil := (List.getElem?_eq_some_iff.1 hi).1
  unfold spec_ProfOk_b27
  rw [spec_l01Time_eq]
  cases ht : time x.t with
  | false => exact ⟨false, rfl, iff_not fun h => by have := (h.ok x (List.mem_of_getElem? hi)).1; rw [ht] at this; cases this⟩
  | true =>
  cases hv : spec_VecOk x.free with
  | false => exact ⟨false, rfl, iff_not fun h => by have := (h.ok x (List.mem_of_getElem? hi)).2; rw [hv] at this; cases this⟩
  | true =>
  simp only [Bool.not_true, Bool.or_self, cond_false, Bool.false_or, vec_beq]
  have new1 : ∀ j y, j < i + 1 → p[j]? = some y → time y.t = true ∧ spec_VecOk y.free = true := by
   intro j y hj hy
   by_cases e : j = i
   ·subst e; rw [hi] at hy; cases hy; exact ⟨ht, hv⟩
   ·exact hI.1 j y (by omega) hy
  by_cases h0 : i = 0
  ·subst h0
   simp only [Int.natCast_zero, Int.lt_irrefl, decide_false, cond_false, Bool.false_and]
   exact hk () ⟨new1, fun j x y h => by omega⟩
  ·have hgt : decide ((0 : Int) < (i : Int)) = true := by simp; omega
   obtain ⟨q, hq⟩ : ∃ q, p[i - 1]? = some q := ⟨_, List.getElem?_eq_getElem (by omega)⟩
   rw [hgt, w64_pred (by omega) (by omega)]
   simp only [cond_true, Bool.true_and, idx_ofNat, hq, Option.bind_some]
   by_cases h5 : x.t ≤ q.t
   ·simp only [h5, decide_true, cond_true, Bool.true_or]
    refine ⟨false, rfl, iff_not fun h => ?_⟩
    have := (h.asc (i - 1) q x hq (by rw [show i - 1 + 1 = i by omega]; exact hi)).1
    omega
   ·simp only [h5, decide_false, cond_false, Bool.false_or, Option.bind_some]
    by_cases h6 : q.free = x.free
    ·simp only [h6, decide_true, cond_true]
     refine ⟨false, rfl, iff_not fun h => ?_⟩
     exact (h.asc (i - 1) q x hq (by rw [show i - 1 + 1 = i by omega]; exact hi)).2 h6
    ·simp only [h6, decide_false, cond_false]
     refine hk () ⟨new1, fun j a b hj ha hb => ?_⟩
     by_cases e : j + 1 = i
     ·have : j = i - 1 := by omega
      subst this
      rw [hq] at ha; cases ha
      rw [show i - 1 + 1 = i by omega, hi] at hb; cases hb
      exact ⟨by omega, h6⟩
     ·exact hI.2 j a b (by omega) ha hb
 ·intro _ hI
  refine ⟨true, rfl, fun _ => ⟨by omega, by omega, fun x hx => by rw [hp0] at hx; cases hx; exact h4, fun x hx => ?_, fun i x y hx hy => ?_⟩, fun _ => rfl⟩
  ·obtain ⟨j, hj⟩ := List.getElem?_of_mem hx
   exact hI.1 j x (List.getElem?_eq_some_iff.1 hj).1 hj
  ·exact hI.2 i x y (List.getElem?_eq_some_iff.1 hy).1 hx hy
noncomputable def profOk (p : List Pt) : Bool := (spec_ProfOk p).getD false
theorem spec_ProfOk_eq (p : List Pt) : spec_ProfOk p = some (profOk p) := by
 obtain ⟨b, h3, _⟩ := spec_ProfOk_iff p
 rw [profOk, h3]; rfl
theorem profOk_iff {p : List Pt} : profOk p = true ↔ ProfP p := by
 obtain ⟨b, h3, h4⟩ := spec_ProfOk_iff p
 rw [profOk, h3]; exact h4
theorem ProfP.lt {p : List Pt} (h : ProfP p) : ∀ (j i : Nat) (x y : Pt), i < j → p[i]? = some x → p[j]? = some y → x.t < y.t := by
 intro j
 induction j with
 | zero => intro i x y hij; omega
 | succ j ih =>
  intro i x y hij hx hy
  obtain ⟨z, hz⟩ : ∃ z, p[j]? = some z := ⟨_, List.getElem?_eq_getElem (by have := (List.getElem?_eq_some_iff.1 hy).1; omega)⟩
  have h1 := (h.asc j z y hz hy).1
  by_cases e : i = j
  ·subst e; rw [hz] at hx; cases hx; exact h1
  ·have := ih i x z (by omega) hx hz
   omega
theorem ProfP.asc_times {p : List Pt} (h : ProfP p) : (p.map Pt.t).Pairwise (· < ·) := by
 rw [List.pairwise_iff_getElem]
 intro i j hi hj hij
 simp only [List.length_map] at hi hj
 simp only [List.getElem_map]
 exact h.lt j i _ _ hij (List.getElem?_eq_getElem hi) (List.getElem?_eq_getElem hj)
def atV (p : List Pt) (t : Int) : Vec := p.foldl (fun v x => bif decide (x.t ≤ t) then x.free else v) ⟨0, 0, 0⟩
theorem spec_l03At_eq (p : List Pt) (t : Int) : spec_l03At p t = some (atV p t) := by
 unfold spec_l03At
 rw [rgl_foldl (f := fun v (x : Pt) => bif decide (x.t ≤ t) then x.free else v) (fun x _ i b k => by unfold spec_l03At_b19; cases decide (x.t ≤ t) <;> rfl)]
 rfl
theorem impl_free_eq (p : List Pt) (t : Int) : impl_Prof_free p t = some (atV p t) := spec_l03At_eq p t
theorem fold_ok {p : List Pt} (t : Int) (h : ∀ x ∈ p, spec_VecOk x.free = true) : ∀ v, spec_VecOk v = true → spec_VecOk (p.foldl (fun v x => bif decide (x.t ≤ t) then x.free else v) v) = true := by
 induction p with
 | nil => intro v hv; exact hv
 | cons x l ih =>
  intro v hv
  rw [List.foldl_cons]
  refine ih (fun y hy => h y (List.mem_cons_of_mem _ hy)) _ ?_
  cases decide (x.t ≤ t) with
  | true => exact h x (List.mem_cons_self ..)
  | false => exact hv
theorem atV_ok {p : List Pt} (h : ProfP p) (t : Int) : spec_VecOk (atV p t) = true := fold_ok t (fun x hx => (h.ok x hx).2) _ (by decide)
def minV (p : List Pt) (from_ to_ : Int) : Vec := p.foldl (fun v x => bif decide (from_ ≤ x.t) && decide (x.t < to_) then spec_VecMin v x.free else v) (atV p from_)
theorem spec_ProfMin_eq (p : List Pt) (from_ to_ : Int) : spec_ProfMin p from_ to_ = some (if profOk p = true ∧ time from_ = true ∧ time to_ = true ∧ from_ < to_ then (minV p from_ to_, true) else (⟨0, 0, 0⟩, false)) := by
 unfold spec_ProfMin
 rw [spec_ProfOk_eq, Option.bind_some]
 simp only [spec_l01Time_eq]
 cases profOk p <;> cases time from_ <;> cases time to_ <;> try simp
 by_cases h : to_ ≤ from_
 ·simp [h, show ¬ from_ < to_ by omega]
 ·simp only [h, decide_false, cond_false, show from_ < to_ by omega, if_true, spec_l03At_eq, Option.bind_some]
  rw [rgl_foldl (f := fun v (x : Pt) => bif decide (from_ ≤ x.t) && decide (x.t < to_) then spec_VecMin v x.free else v) (fun x _ i b k => by unfold spec_ProfMin_b26; cases (decide (from_ ≤ x.t) && decide (x.t < to_)) <;> rfl)]
  rfl
theorem rising_ext : ∀ {l m : List Int}, l.Pairwise (· < ·) → m.Pairwise (· < ·) → (∀ x, x ∈ l ↔ x ∈ m) → l = m
 | [], [], _, _, _ => rfl
 | [], b :: m, _, _, h => by have := (h b).2 (List.mem_cons_self ..); cases this
 | a :: l, [], _, _, h => by have := (h a).1 (List.mem_cons_self ..); cases this
 | a :: l, b :: m, h1, h2, h => by
  rw [List.pairwise_cons] at h1 h2
  have e : a = b := by
   rcases List.mem_cons.1 ((h a).1 (List.mem_cons_self ..)) with q | q
   ·exact q
   ·rcases List.mem_cons.1 ((h b).2 (List.mem_cons_self ..)) with q2 | q2
    ·exact q2.symm
    ·have := h1.1 b q2; have := h2.1 a q; omega
  subst e
  congr 1
  refine rising_ext h1.2 h2.2 fun x => ⟨fun hx => ?_, fun hx => ?_⟩
  ·rcases List.mem_cons.1 ((h x).1 (List.mem_cons_of_mem _ hx)) with q | q
   ·have := h1.1 x hx; omega
   ·exact q
  ·rcases List.mem_cons.1 ((h x).2 (List.mem_cons_of_mem _ hx)) with q | q
   ·have := h2.1 x hx; omega
   ·exact q
/-- A time put to its place. -/
def insT (t : Int) (l : List Int) : List Int := (l.filter fun x => decide (x < t)) ++ t :: l.filter fun x => decide (t < x)
theorem mem_insT {t x : Int} {l : List Int} : x ∈ insT t l ↔ x = t ∨ x ∈ l := by
 simp only [insT, List.mem_append, List.mem_filter, List.mem_cons, decide_eq_true_eq]
 constructor
 ·rintro (⟨h, _⟩ | h | ⟨h, _⟩)
  ·exact .inr h
  ·exact .inl h
  ·exact .inr h
 ·rintro (h | h)
  ·exact .inr (.inl h)
  ·by_cases h1 : x < t
   ·exact .inl ⟨h, h1⟩
   ·by_cases h2 : t < x
    ·exact .inr (.inr ⟨h, h2⟩)
    ·exact .inr (.inl (by omega))
theorem insT_rising {t : Int} {l : List Int} (h : l.Pairwise (· < ·)) : (insT t l).Pairwise (· < ·) := by
 unfold insT
 rw [List.pairwise_append, List.pairwise_cons]
 refine ⟨h.filter _, ⟨fun x hx => by simpa using (List.mem_filter.1 hx).2, h.filter _⟩, fun x hx y hy => ?_⟩
 have hx' : x < t := by simpa using (List.mem_filter.1 hx).2
 rcases List.mem_cons.1 hy with rfl | hy
 ·exact hx'
 ·have : t < y := by simpa using (List.mem_filter.1 hy).2
  omega
theorem insT_len (t : Int) (l : List Int) : (insT t l).length ≤ l.length + 1 := by
 have : ∀ m : List Int, (m.filter fun x => decide (x < t)).length + (m.filter fun x => decide (t < x)).length ≤ m.length := by
  intro m
  induction m with
  | nil => simp
  | cons a m ih =>
   simp only [List.filter_cons, List.length_cons]
   by_cases h1 : a < t
   ·simp only [h1, decide_true, if_true, show ¬ t < a by omega, decide_false, Bool.false_eq_true, if_false, List.length_cons]; omega
   ·by_cases h2 : t < a
    ·simp only [h1, h2, decide_true, if_true, decide_false, Bool.false_eq_true, if_false, List.length_cons]; omega
    ·simp only [h1, h2, decide_false, Bool.false_eq_true, if_false]; omega
 have := this l
 simp only [insT, List.length_append, List.length_cons]; omega
/-- The reference's loop. -/
theorem ins_loop {γ : Type} (t : Int) (k : List Int → Option γ) (bd : Int → Nat → Bool × List Int → ((Bool × List Int) → Option γ) → Option γ) (kk : Bool × List Int → Option γ)
  (hb : ∀ x i d acc kc, acc.length ≤ 1000 → bd x i (d, acc) kc = bif (!d) && decide (t ≤ x) then (bif x != t then kc (true, acc ++ [t] ++ [x]) else kc (true, acc ++ [t])) else (bif x != t then kc (d, acc ++ [x]) else kc (d, acc)))
  (hk : ∀ d acc, acc.length ≤ 1000 → kk (d, acc) = bif !d then k (acc ++ [t]) else k acc) : ∀ (l : List Int) (i : Nat), l.Pairwise (· < ·) → l.length ≤ 500 →
  (∀ acc : List Int, acc.length ≤ 500 - l.length → rgl bd kk l i (false, acc) = k (acc ++ insT t l)) ∧ ∀ acc : List Int, acc.length ≤ 501 - l.length → (∀ x ∈ l, t < x) → rgl bd kk l i (true, acc) = k (acc ++ l)
 | [], i, _, _ => ⟨fun acc h => by rw [rgl, hk _ _ (by omega)]; simp [insT], fun acc h _ => by rw [rgl, hk _ _ (by omega)]; simp⟩
 | x :: l, i, hp, hl => by
  rw [List.pairwise_cons] at hp
  simp only [List.length_cons] at hl
  obtain ⟨q1, q2⟩ := ins_loop t k bd kk hb hk l (i + 1) hp.2 (by omega)
  refine ⟨fun acc ha => ?_, fun acc ha hx => ?_⟩
  ·simp only [List.length_cons] at ha
   rw [rgl, hb _ _ _ _ _ (by omega)]
   by_cases h1 : t ≤ x
   ·have hall : ∀ y ∈ l, t < y := fun y hy => by have := hp.1 y hy; omega
    have f1 : (l.filter fun y => decide (y < t)) = [] := List.filter_eq_nil_iff.2 fun y hy => by have := hall y hy; simp; omega
    have f2 : (l.filter fun y => decide (t < y)) = l := List.filter_eq_self.2 fun y hy => by simpa using hall y hy
    simp only [Bool.not_false, Bool.true_and, h1, decide_true, cond_true]
    by_cases h2 : x = t
    ·subst h2
     simp only [bne_self_eq_false, cond_false]
     rw [q2 _ (by simp; omega) hall]
     simp [insT, f1, f2]
    ·rw [show (x != t) = true by simpa using h2, cond_true, q2 _ (by simp; omega) hall]
     simp [insT, f1, f2, show ¬ x < t by omega, show t < x by omega]
   ·simp only [Bool.not_false, Bool.true_and, h1, decide_false, cond_false]
    rw [show (x != t) = true by simp; omega, cond_true, q1 _ (by simp; omega)]
    simp [insT, show x < t by omega, show ¬ t < x by omega]
  ·simp only [List.length_cons] at ha
   have hx1 := hx x (List.mem_cons_self ..)
   rw [rgl, hb _ _ _ _ _ (by omega)]
   simp only [Bool.not_true, Bool.false_and, cond_false]
   rw [show (x != t) = true by simp; omega, cond_true, q2 _ (by simp; omega) fun y hy => hx y (List.mem_cons_of_mem _ hy)]
   simp
def timesV (p : List Pt) (from_ to_ : Int) : List Int := insT to_ (insT from_ (p.map Pt.t))
theorem spec_l03Times_eq {p : List Pt} (h : ProfP p) (from_ to_ : Int) : spec_l03Times p from_ to_ = some (timesV p from_ to_) := by
 have hle := h.le
 unfold spec_l03Times
 rw [rgl_gather (bd := spec_l03Times_b15) (bs := 8) (p := fun _ => true) (f := Pt.t) (fun x _ i b k => rfl) (by simp; omega)]
 have one : ∀ (t : Int) (i : Nat) (v : List Int) (k : List Int → Option (List Int)), v.Pairwise (· < ·) → v.length ≤ 300 → spec_l03Times_b70 t i v k = k (insT t v) := by
  intro t i v k hv hl
  unfold spec_l03Times_b70
  have := (ins_loop t k (spec_l03Times_b51 t) (spec_l03Times_k51 t k) (fun x i d acc kc ha => by
   unfold spec_l03Times_b51 spec_l03Times_j43
   cases ((!d) && decide (t ≤ x)) with
   | true =>
    simp only [cond_true]
    rw [appL_some (by simp; omega), Option.bind_some]
    cases (x != t) with
    | true => simp only [cond_true]; rw [appL_some (by simp; omega), Option.bind_some]
    | false => rfl
   | false =>
    simp only [cond_false]
    cases (x != t) with
    | true => simp only [cond_true]; rw [appL_some (by simp; omega), Option.bind_some]
    | false => rfl) (fun d acc ha => by
   unfold spec_l03Times_k51
   cases d with
   | true => rfl
   | false => simp only [Bool.not_false, cond_true]; rw [appL_some (by simp; omega), Option.bind_some]) v 0 hv (by omega)).1 [] (by simp)
  simpa using this
 have hp := h.asc_times
 have hl1 := insT_len from_ (p.map Pt.t)
 simp only [List.length_map] at hl1
 unfold spec_l03Times_k15
 simp only [List.nil_append, show (p.filter fun _ => true) = p from List.filter_eq_self.2 fun _ _ => rfl]
 rw [rgl, one _ _ _ _ hp (by simp; omega), rgl, one _ _ _ _ (insT_rising hp) (by omega)]
 rfl
theorem compact_spec {l : List Int} (h : l.Pairwise (· ≤ ·)) : (compactI l).Pairwise (· < ·) ∧ ∀ x, x ∈ compactI l ↔ x ∈ l := by
 have hsz : l.toArray.size = l.length := by simp
 have get : ∀ j, j < l.length → l.toArray[j]! = l[j]! := by intro j hj; simp
 have mono : ∀ i j, i ≤ j → j < l.length → l.toArray[i]! ≤ l.toArray[j]! := by
  intro i j hij hj
  by_cases e : i = j
  ·subst e; exact Int.le_refl _
  ·have := List.pairwise_iff_getElem.1 h i j (by omega) hj (by omega)
   simpa [show i < l.length by omega, hj] using this
 unfold compactI Lib.compact Lib.compactUpTo
 constructor
 ·rw [List.pairwise_map]
  have hr : ((List.range l.length).filter (Lib.keeps l.toArray)).Pairwise (· < ·) := List.Pairwise.filter _ List.pairwise_lt_range
  refine List.Pairwise.imp_of_mem (fun {a b} ha hb hab => ?_) hr
  have hb1 := List.mem_filter.1 hb
  have hbl : b < l.length := List.mem_range.1 hb1.1
  have hk : b = 0 ∨ l.toArray[b]! ≠ l.toArray[b - 1]! := by simpa [Lib.keeps] using hb1.2
  rcases hk with rfl | hk
  ·omega
  ·have := mono a (b - 1) (by omega) (by omega)
   have := mono (b - 1) b (by omega) hbl
   omega
 ·intro x
  simp only [List.mem_map, List.mem_filter, List.mem_range]
  constructor
  ·rintro ⟨j, ⟨hj, _⟩, rfl⟩
   rw [get j hj]
   simp [hj]
  ·intro hx
   -- the first place of x
   have : ∀ n, (∃ j, j < n ∧ j < l.length ∧ l.toArray[j]! = x) → ∃ j, (j < l.length ∧ Lib.keeps l.toArray j = true) ∧ l.toArray[j]! = x := by
    intro n
    induction n with
    | zero => rintro ⟨j, hj, _⟩; omega
    | succ n ih =>
     rintro ⟨j, hj, hjl, he⟩
     cases hk : Lib.keeps l.toArray j with
     | true => exact ⟨j, ⟨hjl, hk⟩, he⟩
     | false =>
      have hk' : ¬ (j = 0 ∨ l.toArray[j]! ≠ l.toArray[j - 1]!) := by simpa [Lib.keeps] using hk
      have h0 : j ≠ 0 := fun e => hk' (.inl e)
      have h1 : l.toArray[j]! = l.toArray[j - 1]! := Classical.byContradiction fun q => hk' (.inr q)
      exact ih ⟨j - 1, by omega, by omega, by rw [← h1]; exact he⟩
   obtain ⟨j, hj⟩ := List.getElem?_of_mem hx
   obtain ⟨hjl, hje⟩ := List.getElem?_eq_some_iff.1 hj
   exact this l.length ⟨j, hjl, hjl, by rw [get j hjl]; simp [hjl, hje]⟩
theorem sortI_spec (l : List Int) : (sortI l).Pairwise (· ≤ ·) ∧ ∀ x, x ∈ sortI l ↔ x ∈ l := by
 refine ⟨?_, fun x => (List.mergeSort_perm l _).mem_iff⟩
 have := List.pairwise_mergeSort (le := fun (x y : Int) => decide (x ≤ y)) (fun a b c h1 h2 => by simp at *; omega) (fun a b => by simp; omega) l
 exact this.imp fun h => by simpa using h
theorem compact_sort {p : List Pt} (h : ProfP p) (from_ to_ : Int) : compactI (sortI ([from_, to_] ++ p.map Pt.t)) = timesV p from_ to_ := by
 obtain ⟨s1, s2⟩ := sortI_spec ([from_, to_] ++ p.map Pt.t)
 obtain ⟨c1, c2⟩ := compact_spec s1
 refine rising_ext c1 (insT_rising (insT_rising h.asc_times)) fun x => ?_
 rw [c2, s2, timesV, mem_insT, mem_insT]
 simp only [List.cons_append, List.nil_append, List.mem_cons]
 constructor
 ·rintro (h | h | h)
  ·exact .inr (.inl h)
  ·exact .inl h
  ·exact .inr (.inr h)
 ·rintro (h | h | h)
  ·exact .inr (.inl h)
  ·exact .inl h
  ·exact .inr (.inr h)
def pushP (out : List Pt) (t : Int) (w : Vec) : List Pt := match out.getLast? with
 | some e => if e.free = w then out else out ++ [⟨t, w⟩]
 | none => [⟨t, w⟩]
theorem j34_eq {out : List Pt} (h : out.length ≤ 1000) (x : Int) (w : Vec) (k : List Pt → Option (List Pt × Bool)) : spec_l03Change_j34 out x k w = k (pushP out x w) := by
 unfold spec_l03Change_j34 pushP
 cases hl : out with
 | nil =>
  simp only [List.length_nil, List.getLast?_nil]
  rw [show (((0 : Nat) : Int) == 0) = true from rfl, cond_true, Option.bind_some, Bool.true_or, cond_true, appL_some (by simp), Option.bind_some]; rfl
 | cons a l =>
  have hne : ((out.length : Int) == 0) = false := by rw [hl]; simp; omega
  obtain ⟨e, he⟩ : ∃ e, out[out.length - 1]? = some e := ⟨_, List.getElem?_eq_getElem (by rw [hl]; simp)⟩
  have hlast : out.getLast? = some e := by rw [List.getLast?_eq_getElem?]; exact he
  rw [← hl, hne, hlast, w64_pred (by rw [hl]; simp) (by omega), idx_ofNat, he]
  simp only [cond_false, Option.bind_some, Bool.false_or, vec_beq]
  by_cases hw : e.free = w
  ·simp [hw]
  ·simp only [hw, decide_false, Bool.not_false, cond_true, if_false]
   rw [appL_some (by simp; omega), Option.bind_some]
/-- The points made so far, of the first i times. -/
structure Made (T : List Int) (i : Nat) (out : List Pt) : Prop where
 len : out.length ≤ i
 mem : ∀ x ∈ out, ∃ j, j < i ∧ T[j]? = some x.t
 ok : ∀ x ∈ out, spec_VecOk x.free = true
 asc : ∀ (j : Nat) (x y : Pt), out[j]? = some x → out[j + 1]? = some y → x.t < y.t ∧ x.free ≠ y.free
 fst : 0 < i → ∃ x, out[0]? = some x ∧ T[0]? = some x.t
theorem Made.nil (T : List Int) : Made T 0 [] where
 len := Nat.le_refl _
 mem := fun x hx => by cases hx
 ok := fun x hx => by cases hx
 asc := fun j x y hx => by simp at hx
 fst := fun h => by omega
theorem Made.push {T : List Int} (hT : T.Pairwise (· < ·)) {i : Nat} {out : List Pt} (M : Made T i out) {t : Int} (ht : T[i]? = some t) {w : Vec} (hw : spec_VecOk w = true) : Made T (i + 1) (pushP out t w) := by
 have lt : ∀ x ∈ out, x.t < t := by
  intro x hx
  obtain ⟨j, hj, he⟩ := M.mem x hx
  obtain ⟨h1, e1⟩ := List.getElem?_eq_some_iff.1 he
  obtain ⟨h2, e2⟩ := List.getElem?_eq_some_iff.1 ht
  rw [← e1, ← e2]
  exact List.pairwise_iff_getElem.1 hT j i h1 h2 hj
 unfold pushP
 cases hl : out.getLast? with
 | none =>
  have : out = [] := List.getLast?_eq_none_iff.1 hl
  subst this
  have hi : i = 0 := by
   cases i with
   | zero => rfl
   | succ i => obtain ⟨x, hx, _⟩ := M.fst (by omega); simp at hx
  subst hi
  exact ⟨by simp, fun x hx => by simp at hx; subst hx; exact ⟨0, by omega, ht⟩, fun x hx => by simp at hx; subst hx; exact hw, fun j x y hx hy => by simp at hy, fun _ => ⟨_, rfl, ht⟩⟩
 | some e =>
  simp only
  by_cases he : e.free = w
  ·rw [if_pos he]
   exact ⟨by have := M.len; omega, fun x hx => by obtain ⟨j, hj, h⟩ := M.mem x hx; exact ⟨j, by omega, h⟩, M.ok, M.asc, fun _ => by
    cases i with
    | zero => have := M.len; have : out = [] := List.eq_nil_of_length_eq_zero (by omega); subst this; simp at hl
    | succ i => exact M.fst (by omega)⟩
  ·rw [if_neg he]
   refine ⟨by have := M.len; simp; omega, fun x hx => ?_, fun x hx => ?_, fun j x y hx hy => ?_, fun _ => ?_⟩
   ·rcases List.mem_append.1 hx with hx | hx
    ·obtain ⟨j, hj, h⟩ := M.mem x hx; exact ⟨j, by omega, h⟩
    ·simp at hx; subst hx; exact ⟨i, by omega, ht⟩
   ·rcases List.mem_append.1 hx with hx | hx
    ·exact M.ok x hx
    ·simp at hx; subst hx; exact hw
   ·by_cases hj : j + 1 < out.length
    ·rw [List.getElem?_append_left (by omega)] at hx
     rw [List.getElem?_append_left hj] at hy
     exact M.asc j x y hx hy
    ·have hlt := (List.getElem?_eq_some_iff.1 hy).1
     simp only [List.length_append, List.length_cons, List.length_nil] at hlt
     have hje : j = out.length - 1 := by omega
     rw [List.getElem?_append_left (by omega)] at hx
     rw [List.getElem?_append_right (by omega), show j + 1 - out.length = 0 by omega] at hy
     simp at hy
     subst hy
     rw [List.getLast?_eq_getElem?, ← hje, hx] at hl
     have hl := Option.some.inj hl
     subst hl
     exact ⟨lt _ (List.mem_of_getElem? hx), he⟩
   ·have hne : out ≠ [] := fun e => by rw [e] at hl; simp at hl
    cases i with
    | zero => have := M.len; exact absurd (List.eq_nil_of_length_eq_zero (by omega)) hne
    | succ i =>
     obtain ⟨x, hx, h⟩ := M.fst (by omega)
     exact ⟨x, by rw [List.getElem?_append_left (by have := (List.getElem?_eq_some_iff.1 hx).1; omega)]; exact hx, h⟩
theorem timesV_ok {p : List Pt} (h : ProfP p) {from_ to_ : Int} (h1 : time from_ = true) (h2 : time to_ = true) :
  (timesV p from_ to_).Pairwise (· < ·) ∧ (timesV p from_ to_).length ≤ 202 ∧ (∀ t ∈ timesV p from_ to_, time t = true) ∧ (timesV p from_ to_)[0]? = some 0 ∧ from_ ∈ timesV p from_ to_ := by
 have hp := insT_rising (t := to_) (insT_rising (t := from_) h.asc_times)
 have hm : ∀ t, t ∈ timesV p from_ to_ ↔ t = to_ ∨ t = from_ ∨ t ∈ p.map Pt.t := fun t => by rw [timesV, mem_insT, mem_insT]
 have hok : ∀ t ∈ timesV p from_ to_, time t = true := by
  intro t ht
  rcases (hm t).1 ht with rfl | rfl | ht
  ·exact h2
  ·exact h1
  ·obtain ⟨x, hx, rfl⟩ := List.mem_map.1 ht
   exact (h.ok x hx).1
 have h0 : (0 : Int) ∈ timesV p from_ to_ := by
  obtain ⟨x, hx⟩ : ∃ x, p[0]? = some x := ⟨_, List.getElem?_eq_getElem h.pos⟩
  exact (hm 0).2 (.inr (.inr (List.mem_map.2 ⟨x, List.mem_of_getElem? hx, h.zero x hx⟩)))
 have hl1 := insT_len from_ (p.map Pt.t)
 have hl2 := insT_len to_ (insT from_ (p.map Pt.t))
 simp only [List.length_map] at hl1
 have := h.le
 refine ⟨hp, by unfold timesV; omega, hok, ?_, (hm from_).2 (.inr (.inl rfl))⟩
 obtain ⟨j, hj⟩ := List.getElem?_of_mem h0
 obtain ⟨hjl, hje⟩ := List.getElem?_eq_some_iff.1 hj
 by_cases e : j = 0
 ·subst e; exact hj
 ·have := List.pairwise_iff_getElem.1 hp 0 j (by unfold timesV at hjl; omega) (by unfold timesV at hjl; exact hjl) (by omega)
  have h00 := hok (timesV p from_ to_)[0] (List.getElem_mem (by omega))
  have := (time_iff.1 h00).1
  unfold timesV at hje this
  omega
/-- Both loops, in common words. -/
def takeB (p : List Pt) (from_ to_ : Int) (v : Vec) (x : Int) (out : List Pt) (k : List Pt → Option (List Pt × Bool)) : Option (List Pt × Bool) :=
 bif decide (from_ ≤ x) && decide (x < to_) then (bif (spec_VecSub (atV p x) v).2 then k (pushP out x (spec_VecSub (atV p x) v).1) else some ([], false)) else k (pushP out x (atV p x))
theorem spec_takeB {p : List Pt} {from_ to_ : Int} {v : Vec} {x : Int} {i : Nat} {out : List Pt} (h : out.length ≤ 1000) (k : List Pt → Option (List Pt × Bool)) : spec_l03Change_b43 p from_ to_ v false x i out k = takeB p from_ to_ v x out k := by
 unfold spec_l03Change_b43 takeB
 rw [spec_l03At_eq, Option.bind_some]
 cases (decide (from_ ≤ x) && decide (x < to_)) with
 | false => simp only [cond_false]; rw [j34_eq h]
 | true =>
  simp only [cond_true, cond_false, spec_l03Change_j22]
  cases (spec_VecSub (atV p x) v).2 with
  | false => rfl
  | true => simp only [Bool.not_true, cond_false, cond_true]; rw [j34_eq h]
theorem impl_takeB {p : List Pt} (hp : ProfP p) {from_ to_ : Int} {v : Vec} {x : Int} {i : Nat} {out : List Pt} (h : out.length ≤ 1000) (k : List Pt → Option (List Pt × Bool)) : impl_Prof_changed_impl_ProfTake_1_b57 p from_ to_ v x i out k = takeB p from_ to_ v x out k := by
 unfold impl_Prof_changed_impl_ProfTake_1_b57 takeB impl_ProfTake_1
 rw [impl_free_eq, Option.bind_some, impl_VecSub_eq (atV_ok hp x)]
 cases (decide (from_ ≤ x) && decide (x < to_)) with
 | false => simp only [cond_false]; exact j34_eq h x _ k
 | true =>
  simp only [cond_true]
  cases (spec_VecSub (atV p x) v).2 with
  | false => rfl
  | true => simp only [Bool.not_true, cond_false, cond_true]; exact j34_eq h x _ k
theorem VecSub_ok {a b : Vec} (h : (spec_VecSub a b).2 = true) : spec_VecOk (spec_VecSub a b).1 = true := by
 unfold spec_VecSub at h ⊢
 cases hf : spec_VecFits b a with
 | false => rw [hf] at h; simp at h
 | true =>
  simp only [Bool.not_true, cond_false]
  unfold spec_VecFits at hf
  simp only [Bool.and_eq_true, decide_eq_true_eq] at hf
  obtain ⟨⟨⟨⟨h1, h2⟩, h3⟩, h4⟩, h5⟩ := hf
  have h1 := vecOk_iff.1 h1
  have h2 := vecOk_iff.1 h2
  rw [vecOk_iff, w64_id (by omega), w64_id (by omega), w64_id (by omega)]
  simp only; omega
theorem ProfTake_eq (p : List Pt) (from_ to_ : Int) (v : Vec) : impl_ProfTake p from_ to_ v = spec_ProfTake p from_ to_ v ∧ ∃ r, spec_ProfTake p from_ to_ v = some r ∧ (r.2 = true → ProfP r.1) := by
 unfold impl_ProfTake spec_ProfTake
 rw [impl_ProfOk_eq, spec_ProfOk_eq, spec_ProfMin_eq, Option.bind_some, Option.bind_some]
 cases hpo : profOk p with
 | false => simp
 | true =>
 have hp := profOk_iff.1 hpo
 unfold impl_isSpan
 simp only [impl_isTime_eq]
 by_cases hs : time from_ = true ∧ time to_ = true ∧ from_ < to_
 rotate_left
 ·have e : ((time from_ && time to_) && decide (from_ < to_)) = false := by
   rw [Bool.eq_false_iff]; intro q; simp only [Bool.and_eq_true, decide_eq_true_eq] at q; exact hs ⟨q.1.1, q.1.2, q.2⟩
  rw [e, if_neg (fun q => hs q.2)]
  simp
 obtain ⟨h1, h2, h3⟩ := hs
 rw [if_pos ⟨trivial, h1, h2, h3⟩]
 obtain ⟨t1, t2, t3, t4, t5⟩ := timesV_ok hp h1 h2
 have T := spec_l03Times_eq hp from_ to_
 -- the reference, in common words
 have spec_run : spec_l03Change p from_ to_ v false = rgl (fun x _ => takeB p from_ to_ v x) spec_l03Change_k43 (timesV p from_ to_) 0 [] := by
  unfold spec_l03Change
  rw [T, Option.bind_some]
  refine rgl_rel (fun i b c => b = c ∧ Made (timesV p from_ to_) i b) rfl (fun i x y b c k k2 hx hy hr hk => ?_) (fun b c hr => by rw [hr.1]) ⟨rfl, Made.nil _⟩
  obtain ⟨rfl, M⟩ := hr
  rw [hx] at hy; cases hy
  have hil := (List.getElem?_eq_some_iff.1 hx).1
  rw [spec_takeB (by have := M.len; omega)]
  unfold takeB
  cases (decide (from_ ≤ x) && decide (x < to_)) with
  | false => exact hk _ _ ⟨rfl, M.push t1 hx (atV_ok hp x)⟩
  | true =>
   simp only [cond_true]
   cases hv : (spec_VecSub (atV p x) v).2 with
   | false => rfl
   | true => exact hk _ _ ⟨rfl, M.push t1 hx (VecSub_ok hv)⟩
 have ends : ∀ b, Made (timesV p from_ to_) (timesV p from_ to_).length b → (profOk b = true ↔ b.length ≤ 200) := by
  intro b M
  rw [profOk_iff]
  refine ⟨fun h => h.le, fun hl => ?_⟩
  obtain ⟨x, hx, h0⟩ := M.fst (by have := List.length_pos_of_mem t5; omega)
  rw [t4] at h0
  exact ⟨(List.getElem?_eq_some_iff.1 hx).1, hl, fun y hy => by rw [hx] at hy; cases hy; exact (Option.some.inj h0).symm, fun y hy => ⟨by
   obtain ⟨j, _, hj⟩ := M.mem y hy
   exact t3 _ (List.mem_of_getElem? hj), M.ok y hy⟩, M.asc⟩
 have total : ∃ r : List Pt × Bool, rgl (fun x _ => takeB p from_ to_ v x) spec_l03Change_k43 (timesV p from_ to_) 0 [] = some r ∧ (r.2 = true → ProfP r.1) := by
  refine rgl_inv (fun i b => Made (timesV p from_ to_) i b) (fun o => ∃ r : List Pt × Bool, o = some r ∧ (r.2 = true → ProfP r.1)) (fun i x b k hx M hk => ?_) (fun b M => ?_) (Made.nil _)
  ·unfold takeB
   cases (decide (from_ ≤ x) && decide (x < to_)) with
   | false => exact hk _ (M.push t1 hx (atV_ok hp x))
   | true =>
    simp only [cond_true]
    cases hv : (spec_VecSub (atV p x) v).2 with
    | false => exact ⟨_, rfl, fun h => by cases h⟩
    | true => exact hk _ (M.push t1 hx (VecSub_ok hv))
  ·unfold spec_l03Change_k43
   rw [spec_ProfOk_eq, Option.bind_some]
   cases hb : profOk b with
   | false => exact ⟨_, rfl, fun h => by cases h⟩
   | true => exact ⟨_, rfl, fun _ => profOk_iff.1 hb⟩
 have bind_id : ∀ o : Option (List Pt × Bool), (o.bind fun y6 => some (y6.1, y6.2)) = o := by intro o; cases o <;> rfl
 simp only [Bool.not_true, Bool.false_or, h1, h2, h3, Bool.and_self, decide_true, cond_false, bind_id, impl_VecOk_eq]
 rw [spec_run]
 refine ⟨?_, total⟩
 cases hv : spec_VecOk v with
 | false =>
  simp only [Bool.not_false, cond_true]
  symm
  refine rgl_inv (fun i b => Made (timesV p from_ to_) i b ∧ ∀ j, j < i → (timesV p from_ to_)[j]? ≠ some from_) (fun o => o = some ([], false)) (fun i x b k hx hI hk => ?_) (fun b hI => ?_) ⟨Made.nil _, fun j h => by omega⟩
  ·obtain ⟨M, hI⟩ := hI
   have sub : ∀ x, spec_VecSub (atV p x) v = (⟨0, 0, 0⟩, false) := fun x => by unfold spec_VecSub spec_VecFits; rw [hv]; rfl
   unfold takeB
   rw [sub]
   by_cases hf : from_ ≤ x ∧ x < to_
   ·simp [hf.1, hf.2]
   ·have e : (decide (from_ ≤ x) && decide (x < to_)) = false := by simpa using fun q => by omega
    rw [e]
    refine hk _ ⟨M.push t1 hx (atV_ok hp x), fun j hj e => ?_⟩
    by_cases hji : j = i
    ·subst hji; rw [hx] at e; cases e; omega
    ·exact hI j (by omega) e
  ·obtain ⟨j, hj⟩ := List.getElem?_of_mem t5
   exact absurd hj (hI.2 j (List.getElem?_eq_some_iff.1 hj).1)
 | true =>
  simp only [Bool.not_true, cond_false]
  unfold impl_Prof_changed_impl_ProfTake_1
  rw [rgl_gather (bd := impl_Prof_changed_impl_ProfTake_1_b15) (bs := 8) (p := fun _ => true) (f := Pt.t) (fun x _ i b k => rfl) (by have := hp.le; simp; omega)]
  unfold impl_Prof_changed_impl_ProfTake_1_k15
  rw [show (p.filter fun _ => true) = p from List.filter_eq_self.2 fun _ _ => rfl]
  have hs : sortQ ([from_, to_] ++ p.map Pt.t) = some (sortI ([from_, to_] ++ p.map Pt.t)) := by
   unfold sortQ
   rw [if_pos (by have := hp.le; simp; omega)]
  rw [hs, Option.bind_some, compact_sort hp]
  refine rgl_rel (fun i b c => b = c ∧ Made (timesV p from_ to_) i b) rfl (fun i x y b c k k2 hx hy hr hk => ?_) (fun b c hr => ?_) ⟨rfl, Made.nil _⟩
  ·obtain ⟨rfl, M⟩ := hr
   rw [hx] at hy; cases hy
   have hil := (List.getElem?_eq_some_iff.1 hx).1
   rw [impl_takeB hp (by have := M.len; omega)]
   unfold takeB
   cases (decide (from_ ≤ x) && decide (x < to_)) with
   | false => exact hk _ _ ⟨rfl, M.push t1 hx (atV_ok hp x)⟩
   | true =>
    simp only [cond_true]
    cases hv : (spec_VecSub (atV p x) v).2 with
    | false => rfl
    | true => exact hk _ _ ⟨rfl, M.push t1 hx (VecSub_ok hv)⟩
  ·obtain ⟨rfl, M⟩ := hr
   unfold impl_Prof_changed_impl_ProfTake_1_k57 spec_l03Change_k43
   rw [spec_ProfOk_eq, Option.bind_some]
   by_cases hl : b.length ≤ 200
   ·rw [(ends b M).2 hl]
    simp [show ¬ (200 : Int) < b.length by omega]
   ·rw [show profOk b = false from Bool.eq_false_iff.2 fun q => hl ((ends b M).1 q)]
    simp [show (200 : Int) < b.length by omega]
def ir_spec_JobOk : L :=
.seq (.reg [.bx 1 (.t 0),.mv 2 (.c (.bool false))])
 (.seq (.seq (.reg [.fa 3 (.t 1) 0,.ld 4 (.t 3) 1 false,.bi 5 .lss (.t 4) (.c (.int .i64 1)),.mv 6 (.t 5),.g 6 false (.fa 7 (.t 1) 0),.g 6 false (.ld 8 (.t 7) 1 false),.g 6 false (.bi 9 .gtr (.t 8) (.c (.int .i64 999))),.pk 10 (.t 6) (.c (.bool true)) (.t 9),.mv 11 (.t 10),.g 11 false (.fa 12 (.t 1) 1),.g 11 false (.ld 13 (.t 12) 1 false),.g 11 false (.bi 14 .lss (.t 13) (.c (.int .i64 0))),.pk 15 (.t 11) (.c (.bool true)) (.t 14),.mv 16 (.t 15),.g 16 false (.fa 17 (.t 1) 1),.g 16 false (.ld 18 (.t 17) 1 false),.g 16 false (.bi 19 .gtr (.t 18) (.c (.int .i64 999))),.pk 20 (.t 16) (.c (.bool true)) (.t 19),.mv 21 (.t 20),.g 21 false (.fa 22 (.t 1) 2),.g 21 false (.ld 23 (.t 22) 1 false),.g 21 false (.bi 24 .lss (.t 23) (.c (.int .i64 1))),.pk 25 (.t 21) (.c (.bool true)) (.t 24),.mv 26 (.t 25),.g 26 false (.fa 27 (.t 1) 2),.g 26 false (.ld 28 (.t 27) 1 false),.g 26 false (.bi 29 .gtr (.t 28) (.c (.int .i64 24))),.pk 30 (.t 26) (.c (.bool true)) (.t 29)])
 (.cond (.t 30) (.seq (.reg [.mv 2 (.c (.bool false))])
 (.gw (.ret)))
 (.skip)))
 (.seq (.reg [.fa 31 (.t 1) 3,.ld 32 (.t 31) 3 true,.cq 33 F.spec_VecOk [(.t 32)],.mv 34 (.t 33),.g 34 true (.fa 35 (.t 1) 6),.g 34 true (.ld 36 (.t 35) 3 true),.g 34 true (.cq 37 F.spec_VecOk [(.t 36)]),.pk 38 (.t 34) (.t 37) (.c (.bool false)),.mv 39 (.t 38),.g 39 true (.fa 40 (.t 1) 9),.g 39 true (.ld 41 (.t 40) 1 false),.g 39 true (.bi 42 .geq (.t 41) (.c (.int .i64 1))),.pk 43 (.t 39) (.t 42) (.c (.bool false)),.mv 44 (.t 43),.g 44 true (.fa 45 (.t 1) 9),.g 44 true (.ld 46 (.t 45) 1 false),.g 44 true (.bi 47 .leq (.t 46) (.c (.int .i64 1000000))),.pk 48 (.t 44) (.t 47) (.c (.bool false)),.mv 49 (.t 48),.g 49 true (.fa 50 (.t 1) 10),.g 49 true (.ld 51 (.t 50) 1 false),.g 49 true (.bi 52 .geq (.t 51) (.c (.int .i64 0))),.pk 53 (.t 49) (.t 52) (.c (.bool false)),.mv 54 (.t 53),.g 54 true (.fa 55 (.t 1) 10),.g 54 true (.ld 56 (.t 55) 1 false),.g 54 true (.bi 57 .leq (.t 56) (.c (.int .i64 24))),.pk 58 (.t 54) (.t 57) (.c (.bool false)),.mv 2 (.t 58)])
 (.gw (.ret))))
def rs_spec_JobOk : List Rv := [.t 2]
theorem ck_spec_JobOk : chkFn Tryz.prog F.spec_JobOk 1 ir_spec_JobOk rs_spec_JobOk = true := by kernel_rfl
def spec_JobOk_o (j1 : Job) : Option Bool :=
 bif ((((((decide (j1.id < 1)) || (decide (999 < j1.id))) || (decide (j1.prio < 0))) || (decide (999 < j1.prio))) || (decide (j1.nodes < 1))) || (decide (24 < j1.nodes))) then (some false) else (some ((((((spec_VecOk j1.need) && (spec_VecOk j1.lic)) && (decide (1 ≤ j1.wall))) && (decide (j1.wall ≤ 1000000))) && (decide (0 ≤ j1.level))) && (decide (j1.level ≤ 24))))
theorem spec_JobOk_o_ok {j1 : Job} {r : Bool} (H : spec_JobOk_o j1 = some r) : Snd Tryz.prog F.spec_JobOk [eJob j1] (.bool r) [] := by
 refine snd_g ck_spec_JobOk rfl (by simp) ?_
 unfold spec_JobOk_o at H
 refine Wh_o fun _ => ?_
 refine Wh_iH H (fun H => ?_) fun H => ?_
 ·refine Wh_o fun _ => ?_
  replace H := sI H; subst H
  exact Wh_end [(2, .d)] [] [] [] [] [] (by kernel_rfl)
 ·refine Wh_go 99 [.c 33 (spec_VecOk_ok j1.need), .g 37 [((spec_VecOk j1.need), true)] (.call _ _ _ _ _ (AEs.refl _) (fun _ => spec_VecOk_ok j1.lic))] (by kernel_rfl) fun _ => ?_
  replace H := sI H; subst H
  exact Wh_end [(2, .d)] [] [] [] [] [] (by kernel_rfl)
def spec_JobOk (j1 : Job) : Bool :=
 bif ((((((decide (j1.id < 1)) || (decide (999 < j1.id))) || (decide (j1.prio < 0))) || (decide (999 < j1.prio))) || (decide (j1.nodes < 1))) || (decide (24 < j1.nodes))) then (false) else (((((((spec_VecOk j1.need) && (spec_VecOk j1.lic)) && (decide (1 ≤ j1.wall))) && (decide (j1.wall ≤ 1000000))) && (decide (0 ≤ j1.level))) && (decide (j1.level ≤ 24))))
theorem spec_JobOk_e (j1 : Job) : spec_JobOk_o j1 = some (spec_JobOk j1) := by
 unfold spec_JobOk_o spec_JobOk
 first | rfl | simp only [bif_some]
theorem spec_JobOk_ok (j1 : Job) : Snd Tryz.prog F.spec_JobOk [eJob j1] (.bool (spec_JobOk j1)) [] := spec_JobOk_o_ok (spec_JobOk_e j1)
def ir_spec_RoomOk : L :=
.seq (.reg [.bx 1 (.t 0),.mv 2 (.c (.bool false))])
 (.seq (.seq (.reg [.fa 5 (.t 1) 0,.ld 6 (.t 5) 2 true,.cq 7 F.spec_TopoOk [(.t 6)],.un 8 (.t 7),.mv 9 (.t 8),.g 9 false (.fa 10 (.t 1) 2),.g 9 false (.ld 11 (.t 10) 1 false),.g 9 false (.ln 12 (.t 11)),.g 9 false (.fa 13 (.t 1) 0),.g 9 false (.fa 14 (.t 13) 1),.g 9 false (.ld 15 (.t 14) 1 false),.g 9 false (.ln 16 (.t 15)),.g 9 false (.bi 17 .neq (.t 12) (.t 16)),.pk 18 (.t 9) (.c (.bool true)) (.t 17),.mv 19 (.t 18),.g 19 false (.fa 20 (.t 1) 3),.g 19 false (.ld 21 (.t 20) 1 false),.g 19 false (.ln 22 (.t 21)),.g 19 false (.fa 23 (.t 1) 0),.g 19 false (.fa 24 (.t 23) 1),.g 19 false (.ld 25 (.t 24) 1 false),.g 19 false (.ln 26 (.t 25)),.g 19 false (.bi 27 .neq (.t 22) (.t 26)),.pk 28 (.t 19) (.c (.bool true)) (.t 27),.mv 29 (.t 28),.g 29 false (.fa 30 (.t 1) 4),.g 29 false (.ld 31 (.t 30) 1 true),.g 29 false (.cq 32 F.spec_ProfOk [(.t 31)]),.g 29 false (.un 33 (.t 32)),.pk 34 (.t 29) (.c (.bool true)) (.t 33)])
 (.cond (.t 34) (.seq (.reg [.mv 2 (.c (.bool false))])
 (.gw (.ret)))
 (.skip)))
 (.seq (.seq (.reg [.fa 35 (.t 1) 3,.ld 36 (.t 35) 1 false,.ln 37 (.t 36),.mv 38 (.c (.int .i64 0))])
 (.blk 0 (.loop (.gw (.seq (.reg [.bi 39 .lss (.t 38) (.t 37)])
 (.seq (.cond (.t 39) (.skip)
 (.exit 0))
 (.seq (.blk 1 (.seq (.reg [.ia 40 (.t 36) (.t 38) 1,.ld 41 (.t 40) 1 true,.al 4 [.nl],.st (.t 4) (.t 41) 1])
 (.seq (.reg [.ld 42 (.t 4) 1 true,.cq 43 F.spec_ProfOk [(.t 42)],.un 44 (.t 43)])
 (.cond (.t 44) (.seq (.reg [.mv 2 (.c (.bool false))])
 (.gw (.ret)))
 (.skip)))))
 (.reg [.bi 45 .add (.t 38) (.c (.int .i64 1)),.mv 38 (.t 45)]))))))))
 (.seq (.reg [.mv 2 (.c (.bool true))])
 (.gw (.ret)))))
def rs_spec_RoomOk : List Rv := [.t 2]
theorem ck_spec_RoomOk : chkFn Tryz.prog F.spec_RoomOk 1 ir_spec_RoomOk rs_spec_RoomOk = true := by kernel_rfl
def spec_RoomOk_b27 (x5 : List Pt) (_ : Nat) (_ : Unit) (k5 : Unit → Option Bool) : Option Bool :=
 (spec_ProfOk x5).bind fun b6 => bif (!b6) then (some false) else (k5 ())
def spec_RoomOk_k27 (_ : Unit) : Option Bool :=
 some true
def spec_RoomOk (r1 : Room) : Option Bool :=
 (spec_TopoOk r1.topo).bind fun b2 => (bif (((!b2) || ((r1.up.length : Int) != (r1.topo.nodes.length : Int))) || ((r1.profs.length : Int) != (r1.topo.nodes.length : Int))) then some default else (spec_ProfOk r1.lics)).bind fun b3 => bif ((((!b2) || ((r1.up.length : Int) != (r1.topo.nodes.length : Int))) || ((r1.profs.length : Int) != (r1.topo.nodes.length : Int))) || (!b3)) then (some false) else (rgl spec_RoomOk_b27 spec_RoomOk_k27 r1.profs 0 ())
theorem spec_RoomOk_ok {r1 : Room} {r : Bool} (H : spec_RoomOk r1 = some r) : Snd Tryz.prog F.spec_RoomOk [eRoomT .rd r1] (.bool r) [] := by
 refine snd_g ck_spec_RoomOk rfl (by simp) ?_
 unfold spec_RoomOk at H
 obtain ⟨b2, h2, H⟩ := bB H
 obtain ⟨b3, h3, H⟩ := bB H
 refine Wh_go 99 [.c 7 (spec_TopoOk_ok h2), .g 12 [((!b2), false)] (.ln _ _ fun _ => lm r1.up eBo), .g 16 [((!b2), false)] (.ln _ _ fun _ => lm r1.topo.nodes eNode), .g 22 [(((!b2) || ((r1.up.length : Int) != (r1.topo.nodes.length : Int))), false)] (.ln _ _ fun _ => lm r1.profs (eProfT .rd)), .g 26 [(((!b2) || ((r1.up.length : Int) != (r1.topo.nodes.length : Int))), false)] (.ln _ _ fun _ => lm r1.topo.nodes eNode), .g 32 [(_, false)] (.call _ _ _ _ _ (AEs.refl _) (fun q => spec_ProfOk_ok (bF q.1 h3)))] (by kernel_rfl) fun _ => ?_
 refine Wh_iH H (fun H => ?_) fun H => ?_
 ·refine Wh_o fun _ => ?_
  replace H := sI H; subst H
  exact Wh_end [(2, .d)] [] [] [] [] [] (by kernel_rfl)
 ·refine Wh_go 99 [.u 37 (.ln _ _ fun _ => lm r1.profs (eProfT .rd))] (by kernel_rfl) fun q4 => ?_
  refine Wh_rgl (fun (i5 : Nat) (v5 : Unit) => ⟨[(36, .sl .rd 1 (r1.profs.map (eProfT .rd))), (37, .int .i64 (r1.profs.length : Int)), (38, .int .i64 (i5 : Int))], [], [], []⟩) [] [] [] [] (by kernel_rfl) (by kernel_rfl) H (fun i5 x5 v5 I m k5 hxv5 hiv5 H N27 => ?_) (fun v5 I m H => ?_)
  ·unfold spec_RoomOk_b27 at H
   refine Wh_o fun _ => ?_
   refine Wh_ifT (ltT hiv5) (by kernel_rfl) ?_
   obtain ⟨b6, h6, H⟩ := bB H
   refine Wh_go 99 [.u 40 (.ix _ _ _ fun _ => idx_map (eProfT .rd) (idx_nat hxv5)), .c 43 (spec_ProfOk_ok h6)] (by kernel_rfl) fun _ => ?_
   refine Wh_iH H (fun H => ?_) fun H => ?_
   ·refine Wh_o fun _ => ?_
    replace H := sI H; subst H
    exact Wh_end [(2, .d)] [] [] [] [] [] (by kernel_rfl)
   ·refine Wh_go 99 [.w 45 (wi .i64 rfl hiv5 q4.1)] (by kernel_rfl) fun _ => ?_
    exact Wh_to (N27 () H) [] [] [] [] (by kernel_rfl) (by kernel_rfl)
  ·unfold spec_RoomOk_k27 at H
   refine Wh_o fun _ => ?_
   refine Wh_ifF (ltF r1.profs.length) (by kernel_rfl) ?_
   refine Wh_o fun _ => ?_
   replace H := sI H; subst H
   exact Wh_end [(2, .d)] [] [] [] [] [] (by kernel_rfl)
def ir_spec_l04Prof : L :=
.seq (.reg [.bx 1 (.t 0),.al 2 [.nl]])
 (.seq (.reg [.bs 3 4 [] true,.fa 4 (.t 1) 0,.ld 5 (.t 4) 1 false,.ap 6 (.t 3) (.t 5) 4 32,.bd 7 [.nl] [(0, 1, (.t 6))],.st (.t 2) (.t 7) 1])
 (.gw (.ret)))
def rs_spec_l04Prof : List Rv := [.c 2 1 true]
theorem ck_spec_l04Prof : chkFn Tryz.prog F.spec_l04Prof 1 ir_spec_l04Prof rs_spec_l04Prof = true := by kernel_rfl
def spec_l04Prof (p1 : List Pt) : Option (List Pt) :=
 (appL 32 ([] : List Pt) p1).bind fun xs2 => some xs2
theorem spec_l04Prof_ok {p1 : List Pt} {r : (List Pt)} (H : spec_l04Prof p1 = some r) : Snd Tryz.prog F.spec_l04Prof [.agg [.sl .rd 4 (p1.map ePt)]] (eProfT .nw r) [] := by
 refine snd_g ck_spec_l04Prof rfl (by simp) ?_
 unfold spec_l04Prof at H
 obtain ⟨xs2, h2, H⟩ := bB H
 refine Wh_go 99 [.u 6 (.ap _ _ _ _ fun _ => appL_map ePt h2)] (by kernel_rfl) fun _ => ?_
 replace H := sI H; subst H
 exact Wh_end [(2, .d)] [(2, [.f])] [] [3] [] [⟨_, nw_Pt xs2⟩] (by kernel_rfl)
def ir_spec_l04Copy : L :=
.seq (.reg [.bx 1 (.t 0),.al 2 [.nl, .nl, .nl, .nl, .nl]])
 (.seq (.rz [(8, 3, [.nl, .nl, .nl, .nl, .nl])] [(1, false, .fa 7 (.t 1) 2),
 (2, false, .ld 8 (.t 7) 1 false),
 (4, false, .fa 10 (.t 1) 4),
 (5, false, .ld 11 (.t 10) 1 true),
 (0, true, .bs 6 1 [] true),
 (3, true, .ap 9 (.t 6) (.t 8) 1 1),
 (6, false, .cq 12 F.spec_l04Prof [(.t 11)]),
 (7, true, .bd 13 [.nl, .nl, .nl, .nl, .nl] [(2, 1, (.t 9)), (4, 1, (.t 12))])]
 [.st (.t 3) (.t 13) 5])
 (.seq (.rq 12 [.be 14,.fa 15 (.t 1) 0,.fa 16 (.t 15) 0,.ld 17 (.t 16) 1 false,.ae 18 (.t 14) (.t 17) 1 8,.be 19,.fa 20 (.t 1) 0,.fa 21 (.t 20) 1,.ld 22 (.t 21) 1 false,.ae 23 (.t 19) (.t 22) 4 32,.bd 24 [.nl, .nl] [(0, 1, (.t 18)), (1, 1, (.t 23))],.fa 25 (.t 3) 0,.st (.t 25) (.t 24) 2])
 (.seq (.seq (.reg [.fa 26 (.t 1) 3,.ld 27 (.t 26) 1 false,.ln 28 (.t 27),.mv 29 (.c (.int .i64 0))])
 (.blk 0 (.loop (.gw (.seq (.reg [.bi 30 .lss (.t 29) (.t 28)])
 (.seq (.cond (.t 30) (.skip)
 (.exit 0))
 (.seq (.blk 1 (.seq (.reg [.ia 31 (.t 27) (.t 29) 1,.ld 32 (.t 31) 1 true,.al 5 [.nl],.st (.t 5) (.t 32) 1])
 (.rq 5 [.fa 33 (.t 3) 3,.ld 34 (.t 33) 1 false,.ld 35 (.t 5) 1 true,.cq 36 F.spec_l04Prof [(.t 35)],.bs 37 1 [(.t 36)] false,.ap 38 (.t 34) (.t 37) 1 24,.fa 39 (.t 3) 3,.st (.t 39) (.t 38) 1])))
 (.reg [.bi 40 .add (.t 29) (.c (.int .i64 1)),.mv 29 (.t 40)]))))))))
 (.seq (.reg [.ld 41 (.t 3) 5 true,.st (.t 2) (.t 41) 5])
 (.gw (.ret))))))
def rs_spec_l04Copy : List Rv := [.c 2 5 true]
theorem ck_spec_l04Copy : chkFn Tryz.prog F.spec_l04Copy 1 ir_spec_l04Copy rs_spec_l04Copy = true := by kernel_rfl
def spec_l04Copy_b16 (x7 : List Pt) (_ : Nat) (v7 : (List (List Pt))) (k7 : (List (List Pt)) → Option Room) : Option Room :=
 (spec_l04Prof x7).bind fun y8 => (appL 24 v7 [y8]).bind fun xs9 => k7 xs9
def spec_l04Copy_k16 (xs2 : List Bool) (y3 : (List Pt)) (xs4 : List Int) (xs5 : List Node) (v7 : (List (List Pt))) : Option Room :=
 some (Room.mk (Topo.mk xs4 xs5) xs2 v7 y3)
def spec_l04Copy (r1 : Room) : Option Room :=
 (appL 1 ([] : List Bool) r1.up).bind fun xs2 => (spec_l04Prof r1.lics).bind fun y3 => (appL 8 ([] : List Int) r1.topo.parents).bind fun xs4 => (appL 32 ([] : List Node) r1.topo.nodes).bind fun xs5 => rgl spec_l04Copy_b16 (spec_l04Copy_k16 xs2 y3 xs4 xs5) r1.profs 0 []
theorem spec_l04Copy_ok {r1 : Room} {r : Room} (H : spec_l04Copy r1 = some r) : Snd Tryz.prog F.spec_l04Copy [eRoomT .rd r1] (.agg [.sl .nw 1 (r.topo.parents.map eI), .sl .nw 4 (r.topo.nodes.map eNode), .sl .nw 1 (r.up.map eBo), .sref 0, .sl .nw 4 (r.lics.map ePt)]) [⟨1, r.profs.map (eProfT .nw), false⟩] := by
 refine snd_g ck_spec_l04Copy rfl (by simp) ?_
 unfold spec_l04Copy at H
 obtain ⟨xs2, h2, H⟩ := bB H
 obtain ⟨y3, h3, H⟩ := bB H
 obtain ⟨xs4, h4, H⟩ := bB H
 obtain ⟨xs5, h5, H⟩ := bB H
 refine Wh_go 99 [.u 9 (.ap _ _ _ _ fun _ => appL_map eBo h2), .c 12 (spec_l04Prof_ok h3), .u 18 (.ap _ _ _ _ fun _ => appL_map eI h4), .u 23 (.ap _ _ _ _ fun _ => appL_map eNode h5), .u 28 (.ln _ _ fun _ => lm r1.profs (eProfT .rd))] (by kernel_rfl) fun q6 => ?_
 refine Wh_rgl (fun (i7 : Nat) (v7 : (List (List Pt))) => ⟨[(2, .ptr 2 0), (3, .ptr 3 0), (27, .sl .rd 1 (r1.profs.map (eProfT .rd))), (28, .int .i64 (r1.profs.length : Int)), (29, .int .i64 (i7 : Int))], [], [(2, [.nl, .nl, .nl, .nl, .nl]), (3, [.sl .nw 1 (xs4.map eI), .sl .nw 4 (xs5.map eNode), .sref 6, .sref 393001, .sl .nw 4 (y3.map ePt)])], [(6, ⟨1, xs2.map eBo, false⟩), (393001, ⟨1, v7.map (eProfT .nw), false⟩)]⟩) [] [(3, [.d, .d, .d, .z 393001, .d])] [(393001, (none, 1))] [] (by kernel_rfl) (by kernel_rfl) H (fun i7 x7 v7 I m k7 hxv7 hiv7 H N16 => ?_) (fun v7 I m H => ?_)
 ·unfold spec_l04Copy_b16 at H
  refine Wh_o fun _ => ?_
  refine Wh_ifT (ltT hiv7) (by kernel_rfl) ?_
  obtain ⟨y8, h8, H⟩ := bB H
  obtain ⟨xs9, h9, H⟩ := bB H
  refine Wh_go 99 [.u 31 (.ix _ _ _ fun _ => idx_map (eProfT .rd) (idx_nat hxv7)), .c 36 (spec_l04Prof_ok h8), .u 38 (.ap _ _ _ _ fun _ => appL_map (eProfT .nw) h9), .w 40 (wi .i64 rfl hiv7 q6.1)] (by kernel_rfl) fun _ => ?_
  exact Wh_to (N16 _ H) [] [] [] [] (by kernel_rfl) (by kernel_rfl)
 ·unfold spec_l04Copy_k16 at H
  refine Wh_o fun _ => ?_
  refine Wh_ifF (ltF r1.profs.length) (by kernel_rfl) ?_
  refine Wh_o fun _ => ?_
  replace H := sI H; subst H
  exact Wh_end [(2, .d)] [(2, [.d, .d, .f, .d, .d])] [(393001, some 393001, 0)] [6] [some 393001] [⟨_, nw_I xs4⟩, ⟨_, nw_Node xs5⟩, ⟨_, nw_Bo xs2⟩, ⟨_, nw_Pt y3⟩, ⟨_, nw_ProfT v7⟩] (by kernel_rfl)
def ir_spec_l04Diff : L :=
.seq (.reg [.bx 3 (.t 0),.bx 4 (.t 1),.mv 6 (.c (.bool false))])
 (.seq (.seq (.reg [.ld 9 (.t 3) 5 true,.cq 10 F.spec_RoomOk [(.t 9)],.un 11 (.t 10),.mv 12 (.t 11),.g 12 false (.ld 13 (.t 4) 11 true),.g 12 false (.cq 14 F.spec_JobOk [(.t 13)]),.g 12 false (.un 15 (.t 14)),.pk 16 (.t 12) (.c (.bool true)) (.t 15),.mv 17 (.t 16),.g 17 false (.mv 18 (.t 2)),.g 17 false (.ln 19 (.t 18)),.g 17 false (.fa 20 (.t 4) 2),.g 17 false (.ld 21 (.t 20) 1 false),.g 17 false (.bi 22 .neq (.t 19) (.t 21)),.pk 23 (.t 17) (.c (.bool true)) (.t 22),.mv 24 (.t 23),.g 24 false (.fa 25 (.t 3) 0),.g 24 false (.ld 26 (.t 25) 2 true),.g 24 false (.mv 27 (.t 2)),.g 24 false (.cq 28 F.spec_l02Nodes [(.t 26), (.t 27)]),.g 24 false (.un 29 (.t 28)),.pk 30 (.t 24) (.c (.bool true)) (.t 29)])
 (.cond (.t 30) (.seq (.reg [.mv 6 (.c (.bool false))])
 (.gw (.ret)))
 (.skip)))
 (.seq (.seq (.reg [.mv 31 (.t 2),.ln 32 (.t 31),.mv 33 (.c (.int .i64 0))])
 (.blk 0 (.loop (.gw (.seq (.reg [.bi 34 .lss (.t 33) (.t 32)])
 (.seq (.cond (.t 34) (.skip)
 (.exit 0))
 (.seq (.blk 1 (.seq (.reg [.mv 35 (.t 33),.ia 36 (.t 31) (.t 33) 1,.ld 37 (.t 36) 1 false,.mv 7 (.t 35),.mv 8 (.t 37)])
 (.seq (.reg [.mv 38 (.t 2),.mv 39 (.t 7),.sc 40 (.t 38) none (some (.t 39)) 1,.mv 41 (.t 8),.cq 42 F.spec_l02Has [(.t 40), (.t 41)]])
 (.cond (.t 42) (.seq (.reg [.mv 6 (.c (.bool false))])
 (.gw (.ret)))
 (.skip)))))
 (.reg [.bi 43 .add (.t 33) (.c (.int .i64 1)),.mv 33 (.t 43)]))))))))
 (.seq (.reg [.mv 6 (.c (.bool true))])
 (.gw (.ret)))))
def rs_spec_l04Diff : List Rv := [.t 6]
theorem ck_spec_l04Diff : chkFn Tryz.prog F.spec_l04Diff 3 ir_spec_l04Diff rs_spec_l04Diff = true := by kernel_rfl
def spec_l04Diff_b27 (nodes3 : List Int) (x7 : Int) (i7 : Nat) (_ : Unit) (k7 : Unit → Option Bool) : Option Bool :=
 (cutL nodes3 none (some (i7 : Int))).bind fun xs8 => (spec_l02Has xs8 x7).bind fun b9 => bif b9 then (some false) else (k7 ())
def spec_l04Diff_k27 (_ : Unit) : Option Bool :=
 some true
def spec_l04Diff (r1 : Room) (j2 : Job) (nodes3 : List Int) : Option Bool :=
 (spec_RoomOk r1).bind fun b4 => (bif (((!b4) || (!(spec_JobOk j2))) || ((nodes3.length : Int) != j2.nodes)) then some default else (spec_l02Nodes r1.topo nodes3)).bind fun b5 => bif ((((!b4) || (!(spec_JobOk j2))) || ((nodes3.length : Int) != j2.nodes)) || (!b5)) then (some false) else (rgl (spec_l04Diff_b27 nodes3) spec_l04Diff_k27 nodes3 0 ())
theorem spec_l04Diff_ok {r1 : Room} {j2 : Job} {nodes3 : List Int} {r : Bool} (H : spec_l04Diff r1 j2 nodes3 = some r) : Snd Tryz.prog F.spec_l04Diff [eRoomT .rd r1, eJob j2, .sl .rd 1 (nodes3.map eI)] (.bool r) [] := by
 refine snd_g ck_spec_l04Diff rfl (by simp) ?_
 unfold spec_l04Diff at H
 obtain ⟨b4, h4, H⟩ := bB H
 obtain ⟨b5, h5, H⟩ := bB H
 refine Wh_go 99 [.c 10 (spec_RoomOk_ok h4), .g 14 [((!b4), false)] (.call _ _ _ _ _ (AEs.refl _) (fun _ => spec_JobOk_ok j2)), .g 19 [(((!b4) || (!(spec_JobOk j2))), false)] (.ln _ _ fun _ => lm nodes3 eI), .g 28 [(_, false)] (.call _ _ _ _ _ (AEs.refl _) (fun q => spec_l02Nodes_ok (bF q.1 h5)))] (by kernel_rfl) fun _ => ?_
 refine Wh_iH H (fun H => ?_) fun H => ?_
 ·refine Wh_o fun _ => ?_
  replace H := sI H; subst H
  exact Wh_end [(6, .d)] [] [] [] [] [] (by kernel_rfl)
 ·refine Wh_go 99 [.u 32 (.ln _ _ fun _ => lm nodes3 eI)] (by kernel_rfl) fun q6 => ?_
  refine Wh_rgl (fun (i7 : Nat) (v7 : Unit) => ⟨[(2, .sl .rd 1 (nodes3.map eI)), (31, .sl .rd 1 (nodes3.map eI)), (32, .int .i64 (nodes3.length : Int)), (33, .int .i64 (i7 : Int))], [], [], []⟩) [] [] [] [] (by kernel_rfl) (by kernel_rfl) H (fun i7 x7 v7 I m k7 hxv7 hiv7 H N27 => ?_) (fun v7 I m H => ?_)
  ·unfold spec_l04Diff_b27 at H
   refine Wh_o fun _ => ?_
   refine Wh_ifT (ltT hiv7) (by kernel_rfl) ?_
   obtain ⟨xs8, h8, H⟩ := bB H
   obtain ⟨b9, h9, H⟩ := bB H
   refine Wh_go 99 [.u 36 (.ix _ _ _ fun _ => idx_map eI (idx_nat hxv7)), .u 40 (.sc _ _ _ _ fun _ => cutL_map eI h8), .c 42 (spec_l02Has_ok h9)] (by kernel_rfl) fun _ => ?_
   refine Wh_iH H (fun H => ?_) fun H => ?_
   ·refine Wh_o fun _ => ?_
    replace H := sI H; subst H
    exact Wh_end [(6, .d)] [] [] [] [] [] (by kernel_rfl)
   ·refine Wh_go 99 [.w 43 (wi .i64 rfl hiv7 q6.1)] (by kernel_rfl) fun _ => ?_
    exact Wh_to (N27 () H) [] [] [] [] (by kernel_rfl) (by kernel_rfl)
  ·unfold spec_l04Diff_k27 at H
   refine Wh_o fun _ => ?_
   refine Wh_ifF (ltF nodes3.length) (by kernel_rfl) ?_
   refine Wh_o fun _ => ?_
   replace H := sI H; subst H
   exact Wh_end [(6, .d)] [] [] [] [] [] (by kernel_rfl)
def ir_spec_Reserve : L :=
.seq (.reg [.bx 4 (.t 0),.bx 5 (.t 1),.al 8 [.nl, .nl, .nl, .nl, .nl],.mv 9 (.c (.bool false))])
 (.seq (.seq (.reg [.ld 17 (.t 4) 5 true,.ld 18 (.t 5) 11 true,.mv 19 (.t 3),.cq 20 F.spec_l04Diff [(.t 17), (.t 18), (.t 19)],.un 21 (.t 20),.mv 22 (.t 21),.g 22 false (.mv 23 (.t 2)),.g 22 false (.cq 24 F.spec_l01Time [(.t 23)]),.g 22 false (.un 25 (.t 24)),.pk 26 (.t 22) (.c (.bool true)) (.t 25)])
 (.cond (.t 26) (.seq (.reg [.bd 27 [.nl, .nl, .nl, .nl, .nl] [],.st (.t 8) (.t 27) 5,.mv 9 (.c (.bool false))])
 (.gw (.ret)))
 (.skip)))
 (.seq (.reg [.ld 28 (.t 4) 5 true,.cl 29 F.spec_l04Copy [(.t 28)],.al 10 [.nl, .nl, .nl, .nl, .nl],.st (.t 10) (.t 29) 5])
 (.seq (.seq (.reg [.mv 30 (.t 3),.ln 31 (.t 30),.mv 32 (.c (.int .i64 0))])
 (.blk 0 (.loop (.gw (.seq (.reg [.bi 33 .lss (.t 32) (.t 31)])
 (.seq (.cond (.t 33) (.skip)
 (.exit 0))
 (.seq (.blk 1 (.seq (.reg [.ia 34 (.t 30) (.t 32) 1,.ld 35 (.t 34) 1 false,.mv 12 (.t 35)])
 (.seq (.rz [(16, 13, [.nl])] [(2, false, .mv 39 (.t 12)),
 (5, false, .mv 42 (.t 2)),
 (6, false, .mv 43 (.t 2)),
 (7, false, .fa 44 (.t 5) 9),
 (8, false, .ld 45 (.t 44) 1 false),
 (9, false, .bi 46 .add (.t 43) (.t 45)),
 (10, false, .fa 47 (.t 5) 3),
 (11, false, .ld 48 (.t 47) 3 true),
 (0, true, .fa 37 (.t 10) 3),
 (1, true, .ld 38 (.t 37) 1 false),
 (3, true, .ia 40 (.t 38) (.t 39) 1),
 (4, true, .ld 41 (.t 40) 1 true),
 (12, false, .cq 49 F.spec_ProfTake [(.t 41), (.t 42), (.t 46), (.t 48)]),
 (13, false, .mv 36 (.t 49)),
 (14, false, .ex 50 (.t 36) 0),
 (15, false, .ex 51 (.t 36) 1)]
 [.st (.t 13) (.t 50) 1,.mv 14 (.t 51)])
 (.seq (.seq (.reg [.mv 52 (.t 14),.un 53 (.t 52)])
 (.cond (.t 53) (.seq (.reg [.bd 54 [.nl, .nl, .nl, .nl, .nl] [],.st (.t 8) (.t 54) 5,.mv 9 (.c (.bool false))])
 (.gw (.ret)))
 (.skip)))
 (.reg [.fa 55 (.t 10) 3,.ld 56 (.t 55) 1 false,.mv 57 (.t 12),.ld 58 (.t 13) 1 true,.ia 59 (.t 56) (.t 57) 1,.st (.t 59) (.t 58) 1])))))
 (.reg [.bi 60 .add (.t 32) (.c (.int .i64 1)),.mv 32 (.t 60)]))))))))
 (.seq (.reg [.fa 62 (.t 10) 4,.ld 63 (.t 62) 1 true,.mv 64 (.t 2),.mv 65 (.t 2),.fa 66 (.t 5) 9,.ld 67 (.t 66) 1 false,.bi 68 .add (.t 65) (.t 67),.fa 69 (.t 5) 6,.ld 70 (.t 69) 3 true,.cq 71 F.spec_ProfTake [(.t 63), (.t 64), (.t 68), (.t 70)],.mv 61 (.t 71),.ex 72 (.t 61) 0,.ex 73 (.t 61) 1,.al 15 [.nl],.st (.t 15) (.t 72) 1,.mv 16 (.t 73)])
 (.seq (.seq (.reg [.mv 74 (.t 16),.un 75 (.t 74)])
 (.cond (.t 75) (.seq (.reg [.bd 76 [.nl, .nl, .nl, .nl, .nl] [],.st (.t 8) (.t 76) 5,.mv 9 (.c (.bool false))])
 (.gw (.ret)))
 (.skip)))
 (.seq (.reg [.ld 77 (.t 15) 1 true,.fa 78 (.t 10) 4,.st (.t 78) (.t 77) 1])
 (.seq (.reg [.ld 79 (.t 10) 5 true,.st (.t 8) (.t 79) 5,.mv 9 (.c (.bool true))])
 (.gw (.ret)))))))))
def rs_spec_Reserve : List Rv := [.c 8 5 true, .t 9]
theorem ck_spec_Reserve : chkFn Tryz.prog F.spec_Reserve 4 ir_spec_Reserve rs_spec_Reserve = true := by kernel_rfl
def spec_Reserve_b32 (j2 : Job) (at3 : Int) (x8 : Int) (_ : Nat) (v8 : (List (List Pt))) (k8 : (List (List Pt)) → Option (Room × Bool)) : Option (Room × Bool) :=
 (idx v8 x8).bind fun e9 => (spec_ProfTake e9 at3 (w64 (at3 + j2.wall)) j2.need).bind fun y10 => bif (!y10.2) then (some ((Room.mk (Topo.mk [] []) [] [] []), false)) else (k8 (v8.set x8.toNat y10.1))
def spec_Reserve_k32 (j2 : Job) (at3 : Int) (y6 : Room) (v8 : (List (List Pt))) : Option (Room × Bool) :=
 (spec_ProfTake y6.lics at3 (w64 (at3 + j2.wall)) j2.lic).bind fun y11 => bif (!y11.2) then (some ((Room.mk (Topo.mk [] []) [] [] []), false)) else (some ((Room.mk y6.topo y6.up v8 y11.1), true))
def spec_Reserve (r1 : Room) (j2 : Job) (at3 : Int) (nodes4 : List Int) : Option (Room × Bool) :=
 (spec_l04Diff r1 j2 nodes4).bind fun b5 => bif ((!b5) || (!(spec_l01Time at3))) then (some ((Room.mk (Topo.mk [] []) [] [] []), false)) else ((spec_l04Copy r1).bind fun y6 => rgl (spec_Reserve_b32 j2 at3) (spec_Reserve_k32 j2 at3 y6) nodes4 0 y6.profs)
theorem spec_Reserve_ok {r1 : Room} {j2 : Job} {at3 : Int} {nodes4 : List Int} {r : Room × Bool} (H : spec_Reserve r1 j2 at3 nodes4 = some r) : Snd Tryz.prog F.spec_Reserve [eRoomT .rd r1, eJob j2, .int .i64 at3, .sl .rd 1 (nodes4.map eI)] (.tup [eRoomT .nw r.1, .bool r.2]) [] := by
 refine snd_g ck_spec_Reserve rfl (by simp) ?_
 unfold spec_Reserve at H
 obtain ⟨b5, h5, H⟩ := bB H
 refine Wh_go 99 [.c 20 (spec_l04Diff_ok h5), .g 24 [((!b5), false)] (.call _ _ _ _ _ (AEs.refl _) (fun _ => spec_l01Time_ok at3))] (by kernel_rfl) fun _ => ?_
 refine Wh_iH H (fun H => ?_) fun H => ?_
 ·refine Wh_o fun _ => ?_
  replace H := sI H; subst H
  exact Wh_end [(8, .d), (9, .d)] [(8, [.n 1, .n 4, .n 1, .n 1, .n 4])] [] [] [] [⟨_, nw_I ([] : List Int)⟩, ⟨_, nw_Node ([] : List Node)⟩, ⟨_, nw_Bo ([] : List Bool)⟩, ⟨_, nw_ProfT ([] : List (List Pt))⟩, ⟨_, nw_Pt ([] : List Pt)⟩] (by kernel_rfl)
 ·obtain ⟨y6, h6, H⟩ := bB H
  refine Wh_go 99 [.c 29 (spec_l04Copy_ok h6), .u 31 (.ln _ _ fun _ => lm nodes4 eI)] (by kernel_rfl) fun q7 => ?_
  refine Wh_rgl (fun (i8 : Nat) (v8 : (List (List Pt))) => ⟨[(2, .int .i64 at3), (5, .ptr 5 0), (8, .ptr 8 0), (10, .ptr 10 0), (30, .sl .rd 1 (nodes4.map eI)), (31, .int .i64 (nodes4.length : Int)), (32, .int .i64 (i8 : Int))], [], [(5, (eJob j2).cells), (8, [.nl, .nl, .nl, .nl, .nl]), (10, [.sl .nw 1 (y6.topo.parents.map eI), .sl .nw 4 (y6.topo.nodes.map eNode), .sl .nw 1 (y6.up.map eBo), .sref 30000, .sl .nw 4 (y6.lics.map ePt)])], [(30000, ⟨1, v8.map (eProfT .nw), false⟩)]⟩) [] [] [] [] (by kernel_rfl) (by kernel_rfl) H (fun i8 x8 v8 I m k8 hxv8 hiv8 H N32 => ?_) (fun v8 I m H => ?_)
  ·unfold spec_Reserve_b32 at H
   refine Wh_o fun _ => ?_
   refine Wh_ifT (ltT hiv8) (by kernel_rfl) ?_
   obtain ⟨e9, h9, H⟩ := bB H
   obtain ⟨y10, h10, H⟩ := bB H
   refine Wh_go 99 [.u 34 (.ix _ _ _ fun _ => idx_map eI (idx_nat hxv8)), .u 40 (.ix _ _ _ fun _ => idx_map (eProfT .nw) h9), .u 41 (.el _ _ _ fun _ => gm (eProfT .nw) (idx_get h9)), .c 49 (spec_ProfTake_ok h10)] (by kernel_rfl) fun _ => ?_
   refine Wh_iH H (fun H => ?_) fun H => ?_
   ·refine Wh_o fun _ => ?_
    replace H := sI H; subst H
    exact Wh_end [(8, .d), (9, .d)] [(8, [.n 1, .n 4, .n 1, .n 1, .n 4])] [] [] [] [⟨_, nw_I ([] : List Int)⟩, ⟨_, nw_Node ([] : List Node)⟩, ⟨_, nw_Bo ([] : List Bool)⟩, ⟨_, nw_ProfT ([] : List (List Pt))⟩, ⟨_, nw_Pt ([] : List Pt)⟩] (by kernel_rfl)
   ·refine Wh_go 99 [.u 59 (.ix _ _ _ fun _ => idx_map (eProfT .nw) h9), .u 1000000 (.sto _ _ _ (eProfT .nw y10.1) _ (fun _ => gm (eProfT .nw) (idx_get h9)) (fun _ => set_map ..)), .w 60 (wi .i64 rfl hiv8 q7.1)] (by kernel_rfl) fun _ => ?_
    exact Wh_to (N32 _ H) [] [] [] [] (by kernel_rfl) (by kernel_rfl)
  ·unfold spec_Reserve_k32 at H
   refine Wh_o fun _ => ?_
   refine Wh_ifF (ltF nodes4.length) (by kernel_rfl) ?_
   obtain ⟨y11, h11, H⟩ := bB H
   refine Wh_go 99 [.c 71 (spec_ProfTake_ok h11)] (by kernel_rfl) fun _ => ?_
   refine Wh_iH H (fun H => ?_) fun H => ?_
   ·refine Wh_o fun _ => ?_
    replace H := sI H; subst H
    exact Wh_end [(8, .d), (9, .d)] [(8, [.n 1, .n 4, .n 1, .n 1, .n 4])] [] [] [] [⟨_, nw_I ([] : List Int)⟩, ⟨_, nw_Node ([] : List Node)⟩, ⟨_, nw_Bo ([] : List Bool)⟩, ⟨_, nw_ProfT ([] : List (List Pt))⟩, ⟨_, nw_Pt ([] : List Pt)⟩] (by kernel_rfl)
   ·refine Wh_o fun _ => ?_
    replace H := sI H; subst H
    exact Wh_end [(8, .d), (9, .d)] [(8, [.d, .d, .d, .f, .d])] [] [30000] [] [⟨_, nw_I y6.topo.parents⟩, ⟨_, nw_Node y6.topo.nodes⟩, ⟨_, nw_Bo y6.up⟩, ⟨_, nw_ProfT v8⟩, ⟨_, nw_Pt y11.1⟩] (by kernel_rfl)
def ir_impl_copyRoom : L :=
.seq (.reg [.bx 1 (.t 0),.al 2 [.nl, .nl, .nl, .nl, .nl]])
 (.seq (.rz [(10, 3, [.nl, .nl, .nl, .nl, .nl])] [(0, false, .fa 6 (.t 1) 0),
 (1, false, .ld 7 (.t 6) 2 true),
 (2, false, .cq 8 F.impl_copyTopo [(.t 7)]),
 (3, false, .fa 9 (.t 1) 2),
 (4, false, .ld 10 (.t 9) 1 false),
 (6, false, .fa 12 (.t 1) 4),
 (7, false, .ld 13 (.t 12) 1 true),
 (5, true, .ap 11 (.c (.nl)) (.t 10) 1 1),
 (8, false, .cq 14 F.impl_copyProf [(.t 13)]),
 (9, true, .bd 15 [.nl, .nl, .nl, .nl, .nl] [(0, 2, (.t 8)), (2, 1, (.t 11)), (4, 1, (.t 14))])]
 [.st (.t 3) (.t 15) 5])
 (.seq (.seq (.reg [.fa 16 (.t 1) 3,.ld 17 (.t 16) 1 false,.ln 18 (.t 17),.mv 19 (.c (.int .i64 0))])
 (.blk 0 (.loop (.gw (.seq (.reg [.bi 20 .lss (.t 19) (.t 18)])
 (.seq (.cond (.t 20) (.skip)
 (.exit 0))
 (.seq (.blk 1 (.seq (.reg [.ia 21 (.t 17) (.t 19) 1,.ld 22 (.t 21) 1 true,.al 5 [.nl],.st (.t 5) (.t 22) 1])
 (.rq 5 [.fa 23 (.t 3) 3,.ld 24 (.t 23) 1 false,.ld 25 (.t 5) 1 true,.cq 26 F.impl_copyProf [(.t 25)],.bs 27 1 [(.t 26)] false,.ap 28 (.t 24) (.t 27) 1 24,.fa 29 (.t 3) 3,.st (.t 29) (.t 28) 1])))
 (.reg [.bi 30 .add (.t 19) (.c (.int .i64 1)),.mv 19 (.t 30)]))))))))
 (.seq (.reg [.ld 31 (.t 3) 5 true,.st (.t 2) (.t 31) 5])
 (.gw (.ret)))))
def rs_impl_copyRoom : List Rv := [.c 2 5 true]
theorem ck_impl_copyRoom : chkFn Tryz.prog F.impl_copyRoom 1 ir_impl_copyRoom rs_impl_copyRoom = true := by kernel_rfl
def impl_copyRoom_b15 (x6 : List Pt) (_ : Nat) (v6 : (List (List Pt))) (k6 : (List (List Pt)) → Option Room) : Option Room :=
 (impl_copyProf x6).bind fun y7 => (appL 24 v6 [y7]).bind fun xs8 => k6 xs8
def impl_copyRoom_k15 (y2 : Topo) (xs3 : List Bool) (y4 : (List Pt)) (v6 : (List (List Pt))) : Option Room :=
 some (Room.mk y2 xs3 v6 y4)
def impl_copyRoom (r1 : Room) : Option Room :=
 (impl_copyTopo r1.topo).bind fun y2 => (appL 1 ([] : List Bool) r1.up).bind fun xs3 => (impl_copyProf r1.lics).bind fun y4 => rgl impl_copyRoom_b15 (impl_copyRoom_k15 y2 xs3 y4) r1.profs 0 []
theorem impl_copyRoom_ok {r1 : Room} {r : Room} (H : impl_copyRoom r1 = some r) : Snd Tryz.prog F.impl_copyRoom [eRoomT .rd r1] (.agg [.sl .nw 1 (r.topo.parents.map eI), .sl .nw 4 (r.topo.nodes.map eNode), .sl .nw 1 (r.up.map eBo), .sref 0, .sl .nw 4 (r.lics.map ePt)]) [⟨1, r.profs.map (eProfT .nw), false⟩] := by
 refine snd_g ck_impl_copyRoom rfl (by simp) ?_
 unfold impl_copyRoom at H
 obtain ⟨y2, h2, H⟩ := bB H
 obtain ⟨xs3, h3, H⟩ := bB H
 obtain ⟨y4, h4, H⟩ := bB H
 refine Wh_go 99 [.c 8 (impl_copyTopo_ok h2), .u 11 (.ap _ _ _ _ fun _ => appL_map eBo h3), .c 14 (impl_copyProf_ok h4), .u 18 (.ln _ _ fun _ => lm r1.profs (eProfT .rd))] (by kernel_rfl) fun q5 => ?_
 refine Wh_rgl (fun (i6 : Nat) (v6 : (List (List Pt))) => ⟨[(2, .ptr 2 0), (3, .ptr 3 0), (17, .sl .rd 1 (r1.profs.map (eProfT .rd))), (18, .int .i64 (r1.profs.length : Int)), (19, .int .i64 (i6 : Int))], [], [(2, [.nl, .nl, .nl, .nl, .nl]), (3, [.sl .nw 1 (y2.parents.map eI), .sl .nw 4 (y2.nodes.map eNode), .sref 11, .sref 393001, .sl .nw 4 (y4.map ePt)])], [(11, ⟨1, xs3.map eBo, false⟩), (393001, ⟨1, v6.map (eProfT .nw), false⟩)]⟩) [] [(3, [.d, .d, .d, .z 393001, .d])] [(393001, (none, 1))] [] (by kernel_rfl) (by kernel_rfl) H (fun i6 x6 v6 I m k6 hxv6 hiv6 H N15 => ?_) (fun v6 I m H => ?_)
 ·unfold impl_copyRoom_b15 at H
  refine Wh_o fun _ => ?_
  refine Wh_ifT (ltT hiv6) (by kernel_rfl) ?_
  obtain ⟨y7, h7, H⟩ := bB H
  obtain ⟨xs8, h8, H⟩ := bB H
  refine Wh_go 99 [.u 21 (.ix _ _ _ fun _ => idx_map (eProfT .rd) (idx_nat hxv6)), .c 26 (impl_copyProf_ok h7), .u 28 (.ap _ _ _ _ fun _ => appL_map (eProfT .nw) h8), .w 30 (wi .i64 rfl hiv6 q5.1)] (by kernel_rfl) fun _ => ?_
  exact Wh_to (N15 _ H) [] [] [] [] (by kernel_rfl) (by kernel_rfl)
 ·unfold impl_copyRoom_k15 at H
  refine Wh_o fun _ => ?_
  refine Wh_ifF (ltF r1.profs.length) (by kernel_rfl) ?_
  refine Wh_o fun _ => ?_
  replace H := sI H; subst H
  exact Wh_end [(2, .d)] [(2, [.d, .d, .f, .d, .d])] [(393001, some 393001, 0)] [11] [some 393001] [⟨_, nw_I y2.parents⟩, ⟨_, nw_Node y2.nodes⟩, ⟨_, nw_Bo xs3⟩, ⟨_, nw_Pt y4⟩, ⟨_, nw_ProfT v6⟩] (by kernel_rfl)
def ir_impl_JobOk : L :=
.seq (.reg [.bx 1 (.t 0),.mv 2 (.c (.bool false))])
 (.seq (.reg [.fa 3 (.t 1) 0,.ld 4 (.t 3) 1 false,.cq 5 F.impl_within [(.t 4), (.c (.int .i64 1)), (.c (.int .i64 999))],.mv 6 (.t 5),.g 6 true (.fa 7 (.t 1) 1),.g 6 true (.ld 8 (.t 7) 1 false),.g 6 true (.cq 9 F.impl_within [(.t 8), (.c (.int .i64 0)), (.c (.int .i64 999))]),.pk 10 (.t 6) (.t 9) (.c (.bool false)),.mv 11 (.t 10),.g 11 true (.fa 12 (.t 1) 2),.g 11 true (.ld 13 (.t 12) 1 false),.g 11 true (.cq 14 F.impl_within [(.t 13), (.c (.int .i64 1)), (.c (.int .i64 24))]),.pk 15 (.t 11) (.t 14) (.c (.bool false)),.mv 16 (.t 15),.g 16 true (.fa 17 (.t 1) 3),.g 16 true (.ld 18 (.t 17) 3 true),.g 16 true (.cq 19 F.impl_VecOk [(.t 18)]),.pk 20 (.t 16) (.t 19) (.c (.bool false)),.mv 21 (.t 20),.g 21 true (.fa 22 (.t 1) 6),.g 21 true (.ld 23 (.t 22) 3 true),.g 21 true (.cq 24 F.impl_VecOk [(.t 23)]),.pk 25 (.t 21) (.t 24) (.c (.bool false)),.mv 26 (.t 25),.g 26 true (.fa 27 (.t 1) 9),.g 26 true (.ld 28 (.t 27) 1 false),.g 26 true (.cq 29 F.impl_within [(.t 28), (.c (.int .i64 1)), (.c (.int .i64 1000000))]),.pk 30 (.t 26) (.t 29) (.c (.bool false)),.mv 31 (.t 30),.g 31 true (.fa 32 (.t 1) 10),.g 31 true (.ld 33 (.t 32) 1 false),.g 31 true (.cq 34 F.impl_within [(.t 33), (.c (.int .i64 0)), (.c (.int .i64 24))]),.pk 35 (.t 31) (.t 34) (.c (.bool false)),.mv 2 (.t 35)])
 (.gw (.ret)))
def rs_impl_JobOk : List Rv := [.t 2]
theorem ck_impl_JobOk : chkFn Tryz.prog F.impl_JobOk 1 ir_impl_JobOk rs_impl_JobOk = true := by kernel_rfl
def impl_JobOk_o (j1 : Job) : Option Bool :=
 some (((((((impl_within j1.id 1 999) && (impl_within j1.prio 0 999)) && (impl_within j1.nodes 1 24)) && (impl_VecOk j1.need)) && (impl_VecOk j1.lic)) && (impl_within j1.wall 1 1000000)) && (impl_within j1.level 0 24))
theorem impl_JobOk_o_ok {j1 : Job} {r : Bool} (H : impl_JobOk_o j1 = some r) : Snd Tryz.prog F.impl_JobOk [eJob j1] (.bool r) [] := by
 refine snd_g ck_impl_JobOk rfl (by simp) ?_
 unfold impl_JobOk_o at H
 refine Wh_go 99 [.c 5 (impl_within_ok j1.id 1 999), .g 9 [((impl_within j1.id 1 999), true)] (.call _ _ _ _ _ (AEs.refl _) (fun _ => impl_within_ok j1.prio 0 999)), .g 14 [(((impl_within j1.id 1 999) && (impl_within j1.prio 0 999)), true)] (.call _ _ _ _ _ (AEs.refl _) (fun _ => impl_within_ok j1.nodes 1 24)), .g 19 [((((impl_within j1.id 1 999) && (impl_within j1.prio 0 999)) && (impl_within j1.nodes 1 24)), true)] (.call _ _ _ _ _ (AEs.refl _) (fun _ => impl_VecOk_ok j1.need)), .g 24 [(((((impl_within j1.id 1 999) && (impl_within j1.prio 0 999)) && (impl_within j1.nodes 1 24)) && (impl_VecOk j1.need)), true)] (.call _ _ _ _ _ (AEs.refl _) (fun _ => impl_VecOk_ok j1.lic)), .g 29 [((((((impl_within j1.id 1 999) && (impl_within j1.prio 0 999)) && (impl_within j1.nodes 1 24)) && (impl_VecOk j1.need)) && (impl_VecOk j1.lic)), true)] (.call _ _ _ _ _ (AEs.refl _) (fun _ => impl_within_ok j1.wall 1 1000000)), .g 34 [(((((((impl_within j1.id 1 999) && (impl_within j1.prio 0 999)) && (impl_within j1.nodes 1 24)) && (impl_VecOk j1.need)) && (impl_VecOk j1.lic)) && (impl_within j1.wall 1 1000000)), true)] (.call _ _ _ _ _ (AEs.refl _) (fun _ => impl_within_ok j1.level 0 24))] (by kernel_rfl) fun _ => ?_
 replace H := sI H; subst H
 exact Wh_end [(2, .d)] [] [] [] [] [] (by kernel_rfl)
def impl_JobOk (j1 : Job) : Bool :=
 (((((((impl_within j1.id 1 999) && (impl_within j1.prio 0 999)) && (impl_within j1.nodes 1 24)) && (impl_VecOk j1.need)) && (impl_VecOk j1.lic)) && (impl_within j1.wall 1 1000000)) && (impl_within j1.level 0 24))
theorem impl_JobOk_e (j1 : Job) : impl_JobOk_o j1 = some (impl_JobOk j1) := by
 unfold impl_JobOk_o impl_JobOk
 first | rfl | simp only [bif_some]
theorem impl_JobOk_ok (j1 : Job) : Snd Tryz.prog F.impl_JobOk [eJob j1] (.bool (impl_JobOk j1)) [] := impl_JobOk_o_ok (impl_JobOk_e j1)
def ir_impl_RoomOk : L :=
.seq (.reg [.bx 1 (.t 0),.mv 2 (.c (.bool false))])
 (.seq (.seq (.reg [.fa 5 (.t 1) 0,.ld 6 (.t 5) 2 true,.cq 7 F.impl_TopoOk [(.t 6)],.un 8 (.t 7),.mv 9 (.t 8),.g 9 false (.fa 10 (.t 1) 2),.g 9 false (.ld 11 (.t 10) 1 false),.g 9 false (.ln 12 (.t 11)),.g 9 false (.fa 13 (.t 1) 0),.g 9 false (.fa 14 (.t 13) 1),.g 9 false (.ld 15 (.t 14) 1 false),.g 9 false (.ln 16 (.t 15)),.g 9 false (.bi 17 .neq (.t 12) (.t 16)),.pk 18 (.t 9) (.c (.bool true)) (.t 17),.mv 19 (.t 18),.g 19 false (.fa 20 (.t 1) 3),.g 19 false (.ld 21 (.t 20) 1 false),.g 19 false (.ln 22 (.t 21)),.g 19 false (.fa 23 (.t 1) 0),.g 19 false (.fa 24 (.t 23) 1),.g 19 false (.ld 25 (.t 24) 1 false),.g 19 false (.ln 26 (.t 25)),.g 19 false (.bi 27 .neq (.t 22) (.t 26)),.pk 28 (.t 19) (.c (.bool true)) (.t 27)])
 (.cond (.t 28) (.seq (.reg [.mv 2 (.c (.bool false))])
 (.gw (.ret)))
 (.skip)))
 (.seq (.seq (.reg [.fa 29 (.t 1) 3,.ld 30 (.t 29) 1 false,.ln 31 (.t 30),.mv 32 (.c (.int .i64 0))])
 (.blk 0 (.loop (.gw (.seq (.reg [.bi 33 .lss (.t 32) (.t 31)])
 (.seq (.cond (.t 33) (.skip)
 (.exit 0))
 (.seq (.blk 1 (.seq (.reg [.ia 34 (.t 30) (.t 32) 1,.ld 35 (.t 34) 1 true,.al 4 [.nl],.st (.t 4) (.t 35) 1])
 (.seq (.reg [.ld 36 (.t 4) 1 true,.cq 37 F.impl_ProfOk [(.t 36)],.un 38 (.t 37)])
 (.cond (.t 38) (.seq (.reg [.mv 2 (.c (.bool false))])
 (.gw (.ret)))
 (.skip)))))
 (.reg [.bi 39 .add (.t 32) (.c (.int .i64 1)),.mv 32 (.t 39)]))))))))
 (.seq (.reg [.fa 40 (.t 1) 4,.ld 41 (.t 40) 1 true,.cq 42 F.impl_ProfOk [(.t 41)],.mv 2 (.t 42)])
 (.gw (.ret)))))
def rs_impl_RoomOk : List Rv := [.t 2]
theorem ck_impl_RoomOk : chkFn Tryz.prog F.impl_RoomOk 1 ir_impl_RoomOk rs_impl_RoomOk = true := by kernel_rfl
def impl_RoomOk_b27 (x4 : List Pt) (_ : Nat) (_ : Unit) (k4 : Unit → Option Bool) : Option Bool :=
 (impl_ProfOk x4).bind fun b5 => bif (!b5) then (some false) else (k4 ())
def impl_RoomOk_k27 (r1 : Room) (_ : Unit) : Option Bool :=
 (impl_ProfOk r1.lics).bind fun b6 => some b6
def impl_RoomOk (r1 : Room) : Option Bool :=
 (impl_TopoOk r1.topo).bind fun b2 => bif (((!b2) || ((r1.up.length : Int) != (r1.topo.nodes.length : Int))) || ((r1.profs.length : Int) != (r1.topo.nodes.length : Int))) then (some false) else (rgl impl_RoomOk_b27 (impl_RoomOk_k27 r1) r1.profs 0 ())
theorem impl_RoomOk_ok {r1 : Room} {r : Bool} (H : impl_RoomOk r1 = some r) : Snd Tryz.prog F.impl_RoomOk [eRoomT .rd r1] (.bool r) [] := by
 refine snd_g ck_impl_RoomOk rfl (by simp) ?_
 unfold impl_RoomOk at H
 obtain ⟨b2, h2, H⟩ := bB H
 refine Wh_go 99 [.c 7 (impl_TopoOk_ok h2), .g 12 [((!b2), false)] (.ln _ _ fun _ => lm r1.up eBo), .g 16 [((!b2), false)] (.ln _ _ fun _ => lm r1.topo.nodes eNode), .g 22 [(((!b2) || ((r1.up.length : Int) != (r1.topo.nodes.length : Int))), false)] (.ln _ _ fun _ => lm r1.profs (eProfT .rd)), .g 26 [(((!b2) || ((r1.up.length : Int) != (r1.topo.nodes.length : Int))), false)] (.ln _ _ fun _ => lm r1.topo.nodes eNode)] (by kernel_rfl) fun _ => ?_
 refine Wh_iH H (fun H => ?_) fun H => ?_
 ·refine Wh_o fun _ => ?_
  replace H := sI H; subst H
  exact Wh_end [(2, .d)] [] [] [] [] [] (by kernel_rfl)
 ·refine Wh_go 99 [.u 31 (.ln _ _ fun _ => lm r1.profs (eProfT .rd))] (by kernel_rfl) fun q3 => ?_
  refine Wh_rgl (fun (i4 : Nat) (v4 : Unit) => ⟨[(1, .ptr 1 0), (30, .sl .rd 1 (r1.profs.map (eProfT .rd))), (31, .int .i64 (r1.profs.length : Int)), (32, .int .i64 (i4 : Int))], [], [(1, (eRoomT .rd r1).cells)], []⟩) [] [] [] [] (by kernel_rfl) (by kernel_rfl) H (fun i4 x4 v4 I m k4 hxv4 hiv4 H N27 => ?_) (fun v4 I m H => ?_)
  ·unfold impl_RoomOk_b27 at H
   refine Wh_o fun _ => ?_
   refine Wh_ifT (ltT hiv4) (by kernel_rfl) ?_
   obtain ⟨b5, h5, H⟩ := bB H
   refine Wh_go 99 [.u 34 (.ix _ _ _ fun _ => idx_map (eProfT .rd) (idx_nat hxv4)), .c 37 (impl_ProfOk_ok h5)] (by kernel_rfl) fun _ => ?_
   refine Wh_iH H (fun H => ?_) fun H => ?_
   ·refine Wh_o fun _ => ?_
    replace H := sI H; subst H
    exact Wh_end [(2, .d)] [] [] [] [] [] (by kernel_rfl)
   ·refine Wh_go 99 [.w 39 (wi .i64 rfl hiv4 q3.1)] (by kernel_rfl) fun _ => ?_
    exact Wh_to (N27 () H) [] [] [] [] (by kernel_rfl) (by kernel_rfl)
  ·unfold impl_RoomOk_k27 at H
   refine Wh_o fun _ => ?_
   refine Wh_ifF (ltF r1.profs.length) (by kernel_rfl) ?_
   obtain ⟨b6, h6, H⟩ := bB H
   refine Wh_go 99 [.c 42 (impl_ProfOk_ok h6)] (by kernel_rfl) fun _ => ?_
   replace H := sI H; subst H
   exact Wh_end [(2, .d)] [] [] [] [] [] (by kernel_rfl)
def ir_impl_areAscending : L :=
.seq (.reg [.mv 2 (.c (.bool false))])
 (.seq (.seq (.reg [.mv 3 (.c (.int .i64 1))])
 (.blk 0 (.loop (.gw (.seq (.seq (.reg [.mv 4 (.t 3),.mv 5 (.t 0),.ln 6 (.t 5),.bi 7 .lss (.t 4) (.t 6)])
 (.cond (.t 7) (.skip)
 (.exit 0)))
 (.seq (.blk 1 (.seq (.rq 10 [.mv 10 (.t 0),.mv 11 (.t 3),.bi 12 .sub (.t 11) (.c (.int .i64 1)),.ia 13 (.t 10) (.t 12) 1,.ld 14 (.t 13) 1 false,.mv 15 (.t 0),.mv 16 (.t 3),.ia 17 (.t 15) (.t 16) 1,.ld 18 (.t 17) 1 false,.bi 19 .geq (.t 14) (.t 18)])
 (.cond (.t 19) (.seq (.reg [.mv 2 (.c (.bool false))])
 (.gw (.ret)))
 (.skip))))
 (.reg [.mv 8 (.t 3),.bi 9 .add (.t 8) (.c (.int .i64 1)),.mv 3 (.t 9)])))))))
 (.seq (.reg [.mv 2 (.c (.bool true))])
 (.gw (.ret))))
def rs_impl_areAscending : List Rv := [.t 2]
theorem ck_impl_areAscending : chkFn Tryz.prog F.impl_areAscending 1 ir_impl_areAscending rs_impl_areAscending = true := by kernel_rfl
def impl_areAscending_b18 (l1 : List Int) (v2 : Int) (k2 : Int → Option Bool) : Option Bool :=
 bif (decide (v2 < (l1.length : Int))) then ((idx l1 (w64 (v2 - 1))).bind fun e4 => (idx l1 v2).bind fun e5 => bif (decide (e5 ≤ e4)) then (some false) else (k2 (w64 (v2 + 1)))) else (some true)
def impl_areAscending (l1 : List Int) : Option Bool :=
 whl (impl_areAscending_b18 l1) 9223372036854775807 1
theorem impl_areAscending_ok {l1 : List Int} {r : Bool} (H : impl_areAscending l1 = some r) : Snd Tryz.prog F.impl_areAscending [.sl .rd 1 (l1.map eI)] (.bool r) [] := by
 refine snd_g ck_impl_areAscending rfl (by simp) ?_
 unfold impl_areAscending at H
 refine Wh_o fun _ => ?_
 refine Wh_whl (fun (v2 : Int) => ⟨[(0, .sl .rd 1 (l1.map eI)), (3, .int .i64 v2)], [], [], []⟩) [] [] [] [] (by kernel_rfl) (by kernel_rfl) H (fun v2 I m k2 H N18 => ?_)
 unfold impl_areAscending_b18 at H
 refine Wh_go 99 [.u 6 (.ln _ _ fun _ => lm l1 eI)] (by kernel_rfl) fun q3 => ?_
 refine Wh_iH H (fun H => ?_) fun H => ?_
 ·obtain ⟨e4, h4, H⟩ := bB H
  obtain ⟨e5, h5, H⟩ := bB H
  refine Wh_go 99 [.u 13 (.ix _ _ _ fun _ => idx_map eI h4), .u 17 (.ix _ _ _ fun _ => idx_map eI h5)] (by kernel_rfl) fun _ => ?_
  refine Wh_iH H (fun H => ?_) fun H => ?_
  ·refine Wh_o fun _ => ?_
   replace H := sI H; subst H
   exact Wh_end [(2, .d)] [] [] [] [] [] (by kernel_rfl)
  ·refine Wh_o fun _ => ?_
   exact Wh_to (N18 _ H) [] [] [] [] (by kernel_rfl) (by kernel_rfl)
 ·refine Wh_o fun _ => ?_
  replace H := sI H; subst H
  exact Wh_end [(2, .d)] [] [] [] [] [] (by kernel_rfl)
def ir_impl_areJobNodes : L :=
.seq (.reg [.bx 3 (.t 0),.bx 4 (.t 1),.mv 6 (.c (.bool false))])
 (.seq (.seq (.reg [.mv 9 (.t 2),.ln 10 (.t 9),.mv 11 (.c (.int .i64 0))])
 (.blk 0 (.loop (.gw (.seq (.reg [.bi 12 .lss (.t 11) (.t 10)])
 (.seq (.cond (.t 12) (.skip)
 (.exit 0))
 (.seq (.blk 1 (.seq (.reg [.mv 13 (.t 11),.ia 14 (.t 9) (.t 11) 1,.ld 15 (.t 14) 1 false,.mv 7 (.t 13),.mv 8 (.t 15)])
 (.seq (.reg [.mv 16 (.t 2),.mv 17 (.t 7),.sc 18 (.t 16) none (some (.t 17)) 1,.mv 19 (.t 8),.cq 20 F.slices_Contains_int_int [(.t 18), (.t 19)]])
 (.cond (.t 20) (.seq (.reg [.mv 6 (.c (.bool false))])
 (.gw (.ret)))
 (.skip)))))
 (.reg [.bi 21 .add (.t 11) (.c (.int .i64 1)),.mv 11 (.t 21)]))))))))
 (.seq (.reg [.ld 22 (.t 3) 2 true,.mv 23 (.t 2),.cq 24 F.impl_areNodes [(.t 22), (.t 23)],.mv 25 (.t 24),.g 25 true (.mv 26 (.t 2)),.g 25 true (.ln 27 (.t 26)),.g 25 true (.fa 28 (.t 4) 2),.g 25 true (.ld 29 (.t 28) 1 false),.g 25 true (.bi 30 .eql (.t 27) (.t 29)),.pk 31 (.t 25) (.t 30) (.c (.bool false)),.mv 6 (.t 31)])
 (.gw (.ret))))
def rs_impl_areJobNodes : List Rv := [.t 6]
theorem ck_impl_areJobNodes : chkFn Tryz.prog F.impl_areJobNodes 3 ir_impl_areJobNodes rs_impl_areJobNodes = true := by kernel_rfl
def impl_areJobNodes_b20 (nodes3 : List Int) (x5 : Int) (i5 : Nat) (_ : Unit) (k5 : Unit → Option Bool) : Option Bool :=
 (cutL nodes3 none (some (i5 : Int))).bind fun xs6 => (slices_Contains_int_int xs6 x5).bind fun b7 => bif b7 then (some false) else (k5 ())
def impl_areJobNodes_k20 (t1 : Topo) (j2 : Job) (nodes3 : List Int) (_ : Unit) : Option Bool :=
 (impl_areNodes t1 nodes3).bind fun b8 => some (b8 && ((nodes3.length : Int) == j2.nodes))
def impl_areJobNodes (t1 : Topo) (j2 : Job) (nodes3 : List Int) : Option Bool :=
 rgl (impl_areJobNodes_b20 nodes3) (impl_areJobNodes_k20 t1 j2 nodes3) nodes3 0 ()
theorem impl_areJobNodes_ok {t1 : Topo} {j2 : Job} {nodes3 : List Int} {r : Bool} (H : impl_areJobNodes t1 j2 nodes3 = some r) : Snd Tryz.prog F.impl_areJobNodes [eTopoT .rd t1, eJob j2, .sl .rd 1 (nodes3.map eI)] (.bool r) [] := by
 refine snd_g ck_impl_areJobNodes rfl (by simp) ?_
 unfold impl_areJobNodes at H
 refine Wh_go 99 [.u 10 (.ln _ _ fun _ => lm nodes3 eI)] (by kernel_rfl) fun q4 => ?_
 refine Wh_rgl (fun (i5 : Nat) (v5 : Unit) => ⟨[(2, .sl .rd 1 (nodes3.map eI)), (3, .ptr 3 0), (4, .ptr 4 0), (9, .sl .rd 1 (nodes3.map eI)), (10, .int .i64 (nodes3.length : Int)), (11, .int .i64 (i5 : Int))], [], [(3, (eTopoT .rd t1).cells), (4, (eJob j2).cells)], []⟩) [] [] [] [] (by kernel_rfl) (by kernel_rfl) H (fun i5 x5 v5 I m k5 hxv5 hiv5 H N20 => ?_) (fun v5 I m H => ?_)
 ·unfold impl_areJobNodes_b20 at H
  refine Wh_o fun _ => ?_
  refine Wh_ifT (ltT hiv5) (by kernel_rfl) ?_
  obtain ⟨xs6, h6, H⟩ := bB H
  obtain ⟨b7, h7, H⟩ := bB H
  refine Wh_go 99 [.u 14 (.ix _ _ _ fun _ => idx_map eI (idx_nat hxv5)), .u 18 (.sc _ _ _ _ fun _ => cutL_map eI h6), .c 20 (slices_Contains_int_int_ok h7)] (by kernel_rfl) fun _ => ?_
  refine Wh_iH H (fun H => ?_) fun H => ?_
  ·refine Wh_o fun _ => ?_
   replace H := sI H; subst H
   exact Wh_end [(6, .d)] [] [] [] [] [] (by kernel_rfl)
  ·refine Wh_go 99 [.w 21 (wi .i64 rfl hiv5 q4.1)] (by kernel_rfl) fun _ => ?_
   exact Wh_to (N20 () H) [] [] [] [] (by kernel_rfl) (by kernel_rfl)
 ·unfold impl_areJobNodes_k20 at H
  refine Wh_o fun _ => ?_
  refine Wh_ifF (ltF nodes3.length) (by kernel_rfl) ?_
  obtain ⟨b8, h8, H⟩ := bB H
  refine Wh_go 99 [.c 24 (impl_areNodes_ok h8), .g 27 [(b8, true)] (.ln _ _ fun _ => lm nodes3 eI)] (by kernel_rfl) fun _ => ?_
  replace H := sI H; subst H
  exact Wh_end [(6, .d)] [] [] [] [] [] (by kernel_rfl)
theorem jobOk_iff {j : Job} : spec_JobOk j = true ↔ (1 ≤ j.id ∧ j.id ≤ 999) ∧ (0 ≤ j.prio ∧ j.prio ≤ 999) ∧ (1 ≤ j.nodes ∧ j.nodes ≤ 24) ∧ spec_VecOk j.need = true ∧ spec_VecOk j.lic = true ∧ (1 ≤ j.wall ∧ j.wall ≤ 1000000) ∧ (0 ≤ j.level ∧ j.level ≤ 24) := by
 unfold spec_JobOk
 by_cases h : (1 ≤ j.id ∧ j.id ≤ 999) ∧ (0 ≤ j.prio ∧ j.prio ≤ 999) ∧ (1 ≤ j.nodes ∧ j.nodes ≤ 24)
 ·rw [show ((((((decide (j.id < 1)) || (decide (999 < j.id))) || (decide (j.prio < 0))) || (decide (999 < j.prio))) || (decide (j.nodes < 1))) || (decide (24 < j.nodes))) = false by simp; omega]
  simp only [cond_false, Bool.and_eq_true, decide_eq_true_eq]
  constructor
  ·intro q; exact ⟨h.1, h.2.1, h.2.2, q.1.1.1.1.1, q.1.1.1.1.2, ⟨q.1.1.1.2, q.1.1.2⟩, q.1.2, q.2⟩
  ·intro q; exact ⟨⟨⟨⟨⟨q.2.2.2.1, q.2.2.2.2.1⟩, q.2.2.2.2.2.1.1⟩, q.2.2.2.2.2.1.2⟩, q.2.2.2.2.2.2.1⟩, q.2.2.2.2.2.2.2⟩
 ·rw [show ((((((decide (j.id < 1)) || (decide (999 < j.id))) || (decide (j.prio < 0))) || (decide (999 < j.prio))) || (decide (j.nodes < 1))) || (decide (24 < j.nodes))) = true by
   simp only [Bool.or_eq_true, decide_eq_true_eq]; omega]
  simp only [cond_true]
  exact iff_not fun q => h ⟨q.1, q.2.1, q.2.2.1⟩
theorem impl_JobOk_eq (j : Job) : impl_JobOk j = spec_JobOk j := by
 rw [Bool.eq_iff_iff, jobOk_iff]
 unfold impl_JobOk impl_within
 simp only [impl_VecOk_eq, Bool.and_eq_true, decide_eq_true_eq, and_assoc]
/-- A right room. -/
structure RoomP (r : Room) : Prop where
 topo : TopoP r.topo
 up : r.up.length = r.topo.nodes.length
 profs : r.profs.length = r.topo.nodes.length
 prof : ∀ p ∈ r.profs, ProfP p
 lics : ProfP r.lics
noncomputable def roomOk (r : Room) : Bool := topoOk r.topo && decide (r.up.length = r.topo.nodes.length) && decide (r.profs.length = r.topo.nodes.length) && profOk r.lics && r.profs.all profOk
theorem roomOk_iff {r : Room} : roomOk r = true ↔ RoomP r := by
 unfold roomOk
 simp only [Bool.and_eq_true, decide_eq_true_eq, List.all_eq_true, topoOk_iff, profOk_iff]
 exact ⟨fun h => ⟨h.1.1.1.1, h.1.1.1.2, h.1.1.2, h.2, h.1.2⟩, fun h => ⟨⟨⟨⟨h.topo, h.up⟩, h.profs⟩, h.lics⟩, h.prof⟩⟩
theorem len_bne (a b : Nat) : ((a : Int) != (b : Int)) = !decide (a = b) := by
 by_cases h : a = b
 ·simp [h]
 ·rw [show ((a : Int) != (b : Int)) = true by simp; omega]; simp [h]
theorem spec_RoomOk_eq (r : Room) : spec_RoomOk r = some (roomOk r) := by
 unfold spec_RoomOk roomOk
 rw [spec_TopoOk_eq, Option.bind_some]
 simp only [len_bne, spec_ProfOk_eq]
 rw [rgl_any (r := some false) (p := fun p => !profOk p) (fun x _ i k => by unfold spec_RoomOk_b27; rw [spec_ProfOk_eq, Option.bind_some]), ← List.not_all_eq_any_not]
 cases topoOk r.topo <;> cases decide (r.up.length = r.topo.nodes.length) <;> cases decide (r.profs.length = r.topo.nodes.length) <;> cases profOk r.lics <;> cases r.profs.all profOk <;> rfl
theorem impl_RoomOk_eq (r : Room) : impl_RoomOk r = some (roomOk r) := by
 unfold impl_RoomOk roomOk
 rw [impl_TopoOk_eq, spec_TopoOk_eq, Option.bind_some]
 simp only [len_bne]
 rw [rgl_any (r := some false) (p := fun p => !profOk p) (fun x _ i k => by unfold impl_RoomOk_b27; rw [impl_ProfOk_eq, spec_ProfOk_eq, Option.bind_some]), ← List.not_all_eq_any_not]
 unfold impl_RoomOk_k27
 rw [impl_ProfOk_eq, spec_ProfOk_eq, Option.bind_some]
 cases topoOk r.topo <;> cases decide (r.up.length = r.topo.nodes.length) <;> cases decide (r.profs.length = r.topo.nodes.length) <;> cases profOk r.lics <;> cases r.profs.all profOk <;> rfl
/-- A room of no great size. -/
structure RoomS (r : Room) : Prop where
 up : r.up.length ≤ 1048576
 par : r.topo.parents.length ≤ 1048576
 nodes : r.topo.nodes.length ≤ 1048576
 profs : r.profs.length ≤ 1048576
 prof : ∀ p ∈ r.profs, p.length ≤ 1048576
 lics : r.lics.length ≤ 1048576
theorem RoomP.small {r : Room} (h : RoomP r) : RoomS r :=
  ⟨by have := h.up; have := h.topo.nodes; omega, by have := h.topo.tree.le; omega, by have := h.topo.nodes; omega, by have := h.profs; have := h.topo.nodes; omega, fun p hp => by have := (h.prof p hp).le; omega, by have := h.lics.le; omega⟩
theorem spec_l04Copy_eq {r : Room} (h : RoomS r) : spec_l04Copy r = some r := by
 unfold spec_l04Copy spec_l04Prof
 have := h.up; have := h.lics; have := h.par; have := h.nodes; have := h.profs
 rw [appL_some (by simp; omega), Option.bind_some, appL_some (by simp; omega), Option.bind_some, Option.bind_some, appL_some (by simp; omega), Option.bind_some, appL_some (by simp; omega), Option.bind_some]
 rw [rgl_gather (bd := spec_l04Copy_b16) (bs := 24) (p := fun _ => true) (f := id) (fun x hx i b k => by
  have := h.prof x hx
  unfold spec_l04Copy_b16 spec_l04Prof
  rw [appL_some (by simp; omega), Option.bind_some, Option.bind_some]; simp) (by simp; omega)]
 unfold spec_l04Copy_k16
 simp [List.filter_eq_self.2]
theorem impl_copyRoom_eq {r : Room} (h : RoomS r) : impl_copyRoom r = some r := by
 unfold impl_copyRoom impl_copyTopo impl_copyInts impl_copyProf
 have := h.up; have := h.lics; have := h.par; have := h.nodes; have := h.profs
 rw [appL_some (by simp; omega), Option.bind_some, Option.bind_some, appL_some (by simp; omega), Option.bind_some, Option.bind_some, appL_some (by simp; omega), Option.bind_some, appL_some (by simp; omega), Option.bind_some, Option.bind_some]
 rw [rgl_gather (bd := impl_copyRoom_b15) (bs := 24) (p := fun _ => true) (f := id) (fun x hx i b k => by
  have := h.prof x hx
  unfold impl_copyRoom_b15 impl_copyProf
  rw [appL_some (by simp; omega), Option.bind_some, Option.bind_some]; simp) (by simp; omega)]
 unfold impl_copyRoom_k15
 simp [List.filter_eq_self.2]
theorem cut_take {α : Type} {l : List α} {i : Nat} (h : i ≤ l.length) : cutL l none (some (i : Int)) = some (l.take i) := by
 unfold cutL bhi blo
 simp [h]
theorem nodup_snoc {l : List Int} {i : Nat} {x : Int} (hx : l[i]? = some x) : (l.take (i + 1)).Nodup ↔ (l.take i).Nodup ∧ x ∉ l.take i := by
 obtain ⟨hi, rfl⟩ := List.getElem?_eq_some_iff.1 hx
 rw [List.take_succ_eq_append_getElem hi, List.nodup_append]
 constructor
 ·intro h; exact ⟨h.1, fun hm => h.2.2 _ hm _ (List.mem_singleton.2 rfl) rfl⟩
 ·intro h; exact ⟨h.1, by simp, fun a ha b hb e => by rw [List.mem_singleton.1 hb] at e; subst e; exact h.2 ha⟩
theorem nodup_loop {γ : Type} {bd : Int → Nat → Unit → (Unit → Option γ) → Option γ} {kk : Unit → Option γ} {r : Option γ} {l : List Int}
  (hb : ∀ i x k, i ≤ l.length → bd x i () k = bif (l.take i).contains x then r else k ()) : rgl bd kk l 0 () = bif decide l.Nodup then kk () else r := by
 refine rgl_inv (fun i (_ : Unit) => (l.take i).Nodup) (fun o => o = bif decide l.Nodup then kk () else r) (fun i x b k hx hI hk => ?_) (fun b hI => ?_) (by simp)
 ·have hil := (List.getElem?_eq_some_iff.1 hx).1
  rw [hb i x k (by omega)]
  cases hc : (l.take i).contains x with
  | true =>
   have hm := List.contains_iff_mem.1 hc
   have : ¬ l.Nodup := fun q => ((nodup_snoc hx).1 (q.sublist (List.take_sublist _ _))).2 hm
   simp [this]
  | false => exact hk () ((nodup_snoc hx).2 ⟨hI, fun hm => by rw [List.contains_iff_mem.2 hm] at hc; cases hc⟩)
 ·rw [List.take_of_length_le (Nat.le_refl _)] at hI
  simp [hI]
noncomputable def diffOk (r : Room) (j : Job) (nodes : List Int) : Bool := roomOk r && spec_JobOk j && decide ((nodes.length : Int) = j.nodes) && nodesOk r.topo nodes && decide nodes.Nodup
theorem spec_l04Diff_eq (r : Room) (j : Job) (nodes : List Int) : spec_l04Diff r j nodes = some (diffOk r j nodes) := by
 unfold spec_l04Diff diffOk
 rw [spec_RoomOk_eq, Option.bind_some]
 have e : ((nodes.length : Int) != j.nodes) = !decide ((nodes.length : Int) = j.nodes) := by
  by_cases h : (nodes.length : Int) = j.nodes <;> simp [h]
 simp only [e, spec_l02Nodes_eq]
 rw [nodup_loop (r := some false) (fun i x k hi => by unfold spec_l04Diff_b27; rw [cut_take hi, Option.bind_some, spec_l02Has_eq, Option.bind_some])]
 cases roomOk r <;> cases spec_JobOk j <;> cases decide ((nodes.length : Int) = j.nodes) <;> cases nodesOk r.topo nodes <;> cases decide nodes.Nodup <;> rfl
theorem impl_areJobNodes_eq {t : Topo} (ht : t.nodes.length ≤ 1048576) (j : Job) (nodes : List Int) : impl_areJobNodes t j nodes = some (decide ((nodes.length : Int) = j.nodes) && nodesOk t nodes && decide nodes.Nodup) := by
 unfold impl_areJobNodes
 rw [nodup_loop (r := some false) (fun i x k hi => by unfold impl_areJobNodes_b20; rw [cut_take hi, Option.bind_some, slices_Contains_eq, Option.bind_some])]
 unfold impl_areJobNodes_k20
 rw [impl_areNodes_eq t nodes ht, Option.bind_some]
 have e : ((nodes.length : Int) == j.nodes) = decide ((nodes.length : Int) = j.nodes) := by
  by_cases h : (nodes.length : Int) = j.nodes <;> simp [h]
 rw [e]
 cases decide ((nodes.length : Int) = j.nodes) <;> cases nodesOk t nodes <;> cases decide nodes.Nodup <;> rfl
def noRoom : Room × Bool := (⟨⟨[], []⟩, [], [], []⟩, false)
def takeRoom (r : Room) (need lic : Vec) (from_ to_ : Int) (nodes : List Int) : Option (Room × Bool) :=
 rgl (fun x _ v k => (idx v x).bind fun e => (spec_ProfTake e from_ to_ need).bind fun y => bif !y.2 then some noRoom else k (v.set x.toNat y.1))
  (fun v => (spec_ProfTake r.lics from_ to_ lic).bind fun y => bif !y.2 then some noRoom else some (⟨r.topo, r.up, v, y.1⟩, true)) nodes 0 r.profs
theorem takeRoom_some {r : Room} (hr : RoomP r) (need lic : Vec) (from_ to_ : Int) {nodes : List Int} (hn : nodesOk r.topo nodes = true) :
  ∃ q, takeRoom r need lic from_ to_ nodes = some q ∧ (q.2 = true → RoomP q.1 ∧ q.1.topo = r.topo ∧ q.1.up = r.up) := by
 have hn := (nodesOk_iff.1 hn).2
 unfold takeRoom
 refine rgl_inv (fun i (v : List (List Pt)) => v.length = r.topo.nodes.length ∧ ∀ p ∈ v, ProfP p) (fun o => ∃ q : Room × Bool, o = some q ∧ (q.2 = true → RoomP q.1 ∧ q.1.topo = r.topo ∧ q.1.up = r.up)) (fun i x v k hx hI hk => ?_) (fun v hI => ?_) ⟨hr.profs, hr.prof⟩
 ·have hx' := hn x (List.mem_of_getElem? hx)
  obtain ⟨e, q1, q2⟩ := idx_some (l := v) (i := x) hx'.1 (by rw [hI.1]; exact hx'.2)
  obtain ⟨y, h1, h2⟩ := (ProfTake_eq e from_ to_ need).2
  rw [q1, Option.bind_some, h1, Option.bind_some]
  cases hy : y.2 with
  | false => exact ⟨noRoom, rfl, fun h => by cases h⟩
  | true =>
   refine hk _ ⟨by simp [hI.1], fun p hp => ?_⟩
   rcases List.mem_or_eq_of_mem_set hp with hp | rfl
   ·exact hI.2 p hp
   ·exact h2 hy
 ·obtain ⟨y, h1, h2⟩ := (ProfTake_eq r.lics from_ to_ lic).2
  rw [h1, Option.bind_some]
  cases hy : y.2 with
  | false => exact ⟨noRoom, rfl, fun h => by cases h⟩
  | true => exact ⟨_, rfl, fun _ => ⟨⟨hr.topo, hr.up, hI.1, hI.2, h2 hy⟩, rfl, rfl⟩⟩
theorem spec_Reserve_eq (r : Room) (j : Job) (t : Int) (nodes : List Int) : spec_Reserve r j t nodes = bif diffOk r j nodes && time t then takeRoom r j.need j.lic t (w64 (t + j.wall)) nodes else some noRoom := by
 unfold spec_Reserve
 rw [spec_l04Diff_eq, Option.bind_some, spec_l01Time_eq]
 cases hd : diffOk r j nodes with
 | false => rfl
 | true =>
  cases time t with
  | false => rfl
  | true =>
   have hr : roomOk r = true := by unfold diffOk at hd; simp only [Bool.and_eq_true] at hd; exact hd.1.1.1.1
   simp only [Bool.not_true, Bool.or_self, cond_false, Bool.and_self, cond_true]
   rw [spec_l04Copy_eq (roomOk_iff.1 hr).small, Option.bind_some]
   rfl
def ir_spec_QueueOk : L :=
.seq (.reg [.mv 2 (.c (.bool false))])
 (.seq (.seq (.reg [.mv 6 (.t 0),.ln 7 (.t 6),.bi 8 .gtr (.t 7) (.c (.int .i64 60))])
 (.cond (.t 8) (.seq (.reg [.mv 2 (.c (.bool false))])
 (.gw (.ret)))
 (.skip)))
 (.seq (.seq (.reg [.mv 9 (.t 0),.ln 10 (.t 9),.mv 11 (.c (.int .i64 0))])
 (.blk 0 (.loop (.gw (.seq (.reg [.bi 12 .lss (.t 11) (.t 10)])
 (.seq (.cond (.t 12) (.skip)
 (.exit 0))
 (.seq (.blk 1 (.seq (.reg [.mv 13 (.t 11),.ia 14 (.t 9) (.t 11) 11,.ld 15 (.t 14) 11 true,.al 4 [.int .i64 0, .int .i64 0, .int .i64 0, .int .i64 0, .int .i64 0, .int .i64 0, .int .i64 0, .int .i64 0, .int .i64 0, .int .i64 0, .int .i64 0],.mv 3 (.t 13),.st (.t 4) (.t 15) 11])
 (.seq (.seq (.reg [.ld 16 (.t 4) 11 true,.cq 17 F.spec_JobOk [(.t 16)],.un 18 (.t 17)])
 (.cond (.t 18) (.seq (.reg [.mv 2 (.c (.bool false))])
 (.gw (.ret)))
 (.skip)))
 (.seq (.reg [.mv 5 (.c (.int .i64 0))])
 (.blk 2 (.loop (.gw (.seq (.seq (.reg [.mv 19 (.t 5),.mv 20 (.t 3),.bi 21 .lss (.t 19) (.t 20)])
 (.cond (.t 21) (.skip)
 (.exit 2)))
 (.seq (.blk 3 (.seq (.rq 8 [.mv 24 (.t 0),.mv 25 (.t 5),.ia 26 (.t 24) (.t 25) 11,.fa 27 (.t 26) 0,.ld 28 (.t 27) 1 false,.fa 29 (.t 4) 0,.ld 30 (.t 29) 1 false,.bi 31 .eql (.t 28) (.t 30)])
 (.cond (.t 31) (.seq (.reg [.mv 2 (.c (.bool false))])
 (.gw (.ret)))
 (.skip))))
 (.reg [.mv 22 (.t 5),.bi 23 .add (.t 22) (.c (.int .i64 1)),.mv 5 (.t 23)]))))))))))
 (.reg [.bi 32 .add (.t 11) (.c (.int .i64 1)),.mv 11 (.t 32)]))))))))
 (.seq (.reg [.mv 2 (.c (.bool true))])
 (.gw (.ret)))))
def rs_spec_QueueOk : List Rv := [.t 2]
theorem ck_spec_QueueOk : chkFn Tryz.prog F.spec_QueueOk 1 ir_spec_QueueOk rs_spec_QueueOk = true := by kernel_rfl
def spec_QueueOk_b38 (l1 : List Job) (i4 : Nat) (x4 : Job) (k4 : Unit → Option Bool) (v5 : Int) (k5 : Int → Option Bool) : Option Bool :=
 bif (decide (v5 < (i4 : Int))) then ((idx l1 v5).bind fun e6 => bif (e6.id == x4.id) then (some false) else (k5 (w64 (v5 + 1)))) else (k4 ())
def spec_QueueOk_b48 (l1 : List Job) (x4 : Job) (i4 : Nat) (_ : Unit) (k4 : Unit → Option Bool) : Option Bool :=
 bif (!(spec_JobOk x4)) then (some false) else (whl (spec_QueueOk_b38 l1 i4 x4 k4) 9223372036854775807 0)
def spec_QueueOk_k48 (_ : Unit) : Option Bool :=
 some true
def spec_QueueOk (l1 : List Job) : Option Bool :=
 bif (decide (60 < (l1.length : Int))) then (some false) else (rgl (spec_QueueOk_b48 l1) spec_QueueOk_k48 l1 0 ())
theorem spec_QueueOk_ok {l1 : List Job} {r : Bool} (H : spec_QueueOk l1 = some r) : Snd Tryz.prog F.spec_QueueOk [.sl .rd 11 (l1.map eJob)] (.bool r) [] := by
 refine snd_g ck_spec_QueueOk rfl (by simp) ?_
 unfold spec_QueueOk at H
 refine Wh_go 99 [.u 7 (.ln _ _ fun _ => lm l1 eJob)] (by kernel_rfl) fun q2 => ?_
 refine Wh_iH H (fun H => ?_) fun H => ?_
 ·refine Wh_o fun _ => ?_
  replace H := sI H; subst H
  exact Wh_end [(2, .d)] [] [] [] [] [] (by kernel_rfl)
 ·refine Wh_go 99 [.u 10 (.ln _ _ fun _ => lm l1 eJob)] (by kernel_rfl) fun q3 => ?_
  refine Wh_rgl (fun (i4 : Nat) (v4 : Unit) => ⟨[(0, .sl .rd 11 (l1.map eJob)), (9, .sl .rd 11 (l1.map eJob)), (10, .int .i64 (l1.length : Int)), (11, .int .i64 (i4 : Int))], [], [], []⟩) [] [] [] [] (by kernel_rfl) (by kernel_rfl) H (fun i4 x4 v4 I m k4 hxv4 hiv4 H N48 => ?_) (fun v4 I m H => ?_)
  ·unfold spec_QueueOk_b48 at H
   refine Wh_o fun _ => ?_
   refine Wh_ifT (ltT hiv4) (by kernel_rfl) ?_
   refine Wh_go 99 [.u 14 (.ix _ _ _ fun _ => idx_map eJob (idx_nat hxv4)), .c 17 (spec_JobOk_ok x4)] (by kernel_rfl) fun _ => ?_
   refine Wh_iH H (fun H => ?_) fun H => ?_
   ·refine Wh_o fun _ => ?_
    replace H := sI H; subst H
    exact Wh_end [(2, .d)] [] [] [] [] [] (by kernel_rfl)
   ·refine Wh_o fun _ => ?_
    refine Wh_whl (fun (v5 : Int) => ⟨[(0, .sl .rd 11 (l1.map eJob)), (3, .int .i64 (i4 : Int)), (4, .ptr 4 0), (5, .int .i64 v5), (9, .sl .rd 11 (l1.map eJob)), (10, .int .i64 (l1.length : Int)), (11, .int .i64 (i4 : Int))], [], [(4, (eJob x4).cells)], []⟩) [] [] [] [] (by kernel_rfl) (by kernel_rfl) H (fun v5 I m k5 H N38 => ?_)
    unfold spec_QueueOk_b38 at H
    refine Wh_o fun _ => ?_
    refine Wh_iH H (fun H => ?_) fun H => ?_
    ·obtain ⟨e6, h6, H⟩ := bB H
     refine Wh_go 99 [.u 26 (.ix _ _ _ fun _ => idx_map eJob h6)] (by kernel_rfl) fun _ => ?_
     refine Wh_iH H (fun H => ?_) fun H => ?_
     ·refine Wh_o fun _ => ?_
      replace H := sI H; subst H
      exact Wh_end [(2, .d)] [] [] [] [] [] (by kernel_rfl)
     ·refine Wh_o fun _ => ?_
      exact Wh_to (N38 _ H) [] [] [] [] (by kernel_rfl) (by kernel_rfl)
    ·refine Wh_go 99 [.w 32 (wi .i64 rfl hiv4 q2.1)] (by kernel_rfl) fun _ => ?_
     exact Wh_to (N48 () H) [] [] [] [] (by kernel_rfl) (by kernel_rfl)
  ·unfold spec_QueueOk_k48 at H
   refine Wh_o fun _ => ?_
   refine Wh_ifF (ltF l1.length) (by kernel_rfl) ?_
   refine Wh_o fun _ => ?_
   replace H := sI H; subst H
   exact Wh_end [(2, .d)] [] [] [] [] [] (by kernel_rfl)
def ir_impl_QueueOk_1 : L :=
.seq (.reg [.bx 2 (.t 0),.mv 3 (.c (.bool false))])
 (.seq (.reg [.fa 4 (.t 2) 0,.ld 5 (.t 4) 1 false,.fa 6 (.t 1) 0,.ld 7 (.t 6) 1 false,.bi 8 .eql (.t 5) (.t 7),.mv 3 (.t 8)])
 (.gw (.ret)))
def rs_impl_QueueOk_1 : List Rv := [.t 3]
theorem ck_impl_QueueOk_1 : chkFn Tryz.prog F.impl_QueueOk_1 2 ir_impl_QueueOk_1 rs_impl_QueueOk_1 = true := by kernel_rfl
def impl_QueueOk_1_o (k1 : Job) (x2 : Job) : Option Bool :=
 some (k1.id == x2.id)
theorem impl_QueueOk_1_o_ok {k1 : Job} {x2 : Job} {r : Bool} (H : impl_QueueOk_1_o k1 x2 = some r) : Snd Tryz.prog F.impl_QueueOk_1 [eJob k1, .ept (eJob x2) 0] (.bool r) [] := by
 refine snd_g ck_impl_QueueOk_1 rfl (by simp) ?_
 unfold impl_QueueOk_1_o at H
 refine Wh_o fun _ => ?_
 replace H := sI H; subst H
 exact Wh_end [(3, .d)] [] [] [] [] [] (by kernel_rfl)
def impl_QueueOk_1 (k1 : Job) (x2 : Job) : Bool :=
 (k1.id == x2.id)
theorem impl_QueueOk_1_e (k1 : Job) (x2 : Job) : impl_QueueOk_1_o k1 x2 = some (impl_QueueOk_1 k1 x2) := by
 unfold impl_QueueOk_1_o impl_QueueOk_1
 first | rfl | simp only [bif_some]
theorem impl_QueueOk_1_ok (k1 : Job) (x2 : Job) : Snd Tryz.prog F.impl_QueueOk_1 [eJob k1, .ept (eJob x2) 0] (.bool (impl_QueueOk_1 k1 x2)) [] := impl_QueueOk_1_o_ok (impl_QueueOk_1_e k1 x2)
def ir_slices_IndexFunc_impl_Job_impl_Job_impl_QueueOk_1 : L :=
.seq (.reg [.mv 4 (.c (.int .i64 0))])
 (.seq (.seq (.reg [.mv 6 (.t 0),.ln 7 (.t 6),.mv 8 (.c (.int .i64 0))])
 (.blk 0 (.loop (.gw (.seq (.reg [.bi 9 .lss (.t 8) (.t 7)])
 (.seq (.cond (.t 9) (.skip)
 (.exit 0))
 (.seq (.blk 1 (.seq (.reg [.mv 10 (.t 8),.mv 5 (.t 10)])
 (.seq (.reg [.mv 11 (.t 1),.mv 12 (.t 0),.mv 13 (.t 5),.ia 14 (.t 12) (.t 13) 11,.ld 15 (.t 14) 11 true,.cc 16 (.t 11) [(.t 15)]])
 (.cond (.t 16) (.seq (.reg [.mv 17 (.t 5),.mv 4 (.t 17)])
 (.gw (.ret)))
 (.skip)))))
 (.reg [.bi 18 .add (.t 8) (.c (.int .i64 1)),.mv 8 (.t 18)]))))))))
 (.seq (.reg [.mv 4 (.c (.int .i64 (-1)))])
 (.gw (.ret))))
def rs_slices_IndexFunc_impl_Job_impl_Job_impl_QueueOk_1 : List Rv := [.t 4]
theorem ck_slices_IndexFunc_impl_Job_impl_Job_impl_QueueOk_1 : chkFn Tryz.prog F.slices_IndexFunc_impl_Job_impl_Job 2 ir_slices_IndexFunc_impl_Job_impl_Job_impl_QueueOk_1 rs_slices_IndexFunc_impl_Job_impl_Job_impl_QueueOk_1 = true := by kernel_rfl
def slices_IndexFunc_impl_Job_impl_Job_impl_QueueOk_1_b20 (c2 : Job) (x4 : Job) (i4 : Nat) (_ : Unit) (k4 : Unit → Option Int) : Option Int :=
 bif (impl_QueueOk_1 x4 c2) then (some (i4 : Int)) else (k4 ())
def slices_IndexFunc_impl_Job_impl_Job_impl_QueueOk_1_k20 (_ : Unit) : Option Int :=
 some (-1)
def slices_IndexFunc_impl_Job_impl_Job_impl_QueueOk_1 (s1 : List Job) (c2 : Job) : Option Int :=
 rgl (slices_IndexFunc_impl_Job_impl_Job_impl_QueueOk_1_b20 c2) slices_IndexFunc_impl_Job_impl_Job_impl_QueueOk_1_k20 s1 0 ()
theorem slices_IndexFunc_impl_Job_impl_Job_impl_QueueOk_1_ok {s1 : List Job} {c2 : Job} {r : Int} (H : slices_IndexFunc_impl_Job_impl_Job_impl_QueueOk_1 s1 c2 = some r) : Snd Tryz.prog F.slices_IndexFunc_impl_Job_impl_Job [.sl .rd 11 (s1.map eJob), .fn F.impl_QueueOk_1 [.ept (eJob c2) 0]] (.int .i64 r) [] := by
 refine snd_g ck_slices_IndexFunc_impl_Job_impl_Job_impl_QueueOk_1 rfl (by simp) ?_
 unfold slices_IndexFunc_impl_Job_impl_Job_impl_QueueOk_1 at H
 refine Wh_go 99 [.u 7 (.ln _ _ fun _ => lm s1 eJob)] (by kernel_rfl) fun q3 => ?_
 refine Wh_rgl (fun (i4 : Nat) (v4 : Unit) => ⟨[(0, .sl .rd 11 (s1.map eJob)), (1, .fn F.impl_QueueOk_1 [.ept (eJob c2) 0]), (7, .int .i64 (s1.length : Int)), (8, .int .i64 (i4 : Int))], [], [], []⟩) [] [] [] [] (by kernel_rfl) (by kernel_rfl) H (fun i4 x4 v4 I m k4 hxv4 hiv4 H N20 => ?_) (fun v4 I m H => ?_)
 ·unfold slices_IndexFunc_impl_Job_impl_Job_impl_QueueOk_1_b20 at H
  refine Wh_o fun _ => ?_
  refine Wh_ifT (ltT hiv4) (by kernel_rfl) ?_
  refine Wh_go 99 [.u 14 (.ix _ _ _ fun _ => idx_map eJob (idx_nat hxv4)), .u 16 (.clsr _ _ _ _ _ (AEs.refl _) (by kernel_rfl) (fun _ => impl_QueueOk_1_ok x4 c2))] (by kernel_rfl) fun _ => ?_
  refine Wh_iH H (fun H => ?_) fun H => ?_
  ·refine Wh_o fun _ => ?_
   replace H := sI H; subst H
   exact Wh_end [(4, .d)] [] [] [] [] [] (by kernel_rfl)
  ·refine Wh_go 99 [.w 18 (wi .i64 rfl hiv4 q3.1)] (by kernel_rfl) fun _ => ?_
   exact Wh_to (N20 () H) [] [] [] [] (by kernel_rfl) (by kernel_rfl)
 ·unfold slices_IndexFunc_impl_Job_impl_Job_impl_QueueOk_1_k20 at H
  refine Wh_o fun _ => ?_
  refine Wh_ifF (ltF s1.length) (by kernel_rfl) ?_
  refine Wh_o fun _ => ?_
  replace H := sI H; subst H
  exact Wh_end [(4, .d)] [] [] [] [] [] (by kernel_rfl)
def ir_slices_ContainsFunc_impl_Job_impl_Job_impl_QueueOk_1 : L :=
.seq (.reg [.mv 4 (.c (.bool false))])
 (.seq (.reg [.mv 5 (.t 0),.mv 6 (.t 1),.cq 7 F.slices_IndexFunc_impl_Job_impl_Job [(.t 5), (.t 6)],.bi 8 .geq (.t 7) (.c (.int .i64 0)),.mv 4 (.t 8)])
 (.gw (.ret)))
def rs_slices_ContainsFunc_impl_Job_impl_Job_impl_QueueOk_1 : List Rv := [.t 4]
theorem ck_slices_ContainsFunc_impl_Job_impl_Job_impl_QueueOk_1 : chkFn Tryz.prog F.slices_ContainsFunc_impl_Job_impl_Job 2 ir_slices_ContainsFunc_impl_Job_impl_Job_impl_QueueOk_1 rs_slices_ContainsFunc_impl_Job_impl_Job_impl_QueueOk_1 = true := by kernel_rfl
def slices_ContainsFunc_impl_Job_impl_Job_impl_QueueOk_1 (s1 : List Job) (c2 : Job) : Option Bool :=
 (slices_IndexFunc_impl_Job_impl_Job_impl_QueueOk_1 s1 c2).bind fun n3 => some (decide (0 ≤ n3))
theorem slices_ContainsFunc_impl_Job_impl_Job_impl_QueueOk_1_ok {s1 : List Job} {c2 : Job} {r : Bool} (H : slices_ContainsFunc_impl_Job_impl_Job_impl_QueueOk_1 s1 c2 = some r) : Snd Tryz.prog F.slices_ContainsFunc_impl_Job_impl_Job [.sl .rd 11 (s1.map eJob), .fn F.impl_QueueOk_1 [.ept (eJob c2) 0]] (.bool r) [] := by
 refine snd_g ck_slices_ContainsFunc_impl_Job_impl_Job_impl_QueueOk_1 rfl (by simp) ?_
 unfold slices_ContainsFunc_impl_Job_impl_Job_impl_QueueOk_1 at H
 obtain ⟨n3, h3, H⟩ := bB H
 refine Wh_go 99 [.c 7 (slices_IndexFunc_impl_Job_impl_Job_impl_QueueOk_1_ok h3)] (by kernel_rfl) fun _ => ?_
 replace H := sI H; subst H
 exact Wh_end [(4, .d)] [] [] [] [] [] (by kernel_rfl)
def ir_impl_QueueOk : L :=
.seq (.reg [.mv 2 (.c (.bool false))])
 (.seq (.seq (.reg [.mv 5 (.t 0),.ln 6 (.t 5),.mv 7 (.c (.int .i64 0))])
 (.blk 0 (.loop (.gw (.seq (.reg [.bi 8 .lss (.t 7) (.t 6)])
 (.seq (.cond (.t 8) (.skip)
 (.exit 0))
 (.seq (.blk 1 (.seq (.reg [.mv 9 (.t 7),.ia 10 (.t 5) (.t 7) 11,.ld 11 (.t 10) 11 true,.al 4 [.int .i64 0, .int .i64 0, .int .i64 0, .int .i64 0, .int .i64 0, .int .i64 0, .int .i64 0, .int .i64 0, .int .i64 0, .int .i64 0, .int .i64 0],.mv 3 (.t 9),.st (.t 4) (.t 11) 11])
 (.seq (.reg [.fb 4,.ld 12 (.t 4) 11 true,.cq 13 F.impl_JobOk [(.t 12)],.un 14 (.t 13),.mv 15 (.t 14),.g 15 false (.mv 16 (.t 0)),.g 15 false (.mv 17 (.t 3)),.g 15 false (.sc 18 (.t 16) none (some (.t 17)) 11),.g 15 false (.mf 19 F.impl_QueueOk_1 [(.t 4)]),.g 15 false (.cq 20 F.slices_ContainsFunc_impl_Job_impl_Job [(.t 18), (.t 19)]),.pk 21 (.t 15) (.c (.bool true)) (.t 20)])
 (.cond (.t 21) (.seq (.reg [.mv 2 (.c (.bool false))])
 (.gw (.ret)))
 (.skip)))))
 (.reg [.bi 22 .add (.t 7) (.c (.int .i64 1)),.mv 7 (.t 22)]))))))))
 (.seq (.reg [.mv 23 (.t 0),.ln 24 (.t 23),.bi 25 .leq (.t 24) (.c (.int .i64 60)),.mv 2 (.t 25)])
 (.gw (.ret))))
def rs_impl_QueueOk : List Rv := [.t 2]
theorem ck_impl_QueueOk : chkFn Tryz.prog F.impl_QueueOk 1 ir_impl_QueueOk rs_impl_QueueOk = true := by kernel_rfl
def impl_QueueOk_b20 (l1 : List Job) (x3 : Job) (i3 : Nat) (_ : Unit) (k3 : Unit → Option Bool) : Option Bool :=
 (bif (!(impl_JobOk x3)) then some default else (cutL l1 none (some (i3 : Int)))).bind fun xs4 => (bif (!(impl_JobOk x3)) then some default else (slices_ContainsFunc_impl_Job_impl_Job_impl_QueueOk_1 xs4 x3)).bind fun b5 => bif ((!(impl_JobOk x3)) || b5) then (some false) else (k3 ())
def impl_QueueOk_k20 (l1 : List Job) (_ : Unit) : Option Bool :=
 some (decide ((l1.length : Int) ≤ 60))
def impl_QueueOk (l1 : List Job) : Option Bool :=
 rgl (impl_QueueOk_b20 l1) (impl_QueueOk_k20 l1) l1 0 ()
theorem impl_QueueOk_ok {l1 : List Job} {r : Bool} (H : impl_QueueOk l1 = some r) : Snd Tryz.prog F.impl_QueueOk [.sl .rd 11 (l1.map eJob)] (.bool r) [] := by
 refine snd_g ck_impl_QueueOk rfl (by simp) ?_
 unfold impl_QueueOk at H
 refine Wh_go 99 [.u 6 (.ln _ _ fun _ => lm l1 eJob)] (by kernel_rfl) fun q2 => ?_
 refine Wh_rgl (fun (i3 : Nat) (v3 : Unit) => ⟨[(0, .sl .rd 11 (l1.map eJob)), (5, .sl .rd 11 (l1.map eJob)), (6, .int .i64 (l1.length : Int)), (7, .int .i64 (i3 : Int))], [], [], []⟩) [] [] [] [] (by kernel_rfl) (by kernel_rfl) H (fun i3 x3 v3 I m k3 hxv3 hiv3 H N20 => ?_) (fun v3 I m H => ?_)
 ·unfold impl_QueueOk_b20 at H
  refine Wh_o fun _ => ?_
  refine Wh_ifT (ltT hiv3) (by kernel_rfl) ?_
  obtain ⟨xs4, h4, H⟩ := bB H
  obtain ⟨b5, h5, H⟩ := bB H
  refine Wh_go 99 [.u 10 (.ix _ _ _ fun _ => idx_map eJob (idx_nat hxv3)), .c 13 (impl_JobOk_ok x3), .g 18 [(_, false)] (.sc _ _ _ _ fun q => cutL_map eJob (bF q.1 h4)), .g 20 [(_, false)] (.call _ _ _ _ _ (AEs.refl _) (fun q => slices_ContainsFunc_impl_Job_impl_Job_impl_QueueOk_1_ok (bF q.1 h5)))] (by kernel_rfl) fun _ => ?_
  refine Wh_iH H (fun H => ?_) fun H => ?_
  ·refine Wh_o fun _ => ?_
   replace H := sI H; subst H
   exact Wh_end [(2, .d)] [] [] [] [] [] (by kernel_rfl)
  ·refine Wh_go 99 [.w 22 (wi .i64 rfl hiv3 q2.1)] (by kernel_rfl) fun _ => ?_
   exact Wh_to (N20 () H) [] [] [] [] (by kernel_rfl) (by kernel_rfl)
 ·unfold impl_QueueOk_k20 at H
  refine Wh_o fun _ => ?_
  refine Wh_ifF (ltF l1.length) (by kernel_rfl) ?_
  refine Wh_go 99 [.u 24 (.ln _ _ fun _ => lm l1 eJob)] (by kernel_rfl) fun q6 => ?_
  replace H := sI H; subst H
  exact Wh_end [(2, .d)] [] [] [] [] [] (by kernel_rfl)
def ir_spec_l06Empty : L :=
.seq (.reg [.bx 1 (.t 0),.al 2 [.nl, .nl, .nl, .nl, .nl],.mv 3 (.c (.bool false))])
 (.seq (.reg [.fa 9 (.t 1) 0,.ld 10 (.t 9) 2 true,.fa 11 (.t 1) 2,.ld 12 (.t 11) 1 false,.bd 13 [.nl, .nl, .nl, .nl, .nl] [(0, 2, (.t 10)), (2, 1, (.t 12))],.al 4 [.nl, .nl, .nl, .nl, .nl],.st (.t 4) (.t 13) 5])
 (.seq (.seq (.reg [.fa 14 (.t 1) 0,.ld 15 (.t 14) 2 true,.cq 16 F.spec_TopoOk [(.t 15)],.un 17 (.t 16),.mv 18 (.t 17),.g 18 false (.fa 19 (.t 1) 2),.g 18 false (.ld 20 (.t 19) 1 false),.g 18 false (.ln 21 (.t 20)),.g 18 false (.fa 22 (.t 1) 0),.g 18 false (.fa 23 (.t 22) 1),.g 18 false (.ld 24 (.t 23) 1 false),.g 18 false (.ln 25 (.t 24)),.g 18 false (.bi 26 .neq (.t 21) (.t 25)),.pk 27 (.t 18) (.c (.bool true)) (.t 26),.mv 28 (.t 27),.g 28 false (.fa 29 (.t 1) 3),.g 28 false (.ld 30 (.t 29) 3 true),.g 28 false (.cq 31 F.spec_VecOk [(.t 30)]),.g 28 false (.un 32 (.t 31)),.pk 33 (.t 28) (.c (.bool true)) (.t 32)])
 (.cond (.t 33) (.seq (.reg [.bd 34 [.nl, .nl, .nl, .nl, .nl] [],.st (.t 2) (.t 34) 5,.mv 3 (.c (.bool false))])
 (.gw (.ret)))
 (.skip)))
 (.seq (.seq (.reg [.fa 35 (.t 1) 0,.fa 36 (.t 35) 1,.ld 37 (.t 36) 1 false,.ln 38 (.t 37),.mv 39 (.c (.int .i64 0))])
 (.blk 0 (.loop (.gw (.seq (.reg [.bi 40 .lss (.t 39) (.t 38)])
 (.seq (.cond (.t 40) (.skip)
 (.exit 0))
 (.seq (.blk 1 (.seq (.reg [.ia 41 (.t 37) (.t 39) 4,.ld 42 (.t 41) 4 true,.al 6 [.int .i64 0, .int .i64 0, .int .i64 0, .int .i64 0],.st (.t 6) (.t 42) 4])
 (.seq (.reg [.fa 44 (.t 6) 1,.ld 45 (.t 44) 3 true,.cq 46 F.spec_ProfNew [(.t 45)],.mv 43 (.t 46),.ex 47 (.t 43) 0,.ex 48 (.t 43) 1,.al 7 [.nl],.st (.t 7) (.t 47) 1,.mv 8 (.t 48)])
 (.reg [.fa 49 (.t 4) 3,.ld 50 (.t 49) 1 false,.ld 51 (.t 7) 1 true,.bs 52 1 [(.t 51)] false,.ap 53 (.t 50) (.t 52) 1 24,.fa 54 (.t 4) 3,.st (.t 54) (.t 53) 1]))))
 (.reg [.bi 55 .add (.t 39) (.c (.int .i64 1)),.mv 39 (.t 55)]))))))))
 (.seq (.reg [.fa 57 (.t 1) 3,.ld 58 (.t 57) 3 true,.cq 59 F.spec_ProfNew [(.t 58)],.mv 56 (.t 59),.ex 60 (.t 56) 0,.ex 61 (.t 56) 1,.fa 62 (.t 4) 4,.st (.t 62) (.t 60) 1])
 (.seq (.reg [.ld 63 (.t 4) 5 true,.cq 64 F.spec_l04Copy [(.t 63)],.st (.t 2) (.t 64) 5,.mv 3 (.c (.bool true))])
 (.gw (.ret)))))))
def rs_spec_l06Empty : List Rv := [.c 2 5 true, .t 3]
theorem ck_spec_l06Empty : chkFn Tryz.prog F.spec_l06Empty 1 ir_spec_l06Empty rs_spec_l06Empty = true := by kernel_rfl
def spec_l06Empty_b24 (x4 : Node) (_ : Nat) (v4 : (List (List Pt))) (k4 : (List (List Pt)) → Option (Room × Bool)) : Option (Room × Bool) :=
 (appL 24 v4 [(spec_ProfNew x4.cap).1]).bind fun xs5 => k4 xs5
def spec_l06Empty_k24 (s1 : State) (v4 : (List (List Pt))) : Option (Room × Bool) :=
 (spec_l04Copy (Room.mk s1.topo s1.up v4 ((spec_ProfNew s1.lic).1))).bind fun y6 => some (y6, true)
def spec_l06Empty (s1 : State) : Option (Room × Bool) :=
 (spec_TopoOk s1.topo).bind fun b2 => bif (((!b2) || ((s1.up.length : Int) != (s1.topo.nodes.length : Int))) || (!(spec_VecOk s1.lic))) then (some ((Room.mk (Topo.mk [] []) [] [] []), false)) else (rgl spec_l06Empty_b24 (spec_l06Empty_k24 s1) s1.topo.nodes 0 [])
theorem spec_l06Empty_ok {s1 : State} {r : Room × Bool} (H : spec_l06Empty s1 = some r) : Snd Tryz.prog F.spec_l06Empty [eStateT .rd s1] (.tup [eRoomT .nw r.1, .bool r.2]) [] := by
 refine snd_g ck_spec_l06Empty rfl (by simp) ?_
 unfold spec_l06Empty at H
 obtain ⟨b2, h2, H⟩ := bB H
 refine Wh_go 99 [.c 16 (spec_TopoOk_ok h2), .g 21 [((!b2), false)] (.ln _ _ fun _ => lm s1.up eBo), .g 25 [((!b2), false)] (.ln _ _ fun _ => lm s1.topo.nodes eNode), .g 31 [(((!b2) || ((s1.up.length : Int) != (s1.topo.nodes.length : Int))), false)] (.call _ _ _ _ _ (AEs.refl _) (fun _ => spec_VecOk_ok s1.lic))] (by kernel_rfl) fun _ => ?_
 refine Wh_iH H (fun H => ?_) fun H => ?_
 ·refine Wh_o fun _ => ?_
  replace H := sI H; subst H
  exact Wh_end [(2, .d), (3, .d)] [(2, [.n 1, .n 4, .n 1, .n 1, .n 4])] [] [] [] [⟨_, nw_I ([] : List Int)⟩, ⟨_, nw_Node ([] : List Node)⟩, ⟨_, nw_Bo ([] : List Bool)⟩, ⟨_, nw_ProfT ([] : List (List Pt))⟩, ⟨_, nw_Pt ([] : List Pt)⟩] (by kernel_rfl)
 ·refine Wh_go 99 [.u 38 (.ln _ _ fun _ => lm s1.topo.nodes eNode)] (by kernel_rfl) fun q3 => ?_
  refine Wh_rgl (fun (i4 : Nat) (v4 : (List (List Pt))) => ⟨[(1, .ptr 1 0), (2, .ptr 2 0), (4, .ptr 4 0), (37, .sl .rd 4 (s1.topo.nodes.map eNode)), (38, .int .i64 (s1.topo.nodes.length : Int)), (39, .int .i64 (i4 : Int))], [], [(1, (eStateT .rd s1).cells), (2, [.nl, .nl, .nl, .nl, .nl]), (4, [.sl .rd 1 (s1.topo.parents.map eI), .sl .rd 4 (s1.topo.nodes.map eNode), .sl .rd 1 (s1.up.map eBo), .sref 200000, .nl])], [(200000, ⟨1, v4.map (eProfT .nw), false⟩)]⟩) [] [(4, [.d, .d, .d, .z 200000, .d])] [(200000, (none, 1))] [] (by kernel_rfl) (by kernel_rfl) H (fun i4 x4 v4 I m k4 hxv4 hiv4 H N24 => ?_) (fun v4 I m H => ?_)
  ·unfold spec_l06Empty_b24 at H
   refine Wh_o fun _ => ?_
   refine Wh_ifT (ltT hiv4) (by kernel_rfl) ?_
   obtain ⟨xs5, h5, H⟩ := bB H
   refine Wh_go 99 [.u 41 (.ix _ _ _ fun _ => idx_map eNode (idx_nat hxv4)), .c 46 (spec_ProfNew_ok x4.cap), .u 53 (.ap _ _ _ _ fun _ => appL_map (eProfT .nw) h5), .w 55 (wi .i64 rfl hiv4 q3.1)] (by kernel_rfl) fun _ => ?_
   exact Wh_to (N24 _ H) [] [] [] [] (by kernel_rfl) (by kernel_rfl)
  ·unfold spec_l06Empty_k24 at H
   refine Wh_o fun _ => ?_
   refine Wh_ifF (ltF s1.topo.nodes.length) (by kernel_rfl) ?_
   obtain ⟨y6, h6, H⟩ := bB H
   refine Wh_go 99 [.c 59 (spec_ProfNew_ok s1.lic), .u 64 (.call _ _ _ _ _ (AEs.of (xs := [.agg [.sl .rd 1 (s1.topo.parents.map eI), .sl .rd 4 (s1.topo.nodes.map eNode), .sl .rd 1 (s1.up.map eBo), .sl .rd 1 (v4.map (eProfT .nw)), .sl .rd 4 (((spec_ProfNew s1.lic).1).map ePt)]]) (by simp)) (fun _ => spec_l04Copy_ok h6))] (by kernel_rfl) fun _ => ?_
   replace H := sI H; subst H
   exact Wh_end [(2, .d), (3, .d)] [(2, [])] [] [] [] [⟨_, nw_I y6.topo.parents⟩, ⟨_, nw_Node y6.topo.nodes⟩, ⟨_, nw_Bo y6.up⟩, ⟨_, nw_ProfT y6.profs⟩, ⟨_, nw_Pt y6.lics⟩] (by kernel_rfl)
def ir_spec_RoomOf : L :=
.seq (.reg [.bx 1 (.t 0),.al 2 [.nl, .nl, .nl, .nl, .nl],.mv 3 (.c (.bool false))])
 (.seq (.reg [.ld 13 (.t 1) 11 true,.cq 14 F.spec_l06Empty [(.t 13)],.mv 12 (.t 14),.ex 15 (.t 12) 0,.ex 16 (.t 12) 1,.al 4 [.nl, .nl, .nl, .nl, .nl],.st (.t 4) (.t 15) 5,.mv 5 (.t 16)])
 (.seq (.seq (.reg [.mv 17 (.t 5),.un 18 (.t 17),.mv 19 (.t 18),.g 19 false (.fa 20 (.t 1) 7),.g 19 false (.ld 21 (.t 20) 1 false),.g 19 false (.cq 22 F.spec_l01Time [(.t 21)]),.g 19 false (.un 23 (.t 22)),.pk 24 (.t 19) (.c (.bool true)) (.t 23)])
 (.cond (.t 24) (.seq (.reg [.bd 25 [.nl, .nl, .nl, .nl, .nl] [],.st (.t 2) (.t 25) 5,.mv 3 (.c (.bool false))])
 (.gw (.ret)))
 (.skip)))
 (.seq (.seq (.reg [.fa 26 (.t 1) 9,.ld 27 (.t 26) 1 false,.ln 28 (.t 27),.mv 29 (.c (.int .i64 0))])
 (.blk 0 (.loop (.gw (.seq (.reg [.bi 30 .lss (.t 29) (.t 28)])
 (.seq (.cond (.t 30) (.skip)
 (.exit 0))
 (.seq (.blk 1 (.seq (.reg [.ia 31 (.t 27) (.t 29) 13,.ld 32 (.t 31) 13 true,.al 7 [.int .i64 0, .int .i64 0, .int .i64 0, .int .i64 0, .int .i64 0, .int .i64 0, .int .i64 0, .int .i64 0, .int .i64 0, .int .i64 0, .int .i64 0, .int .i64 0, .nl],.st (.t 7) (.t 32) 13])
 (.seq (.reg [.fa 33 (.t 7) 11,.ld 34 (.t 33) 1 false,.fa 35 (.t 7) 0,.fa 36 (.t 35) 9,.ld 37 (.t 36) 1 false,.bi 38 .add (.t 34) (.t 37),.mv 8 (.t 38)])
 (.seq (.seq (.reg [.ld 39 (.t 4) 5 true,.fa 40 (.t 7) 0,.ld 41 (.t 40) 11 true,.fa 42 (.t 7) 12,.ld 43 (.t 42) 1 false,.cq 44 F.spec_l04Diff [(.t 39), (.t 41), (.t 43)],.un 45 (.t 44),.mv 46 (.t 45),.g 46 false (.fa 47 (.t 7) 11),.g 46 false (.ld 48 (.t 47) 1 false),.g 46 false (.cq 49 F.spec_l01Time [(.t 48)]),.g 46 false (.un 50 (.t 49)),.pk 51 (.t 46) (.c (.bool true)) (.t 50),.mv 52 (.t 51),.g 52 false (.fa 53 (.t 7) 11),.g 52 false (.ld 54 (.t 53) 1 false),.g 52 false (.fa 55 (.t 1) 7),.g 52 false (.ld 56 (.t 55) 1 false),.g 52 false (.bi 57 .gtr (.t 54) (.t 56)),.pk 58 (.t 52) (.c (.bool true)) (.t 57),.mv 59 (.t 58),.g 59 false (.mv 60 (.t 8)),.g 59 false (.fa 61 (.t 1) 7),.g 59 false (.ld 62 (.t 61) 1 false),.g 59 false (.bi 63 .leq (.t 60) (.t 62)),.pk 64 (.t 59) (.c (.bool true)) (.t 63),.mv 65 (.t 64),.g 65 false (.mv 66 (.t 8)),.g 65 false (.bi 67 .gtr (.t 66) (.c (.int .i64 1000000000))),.pk 68 (.t 65) (.c (.bool true)) (.t 67)])
 (.cond (.t 68) (.seq (.reg [.bd 69 [.nl, .nl, .nl, .nl, .nl] [],.st (.t 2) (.t 69) 5,.mv 3 (.c (.bool false))])
 (.gw (.ret)))
 (.skip)))
 (.seq (.reg [.fa 70 (.t 7) 0,.ld 71 (.t 70) 11 true,.al 9 [.int .i64 0, .int .i64 0, .int .i64 0, .int .i64 0, .int .i64 0, .int .i64 0, .int .i64 0, .int .i64 0, .int .i64 0, .int .i64 0, .int .i64 0],.st (.t 9) (.t 71) 11])
 (.seq (.reg [.mv 72 (.t 8),.fa 73 (.t 1) 7,.ld 74 (.t 73) 1 false,.bi 75 .sub (.t 72) (.t 74),.fa 76 (.t 9) 9,.st (.t 76) (.t 75) 1])
 (.seq (.reg [.ld 78 (.t 4) 5 true,.ld 79 (.t 9) 11 true,.fa 80 (.t 1) 7,.ld 81 (.t 80) 1 false,.fa 82 (.t 7) 12,.ld 83 (.t 82) 1 false,.cq 84 F.spec_Reserve [(.t 78), (.t 79), (.t 81), (.t 83)],.mv 77 (.t 84),.ex 85 (.t 77) 0,.ex 86 (.t 77) 1,.al 10 [.nl, .nl, .nl, .nl, .nl],.st (.t 10) (.t 85) 5,.mv 11 (.t 86)])
 (.seq (.seq (.reg [.mv 87 (.t 11),.un 88 (.t 87)])
 (.cond (.t 88) (.seq (.reg [.bd 89 [.nl, .nl, .nl, .nl, .nl] [],.st (.t 2) (.t 89) 5,.mv 3 (.c (.bool false))])
 (.gw (.ret)))
 (.skip)))
 (.reg [.ld 90 (.t 10) 5 true,.st (.t 4) (.t 90) 5])))))))))
 (.reg [.bi 91 .add (.t 29) (.c (.int .i64 1)),.mv 29 (.t 91)]))))))))
 (.seq (.reg [.ld 92 (.t 4) 5 true,.st (.t 2) (.t 92) 5,.mv 3 (.c (.bool true))])
 (.gw (.ret))))))
def rs_spec_RoomOf : List Rv := [.c 2 5 true, .t 3]
theorem ck_spec_RoomOf : chkFn Tryz.prog F.spec_RoomOf 1 ir_spec_RoomOf rs_spec_RoomOf = true := by kernel_rfl
def spec_RoomOf_b46 (s1 : State) (x4 : Run) (_ : Nat) (v4 : Room) (k4 : Room → Option (Room × Bool)) : Option (Room × Bool) :=
 (spec_l04Diff v4 x4.job x4.nodes).bind fun b5 => bif (((((!b5) || (!(spec_l01Time x4.t))) || (decide (s1.now < x4.t))) || (decide ((w64 (x4.t + x4.job.wall)) ≤ s1.now))) || (decide (1000000000 < (w64 (x4.t + x4.job.wall))))) then (some ((Room.mk (Topo.mk [] []) [] [] []), false)) else ((spec_Reserve v4 (Job.mk x4.job.id x4.job.prio x4.job.nodes x4.job.need x4.job.lic (w64 ((w64 (x4.t + x4.job.wall)) - s1.now)) x4.job.level) s1.now x4.nodes).bind fun y6 => bif (!y6.2) then (some ((Room.mk (Topo.mk [] []) [] [] []), false)) else (k4 y6.1))
def spec_RoomOf_k46 (v4 : Room) : Option (Room × Bool) :=
 some (v4, true)
def spec_RoomOf (s1 : State) : Option (Room × Bool) :=
 (spec_l06Empty s1).bind fun y2 => bif ((!y2.2) || (!(spec_l01Time s1.now))) then (some ((Room.mk (Topo.mk [] []) [] [] []), false)) else (rgl (spec_RoomOf_b46 s1) spec_RoomOf_k46 s1.runs 0 y2.1)
theorem spec_RoomOf_ok {s1 : State} {r : Room × Bool} (H : spec_RoomOf s1 = some r) : Snd Tryz.prog F.spec_RoomOf [eStateT .rd s1] (.tup [eRoomT .nw r.1, .bool r.2]) [] := by
 refine snd_g ck_spec_RoomOf rfl (by simp) ?_
 unfold spec_RoomOf at H
 obtain ⟨y2, h2, H⟩ := bB H
 refine Wh_go 99 [.c 14 (spec_l06Empty_ok h2), .g 22 [((!y2.2), false)] (.call _ _ _ _ _ (AEs.refl _) (fun _ => spec_l01Time_ok s1.now))] (by kernel_rfl) fun _ => ?_
 refine Wh_iH H (fun H => ?_) fun H => ?_
 ·refine Wh_o fun _ => ?_
  replace H := sI H; subst H
  exact Wh_end [(2, .d), (3, .d)] [(2, [.n 1, .n 4, .n 1, .n 1, .n 4])] [] [] [] [⟨_, nw_I ([] : List Int)⟩, ⟨_, nw_Node ([] : List Node)⟩, ⟨_, nw_Bo ([] : List Bool)⟩, ⟨_, nw_ProfT ([] : List (List Pt))⟩, ⟨_, nw_Pt ([] : List Pt)⟩] (by kernel_rfl)
 ·refine Wh_go 99 [.u 28 (.ln _ _ fun _ => lm s1.runs (eRunT .rd))] (by kernel_rfl) fun q3 => ?_
  refine Wh_rgl (fun (i4 : Nat) (v4 : Room) => ⟨[(1, .ptr 1 0), (2, .ptr 2 0), (4, .ptr 4 0), (27, .sl .rd 13 (s1.runs.map (eRunT .rd))), (28, .int .i64 (s1.runs.length : Int)), (29, .int .i64 (i4 : Int))], [], [(1, (eStateT .rd s1).cells), (2, [.nl, .nl, .nl, .nl, .nl]), (4, (eRoomT .nw v4).cells)], []⟩) [] [] [] [] (by kernel_rfl) (by kernel_rfl) H (fun i4 x4 v4 I m k4 hxv4 hiv4 H N46 => ?_) (fun v4 I m H => ?_)
  ·unfold spec_RoomOf_b46 at H
   refine Wh_o fun _ => ?_
   refine Wh_ifT (ltT hiv4) (by kernel_rfl) ?_
   obtain ⟨b5, h5, H⟩ := bB H
   refine Wh_go 99 [.u 31 (.ix _ _ _ fun _ => idx_map (eRunT .rd) (idx_nat hxv4)), .u 44 (.call _ _ _ _ _ (AEs.of (xs := [.agg [.sl .rd 1 (v4.topo.parents.map eI), .sl .rd 4 (v4.topo.nodes.map eNode), .sl .rd 1 (v4.up.map eBo), .sl .rd 1 (v4.profs.map (eProfT .nw)), .sl .rd 4 (v4.lics.map ePt)], .agg [.int .i64 x4.job.id, .int .i64 x4.job.prio, .int .i64 x4.job.nodes, .int .i64 x4.job.need.a, .int .i64 x4.job.need.b, .int .i64 x4.job.need.c, .int .i64 x4.job.lic.a, .int .i64 x4.job.lic.b, .int .i64 x4.job.lic.c, .int .i64 x4.job.wall, .int .i64 x4.job.level], .sl .rd 1 (x4.nodes.map eI)]) (by simp)) (fun _ => spec_l04Diff_ok h5)), .g 49 [((!b5), false)] (.call _ _ _ _ _ (AEs.refl _) (fun _ => spec_l01Time_ok x4.t))] (by kernel_rfl) fun _ => ?_
   refine Wh_iH H (fun H => ?_) fun H => ?_
   ·refine Wh_o fun _ => ?_
    replace H := sI H; subst H
    exact Wh_end [(2, .d), (3, .d)] [(2, [.n 1, .n 4, .n 1, .n 1, .n 4])] [] [] [] [⟨_, nw_I ([] : List Int)⟩, ⟨_, nw_Node ([] : List Node)⟩, ⟨_, nw_Bo ([] : List Bool)⟩, ⟨_, nw_ProfT ([] : List (List Pt))⟩, ⟨_, nw_Pt ([] : List Pt)⟩] (by kernel_rfl)
   ·obtain ⟨y6, h6, H⟩ := bB H
    refine Wh_go 99 [.u 84 (.call _ _ _ _ _ (AEs.of (xs := [.agg [.sl .rd 1 (v4.topo.parents.map eI), .sl .rd 4 (v4.topo.nodes.map eNode), .sl .rd 1 (v4.up.map eBo), .sl .rd 1 (v4.profs.map (eProfT .nw)), .sl .rd 4 (v4.lics.map ePt)], .agg [.int .i64 x4.job.id, .int .i64 x4.job.prio, .int .i64 x4.job.nodes, .int .i64 x4.job.need.a, .int .i64 x4.job.need.b, .int .i64 x4.job.need.c, .int .i64 x4.job.lic.a, .int .i64 x4.job.lic.b, .int .i64 x4.job.lic.c, .int .i64 (w64 ((w64 (x4.t + x4.job.wall)) - s1.now)), .int .i64 x4.job.level], .int .i64 s1.now, .sl .rd 1 (x4.nodes.map eI)]) (by simp)) (fun _ => spec_Reserve_ok h6))] (by kernel_rfl) fun _ => ?_
    refine Wh_iH H (fun H => ?_) fun H => ?_
    ·refine Wh_o fun _ => ?_
     replace H := sI H; subst H
     exact Wh_end [(2, .d), (3, .d)] [(2, [.n 1, .n 4, .n 1, .n 1, .n 4])] [] [] [] [⟨_, nw_I ([] : List Int)⟩, ⟨_, nw_Node ([] : List Node)⟩, ⟨_, nw_Bo ([] : List Bool)⟩, ⟨_, nw_ProfT ([] : List (List Pt))⟩, ⟨_, nw_Pt ([] : List Pt)⟩] (by kernel_rfl)
    ·refine Wh_go 99 [.w 91 (wi .i64 rfl hiv4 q3.1)] (by kernel_rfl) fun _ => ?_
     exact Wh_to (N46 _ H) [] [] [] [] (by kernel_rfl) (by kernel_rfl)
  ·unfold spec_RoomOf_k46 at H
   refine Wh_o fun _ => ?_
   refine Wh_ifF (ltF s1.runs.length) (by kernel_rfl) ?_
   refine Wh_o fun _ => ?_
   replace H := sI H; subst H
   exact Wh_end [(2, .d), (3, .d)] [(2, [])] [] [] [] [⟨_, nw_I v4.topo.parents⟩, ⟨_, nw_Node v4.topo.nodes⟩, ⟨_, nw_Bo v4.up⟩, ⟨_, nw_ProfT v4.profs⟩, ⟨_, nw_Pt v4.lics⟩] (by kernel_rfl)
def ir_spec_l06Jobs : L :=
.seq (.reg [.bx 1 (.t 0),.mv 2 (.c (.nl))])
 (.seq (.reg [.bs 6 11 [] true,.fa 7 (.t 1) 8,.ld 8 (.t 7) 1 false,.ap 9 (.t 6) (.t 8) 11 88,.mv 3 (.t 9)])
 (.seq (.seq (.reg [.fa 10 (.t 1) 9,.ld 11 (.t 10) 1 false,.ln 12 (.t 11),.mv 13 (.c (.int .i64 0))])
 (.blk 0 (.loop (.gw (.seq (.reg [.bi 14 .lss (.t 13) (.t 12)])
 (.seq (.cond (.t 14) (.skip)
 (.exit 0))
 (.seq (.blk 1 (.seq (.reg [.ia 15 (.t 11) (.t 13) 13,.ld 16 (.t 15) 13 true,.al 5 [.int .i64 0, .int .i64 0, .int .i64 0, .int .i64 0, .int .i64 0, .int .i64 0, .int .i64 0, .int .i64 0, .int .i64 0, .int .i64 0, .int .i64 0, .int .i64 0, .nl],.st (.t 5) (.t 16) 13])
 (.reg [.mv 17 (.t 3),.fa 18 (.t 5) 0,.ld 19 (.t 18) 11 true,.bs 20 11 [(.t 19)] false,.ap 21 (.t 17) (.t 20) 11 88,.mv 3 (.t 21)])))
 (.reg [.bi 22 .add (.t 13) (.c (.int .i64 1)),.mv 13 (.t 22)]))))))))
 (.seq (.reg [.mv 23 (.t 3),.mv 2 (.t 23)])
 (.gw (.ret)))))
def rs_spec_l06Jobs : List Rv := [.t 2]
theorem ck_spec_l06Jobs : chkFn Tryz.prog F.spec_l06Jobs 1 ir_spec_l06Jobs rs_spec_l06Jobs = true := by kernel_rfl
def spec_l06Jobs_b15 (x4 : Run) (_ : Nat) (v4 : (List Job)) (k4 : (List Job) → Option (List Job)) : Option (List Job) :=
 (appL 88 v4 [x4.job]).bind fun xs5 => k4 xs5
def spec_l06Jobs_k15 (v4 : (List Job)) : Option (List Job) :=
 some v4
def spec_l06Jobs (s1 : State) : Option (List Job) :=
 (appL 88 ([] : List Job) s1.queue).bind fun xs2 => rgl spec_l06Jobs_b15 spec_l06Jobs_k15 s1.runs 0 xs2
theorem spec_l06Jobs_ok {s1 : State} {r : (List Job)} (H : spec_l06Jobs s1 = some r) : Snd Tryz.prog F.spec_l06Jobs [eStateT .rd s1] (.sl .nw 11 (r.map eJob)) [] := by
 refine snd_g ck_spec_l06Jobs rfl (by simp) ?_
 unfold spec_l06Jobs at H
 obtain ⟨xs2, h2, H⟩ := bB H
 refine Wh_go 99 [.u 9 (.ap _ _ _ _ fun _ => appL_map eJob h2), .u 12 (.ln _ _ fun _ => lm s1.runs (eRunT .rd))] (by kernel_rfl) fun q3 => ?_
 refine Wh_rgl (fun (i4 : Nat) (v4 : (List Job)) => ⟨[(3, .sref 6), (11, .sl .rd 13 (s1.runs.map (eRunT .rd))), (12, .int .i64 (s1.runs.length : Int)), (13, .int .i64 (i4 : Int))], [], [], [(6, ⟨11, v4.map eJob, false⟩)]⟩) [] [] [] [] (by kernel_rfl) (by kernel_rfl) H (fun i4 x4 v4 I m k4 hxv4 hiv4 H N15 => ?_) (fun v4 I m H => ?_)
 ·unfold spec_l06Jobs_b15 at H
  refine Wh_o fun _ => ?_
  refine Wh_ifT (ltT hiv4) (by kernel_rfl) ?_
  obtain ⟨xs5, h5, H⟩ := bB H
  refine Wh_go 99 [.u 15 (.ix _ _ _ fun _ => idx_map (eRunT .rd) (idx_nat hxv4)), .u 21 (.ap _ _ _ _ fun _ => appL_map eJob h5), .w 22 (wi .i64 rfl hiv4 q3.1)] (by kernel_rfl) fun _ => ?_
  exact Wh_to (N15 _ H) [] [] [] [] (by kernel_rfl) (by kernel_rfl)
 ·unfold spec_l06Jobs_k15 at H
  refine Wh_o fun _ => ?_
  refine Wh_ifF (ltF s1.runs.length) (by kernel_rfl) ?_
  refine Wh_o fun _ => ?_
  replace H := sI H; subst H
  exact Wh_end [(2, .f)] [] [] [6] [] [⟨_, nw_Job v4⟩] (by kernel_rfl)
def ir_spec_StateOk : L :=
.seq (.reg [.bx 1 (.t 0),.mv 2 (.c (.bool false))])
 (.seq (.reg [.ld 12 (.t 1) 11 true,.cq 13 F.spec_RoomOf [(.t 12)],.mv 11 (.t 13),.ex 14 (.t 11) 0,.ex 15 (.t 11) 1,.al 3 [.nl, .nl, .nl, .nl, .nl],.st (.t 3) (.t 14) 5,.mv 4 (.t 15)])
 (.seq (.seq (.reg [.mv 16 (.t 4),.un 17 (.t 16),.mv 18 (.t 17),.g 18 false (.fa 19 (.t 1) 6),.g 18 false (.ld 20 (.t 19) 1 false),.g 18 false (.bi 21 .lss (.t 20) (.c (.int .i64 0))),.pk 22 (.t 18) (.c (.bool true)) (.t 21),.mv 23 (.t 22),.g 23 false (.fa 24 (.t 1) 6),.g 23 false (.ld 25 (.t 24) 1 false),.g 23 false (.bi 26 .gtr (.t 25) (.c (.int .i64 60))),.pk 27 (.t 23) (.c (.bool true)) (.t 26),.mv 28 (.t 27),.g 28 false (.ld 29 (.t 1) 11 true),.g 28 false (.cq 30 F.spec_l06Jobs [(.t 29)]),.g 28 false (.cq 31 F.spec_QueueOk [(.t 30)]),.g 28 false (.un 32 (.t 31)),.pk 33 (.t 28) (.c (.bool true)) (.t 32),.mv 34 (.t 33),.g 34 false (.fa 35 (.t 1) 10),.g 34 false (.ld 36 (.t 35) 1 false),.g 34 false (.ln 37 (.t 36)),.g 34 false (.bi 38 .gtr (.t 37) (.c (.int .i64 300))),.pk 39 (.t 34) (.c (.bool true)) (.t 38)])
 (.cond (.t 39) (.seq (.reg [.mv 2 (.c (.bool false))])
 (.gw (.ret)))
 (.skip)))
 (.seq (.seq (.reg [.fa 40 (.t 1) 9,.ld 41 (.t 40) 1 false,.ln 42 (.t 41),.mv 43 (.c (.int .i64 0))])
 (.blk 0 (.loop (.gw (.seq (.reg [.bi 44 .lss (.t 43) (.t 42)])
 (.seq (.cond (.t 44) (.skip)
 (.exit 0))
 (.seq (.blk 1 (.seq (.reg [.ia 45 (.t 41) (.t 43) 13,.ld 46 (.t 45) 13 true,.al 6 [.int .i64 0, .int .i64 0, .int .i64 0, .int .i64 0, .int .i64 0, .int .i64 0, .int .i64 0, .int .i64 0, .int .i64 0, .int .i64 0, .int .i64 0, .int .i64 0, .nl],.st (.t 6) (.t 46) 13])
 (.seq (.seq (.reg [.fa 47 (.t 6) 12,.ld 48 (.t 47) 1 false,.ln 49 (.t 48),.mv 50 (.c (.int .i64 0))])
 (.blk 2 (.loop (.gw (.seq (.reg [.bi 51 .lss (.t 50) (.t 49)])
 (.seq (.cond (.t 51) (.skip)
 (.exit 2))
 (.seq (.blk 3 (.seq (.reg [.mv 52 (.t 50),.ia 53 (.t 48) (.t 50) 1,.ld 54 (.t 53) 1 false,.mv 7 (.t 52),.mv 8 (.t 54)])
 (.seq (.reg [.fa 55 (.t 1) 2,.ld 56 (.t 55) 1 false,.mv 57 (.t 8),.ia 58 (.t 56) (.t 57) 1,.ld 59 (.t 58) 1 false,.un 60 (.t 59),.mv 61 (.t 60),.g 61 false (.mv 62 (.t 7)),.g 61 false (.bi 63 .gtr (.t 62) (.c (.int .i64 0))),.g 61 false (.mv 64 (.t 63)),.g 64 true (.fa 65 (.t 6) 12),.g 64 true (.ld 66 (.t 65) 1 false),.g 64 true (.mv 67 (.t 7)),.g 64 true (.bi 68 .sub (.t 67) (.c (.int .i64 1))),.g 64 true (.ia 69 (.t 66) (.t 68) 1),.g 64 true (.ld 70 (.t 69) 1 false),.g 64 true (.mv 71 (.t 8)),.g 64 true (.bi 72 .geq (.t 70) (.t 71)),.g 61 false (.pk 73 (.t 64) (.t 72) (.c (.bool false))),.pk 74 (.t 61) (.c (.bool true)) (.t 73)])
 (.cond (.t 74) (.seq (.reg [.mv 2 (.c (.bool false))])
 (.gw (.ret)))
 (.skip)))))
 (.reg [.bi 75 .add (.t 50) (.c (.int .i64 1)),.mv 50 (.t 75)]))))))))
 (.seq (.rq 12 [.fa 76 (.t 1) 0,.ld 77 (.t 76) 2 true,.fa 78 (.t 1) 0,.ld 79 (.t 78) 2 true,.fa 80 (.t 6) 12,.ld 81 (.t 80) 1 false,.cq 82 F.spec_Lowest [(.t 79), (.t 81)],.cq 83 F.spec_l02Level [(.t 77), (.t 82)],.fa 84 (.t 6) 0,.fa 85 (.t 84) 10,.ld 86 (.t 85) 1 false,.bi 87 .gtr (.t 83) (.t 86)])
 (.cond (.t 87) (.seq (.reg [.mv 2 (.c (.bool false))])
 (.gw (.ret)))
 (.skip))))))
 (.reg [.bi 88 .add (.t 43) (.c (.int .i64 1)),.mv 43 (.t 88)]))))))))
 (.seq (.seq (.reg [.fa 89 (.t 1) 10,.ld 90 (.t 89) 1 false,.ln 91 (.t 90),.mv 92 (.c (.int .i64 0))])
 (.blk 4 (.loop (.gw (.seq (.reg [.bi 93 .lss (.t 92) (.t 91)])
 (.seq (.cond (.t 93) (.skip)
 (.exit 4))
 (.seq (.blk 5 (.seq (.reg [.ia 94 (.t 90) (.t 92) 3,.ld 95 (.t 94) 3 true,.al 10 [.int .i64 0, .int .i64 0, .int .i64 0],.st (.t 10) (.t 95) 3])
 (.seq (.reg [.fa 96 (.t 10) 0,.ld 97 (.t 96) 1 false,.bi 98 .lss (.t 97) (.c (.int .i64 1)),.mv 99 (.t 98),.g 99 false (.fa 100 (.t 10) 0),.g 99 false (.ld 101 (.t 100) 1 false),.g 99 false (.bi 102 .gtr (.t 101) (.c (.int .i64 999))),.pk 103 (.t 99) (.c (.bool true)) (.t 102),.mv 104 (.t 103),.g 104 false (.fa 105 (.t 10) 1),.g 104 false (.ld 106 (.t 105) 1 false),.g 104 false (.bi 107 .lss (.t 106) (.c (.int .i64 0))),.pk 108 (.t 104) (.c (.bool true)) (.t 107),.mv 109 (.t 108),.g 109 false (.fa 110 (.t 10) 1),.g 109 false (.ld 111 (.t 110) 1 false),.g 109 false (.fa 112 (.t 1) 7),.g 109 false (.ld 113 (.t 112) 1 false),.g 109 false (.bi 114 .gtr (.t 111) (.t 113)),.pk 115 (.t 109) (.c (.bool true)) (.t 114),.mv 116 (.t 115),.g 116 false (.fa 117 (.t 10) 2),.g 116 false (.ld 118 (.t 117) 1 false),.g 116 false (.bi 119 .lss (.t 118) (.c (.int .i64 1))),.pk 120 (.t 116) (.c (.bool true)) (.t 119),.mv 121 (.t 120),.g 121 false (.fa 122 (.t 10) 2),.g 121 false (.ld 123 (.t 122) 1 false),.g 121 false (.bi 124 .gtr (.t 123) (.c (.int .i64 4))),.pk 125 (.t 121) (.c (.bool true)) (.t 124)])
 (.cond (.t 125) (.seq (.reg [.mv 2 (.c (.bool false))])
 (.gw (.ret)))
 (.skip)))))
 (.reg [.bi 126 .add (.t 92) (.c (.int .i64 1)),.mv 92 (.t 126)]))))))))
 (.seq (.reg [.mv 2 (.c (.bool true))])
 (.gw (.ret)))))))
def rs_spec_StateOk : List Rv := [.t 2]
theorem ck_spec_StateOk : chkFn Tryz.prog F.spec_StateOk 1 ir_spec_StateOk rs_spec_StateOk = true := by kernel_rfl
def spec_StateOk_b34 (s1 : State) (x6 : Run) (x8 : Int) (i8 : Nat) (_ : Unit) (k8 : Unit → Option Bool) : Option Bool :=
 (idx s1.up x8).bind fun e9 => (bif (!e9) then some default else (bif (decide (0 < (i8 : Int))) then (idx x6.nodes (w64 ((i8 : Int) - 1))) else some default)).bind fun e10 => bif ((!e9) || ((decide (0 < (i8 : Int))) && (decide (x8 ≤ e10)))) then (some false) else (k8 ())
def spec_StateOk_k34 (s1 : State) (x6 : Run) (k6 : Unit → Option Bool) (_ : Unit) : Option Bool :=
 (spec_Lowest s1.topo x6.nodes).bind fun n11 => (spec_l02Level s1.topo n11).bind fun n12 => bif (decide (x6.job.level < n12)) then (some false) else (k6 ())
def spec_StateOk_b73 (s1 : State) (x14 : End) (_ : Nat) (_ : Unit) (k14 : Unit → Option Bool) : Option Bool :=
 bif ((((((decide (x14.id < 1)) || (decide (999 < x14.id))) || (decide (x14.t < 0))) || (decide (s1.now < x14.t))) || (decide (x14.why < 1))) || (decide (4 < x14.why))) then (some false) else (k14 ())
def spec_StateOk_k73 (_ : Unit) : Option Bool :=
 some true
def spec_StateOk_b51 (s1 : State) (x6 : Run) (_ : Nat) (_ : Unit) (k6 : Unit → Option Bool) : Option Bool :=
 rgl (spec_StateOk_b34 s1 x6) (spec_StateOk_k34 s1 x6 k6) x6.nodes 0 ()
def spec_StateOk_k51 (s1 : State) (_ : Unit) : Option Bool :=
 rgl (spec_StateOk_b73 s1) spec_StateOk_k73 s1.ends 0 ()
def spec_StateOk (s1 : State) : Option Bool :=
 (spec_RoomOf s1).bind fun y2 => (bif (((!y2.2) || (decide (s1.depth < 0))) || (decide (60 < s1.depth))) then some default else (spec_l06Jobs s1)).bind fun y3 => (bif (((!y2.2) || (decide (s1.depth < 0))) || (decide (60 < s1.depth))) then some default else (spec_QueueOk y3)).bind fun b4 => bif (((((!y2.2) || (decide (s1.depth < 0))) || (decide (60 < s1.depth))) || (!b4)) || (decide (300 < (s1.ends.length : Int)))) then (some false) else (rgl (spec_StateOk_b51 s1) (spec_StateOk_k51 s1) s1.runs 0 ())
theorem spec_StateOk_ok {s1 : State} {r : Bool} (H : spec_StateOk s1 = some r) : Snd Tryz.prog F.spec_StateOk [eStateT .rd s1] (.bool r) [] := by
 refine snd_g ck_spec_StateOk rfl (by simp) ?_
 unfold spec_StateOk at H
 obtain ⟨y2, h2, H⟩ := bB H
 obtain ⟨y3, h3, H⟩ := bB H
 obtain ⟨b4, h4, H⟩ := bB H
 refine Wh_go 99 [.c 13 (spec_RoomOf_ok h2), .g 30 [(_, false)] (.call _ _ _ _ _ (AEs.refl _) (fun q => spec_l06Jobs_ok (bF q.1 h3))), .g 31 [(_, false)] (.call _ _ _ _ _ (AEs.refl _) (fun q => spec_QueueOk_ok (bF q.1 h4))), .g 37 [(((((!y2.2) || (decide (s1.depth < 0))) || (decide (60 < s1.depth))) || (!b4)), false)] (.ln _ _ fun _ => lm s1.ends eEnd)] (by kernel_rfl) fun _ => ?_
 refine Wh_iH H (fun H => ?_) fun H => ?_
 ·refine Wh_o fun _ => ?_
  replace H := sI H; subst H
  exact Wh_end [(2, .d)] [] [] [] [] [] (by kernel_rfl)
 ·refine Wh_go 99 [.u 42 (.ln _ _ fun _ => lm s1.runs (eRunT .rd))] (by kernel_rfl) fun q5 => ?_
  refine Wh_rgl (fun (i6 : Nat) (v6 : Unit) => ⟨[(1, .ptr 1 0), (41, .sl .rd 13 (s1.runs.map (eRunT .rd))), (42, .int .i64 (s1.runs.length : Int)), (43, .int .i64 (i6 : Int))], [], [(1, (eStateT .rd s1).cells)], []⟩) [] [] [] [] (by kernel_rfl) (by kernel_rfl) H (fun i6 x6 v6 I m k6 hxv6 hiv6 H N51 => ?_) (fun v6 I m H => ?_)
  ·unfold spec_StateOk_b51 at H
   refine Wh_o fun _ => ?_
   refine Wh_ifT (ltT hiv6) (by kernel_rfl) ?_
   refine Wh_go 99 [.u 45 (.ix _ _ _ fun _ => idx_map (eRunT .rd) (idx_nat hxv6)), .u 49 (.ln _ _ fun _ => lm x6.nodes eI)] (by kernel_rfl) fun q7 => ?_
   refine Wh_rgl (fun (i8 : Nat) (v8 : Unit) => ⟨[(1, .ptr 1 0), (6, .ptr 6 0), (41, .sl .rd 13 (s1.runs.map (eRunT .rd))), (42, .int .i64 (s1.runs.length : Int)), (43, .int .i64 (i6 : Int)), (48, .sl .rd 1 (x6.nodes.map eI)), (49, .int .i64 (x6.nodes.length : Int)), (50, .int .i64 (i8 : Int))], [], [(1, (eStateT .rd s1).cells), (6, (eRunT .rd x6).cells)], []⟩) [] [] [] [] (by kernel_rfl) (by kernel_rfl) H (fun i8 x8 v8 I m k8 hxv8 hiv8 H N34 => ?_) (fun v8 I m H => ?_)
   ·unfold spec_StateOk_b34 at H
    refine Wh_o fun _ => ?_
    refine Wh_ifT (ltT hiv8) (by kernel_rfl) ?_
    obtain ⟨e9, h9, H⟩ := bB H
    obtain ⟨e10, h10, H⟩ := bB H
    refine Wh_go 99 [.u 53 (.ix _ _ _ fun _ => idx_map eI (idx_nat hxv8)), .u 58 (.ix _ _ _ fun _ => idx_map eBo h9), .g 69 [(_, true), (_, false)] (.ix _ _ _ fun q => idx_map eI (bT q.1 (bF q.2.1 h10)))] (by kernel_rfl) fun _ => ?_
    refine Wh_iH H (fun H => ?_) fun H => ?_
    ·refine Wh_o fun _ => ?_
     replace H := sI H; subst H
     exact Wh_end [(2, .d)] [] [] [] [] [] (by kernel_rfl)
    ·refine Wh_go 99 [.w 75 (wi .i64 rfl hiv8 q7.1)] (by kernel_rfl) fun _ => ?_
     exact Wh_to (N34 () H) [] [] [] [] (by kernel_rfl) (by kernel_rfl)
   ·unfold spec_StateOk_k34 at H
    refine Wh_o fun _ => ?_
    refine Wh_ifF (ltF x6.nodes.length) (by kernel_rfl) ?_
    obtain ⟨n11, h11, H⟩ := bB H
    obtain ⟨n12, h12, H⟩ := bB H
    refine Wh_go 99 [.c 82 (spec_Lowest_ok h11), .c 83 (spec_l02Level_ok h12)] (by kernel_rfl) fun _ => ?_
    refine Wh_iH H (fun H => ?_) fun H => ?_
    ·refine Wh_o fun _ => ?_
     replace H := sI H; subst H
     exact Wh_end [(2, .d)] [] [] [] [] [] (by kernel_rfl)
    ·refine Wh_go 99 [.w 88 (wi .i64 rfl hiv6 q5.1)] (by kernel_rfl) fun _ => ?_
     exact Wh_to (N51 () H) [] [] [] [] (by kernel_rfl) (by kernel_rfl)
  ·unfold spec_StateOk_k51 at H
   refine Wh_o fun _ => ?_
   refine Wh_ifF (ltF s1.runs.length) (by kernel_rfl) ?_
   refine Wh_go 99 [.u 91 (.ln _ _ fun _ => lm s1.ends eEnd)] (by kernel_rfl) fun q13 => ?_
   refine Wh_rgl (fun (i14 : Nat) (v14 : Unit) => ⟨[(1, .ptr 1 0), (90, .sl .rd 3 (s1.ends.map eEnd)), (91, .int .i64 (s1.ends.length : Int)), (92, .int .i64 (i14 : Int))], [], [(1, (eStateT .rd s1).cells)], []⟩) [] [] [] [] (by kernel_rfl) (by kernel_rfl) H (fun i14 x14 v14 I m k14 hxv14 hiv14 H N73 => ?_) (fun v14 I m H => ?_)
   ·unfold spec_StateOk_b73 at H
    refine Wh_o fun _ => ?_
    refine Wh_ifT (ltT hiv14) (by kernel_rfl) ?_
    refine Wh_go 99 [.u 94 (.ix _ _ _ fun _ => idx_map eEnd (idx_nat hxv14))] (by kernel_rfl) fun _ => ?_
    refine Wh_iH H (fun H => ?_) fun H => ?_
    ·refine Wh_o fun _ => ?_
     replace H := sI H; subst H
     exact Wh_end [(2, .d)] [] [] [] [] [] (by kernel_rfl)
    ·refine Wh_go 99 [.w 126 (wi .i64 rfl hiv14 q13.1)] (by kernel_rfl) fun _ => ?_
     exact Wh_to (N73 () H) [] [] [] [] (by kernel_rfl) (by kernel_rfl)
   ·unfold spec_StateOk_k73 at H
    refine Wh_o fun _ => ?_
    refine Wh_ifF (ltF s1.ends.length) (by kernel_rfl) ?_
    refine Wh_o fun _ => ?_
    replace H := sI H; subst H
    exact Wh_end [(2, .d)] [] [] [] [] [] (by kernel_rfl)
def ir_impl_empty : L :=
.seq (.reg [.bx 3 (.t 0),.bx 5 (.t 2),.al 6 [.nl, .nl, .nl, .nl, .nl]])
 (.seq (.reg [.ld 12 (.t 3) 2 true,.cq 13 F.impl_copyTopo [(.t 12)],.mv 14 (.t 1),.ap 15 (.c (.nl)) (.t 14) 1 1,.bd 16 [.nl, .nl, .nl, .nl, .nl] [(0, 2, (.t 13)), (2, 1, (.t 15))],.al 7 [.nl, .nl, .nl, .nl, .nl],.st (.t 7) (.t 16) 5])
 (.seq (.seq (.reg [.fa 17 (.t 3) 1,.ld 18 (.t 17) 1 false,.ln 19 (.t 18),.mv 20 (.c (.int .i64 0))])
 (.blk 0 (.loop (.gw (.seq (.reg [.bi 21 .lss (.t 20) (.t 19)])
 (.seq (.cond (.t 21) (.skip)
 (.exit 0))
 (.seq (.blk 1 (.seq (.reg [.ia 22 (.t 18) (.t 20) 4,.ld 23 (.t 22) 4 true,.al 9 [.int .i64 0, .int .i64 0, .int .i64 0, .int .i64 0],.st (.t 9) (.t 23) 4])
 (.seq (.reg [.fa 25 (.t 9) 1,.ld 26 (.t 25) 3 true,.cq 27 F.impl_ProfNew [(.t 26)],.mv 24 (.t 27),.ex 28 (.t 24) 0,.ex 29 (.t 24) 1,.al 10 [.nl],.st (.t 10) (.t 28) 1,.mv 11 (.t 29)])
 (.reg [.fa 30 (.t 7) 3,.ld 31 (.t 30) 1 false,.ld 32 (.t 10) 1 true,.bs 33 1 [(.t 32)] false,.ap 34 (.t 31) (.t 33) 1 24,.fa 35 (.t 7) 3,.st (.t 35) (.t 34) 1]))))
 (.reg [.bi 36 .add (.t 20) (.c (.int .i64 1)),.mv 20 (.t 36)]))))))))
 (.seq (.reg [.ld 38 (.t 5) 3 true,.cq 39 F.impl_ProfNew [(.t 38)],.mv 37 (.t 39),.ex 40 (.t 37) 0,.ex 41 (.t 37) 1,.fa 42 (.t 7) 4,.st (.t 42) (.t 40) 1])
 (.seq (.reg [.ld 43 (.t 7) 5 true,.st (.t 6) (.t 43) 5])
 (.gw (.ret))))))
def rs_impl_empty : List Rv := [.c 6 5 true]
theorem ck_impl_empty : chkFn Tryz.prog F.impl_empty 3 ir_impl_empty rs_impl_empty = true := by kernel_rfl
def impl_empty_b17 (x7 : Node) (_ : Nat) (v7 : (List (List Pt))) (k7 : (List (List Pt)) → Option Room) : Option Room :=
 (appL 24 v7 [(impl_ProfNew x7.cap).1]).bind fun xs8 => k7 xs8
def impl_empty_k17 (lic3 : Vec) (y4 : Topo) (xs5 : List Bool) (v7 : (List (List Pt))) : Option Room :=
 some (Room.mk y4 xs5 v7 ((impl_ProfNew lic3).1))
def impl_empty (t1 : Topo) (up2 : List Bool) (lic3 : Vec) : Option Room :=
 (impl_copyTopo t1).bind fun y4 => (appL 1 ([] : List Bool) up2).bind fun xs5 => rgl impl_empty_b17 (impl_empty_k17 lic3 y4 xs5) t1.nodes 0 []
theorem impl_empty_ok {t1 : Topo} {up2 : List Bool} {lic3 : Vec} {r : Room} (H : impl_empty t1 up2 lic3 = some r) : Snd Tryz.prog F.impl_empty [eTopoT .rd t1, .sl .rd 1 (up2.map eBo), eVec lic3] (eRoomT .nw r) [] := by
 refine snd_g ck_impl_empty rfl (by simp) ?_
 unfold impl_empty at H
 obtain ⟨y4, h4, H⟩ := bB H
 obtain ⟨xs5, h5, H⟩ := bB H
 refine Wh_go 99 [.c 13 (impl_copyTopo_ok h4), .u 15 (.ap _ _ _ _ fun _ => appL_map eBo h5), .u 19 (.ln _ _ fun _ => lm t1.nodes eNode)] (by kernel_rfl) fun q6 => ?_
 refine Wh_rgl (fun (i7 : Nat) (v7 : (List (List Pt))) => ⟨[(5, .ptr 5 0), (6, .ptr 6 0), (7, .ptr 7 0), (18, .sl .rd 4 (t1.nodes.map eNode)), (19, .int .i64 (t1.nodes.length : Int)), (20, .int .i64 (i7 : Int))], [], [(5, (eVec lic3).cells), (6, [.nl, .nl, .nl, .nl, .nl]), (7, [.sl .nw 1 (y4.parents.map eI), .sl .nw 4 (y4.nodes.map eNode), .sref 15, .sref 580001, .nl])], [(15, ⟨1, xs5.map eBo, false⟩), (580001, ⟨1, v7.map (eProfT .nw), false⟩)]⟩) [] [(7, [.d, .d, .d, .z 580001, .d])] [(580001, (none, 1))] [] (by kernel_rfl) (by kernel_rfl) H (fun i7 x7 v7 I m k7 hxv7 hiv7 H N17 => ?_) (fun v7 I m H => ?_)
 ·unfold impl_empty_b17 at H
  refine Wh_o fun _ => ?_
  refine Wh_ifT (ltT hiv7) (by kernel_rfl) ?_
  obtain ⟨xs8, h8, H⟩ := bB H
  refine Wh_go 99 [.u 22 (.ix _ _ _ fun _ => idx_map eNode (idx_nat hxv7)), .c 27 (impl_ProfNew_ok x7.cap), .u 34 (.ap _ _ _ _ fun _ => appL_map (eProfT .nw) h8), .w 36 (wi .i64 rfl hiv7 q6.1)] (by kernel_rfl) fun _ => ?_
  exact Wh_to (N17 _ H) [] [] [] [] (by kernel_rfl) (by kernel_rfl)
 ·unfold impl_empty_k17 at H
  refine Wh_o fun _ => ?_
  refine Wh_ifF (ltF t1.nodes.length) (by kernel_rfl) ?_
  refine Wh_go 99 [.c 39 (impl_ProfNew_ok lic3)] (by kernel_rfl) fun _ => ?_
  replace H := sI H; subst H
  exact Wh_end [(6, .d)] [(6, [.d, .d, .f, .f, .d])] [] [15, 580001] [] [⟨_, nw_I y4.parents⟩, ⟨_, nw_Node y4.nodes⟩, ⟨_, nw_Bo xs5⟩, ⟨_, nw_ProfT v7⟩, ⟨_, nw_Pt ((impl_ProfNew lic3).1)⟩] (by kernel_rfl)
def ir_impl_moved_impl_ProfTake : L :=
.seq (.reg [.bx 6 (.t 0),.bx 7 (.t 1),.al 12 [.nl, .nl, .nl, .nl, .nl],.mv 13 (.c (.bool false))])
 (.seq (.seq (.reg [.ld 21 (.t 6) 5 true,.cq 22 F.impl_RoomOk [(.t 21)],.un 23 (.t 22),.mv 24 (.t 23),.g 24 false (.ld 25 (.t 7) 11 true),.g 24 false (.cq 26 F.impl_JobOk [(.t 25)]),.g 24 false (.un 27 (.t 26)),.pk 28 (.t 24) (.c (.bool true)) (.t 27),.mv 29 (.t 28),.g 29 false (.fa 30 (.t 6) 0),.g 29 false (.ld 31 (.t 30) 2 true),.g 29 false (.ld 32 (.t 7) 11 true),.g 29 false (.mv 33 (.t 4)),.g 29 false (.cq 34 F.impl_areJobNodes [(.t 31), (.t 32), (.t 33)]),.g 29 false (.un 35 (.t 34)),.pk 36 (.t 29) (.c (.bool true)) (.t 35)])
 (.cond (.t 36) (.seq (.reg [.bd 37 [.nl, .nl, .nl, .nl, .nl] [],.st (.t 12) (.t 37) 5,.mv 13 (.c (.bool false))])
 (.gw (.ret)))
 (.skip)))
 (.seq (.reg [.ld 38 (.t 6) 5 true,.cl 39 F.impl_copyRoom [(.t 38)],.al 14 [.nl, .nl, .nl, .nl, .nl],.st (.t 14) (.t 39) 5])
 (.seq (.seq (.reg [.mv 40 (.t 4),.ln 41 (.t 40),.mv 42 (.c (.int .i64 0))])
 (.blk 0 (.loop (.gw (.seq (.reg [.bi 43 .lss (.t 42) (.t 41)])
 (.seq (.cond (.t 43) (.skip)
 (.exit 0))
 (.seq (.blk 1 (.seq (.reg [.ia 44 (.t 40) (.t 42) 1,.ld 45 (.t 44) 1 false,.mv 16 (.t 45)])
 (.seq (.rz [(14, 17, [.nl])] [(0, false, .mv 47 (.t 5)),
 (3, false, .mv 50 (.t 16)),
 (6, false, .mv 53 (.t 2)),
 (7, false, .mv 54 (.t 3)),
 (8, false, .fa 55 (.t 7) 3),
 (9, false, .ld 56 (.t 55) 3 true),
 (1, true, .fa 48 (.t 14) 3),
 (2, true, .ld 49 (.t 48) 1 false),
 (4, true, .ia 51 (.t 49) (.t 50) 1),
 (5, true, .ld 52 (.t 51) 1 true),
 (10, false, .cc 57 (.t 47) [(.t 52), (.t 53), (.t 54), (.t 56)]),
 (11, false, .mv 46 (.t 57)),
 (12, false, .ex 58 (.t 46) 0),
 (13, false, .ex 59 (.t 46) 1)]
 [.st (.t 17) (.t 58) 1,.mv 18 (.t 59)])
 (.seq (.seq (.reg [.mv 60 (.t 18),.un 61 (.t 60)])
 (.cond (.t 61) (.seq (.reg [.bd 62 [.nl, .nl, .nl, .nl, .nl] [],.st (.t 12) (.t 62) 5,.mv 13 (.c (.bool false))])
 (.gw (.ret)))
 (.skip)))
 (.reg [.fa 63 (.t 14) 3,.ld 64 (.t 63) 1 false,.mv 65 (.t 16),.ld 66 (.t 17) 1 true,.ia 67 (.t 64) (.t 65) 1,.st (.t 67) (.t 66) 1])))))
 (.reg [.bi 68 .add (.t 42) (.c (.int .i64 1)),.mv 42 (.t 68)]))))))))
 (.seq (.reg [.mv 70 (.t 5),.fa 71 (.t 14) 4,.ld 72 (.t 71) 1 true,.mv 73 (.t 2),.mv 74 (.t 3),.fa 75 (.t 7) 6,.ld 76 (.t 75) 3 true,.cc 77 (.t 70) [(.t 72), (.t 73), (.t 74), (.t 76)],.mv 69 (.t 77),.ex 78 (.t 69) 0,.ex 79 (.t 69) 1,.al 19 [.nl],.st (.t 19) (.t 78) 1,.mv 20 (.t 79)])
 (.seq (.seq (.reg [.mv 80 (.t 20),.un 81 (.t 80)])
 (.cond (.t 81) (.seq (.reg [.bd 82 [.nl, .nl, .nl, .nl, .nl] [],.st (.t 12) (.t 82) 5,.mv 13 (.c (.bool false))])
 (.gw (.ret)))
 (.skip)))
 (.seq (.reg [.ld 83 (.t 19) 1 true,.fa 84 (.t 14) 4,.st (.t 84) (.t 83) 1])
 (.seq (.reg [.ld 85 (.t 14) 5 true,.st (.t 12) (.t 85) 5,.mv 13 (.c (.bool true))])
 (.gw (.ret)))))))))
def rs_impl_moved_impl_ProfTake : List Rv := [.c 12 5 true, .t 13]
theorem ck_impl_moved_impl_ProfTake : chkFn Tryz.prog F.impl_moved 6 ir_impl_moved_impl_ProfTake rs_impl_moved_impl_ProfTake = true := by kernel_rfl
def impl_moved_impl_ProfTake_b32 (j2 : Job) (from3 : Int) (to4 : Int) (x10 : Int) (_ : Nat) (v10 : (List (List Pt))) (k10 : (List (List Pt)) → Option (Room × Bool)) : Option (Room × Bool) :=
 (idx v10 x10).bind fun e11 => (impl_ProfTake e11 from3 to4 j2.need).bind fun y12 => bif (!y12.2) then (some ((Room.mk (Topo.mk [] []) [] [] []), false)) else (k10 (v10.set x10.toNat y12.1))
def impl_moved_impl_ProfTake_k32 (j2 : Job) (from3 : Int) (to4 : Int) (y8 : Room) (v10 : (List (List Pt))) : Option (Room × Bool) :=
 (impl_ProfTake y8.lics from3 to4 j2.lic).bind fun y13 => bif (!y13.2) then (some ((Room.mk (Topo.mk [] []) [] [] []), false)) else (some ((Room.mk y8.topo y8.up v10 y13.1), true))
def impl_moved_impl_ProfTake (r1 : Room) (j2 : Job) (from3 : Int) (to4 : Int) (nodes5 : List Int) : Option (Room × Bool) :=
 (impl_RoomOk r1).bind fun b6 => (bif ((!b6) || (!(impl_JobOk j2))) then some default else (impl_areJobNodes r1.topo j2 nodes5)).bind fun b7 => bif (((!b6) || (!(impl_JobOk j2))) || (!b7)) then (some ((Room.mk (Topo.mk [] []) [] [] []), false)) else ((impl_copyRoom r1).bind fun y8 => rgl (impl_moved_impl_ProfTake_b32 j2 from3 to4) (impl_moved_impl_ProfTake_k32 j2 from3 to4 y8) nodes5 0 y8.profs)
theorem impl_moved_impl_ProfTake_ok {r1 : Room} {j2 : Job} {from3 : Int} {to4 : Int} {nodes5 : List Int} {r : Room × Bool} (H : impl_moved_impl_ProfTake r1 j2 from3 to4 nodes5 = some r) : Snd Tryz.prog F.impl_moved [eRoomT .rd r1, eJob j2, .int .i64 from3, .int .i64 to4, .sl .rd 1 (nodes5.map eI), .fn F.impl_ProfTake []] (.tup [eRoomT .nw r.1, .bool r.2]) [] := by
 refine snd_g ck_impl_moved_impl_ProfTake rfl (by simp) ?_
 unfold impl_moved_impl_ProfTake at H
 obtain ⟨b6, h6, H⟩ := bB H
 obtain ⟨b7, h7, H⟩ := bB H
 refine Wh_go 99 [.c 22 (impl_RoomOk_ok h6), .g 26 [((!b6), false)] (.call _ _ _ _ _ (AEs.refl _) (fun _ => impl_JobOk_ok j2)), .g 34 [(_, false)] (.call _ _ _ _ _ (AEs.refl _) (fun q => impl_areJobNodes_ok (bF q.1 h7)))] (by kernel_rfl) fun _ => ?_
 refine Wh_iH H (fun H => ?_) fun H => ?_
 ·refine Wh_o fun _ => ?_
  replace H := sI H; subst H
  exact Wh_end [(12, .d), (13, .d)] [(12, [.n 1, .n 4, .n 1, .n 1, .n 4])] [] [] [] [⟨_, nw_I ([] : List Int)⟩, ⟨_, nw_Node ([] : List Node)⟩, ⟨_, nw_Bo ([] : List Bool)⟩, ⟨_, nw_ProfT ([] : List (List Pt))⟩, ⟨_, nw_Pt ([] : List Pt)⟩] (by kernel_rfl)
 ·obtain ⟨y8, h8, H⟩ := bB H
  refine Wh_go 99 [.c 39 (impl_copyRoom_ok h8), .u 41 (.ln _ _ fun _ => lm nodes5 eI)] (by kernel_rfl) fun q9 => ?_
  refine Wh_rgl (fun (i10 : Nat) (v10 : (List (List Pt))) => ⟨[(2, .int .i64 from3), (3, .int .i64 to4), (5, .fn F.impl_ProfTake []), (7, .ptr 7 0), (12, .ptr 12 0), (14, .ptr 14 0), (40, .sl .rd 1 (nodes5.map eI)), (41, .int .i64 (nodes5.length : Int)), (42, .int .i64 (i10 : Int))], [], [(7, (eJob j2).cells), (12, [.nl, .nl, .nl, .nl, .nl]), (14, [.sl .nw 1 (y8.topo.parents.map eI), .sl .nw 4 (y8.topo.nodes.map eNode), .sl .nw 1 (y8.up.map eBo), .sref 40000, .sl .nw 4 (y8.lics.map ePt)])], [(40000, ⟨1, v10.map (eProfT .nw), false⟩)]⟩) [] [] [] [] (by kernel_rfl) (by kernel_rfl) H (fun i10 x10 v10 I m k10 hxv10 hiv10 H N32 => ?_) (fun v10 I m H => ?_)
  ·unfold impl_moved_impl_ProfTake_b32 at H
   refine Wh_o fun _ => ?_
   refine Wh_ifT (ltT hiv10) (by kernel_rfl) ?_
   obtain ⟨e11, h11, H⟩ := bB H
   obtain ⟨y12, h12, H⟩ := bB H
   refine Wh_go 99 [.u 44 (.ix _ _ _ fun _ => idx_map eI (idx_nat hxv10)), .u 51 (.ix _ _ _ fun _ => idx_map (eProfT .nw) h11), .u 52 (.el _ _ _ fun _ => gm (eProfT .nw) (idx_get h11)), .u 57 (.clsr _ _ _ _ _ (AEs.refl _) (by kernel_rfl) (fun _ => impl_ProfTake_ok h12))] (by kernel_rfl) fun _ => ?_
   refine Wh_iH H (fun H => ?_) fun H => ?_
   ·refine Wh_o fun _ => ?_
    replace H := sI H; subst H
    exact Wh_end [(12, .d), (13, .d)] [(12, [.n 1, .n 4, .n 1, .n 1, .n 4])] [] [] [] [⟨_, nw_I ([] : List Int)⟩, ⟨_, nw_Node ([] : List Node)⟩, ⟨_, nw_Bo ([] : List Bool)⟩, ⟨_, nw_ProfT ([] : List (List Pt))⟩, ⟨_, nw_Pt ([] : List Pt)⟩] (by kernel_rfl)
   ·refine Wh_go 99 [.u 67 (.ix _ _ _ fun _ => idx_map (eProfT .nw) h11), .u 1000000 (.sto _ _ _ (eProfT .nw y12.1) _ (fun _ => gm (eProfT .nw) (idx_get h11)) (fun _ => set_map ..)), .w 68 (wi .i64 rfl hiv10 q9.1)] (by kernel_rfl) fun _ => ?_
    exact Wh_to (N32 _ H) [] [] [] [] (by kernel_rfl) (by kernel_rfl)
  ·unfold impl_moved_impl_ProfTake_k32 at H
   refine Wh_o fun _ => ?_
   refine Wh_ifF (ltF nodes5.length) (by kernel_rfl) ?_
   obtain ⟨y13, h13, H⟩ := bB H
   refine Wh_go 99 [.u 77 (.clsr _ _ _ _ _ (AEs.refl _) (by kernel_rfl) (fun _ => impl_ProfTake_ok h13))] (by kernel_rfl) fun _ => ?_
   refine Wh_iH H (fun H => ?_) fun H => ?_
   ·refine Wh_o fun _ => ?_
    replace H := sI H; subst H
    exact Wh_end [(12, .d), (13, .d)] [(12, [.n 1, .n 4, .n 1, .n 1, .n 4])] [] [] [] [⟨_, nw_I ([] : List Int)⟩, ⟨_, nw_Node ([] : List Node)⟩, ⟨_, nw_Bo ([] : List Bool)⟩, ⟨_, nw_ProfT ([] : List (List Pt))⟩, ⟨_, nw_Pt ([] : List Pt)⟩] (by kernel_rfl)
   ·refine Wh_o fun _ => ?_
    replace H := sI H; subst H
    exact Wh_end [(12, .d), (13, .d)] [(12, [.d, .d, .d, .f, .d])] [] [40000] [] [⟨_, nw_I y8.topo.parents⟩, ⟨_, nw_Node y8.topo.nodes⟩, ⟨_, nw_Bo y8.up⟩, ⟨_, nw_ProfT v10⟩, ⟨_, nw_Pt y13.1⟩] (by kernel_rfl)
def ir_impl_RoomOf : L :=
.seq (.reg [.bx 1 (.t 0),.al 2 [.nl, .nl, .nl, .nl, .nl],.mv 3 (.c (.bool false))])
 (.seq (.seq (.reg [.fa 9 (.t 1) 0,.ld 10 (.t 9) 2 true,.cq 11 F.impl_TopoOk [(.t 10)],.un 12 (.t 11),.mv 13 (.t 12),.g 13 false (.fa 14 (.t 1) 2),.g 13 false (.ld 15 (.t 14) 1 false),.g 13 false (.ln 16 (.t 15)),.g 13 false (.fa 17 (.t 1) 0),.g 13 false (.fa 18 (.t 17) 1),.g 13 false (.ld 19 (.t 18) 1 false),.g 13 false (.ln 20 (.t 19)),.g 13 false (.bi 21 .neq (.t 16) (.t 20)),.pk 22 (.t 13) (.c (.bool true)) (.t 21),.mv 23 (.t 22),.g 23 false (.fa 24 (.t 1) 3),.g 23 false (.ld 25 (.t 24) 3 true),.g 23 false (.cq 26 F.impl_VecOk [(.t 25)]),.g 23 false (.un 27 (.t 26)),.pk 28 (.t 23) (.c (.bool true)) (.t 27),.mv 29 (.t 28),.g 29 false (.fa 30 (.t 1) 7),.g 29 false (.ld 31 (.t 30) 1 false),.g 29 false (.cq 32 F.impl_isTime [(.t 31)]),.g 29 false (.un 33 (.t 32)),.pk 34 (.t 29) (.c (.bool true)) (.t 33)])
 (.cond (.t 34) (.seq (.reg [.bd 35 [.nl, .nl, .nl, .nl, .nl] [],.st (.t 2) (.t 35) 5,.mv 3 (.c (.bool false))])
 (.gw (.ret)))
 (.skip)))
 (.seq (.reg [.fa 36 (.t 1) 0,.ld 37 (.t 36) 2 true,.fa 38 (.t 1) 2,.ld 39 (.t 38) 1 false,.fa 40 (.t 1) 3,.ld 41 (.t 40) 3 true,.cq 42 F.impl_empty [(.t 37), (.t 39), (.t 41)],.al 4 [.nl, .nl, .nl, .nl, .nl],.st (.t 4) (.t 42) 5])
 (.seq (.seq (.reg [.fa 43 (.t 1) 9,.ld 44 (.t 43) 1 false,.ln 45 (.t 44),.mv 46 (.c (.int .i64 0))])
 (.blk 0 (.loop (.gw (.seq (.reg [.bi 47 .lss (.t 46) (.t 45)])
 (.seq (.cond (.t 47) (.skip)
 (.exit 0))
 (.seq (.blk 1 (.seq (.reg [.ia 48 (.t 44) (.t 46) 13,.ld 49 (.t 48) 13 true,.al 6 [.int .i64 0, .int .i64 0, .int .i64 0, .int .i64 0, .int .i64 0, .int .i64 0, .int .i64 0, .int .i64 0, .int .i64 0, .int .i64 0, .int .i64 0, .int .i64 0, .nl],.st (.t 6) (.t 49) 13])
 (.seq (.seq (.reg [.fa 50 (.t 6) 0,.ld 51 (.t 50) 11 true,.cq 52 F.impl_JobOk [(.t 51)],.un 53 (.t 52),.mv 54 (.t 53),.g 54 false (.fa 55 (.t 6) 11),.g 54 false (.ld 56 (.t 55) 1 false),.g 54 false (.fa 57 (.t 1) 7),.g 54 false (.ld 58 (.t 57) 1 false),.g 54 false (.cq 59 F.impl_within [(.t 56), (.c (.int .i64 0)), (.t 58)]),.g 54 false (.un 60 (.t 59)),.pk 61 (.t 54) (.c (.bool true)) (.t 60),.mv 62 (.t 61),.g 62 false (.fa 63 (.t 6) 11),.g 62 false (.ld 64 (.t 63) 1 false),.g 62 false (.fa 65 (.t 6) 0),.g 62 false (.fa 66 (.t 65) 9),.g 62 false (.ld 67 (.t 66) 1 false),.g 62 false (.bi 68 .add (.t 64) (.t 67)),.g 62 false (.fa 69 (.t 1) 7),.g 62 false (.ld 70 (.t 69) 1 false),.g 62 false (.bi 71 .add (.t 70) (.c (.int .i64 1))),.g 62 false (.cq 72 F.impl_within [(.t 68), (.t 71), (.c (.int .i64 1000000000))]),.g 62 false (.un 73 (.t 72)),.pk 74 (.t 62) (.c (.bool true)) (.t 73)])
 (.cond (.t 74) (.seq (.reg [.bd 75 [.nl, .nl, .nl, .nl, .nl] [],.st (.t 2) (.t 75) 5,.mv 3 (.c (.bool false))])
 (.gw (.ret)))
 (.skip)))
 (.seq (.reg [.ld 77 (.t 4) 5 true,.fa 78 (.t 6) 0,.ld 79 (.t 78) 11 true,.fa 80 (.t 1) 7,.ld 81 (.t 80) 1 false,.fa 82 (.t 6) 11,.ld 83 (.t 82) 1 false,.fa 84 (.t 6) 0,.fa 85 (.t 84) 9,.ld 86 (.t 85) 1 false,.bi 87 .add (.t 83) (.t 86),.fa 88 (.t 6) 12,.ld 89 (.t 88) 1 false,.cq 90 F.impl_moved [(.t 77), (.t 79), (.t 81), (.t 87), (.t 89), (.c (.fn F.impl_ProfTake []))],.mv 76 (.t 90),.ex 91 (.t 76) 0,.ex 92 (.t 76) 1,.al 7 [.nl, .nl, .nl, .nl, .nl],.st (.t 7) (.t 91) 5,.mv 8 (.t 92)])
 (.seq (.seq (.reg [.mv 93 (.t 8),.un 94 (.t 93)])
 (.cond (.t 94) (.seq (.reg [.bd 95 [.nl, .nl, .nl, .nl, .nl] [],.st (.t 2) (.t 95) 5,.mv 3 (.c (.bool false))])
 (.gw (.ret)))
 (.skip)))
 (.reg [.ld 96 (.t 7) 5 true,.st (.t 4) (.t 96) 5]))))))
 (.reg [.bi 97 .add (.t 46) (.c (.int .i64 1)),.mv 46 (.t 97)]))))))))
 (.seq (.reg [.ld 98 (.t 4) 5 true,.st (.t 2) (.t 98) 5,.mv 3 (.c (.bool true))])
 (.gw (.ret))))))
def rs_impl_RoomOf : List Rv := [.c 2 5 true, .t 3]
theorem ck_impl_RoomOf : chkFn Tryz.prog F.impl_RoomOf 1 ir_impl_RoomOf rs_impl_RoomOf = true := by kernel_rfl
def impl_RoomOf_b40 (s1 : State) (x5 : Run) (_ : Nat) (v5 : Room) (k5 : Room → Option (Room × Bool)) : Option (Room × Bool) :=
 bif (((!(impl_JobOk x5.job)) || (!(impl_within x5.t 0 s1.now))) || (!(impl_within (w64 (x5.t + x5.job.wall)) (w64 (s1.now + 1)) 1000000000))) then (some ((Room.mk (Topo.mk [] []) [] [] []), false)) else ((impl_moved_impl_ProfTake v5 x5.job s1.now (w64 (x5.t + x5.job.wall)) x5.nodes).bind fun y6 => bif (!y6.2) then (some ((Room.mk (Topo.mk [] []) [] [] []), false)) else (k5 y6.1))
def impl_RoomOf_k40 (v5 : Room) : Option (Room × Bool) :=
 some (v5, true)
def impl_RoomOf (s1 : State) : Option (Room × Bool) :=
 (impl_TopoOk s1.topo).bind fun b2 => bif ((((!b2) || ((s1.up.length : Int) != (s1.topo.nodes.length : Int))) || (!(impl_VecOk s1.lic))) || (!(impl_isTime s1.now))) then (some ((Room.mk (Topo.mk [] []) [] [] []), false)) else ((impl_empty s1.topo s1.up s1.lic).bind fun y3 => rgl (impl_RoomOf_b40 s1) impl_RoomOf_k40 s1.runs 0 y3)
theorem impl_RoomOf_ok {s1 : State} {r : Room × Bool} (H : impl_RoomOf s1 = some r) : Snd Tryz.prog F.impl_RoomOf [eStateT .rd s1] (.tup [eRoomT .nw r.1, .bool r.2]) [] := by
 refine snd_g ck_impl_RoomOf rfl (by simp) ?_
 unfold impl_RoomOf at H
 obtain ⟨b2, h2, H⟩ := bB H
 refine Wh_go 99 [.c 11 (impl_TopoOk_ok h2), .g 16 [((!b2), false)] (.ln _ _ fun _ => lm s1.up eBo), .g 20 [((!b2), false)] (.ln _ _ fun _ => lm s1.topo.nodes eNode), .g 26 [(((!b2) || ((s1.up.length : Int) != (s1.topo.nodes.length : Int))), false)] (.call _ _ _ _ _ (AEs.refl _) (fun _ => impl_VecOk_ok s1.lic)), .g 32 [((((!b2) || ((s1.up.length : Int) != (s1.topo.nodes.length : Int))) || (!(impl_VecOk s1.lic))), false)] (.call _ _ _ _ _ (AEs.refl _) (fun _ => impl_isTime_ok s1.now))] (by kernel_rfl) fun _ => ?_
 refine Wh_iH H (fun H => ?_) fun H => ?_
 ·refine Wh_o fun _ => ?_
  replace H := sI H; subst H
  exact Wh_end [(2, .d), (3, .d)] [(2, [.n 1, .n 4, .n 1, .n 1, .n 4])] [] [] [] [⟨_, nw_I ([] : List Int)⟩, ⟨_, nw_Node ([] : List Node)⟩, ⟨_, nw_Bo ([] : List Bool)⟩, ⟨_, nw_ProfT ([] : List (List Pt))⟩, ⟨_, nw_Pt ([] : List Pt)⟩] (by kernel_rfl)
 ·obtain ⟨y3, h3, H⟩ := bB H
  refine Wh_go 99 [.c 42 (impl_empty_ok h3), .u 45 (.ln _ _ fun _ => lm s1.runs (eRunT .rd))] (by kernel_rfl) fun q4 => ?_
  refine Wh_rgl (fun (i5 : Nat) (v5 : Room) => ⟨[(1, .ptr 1 0), (2, .ptr 2 0), (4, .ptr 4 0), (44, .sl .rd 13 (s1.runs.map (eRunT .rd))), (45, .int .i64 (s1.runs.length : Int)), (46, .int .i64 (i5 : Int))], [], [(1, (eStateT .rd s1).cells), (2, [.nl, .nl, .nl, .nl, .nl]), (4, (eRoomT .nw v5).cells)], []⟩) [] [] [] [] (by kernel_rfl) (by kernel_rfl) H (fun i5 x5 v5 I m k5 hxv5 hiv5 H N40 => ?_) (fun v5 I m H => ?_)
  ·unfold impl_RoomOf_b40 at H
   refine Wh_o fun _ => ?_
   refine Wh_ifT (ltT hiv5) (by kernel_rfl) ?_
   refine Wh_go 99 [.u 48 (.ix _ _ _ fun _ => idx_map (eRunT .rd) (idx_nat hxv5)), .c 52 (impl_JobOk_ok x5.job), .g 59 [((!(impl_JobOk x5.job)), false)] (.call _ _ _ _ _ (AEs.refl _) (fun _ => impl_within_ok x5.t 0 s1.now)), .g 72 [(((!(impl_JobOk x5.job)) || (!(impl_within x5.t 0 s1.now))), false)] (.call _ _ _ _ _ (AEs.refl _) (fun _ => impl_within_ok (w64 (x5.t + x5.job.wall)) (w64 (s1.now + 1)) 1000000000))] (by kernel_rfl) fun _ => ?_
   refine Wh_iH H (fun H => ?_) fun H => ?_
   ·refine Wh_o fun _ => ?_
    replace H := sI H; subst H
    exact Wh_end [(2, .d), (3, .d)] [(2, [.n 1, .n 4, .n 1, .n 1, .n 4])] [] [] [] [⟨_, nw_I ([] : List Int)⟩, ⟨_, nw_Node ([] : List Node)⟩, ⟨_, nw_Bo ([] : List Bool)⟩, ⟨_, nw_ProfT ([] : List (List Pt))⟩, ⟨_, nw_Pt ([] : List Pt)⟩] (by kernel_rfl)
   ·obtain ⟨y6, h6, H⟩ := bB H
    refine Wh_go 99 [.u 90 (.call _ _ _ _ _ (AEs.of (xs := [.agg [.sl .rd 1 (v5.topo.parents.map eI), .sl .rd 4 (v5.topo.nodes.map eNode), .sl .rd 1 (v5.up.map eBo), .sl .rd 1 (v5.profs.map (eProfT .nw)), .sl .rd 4 (v5.lics.map ePt)], .agg [.int .i64 x5.job.id, .int .i64 x5.job.prio, .int .i64 x5.job.nodes, .int .i64 x5.job.need.a, .int .i64 x5.job.need.b, .int .i64 x5.job.need.c, .int .i64 x5.job.lic.a, .int .i64 x5.job.lic.b, .int .i64 x5.job.lic.c, .int .i64 x5.job.wall, .int .i64 x5.job.level], .int .i64 s1.now, .int .i64 (w64 (x5.t + x5.job.wall)), .sl .rd 1 (x5.nodes.map eI), .fn F.impl_ProfTake []]) (by simp)) (fun _ => impl_moved_impl_ProfTake_ok h6))] (by kernel_rfl) fun _ => ?_
    refine Wh_iH H (fun H => ?_) fun H => ?_
    ·refine Wh_o fun _ => ?_
     replace H := sI H; subst H
     exact Wh_end [(2, .d), (3, .d)] [(2, [.n 1, .n 4, .n 1, .n 1, .n 4])] [] [] [] [⟨_, nw_I ([] : List Int)⟩, ⟨_, nw_Node ([] : List Node)⟩, ⟨_, nw_Bo ([] : List Bool)⟩, ⟨_, nw_ProfT ([] : List (List Pt))⟩, ⟨_, nw_Pt ([] : List Pt)⟩] (by kernel_rfl)
    ·refine Wh_go 99 [.w 97 (wi .i64 rfl hiv5 q4.1)] (by kernel_rfl) fun _ => ?_
     exact Wh_to (N40 _ H) [] [] [] [] (by kernel_rfl) (by kernel_rfl)
  ·unfold impl_RoomOf_k40 at H
   refine Wh_o fun _ => ?_
   refine Wh_ifF (ltF s1.runs.length) (by kernel_rfl) ?_
   refine Wh_o fun _ => ?_
   replace H := sI H; subst H
   exact Wh_end [(2, .d), (3, .d)] [(2, [])] [] [] [] [⟨_, nw_I v5.topo.parents⟩, ⟨_, nw_Node v5.topo.nodes⟩, ⟨_, nw_Bo v5.up⟩, ⟨_, nw_ProfT v5.profs⟩, ⟨_, nw_Pt v5.lics⟩] (by kernel_rfl)
def ir_impl_State_all : L :=
.seq (.reg [.bx 1 (.t 0),.mv 2 (.c (.nl))])
 (.seq (.reg [.bs 6 11 [] true,.fa 7 (.t 1) 8,.ld 8 (.t 7) 1 false,.ap 9 (.t 6) (.t 8) 11 88,.mv 3 (.t 9)])
 (.seq (.seq (.reg [.fa 10 (.t 1) 9,.ld 11 (.t 10) 1 false,.ln 12 (.t 11),.mv 13 (.c (.int .i64 0))])
 (.blk 0 (.loop (.gw (.seq (.reg [.bi 14 .lss (.t 13) (.t 12)])
 (.seq (.cond (.t 14) (.skip)
 (.exit 0))
 (.seq (.blk 1 (.seq (.reg [.ia 15 (.t 11) (.t 13) 13,.ld 16 (.t 15) 13 true,.al 5 [.int .i64 0, .int .i64 0, .int .i64 0, .int .i64 0, .int .i64 0, .int .i64 0, .int .i64 0, .int .i64 0, .int .i64 0, .int .i64 0, .int .i64 0, .int .i64 0, .nl],.st (.t 5) (.t 16) 13])
 (.reg [.mv 17 (.t 3),.fa 18 (.t 5) 0,.ld 19 (.t 18) 11 true,.bs 20 11 [(.t 19)] false,.ap 21 (.t 17) (.t 20) 11 88,.mv 3 (.t 21)])))
 (.reg [.bi 22 .add (.t 13) (.c (.int .i64 1)),.mv 13 (.t 22)]))))))))
 (.seq (.reg [.mv 23 (.t 3),.mv 2 (.t 23)])
 (.gw (.ret)))))
def rs_impl_State_all : List Rv := [.t 2]
theorem ck_impl_State_all : chkFn Tryz.prog F.impl_State_all 1 ir_impl_State_all rs_impl_State_all = true := by kernel_rfl
def impl_State_all_b15 (x4 : Run) (_ : Nat) (v4 : (List Job)) (k4 : (List Job) → Option (List Job)) : Option (List Job) :=
 (appL 88 v4 [x4.job]).bind fun xs5 => k4 xs5
def impl_State_all_k15 (v4 : (List Job)) : Option (List Job) :=
 some v4
def impl_State_all (s1 : State) : Option (List Job) :=
 (appL 88 ([] : List Job) s1.queue).bind fun xs2 => rgl impl_State_all_b15 impl_State_all_k15 s1.runs 0 xs2
theorem impl_State_all_ok {s1 : State} {r : (List Job)} (H : impl_State_all s1 = some r) : Snd Tryz.prog F.impl_State_all [eStateT .rd s1] (.sl .nw 11 (r.map eJob)) [] := by
 refine snd_g ck_impl_State_all rfl (by simp) ?_
 unfold impl_State_all at H
 obtain ⟨xs2, h2, H⟩ := bB H
 refine Wh_go 99 [.u 9 (.ap _ _ _ _ fun _ => appL_map eJob h2), .u 12 (.ln _ _ fun _ => lm s1.runs (eRunT .rd))] (by kernel_rfl) fun q3 => ?_
 refine Wh_rgl (fun (i4 : Nat) (v4 : (List Job)) => ⟨[(3, .sref 6), (11, .sl .rd 13 (s1.runs.map (eRunT .rd))), (12, .int .i64 (s1.runs.length : Int)), (13, .int .i64 (i4 : Int))], [], [], [(6, ⟨11, v4.map eJob, false⟩)]⟩) [] [] [] [] (by kernel_rfl) (by kernel_rfl) H (fun i4 x4 v4 I m k4 hxv4 hiv4 H N15 => ?_) (fun v4 I m H => ?_)
 ·unfold impl_State_all_b15 at H
  refine Wh_o fun _ => ?_
  refine Wh_ifT (ltT hiv4) (by kernel_rfl) ?_
  obtain ⟨xs5, h5, H⟩ := bB H
  refine Wh_go 99 [.u 15 (.ix _ _ _ fun _ => idx_map (eRunT .rd) (idx_nat hxv4)), .u 21 (.ap _ _ _ _ fun _ => appL_map eJob h5), .w 22 (wi .i64 rfl hiv4 q3.1)] (by kernel_rfl) fun _ => ?_
  exact Wh_to (N15 _ H) [] [] [] [] (by kernel_rfl) (by kernel_rfl)
 ·unfold impl_State_all_k15 at H
  refine Wh_o fun _ => ?_
  refine Wh_ifF (ltF s1.runs.length) (by kernel_rfl) ?_
  refine Wh_o fun _ => ?_
  replace H := sI H; subst H
  exact Wh_end [(2, .f)] [] [] [6] [] [⟨_, nw_Job v4⟩] (by kernel_rfl)
def ir_impl_StateOk : L :=
.seq (.reg [.bx 1 (.t 0),.mv 2 (.c (.bool false))])
 (.seq (.seq (.reg [.ld 12 (.t 1) 11 true,.cq 13 F.impl_RoomOf [(.t 12)],.mv 11 (.t 13),.ex 14 (.t 11) 0,.ex 15 (.t 11) 1,.al 3 [.nl, .nl, .nl, .nl, .nl],.st (.t 3) (.t 14) 5,.mv 4 (.t 15)])
 (.seq (.reg [.mv 16 (.t 4),.un 17 (.t 16),.mv 18 (.t 17),.g 18 false (.fa 19 (.t 1) 6),.g 18 false (.ld 20 (.t 19) 1 false),.g 18 false (.cq 21 F.impl_within [(.t 20), (.c (.int .i64 0)), (.c (.int .i64 60))]),.g 18 false (.un 22 (.t 21)),.pk 23 (.t 18) (.c (.bool true)) (.t 22),.mv 24 (.t 23),.g 24 false (.ld 25 (.t 1) 11 true),.g 24 false (.cq 26 F.impl_State_all [(.t 25)]),.g 24 false (.cq 27 F.impl_QueueOk [(.t 26)]),.g 24 false (.un 28 (.t 27)),.pk 29 (.t 24) (.c (.bool true)) (.t 28),.mv 30 (.t 29),.g 30 false (.fa 31 (.t 1) 10),.g 30 false (.ld 32 (.t 31) 1 false),.g 30 false (.ln 33 (.t 32)),.g 30 false (.bi 34 .gtr (.t 33) (.c (.int .i64 300))),.pk 35 (.t 30) (.c (.bool true)) (.t 34)])
 (.cond (.t 35) (.seq (.reg [.mv 2 (.c (.bool false))])
 (.gw (.ret)))
 (.skip))))
 (.seq (.seq (.reg [.fa 36 (.t 1) 9,.ld 37 (.t 36) 1 false,.ln 38 (.t 37),.mv 39 (.c (.int .i64 0))])
 (.blk 0 (.loop (.gw (.seq (.reg [.bi 40 .lss (.t 39) (.t 38)])
 (.seq (.cond (.t 40) (.skip)
 (.exit 0))
 (.seq (.blk 1 (.seq (.reg [.ia 41 (.t 37) (.t 39) 13,.ld 42 (.t 41) 13 true,.al 6 [.int .i64 0, .int .i64 0, .int .i64 0, .int .i64 0, .int .i64 0, .int .i64 0, .int .i64 0, .int .i64 0, .int .i64 0, .int .i64 0, .int .i64 0, .int .i64 0, .nl],.st (.t 6) (.t 42) 13])
 (.seq (.seq (.reg [.fa 43 (.t 6) 12,.ld 44 (.t 43) 1 false,.ln 45 (.t 44),.mv 46 (.c (.int .i64 0))])
 (.blk 2 (.loop (.gw (.seq (.reg [.bi 47 .lss (.t 46) (.t 45)])
 (.seq (.cond (.t 47) (.skip)
 (.exit 2))
 (.seq (.blk 3 (.seq (.reg [.ia 48 (.t 44) (.t 46) 1,.ld 49 (.t 48) 1 false,.mv 8 (.t 49)])
 (.seq (.reg [.fa 50 (.t 1) 2,.ld 51 (.t 50) 1 false,.mv 52 (.t 8),.ia 53 (.t 51) (.t 52) 1,.ld 54 (.t 53) 1 false,.un 55 (.t 54)])
 (.cond (.t 55) (.seq (.reg [.mv 2 (.c (.bool false))])
 (.gw (.ret)))
 (.skip)))))
 (.reg [.bi 56 .add (.t 46) (.c (.int .i64 1)),.mv 46 (.t 56)]))))))))
 (.seq (.rq 18 [.fa 57 (.t 6) 12,.ld 58 (.t 57) 1 false,.cq 59 F.impl_areAscending [(.t 58)],.un 60 (.t 59),.mv 61 (.t 60),.g 61 false (.fa 62 (.t 1) 0),.g 61 false (.ld 63 (.t 62) 2 true),.g 61 false (.fa 64 (.t 1) 0),.g 61 false (.ld 65 (.t 64) 2 true),.g 61 false (.fa 66 (.t 6) 12),.g 61 false (.ld 67 (.t 66) 1 false),.g 61 false (.cq 68 F.impl_Lowest [(.t 65), (.t 67)]),.g 61 false (.cq 69 F.impl_level [(.t 63), (.t 68)]),.g 61 false (.fa 70 (.t 6) 0),.g 61 false (.fa 71 (.t 70) 10),.g 61 false (.ld 72 (.t 71) 1 false),.g 61 false (.bi 73 .gtr (.t 69) (.t 72)),.pk 74 (.t 61) (.c (.bool true)) (.t 73)])
 (.cond (.t 74) (.seq (.reg [.mv 2 (.c (.bool false))])
 (.gw (.ret)))
 (.skip))))))
 (.reg [.bi 75 .add (.t 39) (.c (.int .i64 1)),.mv 39 (.t 75)]))))))))
 (.seq (.seq (.reg [.fa 76 (.t 1) 10,.ld 77 (.t 76) 1 false,.ln 78 (.t 77),.mv 79 (.c (.int .i64 0))])
 (.blk 4 (.loop (.gw (.seq (.reg [.bi 80 .lss (.t 79) (.t 78)])
 (.seq (.cond (.t 80) (.skip)
 (.exit 4))
 (.seq (.blk 5 (.seq (.reg [.ia 81 (.t 77) (.t 79) 3,.ld 82 (.t 81) 3 true,.al 10 [.int .i64 0, .int .i64 0, .int .i64 0],.st (.t 10) (.t 82) 3])
 (.seq (.reg [.fa 83 (.t 10) 0,.ld 84 (.t 83) 1 false,.cq 85 F.impl_within [(.t 84), (.c (.int .i64 1)), (.c (.int .i64 999))],.un 86 (.t 85),.mv 87 (.t 86),.g 87 false (.fa 88 (.t 10) 1),.g 87 false (.ld 89 (.t 88) 1 false),.g 87 false (.fa 90 (.t 1) 7),.g 87 false (.ld 91 (.t 90) 1 false),.g 87 false (.cq 92 F.impl_within [(.t 89), (.c (.int .i64 0)), (.t 91)]),.g 87 false (.un 93 (.t 92)),.pk 94 (.t 87) (.c (.bool true)) (.t 93),.mv 95 (.t 94),.g 95 false (.fa 96 (.t 10) 2),.g 95 false (.ld 97 (.t 96) 1 false),.g 95 false (.cq 98 F.impl_within [(.t 97), (.c (.int .i64 1)), (.c (.int .i64 4))]),.g 95 false (.un 99 (.t 98)),.pk 100 (.t 95) (.c (.bool true)) (.t 99)])
 (.cond (.t 100) (.seq (.reg [.mv 2 (.c (.bool false))])
 (.gw (.ret)))
 (.skip)))))
 (.reg [.bi 101 .add (.t 79) (.c (.int .i64 1)),.mv 79 (.t 101)]))))))))
 (.seq (.reg [.mv 2 (.c (.bool true))])
 (.gw (.ret))))))
def rs_impl_StateOk : List Rv := [.t 2]
theorem ck_impl_StateOk : chkFn Tryz.prog F.impl_StateOk 1 ir_impl_StateOk rs_impl_StateOk = true := by kernel_rfl
def impl_StateOk_b35 (s1 : State) (x8 : Int) (_ : Nat) (_ : Unit) (k8 : Unit → Option Bool) : Option Bool :=
 (idx s1.up x8).bind fun e9 => bif (!e9) then (some false) else (k8 ())
def impl_StateOk_k35 (s1 : State) (x6 : Run) (k6 : Unit → Option Bool) (_ : Unit) : Option Bool :=
 (impl_areAscending x6.nodes).bind fun b10 => (bif (!b10) then some default else (impl_Lowest s1.topo x6.nodes)).bind fun n11 => (bif (!b10) then some default else (impl_level s1.topo n11)).bind fun n12 => bif ((!b10) || (decide (x6.job.level < n12))) then (some false) else (k6 ())
def impl_StateOk_b74 (s1 : State) (x14 : End) (_ : Nat) (_ : Unit) (k14 : Unit → Option Bool) : Option Bool :=
 bif (((!(impl_within x14.id 1 999)) || (!(impl_within x14.t 0 s1.now))) || (!(impl_within x14.why 1 4))) then (some false) else (k14 ())
def impl_StateOk_k74 (_ : Unit) : Option Bool :=
 some true
def impl_StateOk_b52 (s1 : State) (x6 : Run) (_ : Nat) (_ : Unit) (k6 : Unit → Option Bool) : Option Bool :=
 rgl (impl_StateOk_b35 s1) (impl_StateOk_k35 s1 x6 k6) x6.nodes 0 ()
def impl_StateOk_k52 (s1 : State) (_ : Unit) : Option Bool :=
 rgl (impl_StateOk_b74 s1) impl_StateOk_k74 s1.ends 0 ()
def impl_StateOk (s1 : State) : Option Bool :=
 (impl_RoomOf s1).bind fun y2 => (bif ((!y2.2) || (!(impl_within s1.depth 0 60))) then some default else (impl_State_all s1)).bind fun y3 => (bif ((!y2.2) || (!(impl_within s1.depth 0 60))) then some default else (impl_QueueOk y3)).bind fun b4 => bif ((((!y2.2) || (!(impl_within s1.depth 0 60))) || (!b4)) || (decide (300 < (s1.ends.length : Int)))) then (some false) else (rgl (impl_StateOk_b52 s1) (impl_StateOk_k52 s1) s1.runs 0 ())
theorem impl_StateOk_ok {s1 : State} {r : Bool} (H : impl_StateOk s1 = some r) : Snd Tryz.prog F.impl_StateOk [eStateT .rd s1] (.bool r) [] := by
 refine snd_g ck_impl_StateOk rfl (by simp) ?_
 unfold impl_StateOk at H
 obtain ⟨y2, h2, H⟩ := bB H
 obtain ⟨y3, h3, H⟩ := bB H
 obtain ⟨b4, h4, H⟩ := bB H
 refine Wh_go 99 [.c 13 (impl_RoomOf_ok h2), .g 21 [((!y2.2), false)] (.call _ _ _ _ _ (AEs.refl _) (fun _ => impl_within_ok s1.depth 0 60)), .g 26 [(_, false)] (.call _ _ _ _ _ (AEs.refl _) (fun q => impl_State_all_ok (bF q.1 h3))), .g 27 [(_, false)] (.call _ _ _ _ _ (AEs.refl _) (fun q => impl_QueueOk_ok (bF q.1 h4))), .g 33 [((((!y2.2) || (!(impl_within s1.depth 0 60))) || (!b4)), false)] (.ln _ _ fun _ => lm s1.ends eEnd)] (by kernel_rfl) fun _ => ?_
 refine Wh_iH H (fun H => ?_) fun H => ?_
 ·refine Wh_o fun _ => ?_
  replace H := sI H; subst H
  exact Wh_end [(2, .d)] [] [] [] [] [] (by kernel_rfl)
 ·refine Wh_go 99 [.u 38 (.ln _ _ fun _ => lm s1.runs (eRunT .rd))] (by kernel_rfl) fun q5 => ?_
  refine Wh_rgl (fun (i6 : Nat) (v6 : Unit) => ⟨[(1, .ptr 1 0), (37, .sl .rd 13 (s1.runs.map (eRunT .rd))), (38, .int .i64 (s1.runs.length : Int)), (39, .int .i64 (i6 : Int))], [], [(1, (eStateT .rd s1).cells)], []⟩) [] [] [] [] (by kernel_rfl) (by kernel_rfl) H (fun i6 x6 v6 I m k6 hxv6 hiv6 H N52 => ?_) (fun v6 I m H => ?_)
  ·unfold impl_StateOk_b52 at H
   refine Wh_o fun _ => ?_
   refine Wh_ifT (ltT hiv6) (by kernel_rfl) ?_
   refine Wh_go 99 [.u 41 (.ix _ _ _ fun _ => idx_map (eRunT .rd) (idx_nat hxv6)), .u 45 (.ln _ _ fun _ => lm x6.nodes eI)] (by kernel_rfl) fun q7 => ?_
   refine Wh_rgl (fun (i8 : Nat) (v8 : Unit) => ⟨[(1, .ptr 1 0), (6, .ptr 6 0), (37, .sl .rd 13 (s1.runs.map (eRunT .rd))), (38, .int .i64 (s1.runs.length : Int)), (39, .int .i64 (i6 : Int)), (44, .sl .rd 1 (x6.nodes.map eI)), (45, .int .i64 (x6.nodes.length : Int)), (46, .int .i64 (i8 : Int))], [], [(1, (eStateT .rd s1).cells), (6, (eRunT .rd x6).cells)], []⟩) [] [] [] [] (by kernel_rfl) (by kernel_rfl) H (fun i8 x8 v8 I m k8 hxv8 hiv8 H N35 => ?_) (fun v8 I m H => ?_)
   ·unfold impl_StateOk_b35 at H
    refine Wh_o fun _ => ?_
    refine Wh_ifT (ltT hiv8) (by kernel_rfl) ?_
    obtain ⟨e9, h9, H⟩ := bB H
    refine Wh_go 99 [.u 48 (.ix _ _ _ fun _ => idx_map eI (idx_nat hxv8)), .u 53 (.ix _ _ _ fun _ => idx_map eBo h9)] (by kernel_rfl) fun _ => ?_
    refine Wh_iH H (fun H => ?_) fun H => ?_
    ·refine Wh_o fun _ => ?_
     replace H := sI H; subst H
     exact Wh_end [(2, .d)] [] [] [] [] [] (by kernel_rfl)
    ·refine Wh_go 99 [.w 56 (wi .i64 rfl hiv8 q7.1)] (by kernel_rfl) fun _ => ?_
     exact Wh_to (N35 () H) [] [] [] [] (by kernel_rfl) (by kernel_rfl)
   ·unfold impl_StateOk_k35 at H
    refine Wh_o fun _ => ?_
    refine Wh_ifF (ltF x6.nodes.length) (by kernel_rfl) ?_
    obtain ⟨b10, h10, H⟩ := bB H
    obtain ⟨n11, h11, H⟩ := bB H
    obtain ⟨n12, h12, H⟩ := bB H
    refine Wh_go 99 [.c 59 (impl_areAscending_ok h10), .g 68 [(_, false)] (.call _ _ _ _ _ (AEs.refl _) (fun q => impl_Lowest_ok (bF q.1 h11))), .g 69 [(_, false)] (.call _ _ _ _ _ (AEs.refl _) (fun q => impl_level_ok (bF q.1 h12)))] (by kernel_rfl) fun _ => ?_
    refine Wh_iH H (fun H => ?_) fun H => ?_
    ·refine Wh_o fun _ => ?_
     replace H := sI H; subst H
     exact Wh_end [(2, .d)] [] [] [] [] [] (by kernel_rfl)
    ·refine Wh_go 99 [.w 75 (wi .i64 rfl hiv6 q5.1)] (by kernel_rfl) fun _ => ?_
     exact Wh_to (N52 () H) [] [] [] [] (by kernel_rfl) (by kernel_rfl)
  ·unfold impl_StateOk_k52 at H
   refine Wh_o fun _ => ?_
   refine Wh_ifF (ltF s1.runs.length) (by kernel_rfl) ?_
   refine Wh_go 99 [.u 78 (.ln _ _ fun _ => lm s1.ends eEnd)] (by kernel_rfl) fun q13 => ?_
   refine Wh_rgl (fun (i14 : Nat) (v14 : Unit) => ⟨[(1, .ptr 1 0), (77, .sl .rd 3 (s1.ends.map eEnd)), (78, .int .i64 (s1.ends.length : Int)), (79, .int .i64 (i14 : Int))], [], [(1, (eStateT .rd s1).cells)], []⟩) [] [] [] [] (by kernel_rfl) (by kernel_rfl) H (fun i14 x14 v14 I m k14 hxv14 hiv14 H N74 => ?_) (fun v14 I m H => ?_)
   ·unfold impl_StateOk_b74 at H
    refine Wh_o fun _ => ?_
    refine Wh_ifT (ltT hiv14) (by kernel_rfl) ?_
    refine Wh_go 99 [.u 81 (.ix _ _ _ fun _ => idx_map eEnd (idx_nat hxv14)), .c 85 (impl_within_ok x14.id 1 999), .g 92 [((!(impl_within x14.id 1 999)), false)] (.call _ _ _ _ _ (AEs.refl _) (fun _ => impl_within_ok x14.t 0 s1.now)), .g 98 [(((!(impl_within x14.id 1 999)) || (!(impl_within x14.t 0 s1.now))), false)] (.call _ _ _ _ _ (AEs.refl _) (fun _ => impl_within_ok x14.why 1 4))] (by kernel_rfl) fun _ => ?_
    refine Wh_iH H (fun H => ?_) fun H => ?_
    ·refine Wh_o fun _ => ?_
     replace H := sI H; subst H
     exact Wh_end [(2, .d)] [] [] [] [] [] (by kernel_rfl)
    ·refine Wh_go 99 [.w 101 (wi .i64 rfl hiv14 q13.1)] (by kernel_rfl) fun _ => ?_
     exact Wh_to (N74 () H) [] [] [] [] (by kernel_rfl) (by kernel_rfl)
   ·unfold impl_StateOk_k74 at H
    refine Wh_o fun _ => ?_
    refine Wh_ifF (ltF s1.ends.length) (by kernel_rfl) ?_
    refine Wh_o fun _ => ?_
    replace H := sI H; subst H
    exact Wh_end [(2, .d)] [] [] [] [] [] (by kernel_rfl)
theorem impl_moved_eq (r : Room) (j : Job) (from_ to_ : Int) (nodes : List Int) : impl_moved_impl_ProfTake r j from_ to_ nodes = bif diffOk r j nodes then takeRoom r j.need j.lic from_ to_ nodes else some noRoom := by
 unfold impl_moved_impl_ProfTake diffOk
 rw [impl_RoomOk_eq, Option.bind_some, impl_JobOk_eq]
 cases hr : roomOk r with
 | false => rfl
 | true =>
  have hR := roomOk_iff.1 hr
  rw [impl_areJobNodes_eq hR.small.nodes]
  cases spec_JobOk j with
  | false => rfl
  | true =>
   simp only [Bool.not_true, Bool.or_self, cond_false, Bool.true_and, Option.bind_some]
   cases (decide ((nodes.length : Int) = j.nodes) && nodesOk r.topo nodes && decide nodes.Nodup) with
   | false => rfl
   | true =>
    simp only [Bool.not_true, Bool.or_self, cond_false, cond_true]
    rw [impl_copyRoom_eq hR.small, Option.bind_some]
    unfold takeRoom impl_moved_impl_ProfTake_b32 impl_moved_impl_ProfTake_k32
    simp only [fun p f t v => (ProfTake_eq p f t v).1]
    rfl
/-- No number stands twice. -/
def idsOk (l : List Job) : Bool := decide (l.map Job.id).Nodup
noncomputable def queueOk (l : List Job) : Bool := decide (l.length ≤ 60) && l.all spec_JobOk && idsOk l
theorem ids_take {l : List Job} {i : Nat} {x : Job} (hx : l[i]? = some x) : ((l.take (i + 1)).map Job.id).Nodup ↔ ((l.take i).map Job.id).Nodup ∧ ∀ y ∈ l.take i, y.id ≠ x.id := by
 obtain ⟨hi, rfl⟩ := List.getElem?_eq_some_iff.1 hx
 rw [List.take_succ_eq_append_getElem hi, List.map_append, List.nodup_append]
 constructor
 ·intro h; exact ⟨h.1, fun y hy e => h.2.2 _ (List.mem_map_of_mem hy) _ (List.mem_singleton.2 rfl) e⟩
 ·intro h; exact ⟨h.1, by simp, fun a ha b hb e => by
   obtain ⟨y, hy, rfl⟩ := List.mem_map.1 ha
   rw [show b = l[i].id by simpa using hb] at e
   exact h.2 y hy e⟩
/-- A loop that asks job after job, and each with those ahead. -/
theorem queue_loop {γ : Type} {bd : Job → Nat → Unit → (Unit → Option γ) → Option γ} {kk : Unit → Option γ} {r : Option γ} {l : List Job}
  (hb : ∀ i x k, l[i]? = some x → bd x i () k = bif (!spec_JobOk x) || (l.take i).any (fun y => y.id == x.id) then r else k ()) : rgl bd kk l 0 () = bif l.all spec_JobOk && idsOk l then kk () else r := by
 refine rgl_inv (fun i (_ : Unit) => (∀ y ∈ l.take i, spec_JobOk y = true) ∧ ((l.take i).map Job.id).Nodup) (fun o => o = bif l.all spec_JobOk && idsOk l then kk () else r) (fun i x b k hx hI hk => ?_) (fun b hI => ?_) (by simp)
 ·have hil := (List.getElem?_eq_some_iff.1 hx).1
  rw [hb i x k hx]
  cases hj : spec_JobOk x with
  | false =>
   have : l.all spec_JobOk = false := List.all_eq_false.2 ⟨x, List.mem_of_getElem? hx, by rw [hj]; simp⟩
   rw [this]; rfl
  | true =>
   cases hc : (l.take i).any (fun y => y.id == x.id) with
   | true =>
    obtain ⟨y, hy, he⟩ := List.any_eq_true.1 hc
    have : idsOk l = false := by
     unfold idsOk
     rw [decide_eq_false_iff_not]
     intro q
     have q2 : ((l.take (i + 1)).map Job.id).Nodup := q.sublist ((List.take_sublist _ _).map _)
     exact ((ids_take hx).1 q2).2 y hy (by simpa using he)
    rw [this, Bool.and_false]; rfl
   | false =>
    refine hk () ⟨fun y hy => ?_, (ids_take hx).2 ⟨hI.2, fun y hy e => ?_⟩⟩
    ·obtain ⟨hi, rfl⟩ := List.getElem?_eq_some_iff.1 hx
     rw [List.take_succ_eq_append_getElem hi] at hy
     rcases List.mem_append.1 hy with hy | hy
     ·exact hI.1 y hy
     ·rw [List.mem_singleton.1 hy]; exact hj
    ·have := List.any_eq_false.1 hc y hy
     simp [e] at this
 ·rw [List.take_of_length_le (Nat.le_refl _)] at hI
  rw [List.all_eq_true.2 hI.1]
  unfold idsOk
  rw [decide_eq_true hI.2]; rfl
theorem spec_QueueOk_eq (l : List Job) : spec_QueueOk l = some (queueOk l) := by
 unfold spec_QueueOk queueOk
 by_cases h : 60 < l.length
 ·simp [show (60 : Int) < l.length by omega, show ¬ l.length ≤ 60 by omega]
 ·rw [show decide ((60 : Int) < (l.length : Int)) = false by simp; omega, show decide (l.length ≤ 60) = true by simp; omega]
  simp only [cond_false, Bool.true_and]
  rw [queue_loop (r := some false) (fun i x k hx => ?_)]
  ·unfold spec_QueueOk_k48
   cases (l.all spec_JobOk && idsOk l) <;> rfl
  ·have hil := (List.getElem?_eq_some_iff.1 hx).1
   unfold spec_QueueOk_b48
   cases spec_JobOk x with
   | false => rfl
   | true =>
    simp only [Bool.not_true, cond_false, Bool.false_or]
    have h := whl_rgl (bd := spec_QueueOk_b38 l i x k) (fun (i : Nat) (_ : Unit) => (i : Int)) (n := i)
     (B := fun m _ _ k => bif (match l[m]? with | some e => e.id == x.id | none => false) then some false else k ()) (kk := fun _ => k ()) (fun m st k hm => by
      obtain ⟨e, he⟩ : ∃ e, l[m]? = some e := ⟨_, List.getElem?_eq_getElem (by omega)⟩
      have hlt : (m : Int) < (i : Int) := by omega
      simp only [spec_QueueOk_b38, hlt, decide_true, cond_true, idx_ofNat, he, Option.bind_some, w64_nat (n := m) (by omega)])
     (fun m st k hm => by
      have hlt : ¬ (m : Int) < (i : Int) := by omega
      simp only [spec_QueueOk_b38, hlt, decide_false, cond_false]) 9223372036854775807 0 () (by omega)
    refine h.trans ?_
    rw [rgl_any (r := some false) (p := fun (m : Nat) => match l[m]? with | some e => e.id == x.id | none => false) (fun m _ i k => rfl)]
    have e : (List.range' 0 (i - 0)).any (fun (m : Nat) => match l[m]? with | some e => e.id == x.id | none => false) = (l.take i).any (fun y => y.id == x.id) := by
     rw [Bool.eq_iff_iff, List.any_eq_true, List.any_eq_true]
     constructor
     ·rintro ⟨m, hm, hq⟩
      obtain ⟨j, hj, rfl⟩ := List.mem_range'.1 hm
      have hlt : 0 + 1 * j < l.length := by omega
      rw [List.getElem?_eq_getElem hlt] at hq
      exact ⟨_, List.mem_take_iff_getElem.2 ⟨0 + 1 * j, by omega, rfl⟩, hq⟩
     ·rintro ⟨y, hy, hq⟩
      obtain ⟨m, hm, rfl⟩ := List.mem_take_iff_getElem.1 hy
      exact ⟨m, List.mem_range'.2 ⟨m, by omega, by omega⟩, by rw [List.getElem?_eq_getElem (by omega)]; exact hq⟩
    rw [e]
theorem contains_eq (l : List Job) (c : Job) : slices_ContainsFunc_impl_Job_impl_Job_impl_QueueOk_1 l c = some (l.any fun y => y.id == c.id) := by
 unfold slices_ContainsFunc_impl_Job_impl_Job_impl_QueueOk_1 slices_IndexFunc_impl_Job_impl_Job_impl_QueueOk_1
 have : ∃ r : Int, rgl (slices_IndexFunc_impl_Job_impl_Job_impl_QueueOk_1_b20 c) slices_IndexFunc_impl_Job_impl_Job_impl_QueueOk_1_k20 l 0 () = some r ∧ decide (0 ≤ r) = l.any fun y => y.id == c.id := by
  refine rgl_inv (fun i (_ : Unit) => ∀ y ∈ l.take i, (y.id == c.id) = false) (fun o => ∃ r : Int, o = some r ∧ decide (0 ≤ r) = l.any fun y => y.id == c.id) (fun i x b k hx hI hk => ?_) (fun b hI => ?_) (by simp)
  ·unfold slices_IndexFunc_impl_Job_impl_Job_impl_QueueOk_1_b20 impl_QueueOk_1
   cases h : (x.id == c.id) with
   | true => exact ⟨i, rfl, by rw [List.any_eq_true.2 ⟨x, List.mem_of_getElem? hx, h⟩]; simp⟩
   | false =>
    refine hk () fun y hy => ?_
    obtain ⟨hi, rfl⟩ := List.getElem?_eq_some_iff.1 hx
    rw [List.take_succ_eq_append_getElem hi] at hy
    rcases List.mem_append.1 hy with hy | hy
    ·exact hI y hy
    ·rw [List.mem_singleton.1 hy]; exact h
  ·rw [List.take_of_length_le (Nat.le_refl _)] at hI
   exact ⟨-1, rfl, by rw [List.any_eq_false.2 fun y hy => by rw [hI y hy]; simp]; rfl⟩
 obtain ⟨r, h1, h2⟩ := this
 rw [h1, Option.bind_some, h2]
theorem impl_QueueOk_eq (l : List Job) : impl_QueueOk l = some (queueOk l) := by
 unfold impl_QueueOk queueOk
 rw [queue_loop (r := some false) (fun i x k hx => ?_)]
 ·unfold impl_QueueOk_k20
  have e : decide ((l.length : Int) ≤ 60) = decide (l.length ≤ 60) := by rw [Bool.eq_iff_iff]; simp; omega
  rw [e]
  cases l.all spec_JobOk <;> cases idsOk l <;> cases decide (l.length ≤ 60) <;> rfl
 ·have hil := (List.getElem?_eq_some_iff.1 hx).1
  unfold impl_QueueOk_b20
  rw [impl_JobOk_eq, cut_take (by omega)]
  cases spec_JobOk x with
  | false => rfl
  | true =>
   simp only [Bool.not_true, cond_false, Option.bind_some, contains_eq, Bool.false_or]
theorem impl_ProfNew_eq (v : Vec) : impl_ProfNew v = spec_ProfNew v := rfl
def emptyRoom (t : Topo) (up : List Bool) (lic : Vec) : Room := ⟨t, up, t.nodes.map fun x => (spec_ProfNew x.cap).1, (spec_ProfNew lic).1⟩
theorem ProfNew_ok {v : Vec} (h : spec_VecOk v = true) : ProfP (spec_ProfNew v).1 := by
 unfold spec_ProfNew
 rw [h]
 simp only [Bool.not_true, cond_false]
 exact ⟨by simp, by simp, fun x hx => by simp at hx; rw [← hx], fun x hx => by simp at hx; subst hx; exact ⟨rfl, h⟩, fun i x y hx hy => by simp at hy⟩
theorem emptyRoom_ok {t : Topo} (h : TopoP t) {up : List Bool} (hu : up.length = t.nodes.length) {lic : Vec} (hl : spec_VecOk lic = true) : RoomP (emptyRoom t up lic) :=
  ⟨h, hu, by simp [emptyRoom], fun p hp => by
    obtain ⟨x, hx, rfl⟩ := List.mem_map.1 hp
    exact ProfNew_ok (h.node x hx).2.2.2, ProfNew_ok hl⟩
theorem impl_empty_eq {t : Topo} (h : TopoP t) {up : List Bool} (hu : up.length = t.nodes.length) (lic : Vec) : impl_empty t up lic = some (emptyRoom t up lic) := by
 have := h.tree.le; have := h.nodes
 unfold impl_empty impl_copyTopo impl_copyInts
 rw [appL_some (by simp; omega), Option.bind_some, Option.bind_some, appL_some (by simp; omega), Option.bind_some, Option.bind_some, appL_some (by simp; omega), Option.bind_some]
 rw [rgl_gather (bd := impl_empty_b17) (bs := 24) (p := fun _ => true) (f := fun x => (spec_ProfNew x.cap).1) (fun x hx i b k => rfl) (by simp; omega)]
 unfold impl_empty_k17 emptyRoom
 simp [List.filter_eq_self.2, impl_ProfNew_eq]
theorem spec_l06Empty_eq (s : State) : spec_l06Empty s = some (bif topoOk s.topo && decide (s.up.length = s.topo.nodes.length) && spec_VecOk s.lic then (emptyRoom s.topo s.up s.lic, true) else noRoom) := by
 unfold spec_l06Empty
 rw [spec_TopoOk_eq, Option.bind_some, len_bne]
 cases ht : topoOk s.topo with
 | false => rfl
 | true =>
 cases hu : decide (s.up.length = s.topo.nodes.length) with
 | false => rfl
 | true =>
 cases hl : spec_VecOk s.lic with
 | false => rfl
 | true =>
  have h := topoOk_iff.1 ht
  have hu := of_decide_eq_true hu
  have := h.nodes
  simp only [Bool.not_true, Bool.or_self, cond_false, Bool.and_self, cond_true]
  rw [rgl_gather (bd := spec_l06Empty_b24) (bs := 24) (p := fun _ => true) (f := fun x => (spec_ProfNew x.cap).1) (fun x hx i b k => rfl) (by simp; omega)]
  unfold spec_l06Empty_k24
  rw [show (s.topo.nodes.filter fun _ => true) = s.topo.nodes from List.filter_eq_self.2 fun _ _ => rfl, List.nil_append]
  have hR := emptyRoom_ok h hu hl
  unfold emptyRoom at hR
  rw [spec_l04Copy_eq hR.small, Option.bind_some]
  rfl
/-- What a run may be, beside the room. -/
def runOk (s : State) (x : Run) : Bool := time x.t && decide (x.t ≤ s.now) && decide (s.now < x.t + x.job.wall) && decide (x.t + x.job.wall ≤ 1000000000)
noncomputable def roomStep (s : State) (x : Run) (v : Room) : Option (Room × Bool) := bif diffOk v x.job x.nodes && runOk s x then takeRoom v x.job.need x.job.lic s.now (x.t + x.job.wall) x.nodes else some noRoom
theorem spec_roomStep {s : State} (hs : time s.now = true) (x : Run) (i : Nat) (v : Room) (k : Room → Option (Room × Bool)) : spec_RoomOf_b46 s x i v k = (roomStep s x v).bind fun y => bif !y.2 then some noRoom else k y.1 := by
 have hn := time_iff.1 hs
 unfold spec_RoomOf_b46 roomStep
 rw [spec_l04Diff_eq, Option.bind_some, spec_l01Time_eq]
 cases hd : diffOk v x.job x.nodes with
 | false => rfl
 | true =>
  have hj : spec_JobOk x.job = true := by unfold diffOk at hd; simp only [Bool.and_eq_true] at hd; exact hd.1.1.1.2
  have hj' := jobOk_iff.1 hj
  unfold runOk
  by_cases ht : time x.t = true ∧ x.t ≤ s.now
  ·have ht1 := time_iff.1 ht.1
   rw [ht.1, w64_id (n := x.t + x.job.wall) (by omega), show decide (s.now < x.t) = false by simp; omega, show decide (x.t ≤ s.now) = true by simpa using ht.2]
   by_cases h3 : s.now < x.t + x.job.wall
   ·rw [show decide (x.t + x.job.wall ≤ s.now) = false by simp; omega, show decide (s.now < x.t + x.job.wall) = true by simpa using h3]
    by_cases h4 : x.t + x.job.wall ≤ 1000000000
    ·rw [show decide (1000000000 < x.t + x.job.wall) = false by simp; omega, show decide (x.t + x.job.wall ≤ 1000000000) = true by simpa using h4]
     simp only [Bool.not_true, Bool.or_self, cond_false, Bool.and_self, cond_true]
     rw [w64_id (n := x.t + x.job.wall - s.now) (by omega), spec_Reserve_eq]
     have e : diffOk v ⟨x.job.id, x.job.prio, x.job.nodes, x.job.need, x.job.lic, x.t + x.job.wall - s.now, x.job.level⟩ x.nodes = true := by
      have hj2 : spec_JobOk ⟨x.job.id, x.job.prio, x.job.nodes, x.job.need, x.job.lic, x.t + x.job.wall - s.now, x.job.level⟩ = true := by
       rw [jobOk_iff]; simp only; refine ⟨hj'.1, hj'.2.1, hj'.2.2.1, hj'.2.2.2.1, hj'.2.2.2.2.1, by omega, hj'.2.2.2.2.2.2⟩
      unfold diffOk at hd ⊢
      rw [hj] at hd
      rw [hj2]; exact hd
     rw [e, hs]
     simp only [Bool.and_self, cond_true]
     rw [show s.now + (x.t + x.job.wall - s.now) = x.t + x.job.wall by omega, w64_id (by omega)]
     rfl
    ·rw [show decide (1000000000 < x.t + x.job.wall) = true by simp; omega, show decide (x.t + x.job.wall ≤ 1000000000) = false by simpa using h4]
     simp [noRoom]
   ·rw [show decide (x.t + x.job.wall ≤ s.now) = true by simp; omega, show decide (s.now < x.t + x.job.wall) = false by simpa using h3]
    simp [noRoom]
  ·have : (time x.t && decide (x.t ≤ s.now)) = false := by
    rw [Bool.eq_false_iff]; intro q; simp only [Bool.and_eq_true, decide_eq_true_eq] at q; exact ht q
   rw [this]
   have h2 : (!(time x.t) || decide (s.now < x.t)) = true := by
    cases hx : time x.t with
    | false => rfl
    | true =>
     have : ¬ x.t ≤ s.now := fun q => ht ⟨hx, q⟩
     simp; omega
   simp only [Bool.not_true, Bool.false_or, h2, Bool.true_or, cond_true, Bool.false_and, Bool.and_false, cond_false, Option.bind_some]
   rfl
theorem impl_roomStep {s : State} (hs : time s.now = true) (x : Run) (i : Nat) (v : Room) (k : Room → Option (Room × Bool)) : impl_RoomOf_b40 s x i v k = (roomStep s x v).bind fun y => bif !y.2 then some noRoom else k y.1 := by
 have hn := time_iff.1 hs
 unfold impl_RoomOf_b40 roomStep
 rw [impl_JobOk_eq, impl_moved_eq]
 cases hj : spec_JobOk x.job with
 | false =>
  have hd : diffOk v x.job x.nodes = false := by unfold diffOk; rw [hj]; simp
  rw [hd]; rfl
 | true =>
  have hj' := jobOk_iff.1 hj
  by_cases h1 : 0 ≤ x.t ∧ x.t ≤ s.now
  ·rw [w64_id (n := x.t + x.job.wall) (by omega), w64_id (n := s.now + 1) (by omega)]
   have e1 : impl_within x.t 0 s.now = true := by simp [impl_within]; exact h1
   have e2 : impl_within (x.t + x.job.wall) (s.now + 1) 1000000000 = (decide (s.now < x.t + x.job.wall) && decide (x.t + x.job.wall ≤ 1000000000)) := by
    unfold impl_within; congr 1
   have e3 : time x.t = true := by rw [time_iff]; omega
   unfold runOk
   rw [e1, e2, e3, show decide (x.t ≤ s.now) = true by simpa using h1.2]
   simp only [Bool.not_true, Bool.false_or, Bool.and_self, Bool.true_and]
   cases (decide (s.now < x.t + x.job.wall) && decide (x.t + x.job.wall ≤ 1000000000)) <;> cases diffOk v x.job x.nodes <;> rfl
  ·have e1 : impl_within x.t 0 s.now = false := by
    unfold impl_within; rw [Bool.eq_false_iff]; intro q; simp only [Bool.and_eq_true, decide_eq_true_eq] at q; exact h1 q
   have e2 : runOk s x = false := by
    unfold runOk; rw [Bool.eq_false_iff]; intro q; simp only [Bool.and_eq_true, decide_eq_true_eq, time_iff] at q; exact h1 ⟨q.1.1.1.1, q.1.1.2⟩
   rw [e1, e2]
   simp [noRoom]
noncomputable def roomLoop (s : State) : Option (Room × Bool) := rgl (fun x _ v k => (roomStep s x v).bind fun y => bif !y.2 then some noRoom else k y.1) (fun v => some (v, true)) s.runs 0 (emptyRoom s.topo s.up s.lic)
noncomputable def stateTop (s : State) : Bool := topoOk s.topo && decide (s.up.length = s.topo.nodes.length) && spec_VecOk s.lic && time s.now
theorem spec_RoomOf_eq (s : State) : spec_RoomOf s = bif stateTop s then roomLoop s else some noRoom := by
 unfold spec_RoomOf stateTop
 rw [spec_l06Empty_eq, Option.bind_some, spec_l01Time_eq]
 cases (topoOk s.topo && decide (s.up.length = s.topo.nodes.length) && spec_VecOk s.lic) with
 | false => rfl
 | true =>
  cases hs : time s.now with
  | false => rfl
  | true =>
   simp only [cond_true, Bool.not_true, Bool.or_self, cond_false, Bool.and_self]
   unfold roomLoop
   exact rgl_congr (fun i x b k _ => spec_roomStep hs x i b k) fun b => rfl
theorem impl_RoomOf_eq (s : State) : impl_RoomOf s = spec_RoomOf s := by
 rw [spec_RoomOf_eq]
 unfold impl_RoomOf stateTop
 rw [impl_TopoOk_eq, spec_TopoOk_eq, Option.bind_some, len_bne, impl_VecOk_eq, impl_isTime_eq]
 cases ht : topoOk s.topo with
 | false => rfl
 | true =>
 cases hu : decide (s.up.length = s.topo.nodes.length) with
 | false => rfl
 | true =>
 cases hl : spec_VecOk s.lic with
 | false => rfl
 | true =>
 cases hs : time s.now with
 | false => rfl
 | true =>
  simp only [Bool.not_true, Bool.or_self, cond_false, Bool.and_self, cond_true]
  rw [impl_empty_eq (topoOk_iff.1 ht) (of_decide_eq_true hu), Option.bind_some]
  unfold roomLoop
  exact rgl_congr (fun i x b k _ => impl_roomStep hs x i b k) fun b => rfl
/-- The runs' part of a state whose room is there. -/
structure RunsP (s : State) : Prop where
 job : ∀ x ∈ s.runs, spec_JobOk x.job = true ∧ (x.nodes.length : Int) = x.job.nodes ∧ nodesOk s.topo x.nodes = true ∧ x.nodes.Nodup ∧ runOk s x = true
theorem roomLoop_some {s : State} (h : stateTop s = true) : ∃ q, roomLoop s = some q ∧ (q.2 = true → RoomP q.1 ∧ q.1.topo = s.topo ∧ q.1.up = s.up ∧ RunsP s) := by
 unfold stateTop at h
 simp only [Bool.and_eq_true, decide_eq_true_eq, topoOk_iff] at h
 unfold roomLoop
 refine rgl_inv (fun i (v : Room) => RoomP v ∧ v.topo = s.topo ∧ v.up = s.up ∧ ∀ x ∈ s.runs.take i, spec_JobOk x.job = true ∧ (x.nodes.length : Int) = x.job.nodes ∧ nodesOk s.topo x.nodes = true ∧ x.nodes.Nodup ∧ runOk s x = true) (fun o => ∃ q : Room × Bool, o = some q ∧ (q.2 = true → RoomP q.1 ∧ q.1.topo = s.topo ∧ q.1.up = s.up ∧ RunsP s)) (fun i x v k hx hI hk => ?_) (fun v hI => ?_) ⟨emptyRoom_ok h.1.1.1 h.1.1.2 h.1.2, rfl, rfl, by simp⟩
 ·obtain ⟨h1, h2, h3, h4⟩ := hI
  unfold roomStep
  cases hd : (diffOk v x.job x.nodes && runOk s x) with
  | false => exact ⟨noRoom, rfl, fun h => by cases h⟩
  | true =>
   simp only [Bool.and_eq_true] at hd
   have hd1 := hd.1
   unfold diffOk at hd1
   simp only [Bool.and_eq_true, decide_eq_true_eq] at hd1
   obtain ⟨q, q1, q2⟩ := takeRoom_some h1 x.job.need x.job.lic s.now (x.t + x.job.wall) hd1.1.2
   simp only [cond_true]
   rw [q1, Option.bind_some]
   cases hq : q.2 with
   | false => exact ⟨noRoom, rfl, fun h => by cases h⟩
   | true =>
    obtain ⟨a1, a2, a3⟩ := q2 hq
    refine hk q.1 ⟨a1, a2.trans h2, a3.trans h3, fun y hy => ?_⟩
    obtain ⟨hi, rfl⟩ := List.getElem?_eq_some_iff.1 hx
    rw [List.take_succ_eq_append_getElem hi] at hy
    rcases List.mem_append.1 hy with hy | hy
    ·exact h4 y hy
    ·rw [List.mem_singleton.1 hy]
     exact ⟨hd1.1.1.1.2, hd1.1.1.2, by rw [← h2]; exact hd1.1.2, hd1.2, hd.2⟩
 ·obtain ⟨h1, h2, h3, h4⟩ := hI
  rw [List.take_of_length_le (Nat.le_refl _)] at h4
  exact ⟨_, rfl, fun _ => ⟨h1, h2, h3, ⟨h4⟩⟩⟩
theorem spec_RoomOf_some (s : State) : ∃ q, spec_RoomOf s = some q ∧ (q.2 = true → stateTop s = true ∧ RoomP q.1 ∧ q.1.topo = s.topo ∧ q.1.up = s.up ∧ RunsP s) := by
 rw [spec_RoomOf_eq]
 cases h : stateTop s with
 | false => exact ⟨noRoom, rfl, fun h => by cases h⟩
 | true =>
  obtain ⟨q, h1, h2⟩ := roomLoop_some h
  exact ⟨q, h1, fun h => ⟨rfl, h2 h⟩⟩
def allJobs (s : State) : List Job := s.queue ++ s.runs.map Run.job
theorem spec_l06Jobs_eq {s : State} (h : s.queue.length + s.runs.length ≤ 1048576) : spec_l06Jobs s = some (allJobs s) := by
 unfold spec_l06Jobs
 rw [appL_some (by simp; omega), Option.bind_some, rgl_gather (bd := spec_l06Jobs_b15) (bs := 88) (p := fun _ => true) (f := Run.job) (fun x hx i b k => rfl) (by simp; omega)]
 unfold spec_l06Jobs_k15 allJobs
 simp [List.filter_eq_self.2]
theorem impl_State_all_eq (s : State) : impl_State_all s = spec_l06Jobs s := rfl
def AscP (l : List Int) : Prop := ∀ (i : Nat) (x y : Int), l[i]? = some x → l[i + 1]? = some y → x < y
open Classical in
noncomputable def ascB (l : List Int) : Bool := decide (AscP l)
theorem ascB_iff {l : List Int} : ascB l = true ↔ AscP l := by unfold ascB; simp
theorem impl_areAscending_eq {l : List Int} (hl : l.length ≤ 1048576) : impl_areAscending l = some (ascB l) := by
 unfold impl_areAscending
 have h := whl_rgl (bd := impl_areAscending_b18 l) (fun (i : Nat) (_ : Unit) => ((i + 1 : Nat) : Int)) (n := l.length - 1)
  (B := fun x _ _ k => bif (match l[x]?, l[x + 1]? with | some a, some b => decide (b ≤ a) | _, _ => true) then some false else k ()) (kk := fun _ => some true) (fun i st k hi => by
   obtain ⟨a, ha⟩ : ∃ e, l[i]? = some e := ⟨_, List.getElem?_eq_getElem (by omega)⟩
   obtain ⟨b, hb⟩ : ∃ e, l[i + 1]? = some e := ⟨_, List.getElem?_eq_getElem (by omega)⟩
   have hlt : ((i + 1 : Nat) : Int) < (l.length : Int) := by omega
   simp only [impl_areAscending_b18, hlt, decide_true, cond_true, w64_pred (n := i + 1) (by omega) (by omega), Nat.add_sub_cancel, idx_ofNat, ha, hb, Option.bind_some, w64_nat (n := i + 1) (by omega)])
  (fun i st k hi => by
   have hlt : ¬ ((i + 1 : Nat) : Int) < (l.length : Int) := by omega
   simp only [impl_areAscending_b18, hlt, decide_false, cond_false]) 9223372036854775807 0 () (by omega)
 refine h.trans ?_
 rw [rgl_any (r := some false) (p := fun (x : Nat) => match l[x]?, l[x + 1]? with | some a, some b => decide (b ≤ a) | _, _ => true) (fun x _ i k => rfl)]
 cases hany : (List.range' 0 (l.length - 1 - 0)).any (fun (x : Nat) => match l[x]?, l[x + 1]? with | some a, some b => decide (b ≤ a) | _, _ => true) with
 | true =>
  obtain ⟨x, hx, hq⟩ := List.any_eq_true.1 hany
  obtain ⟨j, hj, rfl⟩ := List.mem_range'.1 hx
  obtain ⟨a, ha⟩ : ∃ e, l[0 + 1 * j]? = some e := ⟨_, List.getElem?_eq_getElem (by omega)⟩
  obtain ⟨b, hb⟩ : ∃ e, l[0 + 1 * j + 1]? = some e := ⟨_, List.getElem?_eq_getElem (by omega)⟩
  rw [ha, hb] at hq
  have : ascB l = false := by
   rw [Bool.eq_false_iff]
   intro q
   have := ascB_iff.1 q _ a b ha hb
   simp at hq; omega
  rw [this]; rfl
 | false =>
  have : ascB l = true := ascB_iff.2 fun i x y hx hy => by
   have hlt := (List.getElem?_eq_some_iff.1 hy).1
   have := List.any_eq_false.1 hany i (List.mem_range'.2 ⟨i, by omega, by omega⟩)
   rw [hx, hy] at this
   simpa using this
  rw [this]; rfl
noncomputable def lowN (t : Topo) (l : List Int) : Nat := ((spec_Lowest t l).getD 0).toNat
theorem lowN_eq {t : Topo} {l : List Int} (h : nodesOk t l = true) (hne : l ≠ []) : lowN t l < t.parents.length ∧ spec_Lowest t l = some (lowN t l : Int) ∧ impl_Lowest t l = some (lowN t l : Int) := by
 obtain ⟨s, h1, h2, h3⟩ := Lowest_topo h hne
 have : lowN t l = s := by unfold lowN; rw [h2]; simp
 rw [this]; exact ⟨h1, h2, h3⟩
def isUp (s : State) (n : Int) : Bool := (idx s.up n).getD false
noncomputable def runFit (s : State) (x : Run) : Bool := x.nodes.all (isUp s) && ascB x.nodes && decide (lev s.topo (lowN s.topo x.nodes) ≤ x.job.level)
def endOk (s : State) (e : End) : Bool := (decide (1 ≤ e.id) && decide (e.id ≤ 999)) && (decide (0 ≤ e.t) && decide (e.t ≤ s.now)) && (decide (1 ≤ e.why) && decide (e.why ≤ 4))
noncomputable def stateOk (s : State) : Bool := ((spec_RoomOf s).getD noRoom).2 && (decide (0 ≤ s.depth) && decide (s.depth ≤ 60)) && queueOk (allJobs s) && decide (s.ends.length ≤ 300) && s.runs.all (runFit s) && s.ends.all (endOk s)
theorem le_of_neg {a b : Int} : decide (b < a) = !decide (a ≤ b) := by rw [Bool.eq_iff_iff]; simp
theorem run_parts {s : State} (_ : TopoP s.topo) (hu : s.up.length = s.topo.nodes.length) (hR : RunsP s) {x : Run} (hx : x ∈ s.runs) :
  x.nodes ≠ [] ∧ nodesOk s.topo x.nodes = true ∧ x.nodes.length ≤ 24 ∧ ∀ n ∈ x.nodes, ∃ b, idx s.up n = some b := by
 obtain ⟨h1, h2, h3, _, _⟩ := hR.job x hx
 have hj := (jobOk_iff.1 h1).2.2.1
 refine ⟨fun e => by rw [e] at h2; simp at h2; omega, h3, by omega, fun n hn => ?_⟩
 have := (nodesOk_iff.1 h3).2 n hn
 obtain ⟨b, q, _⟩ := idx_some (l := s.up) (i := n) this.1 (by rw [hu]; exact this.2)
 exact ⟨b, q⟩
theorem spec_run {s : State} (hT : TopoP s.topo) (hu : s.up.length = s.topo.nodes.length) (hR : RunsP s) {x : Run} (hx : x ∈ s.runs) (k : Unit → Option Bool) (i : Nat) : spec_StateOk_b51 s x i () k = bif !runFit s x then some false else k () := by
 obtain ⟨h1, h2, h3, h4⟩ := run_parts hT hu hR hx
 obtain ⟨l1, l2, l3⟩ := lowN_eq h2 h1
 unfold spec_StateOk_b51
 have hk : spec_StateOk_k34 s x k () = bif decide (lev s.topo (lowN s.topo x.nodes) ≤ x.job.level) then k () else some false := by
  unfold spec_StateOk_k34
  rw [l2, Option.bind_some, spec_l02Level_topo hT l1, Option.bind_some, le_of_neg]
  cases decide (lev s.topo (lowN s.topo x.nodes) ≤ x.job.level) <;> rfl
 have : rgl (spec_StateOk_b34 s x) (spec_StateOk_k34 s x k) x.nodes 0 () = bif x.nodes.all (isUp s) && ascB x.nodes then spec_StateOk_k34 s x k () else some false := by
  refine rgl_inv (fun i (_ : Unit) => (∀ j n, j < i → x.nodes[j]? = some n → isUp s n = true) ∧ ∀ j a b, j + 1 < i → x.nodes[j]? = some a → x.nodes[j + 1]? = some b → a < b) (fun o => o = bif x.nodes.all (isUp s) && ascB x.nodes then spec_StateOk_k34 s x k () else some false) (fun i n b kc hi hI hkc => ?_) (fun b hI => ?_) ⟨fun j n h => by omega, fun j a b h => by omega⟩
  ·have hil := (List.getElem?_eq_some_iff.1 hi).1
   obtain ⟨u, hu'⟩ := h4 n (List.mem_of_getElem? hi)
   have hup : isUp s n = u := by unfold isUp; rw [hu']; rfl
   unfold spec_StateOk_b34
   rw [hu', Option.bind_some]
   cases u with
   | false =>
    have : x.nodes.all (isUp s) = false := List.all_eq_false.2 ⟨n, List.mem_of_getElem? hi, by rw [hup]; simp⟩
    rw [this]; rfl
   | true =>
    have new : ∀ j m, j < i + 1 → x.nodes[j]? = some m → isUp s m = true := by
     intro j m hj hm
     by_cases e : j = i
     ·subst e; rw [hi] at hm; cases hm; exact hup
     ·exact hI.1 j m (by omega) hm
    by_cases h0 : i = 0
    ·subst h0
     exact hkc () ⟨new, fun j a b hj => by omega⟩
    ·have hgt : decide ((0 : Int) < (i : Int)) = true := by simp; omega
     obtain ⟨q, hq⟩ : ∃ q, x.nodes[i - 1]? = some q := ⟨_, List.getElem?_eq_getElem (by omega)⟩
     rw [hgt, w64_pred (by omega) (by omega)]
     simp only [Bool.not_true, cond_false, cond_true, Bool.false_or, Bool.true_and, idx_ofNat, hq, Option.bind_some]
     by_cases h5 : n ≤ q
     ·have : ascB x.nodes = false := by
       rw [Bool.eq_false_iff]
       intro w
       have := ascB_iff.1 w (i - 1) q n hq (by rw [show i - 1 + 1 = i by omega]; exact hi)
       omega
      rw [this, Bool.and_false]; simp [h5]
     ·simp only [h5, decide_false, cond_false]
      refine hkc () ⟨new, fun j a b hj ha hb => ?_⟩
      by_cases e : j + 1 = i
      ·have : j = i - 1 := by omega
       subst this
       rw [hq] at ha; cases ha
       rw [show i - 1 + 1 = i by omega, hi] at hb; cases hb
       omega
      ·exact hI.2 j a b (by omega) ha hb
  ·have e1 : x.nodes.all (isUp s) = true := List.all_eq_true.2 fun n hn => by
    obtain ⟨j, hj⟩ := List.getElem?_of_mem hn
    exact hI.1 j n (List.getElem?_eq_some_iff.1 hj).1 hj
   have e2 : ascB x.nodes = true := ascB_iff.2 fun j a b ha hb => hI.2 j a b (List.getElem?_eq_some_iff.1 hb).1 ha hb
   rw [e1, e2]; rfl
 rw [this, hk]
 unfold runFit
 cases x.nodes.all (isUp s) <;> cases ascB x.nodes <;> cases decide (lev s.topo (lowN s.topo x.nodes) ≤ x.job.level) <;> rfl
theorem impl_run {s : State} (hT : TopoP s.topo) (hu : s.up.length = s.topo.nodes.length) (hR : RunsP s) {x : Run} (hx : x ∈ s.runs) (k : Unit → Option Bool) (i : Nat) : impl_StateOk_b52 s x i () k = bif !runFit s x then some false else k () := by
 obtain ⟨h1, h2, h3, h4⟩ := run_parts hT hu hR hx
 obtain ⟨l1, l2, l3⟩ := lowN_eq h2 h1
 unfold impl_StateOk_b52
 rw [rgl_any (r := some false) (p := fun n => !isUp s n) (fun n hn i k => by
  obtain ⟨u, hu'⟩ := h4 n hn
  unfold impl_StateOk_b35 isUp
  rw [hu', Option.bind_some]; rfl), ← List.not_all_eq_any_not]
 unfold impl_StateOk_k35
 rw [impl_areAscending_eq (by omega), Option.bind_some]
 unfold runFit
 cases x.nodes.all (isUp s) with
 | false => rfl
 | true =>
 cases ascB x.nodes with
 | false => rfl
 | true =>
  simp only [Bool.not_true, cond_false, l3, Option.bind_some, impl_level_topo hT l1, Bool.false_or, Bool.true_and, le_of_neg]
theorem StateOk_eq {s : State} (hs : s.queue.length + s.runs.length ≤ 1048576) : spec_StateOk s = some (stateOk s) ∧ impl_StateOk s = some (stateOk s) := by
 obtain ⟨q, h1, h2⟩ := spec_RoomOf_some s
 unfold spec_StateOk impl_StateOk stateOk
 rw [impl_RoomOf_eq, h1, Option.bind_some, Option.bind_some, impl_State_all_eq, spec_l06Jobs_eq hs, Option.getD_some]
 have e1 : (decide (s.depth < 0) || decide (60 < s.depth)) = !(decide (0 ≤ s.depth) && decide (s.depth ≤ 60)) := by rw [Bool.eq_iff_iff]; simp
 have e2 : impl_within s.depth 0 60 = (decide (0 ≤ s.depth) && decide (s.depth ≤ 60)) := rfl
 have e3 : decide ((300 : Int) < (s.ends.length : Int)) = !decide (s.ends.length ≤ 300) := by rw [Bool.eq_iff_iff]; simp; omega
 rw [Bool.or_assoc, e1, e2, e3]
 cases hq : q.2 with
 | false => exact ⟨rfl, rfl⟩
 | true =>
 obtain ⟨a1, a2, a3, a4, a5⟩ := h2 hq
 have hT : TopoP s.topo := by rw [← a3]; exact a2.topo
 have hu : s.up.length = s.topo.nodes.length := by rw [← a3, ← a4]; exact a2.up
 cases (decide (0 ≤ s.depth) && decide (s.depth ≤ 60)) with
 | false => exact ⟨rfl, rfl⟩
 | true =>
 simp only [Bool.not_true, Bool.or_self, cond_false, Option.bind_some, spec_QueueOk_eq, impl_QueueOk_eq, Bool.false_or, Bool.true_and]
 cases queueOk (allJobs s) with
 | false => exact ⟨rfl, rfl⟩
 | true =>
 cases decide (s.ends.length ≤ 300) with
 | false => exact ⟨rfl, rfl⟩
 | true =>
 simp only [Bool.not_true, Bool.or_self, cond_false, Bool.true_and]
 rw [rgl_any (r := some false) (p := fun x => !runFit s x) (fun x hx i k => spec_run hT hu a5 hx k i), rgl_any (r := some false) (p := fun x => !runFit s x) (fun x hx i k => impl_run hT hu a5 hx k i), ← List.not_all_eq_any_not]
 unfold spec_StateOk_k51 impl_StateOk_k52
 have f1 : ∀ e : End, ((((((decide (e.id < 1)) || (decide (999 < e.id))) || (decide (e.t < 0))) || (decide (s.now < e.t))) || (decide (e.why < 1))) || (decide (4 < e.why))) = !endOk s e := by
  intro e; unfold endOk; rw [Bool.eq_iff_iff]; simp; omega
 have f2 : ∀ e : End, (((!(impl_within e.id 1 999)) || (!(impl_within e.t 0 s.now))) || (!(impl_within e.why 1 4))) = !endOk s e := by
  intro e; unfold endOk impl_within
  cases (decide (1 ≤ e.id) && decide (e.id ≤ 999)) <;> cases (decide (0 ≤ e.t) && decide (e.t ≤ s.now)) <;> cases (decide (1 ≤ e.why) && decide (e.why ≤ 4)) <;> rfl
 rw [rgl_any (bd := spec_StateOk_b73 s) (r := some false) (p := fun e => !endOk s e) (fun e he i k => by unfold spec_StateOk_b73; rw [f1]), rgl_any (bd := impl_StateOk_b74 s) (r := some false) (p := fun e => !endOk s e) (fun e he i k => by unfold impl_StateOk_b74; rw [f2]), ← List.not_all_eq_any_not]
 unfold spec_StateOk_k73 impl_StateOk_k74
 cases s.runs.all (runFit s) <;> cases s.ends.all (endOk s) <;> exact ⟨rfl, rfl⟩
/-- What is known of a right state. -/
structure StateP (s : State) : Prop where
 topo : TopoP s.topo
 up : s.up.length = s.topo.nodes.length
 lic : spec_VecOk s.lic = true
 now : time s.now = true
 room : ∃ r, spec_RoomOf s = some (r, true) ∧ RoomP r ∧ r.topo = s.topo ∧ r.up = s.up
 runs : RunsP s
 depth : 0 ≤ s.depth ∧ s.depth ≤ 60
 queue : queueOk (allJobs s) = true
 ends : s.ends.length ≤ 300
 fit : ∀ x ∈ s.runs, runFit s x = true
 fin : ∀ e ∈ s.ends, endOk s e = true
theorem stateOk_P {s : State} (h : stateOk s = true) : StateP s := by
 obtain ⟨q, h1, h2⟩ := spec_RoomOf_some s
 unfold stateOk at h
 rw [h1, Option.getD_some] at h
 simp only [Bool.and_eq_true, decide_eq_true_eq, List.all_eq_true] at h
 obtain ⟨⟨⟨⟨⟨a1, a2⟩, a3⟩, a4⟩, a5⟩, a6⟩ := h
 obtain ⟨b1, b2, b3, b4, b5⟩ := h2 a1
 unfold stateTop at b1
 simp only [Bool.and_eq_true, decide_eq_true_eq, topoOk_iff] at b1
 exact ⟨b1.1.1.1, b1.1.1.2, b1.1.2, b1.2, ⟨q.1, by rw [h1, ← a1], b2, b3, b4⟩, b5, a2, a3, a4, a5, a6⟩
end Go.Proofs.YtndemhaoilhbbaaGreat
