/-
  Lemmas, part 8: the engine that steps through the code, the walks of functions, and the laws of what they compute.
-/
import Derived.Test.YtndemhaoilhbbaaGreatCB7
namespace Go.Proofs.YtndemhaoilhbbaaGreat
open Go Go.RowKit Eng
def Z4f : L :=
sR [.bx 1 (.t 0),.mv 2 (cB false)]
 (.seq (sR [fA 5 1 0,lD 6 5 1 false,.ln 7 (.t 6),.bi 8 .lss (.t 7) (kI 1),mV 9 8,.g 9 false (fA 10 1 0),.g 9 false (lD 11 10 1 false),.g 9 false (.ln 12 (.t 11)),.g 9 false (.bi 13 .gtr (.t 12) (kI 200)),.pk 14 (.t 9) (cB true) (.t 13),mV 15 14,.g 15 false (fA 16 1 0),.g 15 false (lD 17 16 1 false),.g 15 false (.ia 18 (.t 17) (kI 0) 4),.g 15 false (fA 19 18 0),.g 15 false (lD 20 19 1 false),.g 15 false (.bi 21 .neq (.t 20) (kI 0)),.pk 22 (.t 15) (cB true) (.t 21)]
 (.cond (.t 22) (.seq (rE 2 (cB false))
 gR)
 .skip))
 (.seq (sR [fA 23 1 0,lD 24 23 1 false,.ln 25 (.t 24),.mv 26 (kI 0)]
 (.blk 0 (.loop (.gw (sR [bI 27 .lss 26 25]
 (.seq (.cond (.t 27) .skip
 (.exit 0))
 (.seq (.blk 1 (sR [mV 28 26,iA 29 24 26 4,lD 30 29 4 true,.al 4 [.int .i64 0, .int .i64 0, .int .i64 0, .int .i64 0],mV 3 28,.st (.t 4) (.t 30) 4]
 (.seq (.rq 38 [fA 31 4 0,lD 32 31 1 false,cQ 33 ZT [32],.un 34 (.t 33),mV 35 34,.g 35 false (fA 36 4 1),.g 35 false (lD 37 36 3 true),.g 35 false (cQ 38 Zn [37]),.g 35 false (.un 39 (.t 38)),.pk 40 (.t 35) (cB true) (.t 39),mV 41 40,.g 41 false (mV 42 3),.g 41 false (.bi 43 .gtr (.t 42) (kI 0)),.g 41 false (mV 44 43),.g 44 true (fA 45 1 0),.g 44 true (lD 46 45 1 false),.g 44 true (mV 47 3),.g 44 true (.bi 48 .sub (.t 47) (kI 1)),.g 44 true (iA 49 46 48 4),.g 44 true (fA 50 49 0),.g 44 true (lD 51 50 1 false),.g 44 true (fA 52 4 0),.g 44 true (lD 53 52 1 false),.g 44 true (bI 54 .geq 51 53),.g 44 true (mV 55 54),.g 55 false (fA 56 1 0),.g 55 false (lD 57 56 1 false),.g 55 false (mV 58 3),.g 55 false (.bi 59 .sub (.t 58) (kI 1)),.g 55 false (iA 60 57 59 4),.g 55 false (fA 61 60 1),.g 55 false (lD 62 61 3 true),.g 55 false (fA 63 4 1),.g 55 false (lD 64 63 3 true),.g 55 false (.es 65 false [0, 0, 0] (.t 62) (.t 64)),.g 44 true (.pk 66 (.t 55) (cB true) (.t 65)),.g 41 false (.pk 67 (.t 44) (.t 66) (cB false)),.pk 68 (.t 41) (cB true) (.t 67)])
 (.cond (.t 68) (.seq (rE 2 (cB false))
 gR)
 .skip))))
 (.reg [.bi 69 .add (.t 26) (kI 1),mV 26 69]))))))))
 (.seq (rE 2 (cB true))
 gR)))
def Zj5 (p1 : List Pt) (x5 : Pt) (i5 : Nat) (_ : Unit) (k5 : Unit -> Option Bool) : Option Bool :=
 (bif ((!(spec_l01Time x5.t)) || (!(spec_VecOk x5.free))) then some default else (bif (decide (0 < (i5 : Int))) then (idx p1 (w64 ((i5 : Int) - 1))) else some default)).bind fun e6 => (bif ((!(spec_l01Time x5.t)) || (!(spec_VecOk x5.free))) then some default else (bif (decide (0 < (i5 : Int))) then (bif (decide (x5.t <= e6.t)) then some default else (idx p1 (w64 ((i5 : Int) - 1)))) else some default)).bind fun e7 => bif (((!(spec_l01Time x5.t)) || (!(spec_VecOk x5.free))) || ((decide (0 < (i5 : Int))) && ((decide (x5.t <= e6.t)) || (e7.free.a == x5.free.a && (e7.free.b == x5.free.b && (e7.free.c == x5.free.c && true)))))) then (some false) else (k5 ())
def Zh8 (_ : Unit) : Option Bool :=
 some true
def spec_ProfOk (p1 : List Pt) : Option Bool :=
 (bif ((decide ((p1.length : Int) < 1)) || (decide (200 < (p1.length : Int)))) then some default else (idx p1 0)).bind fun e2 => bif (((decide ((p1.length : Int) < 1)) || (decide (200 < (p1.length : Int)))) || (e2.t != 0)) then (some false) else (rgl (Zj5 p1) Zh8 p1 0 ())
theorem Z14 {p1 : List Pt} {r : Bool} (H : spec_ProfOk p1 = some r) : Snd Tryz.prog Zz3 [.agg [.sl .rd 4 (p1.map ePt)]] (.bool r) [] := by
 refine wS Z4f [.t 2] ?_
 unfold spec_ProfOk at H
 obtain ⟨e2, h2, H⟩ := bB H
 refine wG [.u 7 (.ln _ _ fun _ => lm p1 ePt), .g 12 [((decide ((p1.length : Int) < 1)), false)] (.ln _ _ fun _ => lm p1 ePt), .g 18 [(_, false)] (.ix _ _ _ fun q => Z0 ePt (bF q.1 h2))] fun q3 => ?_
 refine Wh_iH H (fun H => ?_) fun H => ?_
 .refine wP ?_
  replace H := sI H; subst H
  exact wE [(2, .d)]
 .refine wG [.u 25 (.ln _ _ fun _ => lm p1 ePt)] fun q4 => ?_
  refine wR (fun (i5 : Nat) (v5 : Unit) => ⟨[(1, .ptr 1 0), (24, .sl .rd 4 (p1.map ePt)), (25, .int .i64 (p1.length : Int)), (26, .int .i64 (i5 : Int))], [], [(1, [.sl .rd 4 (p1.map ePt)])], []⟩) H (fun i5 x5 v5 I m k5 hxv5 hiv5 H N27 => ?_) (fun v5 I m H => ?_)
  .unfold Zj5 at H
   refine wP ?_
   refine wt (ltT hiv5) ?_
   obtain ⟨e6, h6, H⟩ := bB H
   obtain ⟨e7, h7, H⟩ := bB H
   refine wG [.u 29 (.ix _ _ _ fun _ => Z0 ePt (Z3 hxv5)), .c 33 (Zk1 x5.t), .g 38 [((!(spec_l01Time x5.t)), false)] (.call _ _ _ _ _ (AEs.refl _) (fun _ => Zp x5.free)), .g 49 [(_, true), (_, false)] (.ix _ _ _ fun q => Z0 ePt (bT q.1 (bF q.2.1 h6))), .g 60 [(_, false), (_, true), (_, false)] (.ix _ _ _ fun q => Z0 ePt (bF q.1 (bT q.2.1 (bF q.2.2.1 h7))))] fun _ => ?_
   refine Wh_iH H (fun H => ?_) fun H => ?_
   .refine wP ?_
    replace H := sI H; subst H
    exact wE [(2, .d)]
   .refine wG [.w 69 (wi .i64 rfl hiv5 q3.1)] fun _ => ?_
    exact wT (N27 () H)
  .unfold Zh8 at H
   refine wP ?_
   refine wf (ltF p1.length) ?_
   refine wP ?_
   replace H := sI H; subst H
   exact wE [(2, .d)]
def ZFd : L :=
sR [.bx 1 (.t 0),.al 2 [.nl],.mv 3 (cB false)]
 (.seq (sR [lD 4 1 3 true,cQ 5 Zn [4],.un 6 (.t 5)]
 (.cond (.t 6) (sR [.bd 7 [.nl] [],.st (.t 2) (.t 7) 1,.mv 3 (cB false)]
 gR)
 .skip))
 (sR [lD 8 1 3 true,.bd 9 [.int .i64 0, .int .i64 0, .int .i64 0, .int .i64 0] [(1, 3, (.t 8))],.bs 10 4 [(.t 9)] true,.bd 11 [.nl] [(0, 1, (.t 10))],.st (.t 2) (.t 11) 1,.mv 3 (cB true)]
 gR))
def Z24 (v1 : Vec) : Option ((List Pt) × Bool) :=
 bif (!(spec_VecOk v1)) then (some ([], false)) else (some ([(Pt.mk 0 v1)], true))
theorem ZPa {v1 : Vec} {r : (List Pt) × Bool} (H : Z24 v1 = some r) : Snd Tryz.prog Z94 [eVec v1] (.tup [Zk .nw r.1, .bool r.2]) [] := by
 refine wS ZFd [.c 2 1 true, .t 3] ?_
 unfold Z24 at H
 refine wG [.c 5 (Zp v1)] fun _ => ?_
 refine Wh_iH H (fun H => ?_) fun H => ?_
 .refine wP ?_
  replace H := sI H; subst H
  exact wN [(2, .d), (3, .d)] [(2, [.n 4])] [] [] [] [⟨_, nw_Pt ([] : List Pt)⟩]
 .refine wP ?_
  replace H := sI H; subst H
  exact wN [(2, .d), (3, .d)] [(2, [.f])] [] [10] [] [⟨_, nw_Pt [(Pt.mk 0 v1)]⟩]
def spec_ProfNew (v1 : Vec) : (List Pt) × Bool :=
 bif (!(spec_VecOk v1)) then (([], false)) else (([(Pt.mk 0 v1)], true))
theorem Zwe (v1 : Vec) : Z24 v1 = some (spec_ProfNew v1) := by
 unfold Z24 spec_ProfNew
 first | rfl | simp only [Zg]
theorem Zj8 (v1 : Vec) : Snd Tryz.prog Z94 [eVec v1] (.tup [Zk .nw ((spec_ProfNew v1).1), .bool ((spec_ProfNew v1).2)]) [] := ZPa (Zwe v1)
def ZVg : L :=
sR [.bx 2 (.t 0),.al 4 [.int .i64 0, .int .i64 0, .int .i64 0]]
 (sR [.bd 8 [.int .i64 0, .int .i64 0, .int .i64 0] [],.al 5 [.int .i64 0, .int .i64 0, .int .i64 0],.st (.t 5) (.t 8) 3]
 (.seq (sR [fA 9 2 0,lD 10 9 1 false,.ln 11 (.t 10),.mv 12 (kI 0)]
 (.blk 0 (.loop (.gw (sR [bI 13 .lss 12 11]
 (.seq (.cond (.t 13) .skip
 (.exit 0))
 (.seq (.blk 1 (sR [iA 14 10 12 4,lD 15 14 4 true,.al 7 [.int .i64 0, .int .i64 0, .int .i64 0, .int .i64 0],.st (.t 7) (.t 15) 4]
 (sR [fA 16 7 0,lD 17 16 1 false,mV 18 1,bI 19 .leq 17 18]
 (.cond (.t 19) (.reg [fA 20 7 1,lD 21 20 3 true,.st (.t 5) (.t 21) 3])
 .skip))))
 (.reg [.bi 22 .add (.t 12) (kI 1),mV 12 22]))))))))
 (sR [lD 23 5 3 true,.st (.t 4) (.t 23) 3]
 gR)))
def Zj6 (t2 : Int) (x4 : Pt) (_ : Nat) (v4 : Vec) (k4 : Vec -> Option Vec) : Option Vec :=
 bif (decide (x4.t <= t2)) then (k4 x4.free) else (k4 v4)
def Zd9 (v4 : Vec) : Option Vec :=
 some v4
def spec_l03At (p1 : List Pt) (t2 : Int) : Option Vec :=
 rgl (Zj6 t2) Zd9 p1 0 (Vec.mk 0 0 0)
theorem ZY9 {p1 : List Pt} {t2 : Int} {r : Vec} (H : spec_l03At p1 t2 = some r) : Snd Tryz.prog ZN8 [.agg [.sl .rd 4 (p1.map ePt)], .int .i64 t2] (eVec r) [] := by
 refine wS ZVg [.c 4 3 true] ?_
 unfold spec_l03At at H
 refine wG [.u 11 (.ln _ _ fun _ => lm p1 ePt)] fun q3 => ?_
 refine wR (fun (i4 : Nat) (v4 : Vec) => ⟨[(1, .int .i64 t2), (4, .ptr 4 0), (5, .ptr 5 0), (10, .sl .rd 4 (p1.map ePt)), (11, .int .i64 (p1.length : Int)), (12, .int .i64 (i4 : Int))], [], [(4, (eVec (Vec.mk 0 0 0)).cells), (5, (eVec v4).cells)], []⟩) H (fun i4 x4 v4 I m k4 hxv4 hiv4 H N19 => ?_) (fun v4 I m H => ?_)
 .unfold Zj6 at H
  refine wP ?_
  refine wt (ltT hiv4) ?_
  refine wG [.u 14 (.ix _ _ _ fun _ => Z0 ePt (Z3 hxv4))] fun _ => ?_
  refine Wh_iH H (fun H => ?_) fun H => ?_
  .refine wG [.w 22 (wi .i64 rfl hiv4 q3.1)] fun _ => ?_
   exact wT (N19 _ H)
  .refine wG [.w 22 (wi .i64 rfl hiv4 q3.1)] fun _ => ?_
   exact wT (N19 _ H)
 .unfold Zd9 at H
  refine wP ?_
  refine wf (ltF p1.length) ?_
  refine wP ?_
  replace H := sI H; subst H
  exact wN [(4, .d)] [(4, [])] [] [] [] []
def ZGd : L :=
sR [.bx 3 (.t 0),.al 6 [.int .i64 0, .int .i64 0, .int .i64 0],.mv 7 (cB false)]
 (.seq (sR [lD 11 3 1 true,cQ 12 Zz3 [11],.un 13 (.t 12),mV 14 13,.g 14 false (mV 15 1),.g 14 false (cQ 16 ZT [15]),.g 14 false (.un 17 (.t 16)),.pk 18 (.t 14) (cB true) (.t 17),mV 19 18,.g 19 false (mV 20 2),.g 19 false (cQ 21 ZT [20]),.g 19 false (.un 22 (.t 21)),.pk 23 (.t 19) (cB true) (.t 22),mV 24 23,.g 24 false (mV 25 1),.g 24 false (mV 26 2),.g 24 false (bI 27 .geq 25 26),.pk 28 (.t 24) (cB true) (.t 27)]
 (.cond (.t 28) (sR [.bd 29 [.int .i64 0, .int .i64 0, .int .i64 0] [],.st (.t 6) (.t 29) 3,.mv 7 (cB false)]
 gR)
 .skip))
 (sR [lD 30 3 1 true,mV 31 1,cQ 32 ZN8 [30, 31],.al 8 [.int .i64 0, .int .i64 0, .int .i64 0],.st (.t 8) (.t 32) 3]
 (.seq (sR [fA 33 3 0,lD 34 33 1 false,.ln 35 (.t 34),.mv 36 (kI 0)]
 (.blk 0 (.loop (.gw (sR [bI 37 .lss 36 35]
 (.seq (.cond (.t 37) .skip
 (.exit 0))
 (.seq (.blk 1 (sR [iA 38 34 36 4,lD 39 38 4 true,.al 10 [.int .i64 0, .int .i64 0, .int .i64 0, .int .i64 0],.st (.t 10) (.t 39) 4]
 (sR [fA 40 10 0,lD 41 40 1 false,mV 42 1,bI 43 .geq 41 42,mV 44 43,.g 44 true (fA 45 10 0),.g 44 true (lD 46 45 1 false),.g 44 true (mV 47 2),.g 44 true (bI 48 .lss 46 47),.pk 49 (.t 44) (.t 48) (cB false)]
 (.cond (.t 49) (.reg [lD 50 8 3 true,fA 51 10 1,lD 52 51 3 true,cQ 53 Zw7 [50, 52],.st (.t 8) (.t 53) 3])
 .skip))))
 (.reg [.bi 54 .add (.t 36) (kI 1),mV 36 54]))))))))
 (sR [lD 55 8 3 true,.st (.t 6) (.t 55) 3,.mv 7 (cB true)]
 gR))))
def Zp4 (from2 : Int) (to3 : Int) (x7 : Pt) (_ : Nat) (v7 : Vec) (k7 : Vec -> Option (Vec × Bool)) : Option (Vec × Bool) :=
 bif ((decide (from2 <= x7.t)) && (decide (x7.t < to3))) then (k7 (spec_VecMin v7 x7.free)) else (k7 v7)
def ZR7 (v7 : Vec) : Option (Vec × Bool) :=
 some (v7, true)
def spec_ProfMin (p1 : List Pt) (from2 : Int) (to3 : Int) : Option (Vec × Bool) :=
 (spec_ProfOk p1).bind fun b4 => bif ((((!b4) || (!(spec_l01Time from2))) || (!(spec_l01Time to3))) || (decide (to3 <= from2))) then (some ((Vec.mk 0 0 0), false)) else ((spec_l03At p1 from2).bind fun y5 => rgl (Zp4 from2 to3) ZR7 p1 0 y5)
theorem ZUc {p1 : List Pt} {from2 : Int} {to3 : Int} {r : Vec × Bool} (H : spec_ProfMin p1 from2 to3 = some r) : Snd Tryz.prog Zu9 [.agg [.sl .rd 4 (p1.map ePt)], .int .i64 from2, .int .i64 to3] (.tup [eVec r.1, .bool r.2]) [] := by
 refine wS ZGd [.c 6 3 true, .t 7] ?_
 unfold spec_ProfMin at H
 obtain ⟨b4, h4, H⟩ := bB H
 refine wG [.c 12 (Z14 h4), .g 16 [((!b4), false)] (.call _ _ _ _ _ (AEs.refl _) (fun _ => Zk1 from2)), .g 21 [(((!b4) || (!(spec_l01Time from2))), false)] (.call _ _ _ _ _ (AEs.refl _) (fun _ => Zk1 to3))] fun _ => ?_
 refine Wh_iH H (fun H => ?_) fun H => ?_
 .refine wP ?_
  replace H := sI H; subst H
  exact wN [(6, .d), (7, .d)] [(6, [])] [] [] [] []
 .obtain ⟨y5, h5, H⟩ := bB H
  refine wG [.c 32 (ZY9 h5), .u 35 (.ln _ _ fun _ => lm p1 ePt)] fun q6 => ?_
  refine wR (fun (i7 : Nat) (v7 : Vec) => ⟨[(1, .int .i64 from2), (2, .int .i64 to3), (6, .ptr 6 0), (8, .ptr 8 0), (34, .sl .rd 4 (p1.map ePt)), (35, .int .i64 (p1.length : Int)), (36, .int .i64 (i7 : Int))], [], [(6, (eVec (Vec.mk 0 0 0)).cells), (8, (eVec v7).cells)], []⟩) H (fun i7 x7 v7 I m k7 hxv7 hiv7 H N26 => ?_) (fun v7 I m H => ?_)
  .unfold Zp4 at H
   refine wP ?_
   refine wt (ltT hiv7) ?_
   refine wG [.u 38 (.ix _ _ _ fun _ => Z0 ePt (Z3 hxv7))] fun _ => ?_
   refine Wh_iH H (fun H => ?_) fun H => ?_
   .refine wG [.c 53 (Zqe v7 x7.free), .w 54 (wi .i64 rfl hiv7 q6.1)] fun _ => ?_
    exact wT (N26 _ H)
   .refine wG [.w 54 (wi .i64 rfl hiv7 q6.1)] fun _ => ?_
    exact wT (N26 _ H)
  .unfold ZR7 at H
   refine wP ?_
   refine wf (ltF p1.length) ?_
   refine wP ?_
   replace H := sI H; subst H
   exact wN [(6, .d), (7, .d)] [(6, [])] [] [] [] []
def Zac : L :=
sR [.bx 3 (.t 0),.mv 6 (.c (.nl))]
 (sR [.bs 16 1 [] true,mV 7 16]
 (.seq (sR [fA 17 3 0,lD 18 17 1 false,.ln 19 (.t 18),.mv 20 (kI 0)]
 (.blk 0 (.loop (.gw (sR [bI 21 .lss 20 19]
 (.seq (.cond (.t 21) .skip
 (.exit 0))
 (.seq (.blk 1 (sR [iA 22 18 20 4,lD 23 22 4 true,.al 9 [.int .i64 0, .int .i64 0, .int .i64 0, .int .i64 0],.st (.t 9) (.t 23) 4]
 (.reg [mV 24 7,fA 25 9 0,lD 26 25 1 false,.bs 27 1 [(.t 26)] false,.ap 28 (.t 24) (.t 27) 1 8,mV 7 28])))
 (.reg [.bi 29 .add (.t 20) (kI 1),mV 20 29]))))))))
 (.seq (sR [mV 30 1,mV 31 2,.bs 32 1 [(.t 30), (.t 31)] false,.ln 33 (.t 32),.mv 34 (kI 0)]
 (.blk 2 (.loop (.gw (sR [bI 35 .lss 34 33]
 (.seq (.cond (.t 35) .skip
 (.exit 2))
 (.seq (.blk 3 (sR [iA 36 32 34 1,lD 37 36 1 false,mV 11 37]
 (sR [.bs 38 1 [] true,mV 12 38]
 (.seq (rE 13 (cB false))
 (.seq (sR [mV 39 7,.ln 40 (.t 39),.mv 41 (kI 0)]
 (.blk 4 (.loop (.gw (sR [bI 42 .lss 41 40]
 (.seq (.cond (.t 42) .skip
 (.exit 4))
 (.seq (.blk 5 (sR [iA 43 39 41 1,lD 44 43 1 false,mV 15 44]
 (.seq (sR [mV 45 13,.un 46 (.t 45),mV 47 46,.g 47 true (mV 48 11),.g 47 true (mV 49 15),.g 47 true (bI 50 .leq 48 49),.pk 51 (.t 47) (.t 50) (cB false)]
 (.cond (.t 51) (sR [mV 52 12,mV 53 11,.bs 54 1 [(.t 53)] false,.ap 55 (.t 52) (.t 54) 1 8,mV 12 55]
 (rE 13 (cB true)))
 .skip))
 (.gw (sR [mV 56 15,mV 57 11,bI 58 .neq 56 57]
 (.cond (.t 58) (.reg [mV 59 12,mV 60 15,.bs 61 1 [(.t 60)] false,.ap 62 (.t 59) (.t 61) 1 8,mV 12 62])
 .skip))))))
 (.reg [.bi 63 .add (.t 41) (kI 1),mV 41 63]))))))))
 (.seq (sR [mV 64 13,.un 65 (.t 64)]
 (.cond (.t 65) (.reg [mV 66 12,mV 67 11,.bs 68 1 [(.t 67)] false,.ap 69 (.t 66) (.t 68) 1 8,mV 12 69])
 .skip))
 (.reg [mV 70 12,mV 7 70])))))))
 (.reg [.bi 71 .add (.t 34) (kI 1),mV 34 71]))))))))
 (sR [mV 72 7,mV 6 72]
 gR))))
def ZD1 (x8 : Int) (x10 : Int) (k10 : (Bool × (List Int)) -> Option (List Int)) (v12 : Bool × (List Int)) : Option (List Int) :=
 bif (x10 != x8) then ((appL 8 v12.2 [x10]).bind fun xs13 => k10 (v12.1, xs13)) else (k10 (v12.1, v12.2))
def Zo2 (x8 : Int) (x10 : Int) (_ : Nat) (v10 : Bool × (List Int)) (k10 : (Bool × (List Int)) -> Option (List Int)) : Option (List Int) :=
 bif ((!v10.1) && (decide (x8 <= x10))) then ((appL 8 v10.2 [x8]).bind fun xs11 => (ZD1 x8 x10 k10) (true, xs11)) else ((ZD1 x8 x10 k10) (v10.1, v10.2))
def Zm2 (x8 : Int) (k8 : (List Int) -> Option (List Int)) (v10 : Bool × (List Int)) : Option (List Int) :=
 bif (!v10.1) then ((appL 8 v10.2 [x8]).bind fun xs14 => k8 xs14) else (k8 v10.2)
def Zn2 (x8 : Int) (_ : Nat) (v8 : (List Int)) (k8 : (List Int) -> Option (List Int)) : Option (List Int) :=
 rgl (Zo2 x8) (Zm2 x8 k8) v8 0 (false, [])
def ZL6 (v8 : (List Int)) : Option (List Int) :=
 some v8
def ZK3 (x5 : Pt) (_ : Nat) (v5 : (List Int)) (k5 : (List Int) -> Option (List Int)) : Option (List Int) :=
 (appL 8 v5 [x5.t]).bind fun xs6 => k5 xs6
def ZJ3 (from2 : Int) (to3 : Int) (v5 : (List Int)) : Option (List Int) :=
 rgl Zn2 ZL6 [from2, to3] 0 v5
def spec_l03Times (p1 : List Pt) (from2 : Int) (to3 : Int) : Option (List Int) :=
 rgl ZK3 (ZJ3 from2 to3) p1 0 []
theorem ZPb {p1 : List Pt} {from2 : Int} {to3 : Int} {r : (List Int)} (H : spec_l03Times p1 from2 to3 = some r) : Snd Tryz.prog ZM8 [.agg [.sl .rd 4 (p1.map ePt)], .int .i64 from2, .int .i64 to3] (.sl .nw 1 (r.map eI)) [] := by
 refine wS Zac [.t 6] ?_
 unfold spec_l03Times at H
 refine wG [.u 19 (.ln _ _ fun _ => lm p1 ePt)] fun q4 => ?_
 refine wR (fun (i5 : Nat) (v5 : (List Int)) => ⟨[(1, .int .i64 from2), (2, .int .i64 to3), (7, .sref 16), (18, .sl .rd 4 (p1.map ePt)), (19, .int .i64 (p1.length : Int)), (20, .int .i64 (i5 : Int))], [], [], [(16, ⟨1, v5.map eI, false⟩)]⟩) H (fun i5 x5 v5 I m k5 hxv5 hiv5 H N15 => ?_) (fun v5 I m H => ?_)
 .unfold ZK3 at H
  refine wP ?_
  refine wt (ltT hiv5) ?_
  obtain ⟨xs6, h6, H⟩ := bB H
  refine wG [.u 22 (.ix _ _ _ fun _ => Z0 ePt (Z3 hxv5)), .u 28 (.ap _ _ _ _ fun _ => Zc eI h6), .w 29 (wi .i64 rfl hiv5 q4.1)] fun _ => ?_
  exact wT (N15 _ H)
 .unfold ZJ3 at H
  refine wP ?_
  refine wf (ltF p1.length) ?_
  refine wG [.u 33 (.ln _ _ fun _ => lm ([from2, to3] : List Int) eI)] fun q7 => ?_
  refine wR (fun (i8 : Nat) (v8 : (List Int)) => ⟨[(7, .sref 16), (32, .sl .nw 1 (([from2, to3]).map eI)), (33, .int .i64 (([from2, to3] : List Int).length : Int)), (34, .int .i64 (i8 : Int))], [], [], [(16, ⟨1, v8.map eI, false⟩)]⟩) H (fun i8 x8 v8 I m k8 hxv8 hiv8 H N70 => ?_) (fun v8 I m H => ?_)
  .unfold Zn2 at H
   refine wP ?_
   refine wt (ltT hiv8) ?_
   refine wG [.u 36 (.ix _ _ _ fun _ => Z0 eI (Z3 hxv8)), .u 40 (.ln _ _ fun _ => lm v8 eI)] fun q9 => ?_
   refine wR (fun (i10 : Nat) (v10 : Bool × (List Int)) => ⟨[(11, .int .i64 x8), (12, .sref 38), (13, .bool v10.1), (32, .sl .nw 1 (([from2, to3]).map eI)), (33, .int .i64 (([from2, to3] : List Int).length : Int)), (34, .int .i64 (i8 : Int)), (39, .sref 16), (40, .int .i64 (v8.length : Int)), (41, .int .i64 (i10 : Int))], [], [], [(38, ⟨1, v10.2.map eI, false⟩), (16, ⟨1, v8.map eI, false⟩)]⟩) H (fun i10 x10 v10 I m k10 hxv10 hiv10 H N51 => ?_) (fun v10 I m H => ?_)
   .unfold Zo2 at H
    refine wP ?_
    refine wt (ltT hiv10) ?_
    refine wG [.u 43 (.ix _ _ _ fun _ => Z0 eI (Z3 hxv10)), .u 44 (.el _ _ _ fun _ => gm eI (ZA2 (Z3 hxv10)))] fun _ => ?_
    refine Zy6 (r := r) (ZD1 x8 x10 k10) 0 (fun v12 : Bool × (List Int) => ⟨[(11, .int .i64 x8), (12, .sref 38), (13, .bool v12.1), (15, .int .i64 x10), (32, .sl .nw 1 (([from2, to3]).map eI)), (33, .int .i64 (([from2, to3] : List Int).length : Int)), (34, .int .i64 (i8 : Int)), (39, .sref 16), (40, .int .i64 (v8.length : Int)), (41, .int .i64 (i10 : Int))], [], [], [(38, ⟨1, v12.2.map eI, false⟩), (16, ⟨1, v8.map eI, false⟩)]⟩) (by kernel_rfl) (fun v12 H => ?_) (fun J43 => ?_)
    .unfold ZD1 at H
     refine wP ?_
     refine Wh_iH H (fun H => ?_) fun H => ?_
     .obtain ⟨xs13, h13, H⟩ := bB H
      refine wG [.u 62 (.ap _ _ _ _ fun _ => Zc eI h13), .w 63 (wi .i64 rfl hiv10 q9.1)] fun _ => ?_
      exact wT (N51 _ H)
     .refine wG [.w 63 (wi .i64 rfl hiv10 q9.1)] fun _ => ?_
      exact wT (N51 _ H)
    .refine Wh_iH H (fun H => ?_) fun H => ?_
     .obtain ⟨xs11, h11, H⟩ := bB H
      refine wG [.u 55 (.ap _ _ _ _ fun _ => Zc eI h11)] fun _ => ?_
      exact wT (J43 _ H)
     .refine wP ?_
      exact wT (J43 _ H)
   .unfold Zm2 at H
    refine wP ?_
    refine wf (ltF v8.length) ?_
    refine wP ?_
    refine Wh_iH H (fun H => ?_) fun H => ?_
    .obtain ⟨xs14, h14, H⟩ := bB H
     refine wG [.u 69 (.ap _ _ _ _ fun _ => Zc eI h14), .w 71 (wi .i64 rfl hiv8 q7.1)] fun _ => ?_
     exact Wh_to (N70 _ H) [] [] [(16, (some 38, 0))] [] (by kernel_rfl) (by kernel_rfl)
    .refine wG [.w 71 (wi .i64 rfl hiv8 q7.1)] fun _ => ?_
     exact Wh_to (N70 _ H) [] [] [(16, (some 38, 0))] [] (by kernel_rfl) (by kernel_rfl)
  .unfold ZL6 at H
   refine wP ?_
   refine wf (ltF [from2, to3].length) ?_
   refine wP ?_
   replace H := sI H; subst H
   exact wN [(6, .f)] [] [] [16] [] [⟨_, nw_I v8⟩]
def Z3b : L :=
sR [.bx 5 (.t 0),.bx 8 (.t 3),.al 10 [.nl],.mv 11 (cB false)]
 (sR [.bd 18 [.nl] [],.al 12 [.nl],.st (.t 12) (.t 18) 1]
 (.seq (sR [lD 19 5 1 true,mV 20 1,mV 21 2,cQ 22 ZM8 [19, 20, 21],.ln 23 (.t 22),.mv 24 (kI 0)]
 (.blk 0 (.loop (.gw (sR [bI 25 .lss 24 23]
 (.seq (.cond (.t 25) .skip
 (.exit 0))
 (.seq (.blk 1 (sR [iA 26 22 24 1,lD 27 26 1 false,mV 14 27]
 (sR [lD 28 5 1 true,mV 29 14,cQ 30 ZN8 [28, 29],.al 15 [.int .i64 0, .int .i64 0, .int .i64 0],.st (.t 15) (.t 30) 3]
 (.seq (sR [mV 31 14,mV 32 1,bI 33 .geq 31 32,mV 34 33,.g 34 true (mV 35 14),.g 34 true (mV 36 2),.g 34 true (bI 37 .lss 35 36),.pk 38 (.t 34) (.t 37) (cB false)]
 (.cond (.t 38) (.seq (rE 16 (cB false))
 (.seq (sR [mV 39 4]
 (.cond (.t 39) (.reg [lD 41 15 3 true,lD 42 8 3 true,cQ 43 Zx7 [41, 42],mV 40 43,eX 44 40 0,eX 45 40 1,.st (.t 15) (.t 44) 3,mV 16 45])
 (.reg [lD 47 15 3 true,lD 48 8 3 true,cQ 49 Zv7 [47, 48],mV 46 49,eX 50 46 0,eX 51 46 1,.st (.t 15) (.t 50) 3,mV 16 51])))
 (.gw (sR [mV 52 16,.un 53 (.t 52)]
 (.cond (.t 53) (sR [.bd 54 [.nl] [],.st (.t 10) (.t 54) 1,.mv 11 (cB false)]
 gR)
 .skip)))))
 .skip))
 (.gw (sR [fA 55 12 0,lD 56 55 1 false,.ln 57 (.t 56),mV 17 57]
 (.seq (.rq 13 [mV 58 17,.bi 59 .eql (.t 58) (kI 0),mV 60 59,.g 60 false (fA 61 12 0),.g 60 false (lD 62 61 1 false),.g 60 false (mV 63 17),.g 60 false (.bi 64 .sub (.t 63) (kI 1)),.g 60 false (iA 65 62 64 4),.g 60 false (fA 66 65 1),.g 60 false (lD 67 66 3 true),.g 60 false (lD 68 15 3 true),.g 60 false (.es 69 true [0, 0, 0] (.t 67) (.t 68)),.pk 70 (.t 60) (cB true) (.t 69)])
 (.cond (.t 70) (.reg [fA 71 12 0,lD 72 71 1 false,mV 73 14,lD 74 15 3 true,.bd 75 [.int .i64 0, .int .i64 0, .int .i64 0, .int .i64 0] [(0, 1, (.t 73)), (1, 3, (.t 74))],.bs 76 4 [(.t 75)] false,.ap 77 (.t 72) (.t 76) 4 32,fA 78 12 0,.st (.t 78) (.t 77) 1])
 .skip))))))))
 (.reg [.bi 79 .add (.t 24) (kI 1),mV 24 79]))))))))
 (.seq (sR [lD 80 12 1 true,cQ 81 Zz3 [80],.un 82 (.t 81)]
 (.cond (.t 82) (sR [.bd 83 [.nl] [],.st (.t 10) (.t 83) 1,.mv 11 (cB false)]
 gR)
 .skip))
 (sR [lD 84 12 1 true,.st (.t 10) (.t 84) 1,.mv 11 (cB true)]
 gR))))
def ZW (v8 : (List Pt)) (x8 : Int) (k8 : (List Pt) -> Option ((List Pt) × Bool)) (v11 : Vec) : Option ((List Pt) × Bool) :=
 (bif ((v8.length : Int) == 0) then some default else (idx v8 (w64 ((v8.length : Int) - 1)))).bind fun e12 => bif (((v8.length : Int) == 0) || (!(e12.free.a == v11.a && (e12.free.b == v11.b && (e12.free.c == v11.c && true))))) then ((appL 32 v8 [(Pt.mk x8 v11)]).bind fun xs14 => k8 xs14) else (k8 v8)
def Zx1 (v8 : (List Pt)) (x8 : Int) (k8 : (List Pt) -> Option ((List Pt) × Bool)) (v10 : Vec × Bool) : Option ((List Pt) × Bool) :=
 bif (!v10.2) then (some ([], false)) else ((ZW v8 x8 k8) v10.1)
def Z82 (p1 : List Pt) (from2 : Int) (to3 : Int) (v4 : Vec) (add5 : Bool) (x8 : Int) (_ : Nat) (v8 : (List Pt)) (k8 : (List Pt) -> Option ((List Pt) × Bool)) : Option ((List Pt) × Bool) :=
 (spec_l03At p1 x8).bind fun y9 => bif ((decide (from2 <= x8)) && (decide (x8 < to3))) then (bif add5 then ((Zx1 v8 x8 k8) (((spec_VecAdd y9 v4).1), (spec_VecAdd y9 v4).2)) else ((Zx1 v8 x8 k8) (((spec_VecSub y9 v4).1), (spec_VecSub y9 v4).2))) else ((ZW v8 x8 k8) y9)
def ZV (v8 : (List Pt)) : Option ((List Pt) × Bool) :=
 (spec_ProfOk v8).bind fun b15 => bif (!b15) then (some ([], false)) else (some (v8, true))
def spec_l03Change (p1 : List Pt) (from2 : Int) (to3 : Int) (v4 : Vec) (add5 : Bool) : Option ((List Pt) × Bool) :=
 (spec_l03Times p1 from2 to3).bind fun y6 => rgl (Z82 p1 from2 to3 v4 add5) ZV y6 0 []
theorem ZMa {p1 : List Pt} {from2 : Int} {to3 : Int} {v4 : Vec} {add5 : Bool} {r : (List Pt) × Bool} (H : spec_l03Change p1 from2 to3 v4 add5 = some r) : Snd Tryz.prog Z18 [.agg [.sl .rd 4 (p1.map ePt)], .int .i64 from2, .int .i64 to3, eVec v4, .bool add5] (.tup [Zk .nw r.1, .bool r.2]) [] := by
 refine wS Z3b [.c 10 1 true, .t 11] ?_
 unfold spec_l03Change at H
 obtain ⟨y6, h6, H⟩ := bB H
 refine wG [.c 22 (ZPb h6), .u 23 (.ln _ _ fun _ => lm y6 eI)] fun q7 => ?_
 refine Zme (fun (i8 : Nat) (v8 : (List Pt)) => ⟨[(1, .int .i64 from2), (2, .int .i64 to3), (4, .bool add5), (5, .ptr 5 0), (8, .ptr 8 0), (10, .ptr 10 0), (12, .ptr 12 0), (22, .sl .nw 1 (y6.map eI)), (23, .int .i64 (y6.length : Int)), (24, .int .i64 (i8 : Int))], [], [(5, [.sl .rd 4 (p1.map ePt)]), (8, (eVec v4).cells), (10, [.nl]), (12, [.sref 450000])], [(450000, ⟨4, v8.map ePt, false⟩)]⟩) [] [(12, [.z 450000])] [(450000, (none, 4))] [] (by kernel_rfl) (by kernel_rfl) H (fun i8 x8 v8 I m k8 hxv8 hiv8 H N43 => ?_) (fun v8 I m H => ?_)
 .unfold Z82 at H
  refine wP ?_
  refine wt (ltT hiv8) ?_
  obtain ⟨y9, h9, H⟩ := bB H
  refine wG [.u 26 (.ix _ _ _ fun _ => Z0 eI (Z3 hxv8)), .c 30 (ZY9 h9)] fun _ => ?_
  refine Zy6 (r := r) (ZW v8 x8 k8) 0 (fun v11 : Vec => ⟨[(1, .int .i64 from2), (2, .int .i64 to3), (4, .bool add5), (5, .ptr 5 0), (8, .ptr 8 0), (10, .ptr 10 0), (12, .ptr 12 0), (14, .int .i64 x8), (15, .ptr 15 0), (22, .sl .nw 1 (y6.map eI)), (23, .int .i64 (y6.length : Int)), (24, .int .i64 (i8 : Int))], [], [(5, [.sl .rd 4 (p1.map ePt)]), (8, (eVec v4).cells), (10, [.nl]), (12, [.sref 450000]), (15, (eVec v11).cells)], [(450000, ⟨4, v8.map ePt, false⟩)]⟩) (by kernel_rfl) (fun v11 H => ?_) (fun J34 => ?_)
  .unfold ZW at H
   obtain ⟨e12, h12, H⟩ := bB H
   refine wG [.u 57 (.ln _ _ fun _ => lm v8 ePt), .g 65 [(_, false)] (.ix _ _ _ fun q => Z0 ePt (bF q.1 h12)), .g 67 [(_, false)] (.el _ _ _ fun q => gm ePt (ZA2 (bF q.1 h12)))] fun q13 => ?_
   refine Wh_iH H (fun H => ?_) fun H => ?_
   .obtain ⟨xs14, h14, H⟩ := bB H
    refine wG [.u 77 (.ap _ _ _ _ fun _ => Zc ePt h14), .w 79 (wi .i64 rfl hiv8 q7.1)] fun _ => ?_
    exact wT (N43 _ H)
   .refine wG [.w 79 (wi .i64 rfl hiv8 q7.1)] fun _ => ?_
    exact wT (N43 _ H)
  .refine Wh_iH H (fun H => ?_) fun H => ?_
   .refine wP ?_
    refine Zy6 (r := r) (Zx1 v8 x8 k8) 0 (fun v10 : Vec × Bool => ⟨[(1, .int .i64 from2), (2, .int .i64 to3), (4, .bool add5), (5, .ptr 5 0), (8, .ptr 8 0), (10, .ptr 10 0), (12, .ptr 12 0), (14, .int .i64 x8), (15, .ptr 15 0), (16, .bool v10.2), (22, .sl .nw 1 (y6.map eI)), (23, .int .i64 (y6.length : Int)), (24, .int .i64 (i8 : Int))], [], [(5, [.sl .rd 4 (p1.map ePt)]), (8, (eVec v4).cells), (10, [.nl]), (12, [.sref 450000]), (15, (eVec v10.1).cells)], [(450000, ⟨4, v8.map ePt, false⟩)]⟩) (by kernel_rfl) (fun v10 H => ?_) (fun J22 => ?_)
    .unfold Zx1 at H
     refine wP ?_
     refine Wh_iH H (fun H => ?_) fun H => ?_
     .refine wP ?_
      replace H := sI H; subst H
      exact wN [(10, .d), (11, .d)] [(10, [.n 4])] [] [] [] [⟨_, nw_Pt ([] : List Pt)⟩]
     .refine wP ?_
      exact wT (J34 _ H)
    .refine Wh_iH H (fun H => ?_) fun H => ?_
     .refine wG [.c 43 (Zse y9 v4)] fun _ => ?_
      exact wT (J22 _ H)
     .refine wG [.c 49 (Zpe y9 v4)] fun _ => ?_
      exact wT (J22 _ H)
   .refine wP ?_
    exact wT (J34 _ H)
 .unfold ZV at H
  refine wP ?_
  refine wf (ltF y6.length) ?_
  obtain ⟨b15, h15, H⟩ := bB H
  refine wG [.c 81 (Z14 h15)] fun _ => ?_
  refine Wh_iH H (fun H => ?_) fun H => ?_
  .refine wP ?_
   replace H := sI H; subst H
   exact wN [(10, .d), (11, .d)] [(10, [.n 4])] [] [] [] [⟨_, nw_Pt ([] : List Pt)⟩]
  .refine wP ?_
   replace H := sI H; subst H
   exact wN [(10, .d), (11, .d)] [(10, [.f])] [] [450000] [] [⟨_, nw_Pt v8⟩]
def Zec : L :=
sR [.bx 4 (.t 0),.bx 7 (.t 3),.al 8 [.nl],.mv 9 (cB false)]
 (sR [lD 13 4 1 true,mV 14 1,mV 15 2,cQ 16 Zu9 [13, 14, 15],mV 12 16,eX 17 12 0,eX 18 12 1,.al 10 [.int .i64 0, .int .i64 0, .int .i64 0],.st (.t 10) (.t 17) 3,mV 11 18]
 (.seq (sR [mV 19 11,.un 20 (.t 19)]
 (.cond (.t 20) (sR [.bd 21 [.nl] [],.st (.t 8) (.t 21) 1,.mv 9 (cB false)]
 gR)
 .skip))
 (sR [lD 22 4 1 true,mV 23 1,mV 24 2,lD 25 7 3 true,.cq 26 Z18 [(.t 22), (.t 23), (.t 24), (.t 25), (cB false)],eX 27 26 0,eX 28 26 1,.st (.t 8) (.t 27) 1,mV 9 28]
 gR)))
def spec_ProfTake (p1 : List Pt) (from2 : Int) (to3 : Int) (v4 : Vec) : Option ((List Pt) × Bool) :=
 (spec_ProfMin p1 from2 to3).bind fun y5 => bif (!y5.2) then (some ([], false)) else ((spec_l03Change p1 from2 to3 v4 false).bind fun y6 => some (y6.1, y6.2))
theorem ZQ7 {p1 : List Pt} {from2 : Int} {to3 : Int} {v4 : Vec} {r : (List Pt) × Bool} (H : spec_ProfTake p1 from2 to3 v4 = some r) : Snd Tryz.prog Zy5 [.agg [.sl .rd 4 (p1.map ePt)], .int .i64 from2, .int .i64 to3, eVec v4] (.tup [Zk .nw r.1, .bool r.2]) [] := by
 refine wS Zec [.c 8 1 true, .t 9] ?_
 unfold spec_ProfTake at H
 obtain ⟨y5, h5, H⟩ := bB H
 refine wG [.c 16 (ZUc h5)] fun _ => ?_
 refine Wh_iH H (fun H => ?_) fun H => ?_
 .refine wP ?_
  replace H := sI H; subst H
  exact wN [(8, .d), (9, .d)] [(8, [.n 4])] [] [] [] [⟨_, nw_Pt ([] : List Pt)⟩]
 .obtain ⟨y6, h6, H⟩ := bB H
  refine wG [.c 26 (ZMa h6)] fun _ => ?_
  replace H := sI H; subst H
  exact wN [(8, .d), (9, .d)] [(8, [])] [] [] [] [⟨_, nw_Pt y6.1⟩]
def Zjc : L :=
sR [.bx 1 (.t 0),.al 2 [.nl]]
 (sR [fA 3 1 0,lD 4 3 1 false,.ap 5 (.c (.nl)) (.t 4) 4 32,.bd 6 [.nl] [(0, 1, (.t 5))],.st (.t 2) (.t 6) 1]
 gR)
def impl_copyProf (p1 : List Pt) : Option (List Pt) :=
 (appL 32 ([] : List Pt) p1).bind fun xs2 => some xs2
theorem ZW7 {p1 : List Pt} {r : (List Pt)} (H : impl_copyProf p1 = some r) : Snd Tryz.prog ZE5 [.agg [.sl .rd 4 (p1.map ePt)]] (Zk .nw r) [] := by
 refine wS Zjc [.c 2 1 true] ?_
 unfold impl_copyProf at H
 obtain ⟨xs2, h2, H⟩ := bB H
 refine wG [.u 5 (.ap _ _ _ _ fun _ => Zc ePt h2)] fun _ => ?_
 replace H := sI H; subst H
 exact wN [(2, .d)] [(2, [.f])] [] [5] [] [⟨_, nw_Pt xs2⟩]
def Zwf : L :=
sR [.bx 1 (.t 0),.mv 2 (cB false)]
 (.seq (sR [fA 5 1 0,lD 6 5 1 false,.ln 7 (.t 6),.cq 8 Za [(.t 7), (kI 1), (kI 200)],.un 9 (.t 8),mV 10 9,.g 10 false (fA 11 1 0),.g 10 false (lD 12 11 1 false),.g 10 false (.ia 13 (.t 12) (kI 0) 4),.g 10 false (fA 14 13 0),.g 10 false (lD 15 14 1 false),.g 10 false (.bi 16 .neq (.t 15) (kI 0)),.pk 17 (.t 10) (cB true) (.t 16)]
 (.cond (.t 17) (.seq (rE 2 (cB false))
 gR)
 .skip))
 (.seq (sR [fA 18 1 0,lD 19 18 1 false,.ln 20 (.t 19),.mv 21 (kI 0)]
 (.blk 0 (.loop (.gw (sR [bI 22 .lss 21 20]
 (.seq (.cond (.t 22) .skip
 (.exit 0))
 (.seq (.blk 1 (sR [mV 23 21,iA 24 19 21 4,lD 25 24 4 true,.al 4 [.int .i64 0, .int .i64 0, .int .i64 0, .int .i64 0],mV 3 23,.st (.t 4) (.t 25) 4]
 (.seq (.rq 38 [fA 26 4 0,lD 27 26 1 false,cQ 28 ZY1 [27],.un 29 (.t 28),mV 30 29,.g 30 false (fA 31 4 1),.g 30 false (lD 32 31 3 true),.g 30 false (cQ 33 ZL [32]),.g 30 false (.un 34 (.t 33)),.pk 35 (.t 30) (cB true) (.t 34),mV 36 35,.g 36 false (mV 37 3),.g 36 false (.bi 38 .gtr (.t 37) (kI 0)),.g 36 false (mV 39 38),.g 39 true (fA 40 1 0),.g 39 true (lD 41 40 1 false),.g 39 true (mV 42 3),.g 39 true (.bi 43 .sub (.t 42) (kI 1)),.g 39 true (iA 44 41 43 4),.g 39 true (fA 45 44 0),.g 39 true (lD 46 45 1 false),.g 39 true (fA 47 4 0),.g 39 true (lD 48 47 1 false),.g 39 true (bI 49 .geq 46 48),.g 39 true (mV 50 49),.g 50 false (fA 51 1 0),.g 50 false (lD 52 51 1 false),.g 50 false (mV 53 3),.g 50 false (.bi 54 .sub (.t 53) (kI 1)),.g 50 false (iA 55 52 54 4),.g 50 false (fA 56 55 1),.g 50 false (lD 57 56 3 true),.g 50 false (fA 58 4 1),.g 50 false (lD 59 58 3 true),.g 50 false (.es 60 false [0, 0, 0] (.t 57) (.t 59)),.g 39 true (.pk 61 (.t 50) (cB true) (.t 60)),.g 36 false (.pk 62 (.t 39) (.t 61) (cB false)),.pk 63 (.t 36) (cB true) (.t 62)])
 (.cond (.t 63) (.seq (rE 2 (cB false))
 gR)
 .skip))))
 (.reg [.bi 64 .add (.t 21) (kI 1),mV 21 64]))))))))
 (.seq (rE 2 (cB true))
 gR)))
def Zx8 (p1 : List Pt) (x5 : Pt) (i5 : Nat) (_ : Unit) (k5 : Unit -> Option Bool) : Option Bool :=
 (bif ((!(impl_isTime x5.t)) || (!(impl_VecOk x5.free))) then some default else (bif (decide (0 < (i5 : Int))) then (idx p1 (w64 ((i5 : Int) - 1))) else some default)).bind fun e6 => (bif ((!(impl_isTime x5.t)) || (!(impl_VecOk x5.free))) then some default else (bif (decide (0 < (i5 : Int))) then (bif (decide (x5.t <= e6.t)) then some default else (idx p1 (w64 ((i5 : Int) - 1)))) else some default)).bind fun e7 => bif (((!(impl_isTime x5.t)) || (!(impl_VecOk x5.free))) || ((decide (0 < (i5 : Int))) && ((decide (x5.t <= e6.t)) || (e7.free.a == x5.free.a && (e7.free.b == x5.free.b && (e7.free.c == x5.free.c && true)))))) then (some false) else (k5 ())
def Zw8 (_ : Unit) : Option Bool :=
 some true
def impl_ProfOk (p1 : List Pt) : Option Bool :=
 (bif (!(impl_within (p1.length : Int) 1 200)) then some default else (idx p1 0)).bind fun e2 => bif ((!(impl_within (p1.length : Int) 1 200)) || (e2.t != 0)) then (some false) else (rgl (Zx8 p1) Zw8 p1 0 ())
theorem Zw6 {p1 : List Pt} {r : Bool} (H : impl_ProfOk p1 = some r) : Snd Tryz.prog Zb5 [.agg [.sl .rd 4 (p1.map ePt)]] (.bool r) [] := by
 refine wS Zwf [.t 2] ?_
 unfold impl_ProfOk at H
 obtain ⟨e2, h2, H⟩ := bB H
 refine wG [.u 7 (.ln _ _ fun _ => lm p1 ePt), .u 8 (.call _ _ _ _ _ (AEs.refl _) (fun _ => Z6 (p1.length : Int) 1 200)), .g 13 [(_, false)] (.ix _ _ _ fun q => Z0 ePt (bF q.1 h2))] fun q3 => ?_
 refine Wh_iH H (fun H => ?_) fun H => ?_
 .refine wP ?_
  replace H := sI H; subst H
  exact wE [(2, .d)]
 .refine wG [.u 20 (.ln _ _ fun _ => lm p1 ePt)] fun q4 => ?_
  refine wR (fun (i5 : Nat) (v5 : Unit) => ⟨[(1, .ptr 1 0), (19, .sl .rd 4 (p1.map ePt)), (20, .int .i64 (p1.length : Int)), (21, .int .i64 (i5 : Int))], [], [(1, [.sl .rd 4 (p1.map ePt)])], []⟩) H (fun i5 x5 v5 I m k5 hxv5 hiv5 H N27 => ?_) (fun v5 I m H => ?_)
  .unfold Zx8 at H
   refine wP ?_
   refine wt (ltT hiv5) ?_
   obtain ⟨e6, h6, H⟩ := bB H
   obtain ⟨e7, h7, H⟩ := bB H
   refine wG [.u 24 (.ix _ _ _ fun _ => Z0 ePt (Z3 hxv5)), .c 28 (ZE2 x5.t), .g 33 [((!(impl_isTime x5.t)), false)] (.call _ _ _ _ _ (AEs.refl _) (fun _ => ZQ x5.free)), .g 44 [(_, true), (_, false)] (.ix _ _ _ fun q => Z0 ePt (bT q.1 (bF q.2.1 h6))), .g 55 [(_, false), (_, true), (_, false)] (.ix _ _ _ fun q => Z0 ePt (bF q.1 (bT q.2.1 (bF q.2.2.1 h7))))] fun _ => ?_
   refine Wh_iH H (fun H => ?_) fun H => ?_
   .refine wP ?_
    replace H := sI H; subst H
    exact wE [(2, .d)]
   .refine wG [.w 64 (wi .i64 rfl hiv5 q3.1)] fun _ => ?_
    exact wT (N27 () H)
  .unfold Zw8 at H
   refine wP ?_
   refine wf (ltF p1.length) ?_
   refine wP ?_
   replace H := sI H; subst H
   exact wE [(2, .d)]
def ZWd : L :=
sR [.bx 1 (.t 0),.al 2 [.nl],.mv 3 (cB false)]
 (.seq (sR [lD 4 1 3 true,cQ 5 ZL [4],.un 6 (.t 5)]
 (.cond (.t 6) (sR [.bd 7 [.nl] [],.st (.t 2) (.t 7) 1,.mv 3 (cB false)]
 gR)
 .skip))
 (sR [lD 8 1 3 true,.bd 9 [.int .i64 0, .int .i64 0, .int .i64 0, .int .i64 0] [(1, 3, (.t 8))],.bs 10 4 [(.t 9)] true,.bd 11 [.nl] [(0, 1, (.t 10))],.st (.t 2) (.t 11) 1,.mv 3 (cB true)]
 gR))
def Z64 (v1 : Vec) : Option ((List Pt) × Bool) :=
 bif (!(impl_VecOk v1)) then (some ([], false)) else (some ([(Pt.mk 0 v1)], true))
theorem Zdb {v1 : Vec} {r : (List Pt) × Bool} (H : Z64 v1 = some r) : Snd Tryz.prog Zb4 [eVec v1] (.tup [Zk .nw r.1, .bool r.2]) [] := by
 refine wS ZWd [.c 2 1 true, .t 3] ?_
 unfold Z64 at H
 refine wG [.c 5 (ZQ v1)] fun _ => ?_
 refine Wh_iH H (fun H => ?_) fun H => ?_
 .refine wP ?_
  replace H := sI H; subst H
  exact wN [(2, .d), (3, .d)] [(2, [.n 4])] [] [] [] [⟨_, nw_Pt ([] : List Pt)⟩]
 .refine wP ?_
  replace H := sI H; subst H
  exact wN [(2, .d), (3, .d)] [(2, [.f])] [] [10] [] [⟨_, nw_Pt [(Pt.mk 0 v1)]⟩]
def impl_ProfNew (v1 : Vec) : (List Pt) × Bool :=
 bif (!(impl_VecOk v1)) then (([], false)) else (([(Pt.mk 0 v1)], true))
theorem ZHf (v1 : Vec) : Z64 v1 = some (impl_ProfNew v1) := by
 unfold Z64 impl_ProfNew
 first | rfl | simp only [Zg]
theorem Zy8 (v1 : Vec) : Snd Tryz.prog Zb4 [eVec v1] (.tup [Zk .nw ((impl_ProfNew v1).1), .bool ((impl_ProfNew v1).2)]) [] := Zdb (ZHf v1)
def Z7b : L :=
sR [.bx 2 (.t 0),.al 4 [.int .i64 0, .int .i64 0, .int .i64 0]]
 (sR [.bd 8 [.int .i64 0, .int .i64 0, .int .i64 0] [],.al 5 [.int .i64 0, .int .i64 0, .int .i64 0],.st (.t 5) (.t 8) 3]
 (.seq (sR [fA 9 2 0,lD 10 9 1 false,.ln 11 (.t 10),.mv 12 (kI 0)]
 (.blk 0 (.loop (.gw (sR [bI 13 .lss 12 11]
 (.seq (.cond (.t 13) .skip
 (.exit 0))
 (.seq (.blk 1 (sR [iA 14 10 12 4,lD 15 14 4 true,.al 7 [.int .i64 0, .int .i64 0, .int .i64 0, .int .i64 0],.st (.t 7) (.t 15) 4]
 (sR [fA 16 7 0,lD 17 16 1 false,mV 18 1,bI 19 .leq 17 18]
 (.cond (.t 19) (.reg [fA 20 7 1,lD 21 20 3 true,.st (.t 5) (.t 21) 3])
 .skip))))
 (.reg [.bi 22 .add (.t 12) (kI 1),mV 12 22]))))))))
 (sR [lD 23 5 3 true,.st (.t 4) (.t 23) 3]
 gR)))
def Z96 (t2 : Int) (x4 : Pt) (_ : Nat) (v4 : Vec) (k4 : Vec -> Option Vec) : Option Vec :=
 bif (decide (x4.t <= t2)) then (k4 x4.free) else (k4 v4)
def Z86 (v4 : Vec) : Option Vec :=
 some v4
def impl_Prof_free (p1 : List Pt) (t2 : Int) : Option Vec :=
 rgl (Z96 t2) Z86 p1 0 (Vec.mk 0 0 0)
theorem Zbb {p1 : List Pt} {t2 : Int} {r : Vec} (H : impl_Prof_free p1 t2 = some r) : Snd Tryz.prog Z28 [.agg [.sl .rd 4 (p1.map ePt)], .int .i64 t2] (eVec r) [] := by
 refine wS Z7b [.c 4 3 true] ?_
 unfold impl_Prof_free at H
 refine wG [.u 11 (.ln _ _ fun _ => lm p1 ePt)] fun q3 => ?_
 refine wR (fun (i4 : Nat) (v4 : Vec) => ⟨[(1, .int .i64 t2), (4, .ptr 4 0), (5, .ptr 5 0), (10, .sl .rd 4 (p1.map ePt)), (11, .int .i64 (p1.length : Int)), (12, .int .i64 (i4 : Int))], [], [(4, (eVec (Vec.mk 0 0 0)).cells), (5, (eVec v4).cells)], []⟩) H (fun i4 x4 v4 I m k4 hxv4 hiv4 H N19 => ?_) (fun v4 I m H => ?_)
 .unfold Z96 at H
  refine wP ?_
  refine wt (ltT hiv4) ?_
  refine wG [.u 14 (.ix _ _ _ fun _ => Z0 ePt (Z3 hxv4))] fun _ => ?_
  refine Wh_iH H (fun H => ?_) fun H => ?_
  .refine wG [.w 22 (wi .i64 rfl hiv4 q3.1)] fun _ => ?_
   exact wT (N19 _ H)
  .refine wG [.w 22 (wi .i64 rfl hiv4 q3.1)] fun _ => ?_
   exact wT (N19 _ H)
 .unfold Z86 at H
  refine wP ?_
  refine wf (ltF p1.length) ?_
  refine wP ?_
  replace H := sI H; subst H
  exact wN [(4, .d)] [(4, [])] [] [] [] []
def Zpf : L :=
.seq (rE 4 (cB false))
 (sR [mV 5 0,cQ 6 ZY1 [5],mV 7 6,.g 7 true (mV 8 1),.g 7 true (cQ 9 ZY1 [8]),.pk 10 (.t 7) (.t 9) (cB false),mV 11 10,.g 11 true (mV 12 0),.g 11 true (mV 13 1),.g 11 true (bI 14 .lss 12 13),.pk 15 (.t 11) (.t 14) (cB false),mV 4 15]
 gR)
def Z75 (from1 : Int) (to2 : Int) : Option Bool :=
 some (((impl_isTime from1) && (impl_isTime to2)) && (decide (from1 < to2)))
theorem Zrc {from1 : Int} {to2 : Int} {r : Bool} (H : Z75 from1 to2 = some r) : Snd Tryz.prog ZF7 [.int .i64 from1, .int .i64 to2] (.bool r) [] := by
 refine wS Zpf [.t 4] ?_
 unfold Z75 at H
 refine wG [.c 6 (ZE2 from1), .g 9 [((impl_isTime from1), true)] (.call _ _ _ _ _ (AEs.refl _) (fun _ => ZE2 to2))] fun _ => ?_
 replace H := sI H; subst H
 exact wE [(4, .d)]
def impl_isSpan (from1 : Int) (to2 : Int) : Bool :=
 (((impl_isTime from1) && (impl_isTime to2)) && (decide (from1 < to2)))
theorem Zqh (from1 : Int) (to2 : Int) : Z75 from1 to2 = some (impl_isSpan from1 to2) := by
 unfold Z75 impl_isSpan
 first | rfl | simp only [Zg]
theorem Zzf (from1 : Int) (to2 : Int) : Snd Tryz.prog ZF7 [.int .i64 from1, .int .i64 to2] (.bool (impl_isSpan from1 to2)) [] := Zrc (Zqh from1 to2)
def Zfa : L :=
sR [.bx 2 (.t 0),.al 3 [.int .i64 0, .int .i64 0, .int .i64 0],.mv 4 (cB false)]
 (sR [lD 5 2 3 true,lD 6 1 3 true,cQ 7 ZH7 [5, 6],eX 8 7 0,eX 9 7 1,.st (.t 3) (.t 8) 3,mV 4 9]
 gR)
def Zu2 (x1 : Vec) (x2 : Vec) : Option (Vec × Bool) :=
 some (((impl_VecSub x1 x2).1), (impl_VecSub x1 x2).2)
theorem Za9 {x1 : Vec} {x2 : Vec} {r : Vec × Bool} (H : Zu2 x1 x2 = some r) : Snd Tryz.prog ZR [eVec x1, .ept (eVec x2) 0] (.tup [eVec r.1, .bool r.2]) [] := by
 refine wS Zfa [.c 3 3 true, .t 4] ?_
 unfold Zu2 at H
 refine wG [.c 7 (ZBf x1 x2)] fun _ => ?_
 replace H := sI H; subst H
 exact wN [(3, .d), (4, .d)] [(3, [])] [] [] [] []
def impl_ProfTake_1 (x1 : Vec) (x2 : Vec) : Vec × Bool :=
 (((impl_VecSub x1 x2).1), (impl_VecSub x1 x2).2)
theorem Zcb (x1 : Vec) (x2 : Vec) : Zu2 x1 x2 = some (impl_ProfTake_1 x1 x2) := by
 unfold Zu2 impl_ProfTake_1
 first | rfl | simp only [Zg]
theorem Zha (x1 : Vec) (x2 : Vec) : Snd Tryz.prog ZR [eVec x1, .ept (eVec x2) 0] (.tup [eVec ((impl_ProfTake_1 x1 x2).1), .bool ((impl_ProfTake_1 x1 x2).2)]) [] := Za9 (Zcb x1 x2)
def ZB2 : L :=
sR [.bx 4 (.t 0),.al 8 [.nl],.mv 9 (cB false)]
 (sR [mV 20 1,mV 21 2,.bs 22 1 [(.t 20), (.t 21)] true,mV 10 22]
 (.seq (sR [fA 23 4 0,lD 24 23 1 false,.ln 25 (.t 24),.mv 26 (kI 0)]
 (.blk 0 (.loop (.gw (sR [bI 27 .lss 26 25]
 (.seq (.cond (.t 27) .skip
 (.exit 0))
 (.seq (.blk 1 (sR [iA 28 24 26 4,lD 29 28 4 true,.al 12 [.int .i64 0, .int .i64 0, .int .i64 0, .int .i64 0],.st (.t 12) (.t 29) 4]
 (.reg [mV 30 10,fA 31 12 0,lD 32 31 1 false,.bs 33 1 [(.t 32)] false,.ap 34 (.t 30) (.t 33) 1 8,mV 10 34])))
 (.reg [.bi 35 .add (.t 26) (kI 1),mV 26 35]))))))))
 (sR [mV 36 10,.cm 37 Zk2 [(.t 36)]]
 (sR [.bd 38 [.nl] [],.al 13 [.nl],.st (.t 13) (.t 38) 1]
 (.seq (sR [mV 39 10,.cm 40 ZS1 [(.t 39)],.ln 41 (.t 40),.mv 42 (kI 0)]
 (.blk 2 (.loop (.gw (sR [bI 43 .lss 42 41]
 (.seq (.cond (.t 43) .skip
 (.exit 2))
 (.seq (.blk 3 (sR [iA 44 40 42 1,lD 45 44 1 false,mV 15 45]
 (sR [lD 46 4 1 true,mV 47 15,cQ 48 Z28 [46, 47],.al 16 [.int .i64 0, .int .i64 0, .int .i64 0],.st (.t 16) (.t 48) 3]
 (.seq (sR [mV 49 15,mV 50 1,bI 51 .geq 49 50,mV 52 51,.g 52 true (mV 53 15),.g 52 true (mV 54 2),.g 52 true (bI 55 .lss 53 54),.pk 56 (.t 52) (.t 55) (cB false)]
 (.cond (.t 56) (sR [mV 58 3,lD 59 16 3 true,.cc 60 (.t 58) [(.t 59)],mV 57 60,eX 61 57 0,eX 62 57 1,.al 17 [.int .i64 0, .int .i64 0, .int .i64 0],.st (.t 17) (.t 61) 3,mV 18 62]
 (.seq (sR [mV 63 18,.un 64 (.t 63)]
 (.cond (.t 64) (sR [.bd 65 [.nl] [],.st (.t 8) (.t 65) 1,.mv 9 (cB false)]
 gR)
 .skip))
 (.reg [lD 66 17 3 true,.st (.t 16) (.t 66) 3])))
 .skip))
 (.gw (sR [fA 67 13 0,lD 68 67 1 false,.ln 69 (.t 68),mV 19 69]
 (.seq (.rq 13 [mV 70 19,.bi 71 .eql (.t 70) (kI 0),mV 72 71,.g 72 false (fA 73 13 0),.g 72 false (lD 74 73 1 false),.g 72 false (mV 75 19),.g 72 false (.bi 76 .sub (.t 75) (kI 1)),.g 72 false (iA 77 74 76 4),.g 72 false (fA 78 77 1),.g 72 false (lD 79 78 3 true),.g 72 false (lD 80 16 3 true),.g 72 false (.es 81 true [0, 0, 0] (.t 79) (.t 80)),.pk 82 (.t 72) (cB true) (.t 81)])
 (.cond (.t 82) (.reg [fA 83 13 0,lD 84 83 1 false,mV 85 15,lD 86 16 3 true,.bd 87 [.int .i64 0, .int .i64 0, .int .i64 0, .int .i64 0] [(0, 1, (.t 85)), (1, 3, (.t 86))],.bs 88 4 [(.t 87)] false,.ap 89 (.t 84) (.t 88) 4 32,fA 90 13 0,.st (.t 90) (.t 89) 1])
 .skip))))))))
 (.reg [.bi 91 .add (.t 42) (kI 1),mV 42 91]))))))))
 (.seq (sR [fA 92 13 0,lD 93 92 1 false,.ln 94 (.t 93),.bi 95 .gtr (.t 94) (kI 200)]
 (.cond (.t 95) (sR [.bd 96 [.nl] [],.st (.t 8) (.t 96) 1,.mv 9 (cB false)]
 gR)
 .skip))
 (sR [lD 97 13 1 true,.st (.t 8) (.t 97) 1,.mv 9 (cB true)]
 gR)))))))
def Zi (v10 : (List Pt)) (x10 : Int) (k10 : (List Pt) -> Option ((List Pt) × Bool)) (v12 : Vec) : Option ((List Pt) × Bool) :=
 (bif ((v10.length : Int) == 0) then some default else (idx v10 (w64 ((v10.length : Int) - 1)))).bind fun e13 => bif (((v10.length : Int) == 0) || (!(e13.free.a == v12.a && (e13.free.b == v12.b && (e13.free.c == v12.c && true))))) then ((appL 32 v10 [(Pt.mk x10 v12)]).bind fun xs15 => k10 xs15) else (k10 v10)
def Zj (p1 : List Pt) (from2 : Int) (to3 : Int) (c4 : Vec) (x10 : Int) (_ : Nat) (v10 : (List Pt)) (k10 : (List Pt) -> Option ((List Pt) × Bool)) : Option ((List Pt) × Bool) :=
 (impl_Prof_free p1 x10).bind fun y11 => bif ((decide (from2 <= x10)) && (decide (x10 < to3))) then (bif (!(impl_ProfTake_1 y11 c4).2) then (some ([], false)) else ((Zi v10 x10 k10) ((impl_ProfTake_1 y11 c4).1))) else ((Zi v10 x10 k10) y11)
def ZE (v10 : (List Pt)) : Option ((List Pt) × Bool) :=
 bif (decide (200 < (v10.length : Int))) then (some ([], false)) else (some (v10, true))
def ZG (x6 : Pt) (_ : Nat) (v6 : (List Int)) (k6 : (List Int) -> Option ((List Pt) × Bool)) : Option ((List Pt) × Bool) :=
 (appL 8 v6 [x6.t]).bind fun xs7 => k6 xs7
def ZF (p1 : List Pt) (from2 : Int) (to3 : Int) (c4 : Vec) (v6 : (List Int)) : Option ((List Pt) × Bool) :=
 (sortQ v6).bind fun xs8 => rgl (Zj p1 from2 to3 c4) ZE (ZX xs8) 0 []
def Zs (p1 : List Pt) (from2 : Int) (to3 : Int) (c4 : Vec) : Option ((List Pt) × Bool) :=
 rgl ZG (ZF p1 from2 to3 c4) p1 0 [from2, to3]
theorem ZF2 {p1 : List Pt} {from2 : Int} {to3 : Int} {c4 : Vec} {r : (List Pt) × Bool} (H : Zs p1 from2 to3 c4 = some r) : Snd Tryz.prog ZH5 [.agg [.sl .rd 4 (p1.map ePt)], .int .i64 from2, .int .i64 to3, .fn ZR [.ept (eVec c4) 0]] (.tup [Zk .nw r.1, .bool r.2]) [] := by
 refine wS ZB2 [.c 8 1 true, .t 9] ?_
 unfold Zs at H
 refine wG [.u 25 (.ln _ _ fun _ => lm p1 ePt)] fun q5 => ?_
 refine wR (fun (i6 : Nat) (v6 : (List Int)) => ⟨[(1, .int .i64 from2), (2, .int .i64 to3), (3, .fn ZR [.ept (eVec c4) 0]), (4, .ptr 4 0), (8, .ptr 8 0), (10, .sref 22), (24, .sl .rd 4 (p1.map ePt)), (25, .int .i64 (p1.length : Int)), (26, .int .i64 (i6 : Int))], [], [(4, [.sl .rd 4 (p1.map ePt)]), (8, [.nl])], [(22, ⟨1, v6.map eI, false⟩)]⟩) H (fun i6 x6 v6 I m k6 hxv6 hiv6 H N15 => ?_) (fun v6 I m H => ?_)
 .unfold ZG at H
  refine wP ?_
  refine wt (ltT hiv6) ?_
  obtain ⟨xs7, h7, H⟩ := bB H
  refine wG [.u 28 (.ix _ _ _ fun _ => Z0 ePt (Z3 hxv6)), .u 34 (.ap _ _ _ _ fun _ => Zc eI h7), .w 35 (wi .i64 rfl hiv6 q5.1)] fun _ => ?_
  exact wT (N15 _ H)
 .unfold ZF at H
  refine wP ?_
  refine wf (ltF p1.length) ?_
  obtain ⟨xs8, h8, H⟩ := bB H
  refine wG [.u 37 (.cr Zk2 1 _ [] [] false _ (fun _ => ZFj v6) (fun _ => trivial) (fun _ => rfl) (fun _ => sortQ_ok h8)), .u 40 (.cr ZS1 1 _ [] [] true _ (fun _ => ZFj xs8) (fun _ => trivial) (fun _ => rfl) (fun _ => Z4j xs8)), .u 41 (.ln _ _ fun _ => lm (ZX xs8) eI)] fun q9 => ?_
  refine Zme (fun (i10 : Nat) (v10 : (List Pt)) => ⟨[(1, .int .i64 from2), (2, .int .i64 to3), (3, .fn ZR [.ept (eVec c4) 0]), (4, .ptr 4 0), (8, .ptr 8 0), (13, .ptr 13 0), (40, .sref 41000), (41, .int .i64 ((ZX xs8).length : Int)), (42, .int .i64 (i10 : Int))], [], [(4, [.sl .rd 4 (p1.map ePt)]), (8, [.nl]), (13, [.sref 257000])], [(257000, ⟨4, v10.map ePt, false⟩), (41000, ⟨1, (ZX xs8).map eI, false⟩)]⟩) [] [(13, [.z 257000])] [(257000, (none, 4))] [] (by kernel_rfl) (by kernel_rfl) H (fun i10 x10 v10 I m k10 hxv10 hiv10 H N57 => ?_) (fun v10 I m H => ?_)
  .unfold Zj at H
   refine wP ?_
   refine wt (ltT hiv10) ?_
   obtain ⟨y11, h11, H⟩ := bB H
   refine wG [.u 44 (.ix _ _ _ fun _ => Z0 eI (Z3 hxv10)), .u 45 (.el _ _ _ fun _ => gm eI (ZA2 (Z3 hxv10))), .c 48 (Zbb h11)] fun _ => ?_
   refine Zy6 (r := r) (Zi v10 x10 k10) 0 (fun v12 : Vec => ⟨[(1, .int .i64 from2), (2, .int .i64 to3), (3, .fn ZR [.ept (eVec c4) 0]), (4, .ptr 4 0), (8, .ptr 8 0), (13, .ptr 13 0), (15, .int .i64 x10), (16, .ptr 16 0), (40, .sref 41000), (41, .int .i64 ((ZX xs8).length : Int)), (42, .int .i64 (i10 : Int))], [], [(4, [.sl .rd 4 (p1.map ePt)]), (8, [.nl]), (13, [.sref 257000]), (16, (eVec v12).cells)], [(257000, ⟨4, v10.map ePt, false⟩), (41000, ⟨1, (ZX xs8).map eI, false⟩)]⟩) (by kernel_rfl) (fun v12 H => ?_) (fun J48 => ?_)
   .unfold Zi at H
    obtain ⟨e13, h13, H⟩ := bB H
    refine wG [.u 69 (.ln _ _ fun _ => lm v10 ePt), .g 77 [(_, false)] (.ix _ _ _ fun q => Z0 ePt (bF q.1 h13)), .g 79 [(_, false)] (.el _ _ _ fun q => gm ePt (ZA2 (bF q.1 h13)))] fun q14 => ?_
    refine Wh_iH H (fun H => ?_) fun H => ?_
    .obtain ⟨xs15, h15, H⟩ := bB H
     refine wG [.u 89 (.ap _ _ _ _ fun _ => Zc ePt h15), .w 91 (wi .i64 rfl hiv10 q9.1)] fun _ => ?_
     exact wT (N57 _ H)
    .refine wG [.w 91 (wi .i64 rfl hiv10 q9.1)] fun _ => ?_
     exact wT (N57 _ H)
   .refine Wh_iH H (fun H => ?_) fun H => ?_
    .refine wG [.u 60 (.clsr _ _ _ _ _ (AEs.refl _) (by kernel_rfl) (fun _ => Zha y11 c4))] fun _ => ?_
     refine Wh_iH H (fun H => ?_) fun H => ?_
     .refine wP ?_
      replace H := sI H; subst H
      exact wN [(8, .d), (9, .d)] [(8, [.n 4])] [] [] [] [⟨_, nw_Pt ([] : List Pt)⟩]
     .refine wP ?_
      exact wT (J48 _ H)
    .refine wP ?_
     exact wT (J48 _ H)
  .unfold ZE at H
   refine wP ?_
   refine wf (ltF (ZX xs8).length) ?_
   refine wG [.u 94 (.ln _ _ fun _ => lm v10 ePt)] fun q16 => ?_
   refine Wh_iH H (fun H => ?_) fun H => ?_
   .refine wP ?_
    replace H := sI H; subst H
    exact wN [(8, .d), (9, .d)] [(8, [.n 4])] [] [] [] [⟨_, nw_Pt ([] : List Pt)⟩]
   .refine wP ?_
    replace H := sI H; subst H
    exact wN [(8, .d), (9, .d)] [(8, [.f])] [] [257000] [] [⟨_, nw_Pt v10⟩]
def Zmc : L :=
sR [.bx 4 (.t 0),.bx 7 (.t 3),.al 8 [.nl],.mv 9 (cB false)]
 (.seq (sR [lD 10 4 1 true,cQ 11 Zb5 [10],.un 12 (.t 11),mV 13 12,.g 13 false (mV 14 1),.g 13 false (mV 15 2),.g 13 false (cQ 16 ZF7 [14, 15]),.g 13 false (.un 17 (.t 16)),.pk 18 (.t 13) (cB true) (.t 17),mV 19 18,.g 19 false (lD 20 7 3 true),.g 19 false (cQ 21 ZL [20]),.g 19 false (.un 22 (.t 21)),.pk 23 (.t 19) (cB true) (.t 22)]
 (.cond (.t 23) (sR [.bd 24 [.nl] [],.st (.t 8) (.t 24) 1,.mv 9 (cB false)]
 gR)
 .skip))
 (sR [.fb 7,lD 25 4 1 true,mV 26 1,mV 27 2,.mf 28 ZR [(.t 7)],cQ 29 ZH5 [25, 26, 27, 28],eX 30 29 0,eX 31 29 1,.st (.t 8) (.t 30) 1,mV 9 31]
 gR))
def impl_ProfTake (p1 : List Pt) (from2 : Int) (to3 : Int) (v4 : Vec) : Option ((List Pt) × Bool) :=
 (impl_ProfOk p1).bind fun b5 => bif (((!b5) || (!(impl_isSpan from2 to3))) || (!(impl_VecOk v4))) then (some ([], false)) else ((Zs p1 from2 to3 v4).bind fun y6 => some (y6.1, y6.2))
theorem ZZ7 {p1 : List Pt} {from2 : Int} {to3 : Int} {v4 : Vec} {r : (List Pt) × Bool} (H : impl_ProfTake p1 from2 to3 v4 = some r) : Snd Tryz.prog Zl2 [.agg [.sl .rd 4 (p1.map ePt)], .int .i64 from2, .int .i64 to3, eVec v4] (.tup [Zk .nw r.1, .bool r.2]) [] := by
 refine wS Zmc [.c 8 1 true, .t 9] ?_
 unfold impl_ProfTake at H
 obtain ⟨b5, h5, H⟩ := bB H
 refine wG [.c 11 (Zw6 h5), .g 16 [((!b5), false)] (.call _ _ _ _ _ (AEs.refl _) (fun _ => Zzf from2 to3)), .g 21 [(((!b5) || (!(impl_isSpan from2 to3))), false)] (.call _ _ _ _ _ (AEs.refl _) (fun _ => ZQ v4))] fun _ => ?_
 refine Wh_iH H (fun H => ?_) fun H => ?_
 .refine wP ?_
  replace H := sI H; subst H
  exact wN [(8, .d), (9, .d)] [(8, [.n 4])] [] [] [] [⟨_, nw_Pt ([] : List Pt)⟩]
 .obtain ⟨y6, h6, H⟩ := bB H
  refine wG [.c 29 (ZF2 h6)] fun _ => ?_
  replace H := sI H; subst H
  exact wN [(8, .d), (9, .d)] [(8, [])] [] [] [] [⟨_, nw_Pt y6.1⟩]
structure ProfP (p : List Pt) : Prop where
 pos : 0 < p.length
 le : p.length <= 200
 zero : ∀ x, p[0]? = some x -> x.t = 0
 ok : ∀ x ∈ p, time x.t = true /\ spec_VecOk x.free = true
 asc : ∀ (i : Nat) (x y : Pt), p[i]? = some x -> p[i + 1]? = some y -> x.t < y.t /\ x.free ≠ y.free
theorem Zx6 (p : List Pt) : impl_ProfOk p = spec_ProfOk p := by
 have e : (!impl_within (p.length : Int) 1 200) = (decide ((p.length : Int) < 1) || decide (200 < (p.length : Int))) := by
  unfold impl_within
  rw [Bool.eq_iff_iff]; simp
 unfold impl_ProfOk spec_ProfOk
 rw [e]
 rfl
theorem Zgk (a b : Vec) : (a.a == b.a && (a.b == b.b && (a.c == b.c && true))) = decide (a = b) := by
 cases a; cases b
 simp only [Vec.mk.injEq, Bool.and_true]
 rw [Bool.eq_iff_iff]
 simp
theorem Zi8 (p : List Pt) : ∃ b, spec_ProfOk p = some b /\ (b = true ↔ ProfP p) := by
 unfold spec_ProfOk
 by_cases h1 : p.length < 1
 .exact ⟨false, by simp [show ((p.length : Int) < 1) by omega], ZR1 fun h => by have := h.pos; omega⟩
 by_cases h2 : 200 < p.length
 .exact ⟨false, by simp [show ((200 : Int) < p.length) by omega], ZR1 fun h => by have := h.le; omega⟩
 obtain ⟨p0, hp0⟩ : ∃ p0, p[0]? = some p0 := ⟨_, yA (by omega)⟩
 have e1 : decide ((p.length : Int) < 1) = false := by simp; omega
 have e2 : decide ((200 : Int) < (p.length : Int)) = false := by simp; omega
 rw [e1, e2]
 simp only [Bool.or_self, cond_false, Bool.false_or, show idx p 0 = some p0 from by rw [← hp0]; exact Zf (i := 0), bS]
 by_cases h4 : p0.t = 0
 rotate_left
 .refine ⟨false, by rw [show (p0.t != 0) = true by simpa using h4]; rfl, ZR1 fun h => h4 (h.zero _ hp0)⟩
 rw [h4]
 simp only [bne_self_eq_false, cond_false]
 refine Zx2 (fun i (_ : Unit) => (∀ j x, j < i -> p[j]? = some x -> time x.t = true /\ spec_VecOk x.free = true) /\ ∀ j x y, j + 1 < i -> p[j]? = some x -> p[j + 1]? = some y -> x.t < y.t /\ x.free ≠ y.free)
  (fun r => ∃ b, r = some b /\ (b = true ↔ ProfP p)) ?_ ?_ ⟨fun j x h => by omega, fun j x y h => by omega⟩
 .intro i x _ k hi hI hk
  have hil := (yB hi).1
  unfold Zj5
  rw [ZF1]
  cases ht : time x.t with
  | false => exact ⟨false, rfl, ZR1 fun h => by have := (h.ok x (yE hi)).1; rw [ht] at this; cases this⟩
  | true =>
  cases hv : spec_VecOk x.free with
  | false => exact ⟨false, rfl, ZR1 fun h => by have := (h.ok x (yE hi)).2; rw [hv] at this; cases this⟩
  | true =>
  simp only [Bool.not_true, Bool.or_self, cond_false, Bool.false_or, Zgk]
  have new1 : ∀ j y, j < i + 1 -> p[j]? = some y -> time y.t = true /\ spec_VecOk y.free = true := by
   intro j y hj hy
   by_cases e : j = i
   .subst e; rw [hi] at hy; cases hy; exact ⟨ht, hv⟩
   .exact hI.1 j y (by omega) hy
  by_cases h0 : i = 0
  .subst h0
   simp only [Int.natCast_zero, Int.lt_irrefl, decide_false, cond_false, Bool.false_and]
   exact hk () ⟨new1, fun j x y h => by omega⟩
  .have hgt : decide ((0 : Int) < (i : Int)) = true := by simp; omega
   obtain ⟨q, hq⟩ : ∃ q, p[i - 1]? = some q := ⟨_, yA (by omega)⟩
   rw [hgt, ZAc (by omega) (by omega)]
   simp only [cond_true, Bool.true_and, Zf, hq, bS]
   by_cases h5 : x.t <= q.t
   .simp only [h5, decide_true, cond_true, Bool.true_or]
    refine ⟨false, rfl, ZR1 fun h => ?_⟩
    have := (h.asc (i - 1) q x hq (by rw [show i - 1 + 1 = i by omega]; exact hi)).1
    omega
   .simp only [h5, decide_false, cond_false, Bool.false_or, bS]
    by_cases h6 : q.free = x.free
    .simp only [h6, decide_true, cond_true]
     refine ⟨false, rfl, ZR1 fun h => ?_⟩
     exact (h.asc (i - 1) q x hq (by rw [show i - 1 + 1 = i by omega]; exact hi)).2 h6
    .simp only [h6, decide_false, cond_false]
     refine hk () ⟨new1, fun j a b hj ha hb => ?_⟩
     by_cases e : j + 1 = i
     .have : j = i - 1 := by omega
      subst this
      rw [hq] at ha; cases ha
      rw [show i - 1 + 1 = i by omega, hi] at hb; cases hb
      exact ⟨by omega, h6⟩
     .exact hI.2 j a b (by omega) ha hb
 .intro _ hI
  refine ⟨true, rfl, fun _ => ⟨by omega, by omega, fun x hx => by rw [hp0] at hx; cases hx; exact h4, fun x hx => ?_, fun i x y hx hy => ?_⟩, fun _ => rfl⟩
  .obtain ⟨j, hj⟩ := List.getElem?_of_mem hx
   exact hI.1 j x (yB hj).1 hj
  .exact hI.2 i x y (yB hy).1 hx hy
noncomputable def profOk (p : List Pt) : Bool := (spec_ProfOk p).getD false
theorem Z91 (p : List Pt) : spec_ProfOk p = some (profOk p) := by
 obtain ⟨b, h3, _⟩ := Zi8 p
 rw [profOk, h3]; rfl
theorem Z19 {p : List Pt} : profOk p = true ↔ ProfP p := by
 obtain ⟨b, h3, h4⟩ := Zi8 p
 rw [profOk, h3]; exact h4
theorem ProfP.lt {p : List Pt} (h : ProfP p) : ∀ (j i : Nat) (x y : Pt), i < j -> p[i]? = some x -> p[j]? = some y -> x.t < y.t := by
 intro j
 induction j with
 | zero => intro i x y hij; omega
 | succ j ih =>
  intro i x y hij hx hy
  obtain ⟨z, hz⟩ : ∃ z, p[j]? = some z := ⟨_, yA (by have := (yB hy).1; omega)⟩
  have h1 := (h.asc j z y hz hy).1
  by_cases e : i = j
  .subst e; rw [hz] at hx; cases hx; exact h1
  .have := ih i x z (by omega) hx hz
   omega
theorem ProfP.asc_times {p : List Pt} (h : ProfP p) : (p.map Pt.t).Pairwise (· < ·) := by
 rw [List.pairwise_iff_getElem]
 intro i j hi hj hij
 simp only [List.length_map] at hi hj
 simp only [List.getElem_map]
 exact h.lt j i _ _ hij (yA hi) (yA hj)
def atV (p : List Pt) (t : Int) : Vec := p.foldl (fun v x => bif decide (x.t <= t) then x.free else v) ⟨0, 0, 0⟩
theorem Z97 (p : List Pt) (t : Int) : spec_l03At p t = some (atV p t) := by
 unfold spec_l03At
 rw [Zn8 (f := fun v (x : Pt) => bif decide (x.t <= t) then x.free else v) (fun x _ i b k => by unfold Zj6; cases decide (x.t <= t) <;> rfl)]
 rfl
theorem Zqi (p : List Pt) (t : Int) : impl_Prof_free p t = some (atV p t) := Z97 p t
theorem fold_ok {p : List Pt} (t : Int) (h : ∀ x ∈ p, spec_VecOk x.free = true) : ∀ v, spec_VecOk v = true -> spec_VecOk (p.foldl (fun v x => bif decide (x.t <= t) then x.free else v) v) = true := by
 induction p with
 | nil => intro v hv; exact hv
 | cons x l ih =>
  intro v hv
  rw [List.foldl_cons]
  refine ih (fun y hy => h y (List.mem_cons_of_mem _ hy)) _ ?_
  cases decide (x.t <= t) with
  | true => exact h x (List.mem_cons_self ..)
  | false => exact hv
theorem ZLi {p : List Pt} (h : ProfP p) (t : Int) : spec_VecOk (atV p t) = true := fold_ok t (fun x hx => (h.ok x hx).2) _ (by decide)
def minV (p : List Pt) (from_ to_ : Int) : Vec := p.foldl (fun v x => bif decide (from_ <= x.t) && decide (x.t < to_) then spec_VecMin v x.free else v) (atV p from_)
theorem ZVc (p : List Pt) (from_ to_ : Int) : spec_ProfMin p from_ to_ = some (if profOk p = true /\ time from_ = true /\ time to_ = true /\ from_ < to_ then (minV p from_ to_, true) else (⟨0, 0, 0⟩, false)) := by
 unfold spec_ProfMin
 rw [Z91, bS]
 simp only [ZF1]
 cases profOk p <;> cases time from_ <;> cases time to_ <;> try simp
 by_cases h : to_ <= from_
 .simp [h, show ¬ from_ < to_ by omega]
 .simp only [h, decide_false, cond_false, show from_ < to_ by omega, if_true, Z97, bS]
  rw [Zn8 (f := fun v (x : Pt) => bif decide (from_ <= x.t) && decide (x.t < to_) then spec_VecMin v x.free else v) (fun x _ i b k => by unfold Zp4; cases (decide (from_ <= x.t) && decide (x.t < to_)) <;> rfl)]
  rfl
theorem ZMf : ∀ {l m : List Int}, l.Pairwise (· < ·) -> m.Pairwise (· < ·) -> (∀ x, x ∈ l ↔ x ∈ m) -> l = m
 | [], [], _, _, _ => rfl
 | [], b :: m, _, _, h => by have := (h b).2 (List.mem_cons_self ..); cases this
 | a :: l, [], _, _, h => by have := (h a).1 (List.mem_cons_self ..); cases this
 | a :: l, b :: m, h1, h2, h => by
  rw [List.pairwise_cons] at h1 h2
  have e : a = b := by
   rcases List.mem_cons.1 ((h a).1 (List.mem_cons_self ..)) with q | q
   .exact q
   .rcases List.mem_cons.1 ((h b).2 (List.mem_cons_self ..)) with q2 | q2
    .exact q2.symm
    .have := h1.1 b q2; have := h2.1 a q; omega
  subst e
  congr 1
  refine ZMf h1.2 h2.2 fun x => ⟨fun hx => ?_, fun hx => ?_⟩
  .rcases List.mem_cons.1 ((h x).1 (List.mem_cons_of_mem _ hx)) with q | q
   .have := h1.1 x hx; omega
   .exact q
  .rcases List.mem_cons.1 ((h x).2 (List.mem_cons_of_mem _ hx)) with q | q
   .have := h2.1 x hx; omega
   .exact q
def insT (t : Int) (l : List Int) : List Int := (l.filter fun x => decide (x < t)) ++ t :: l.filter fun x => decide (t < x)
theorem ZHc {t x : Int} {l : List Int} : x ∈ insT t l ↔ x = t \/ x ∈ l := by
 simp only [insT, List.mem_append, List.mem_filter, List.mem_cons, decide_eq_true_eq]
 constructor
 .rintro (⟨h, _⟩ | h | ⟨h, _⟩)
  .exact .inr h
  .exact .inl h
  .exact .inr h
 .rintro (h | h)
  .exact .inr (.inl h)
  .by_cases h1 : x < t
   .exact .inl ⟨h, h1⟩
   .by_cases h2 : t < x
    .exact .inr (.inr ⟨h, h2⟩)
    .exact .inr (.inl (by omega))
theorem Zp5 {t : Int} {l : List Int} (h : l.Pairwise (· < ·)) : (insT t l).Pairwise (· < ·) := by
 unfold insT
 rw [List.pairwise_append, List.pairwise_cons]
 refine ⟨h.filter _, ⟨fun x hx => by simpa using (List.mem_filter.1 hx).2, h.filter _⟩, fun x hx y hy => ?_⟩
 have hx' : x < t := by simpa using (List.mem_filter.1 hx).2
 rcases List.mem_cons.1 hy with rfl | hy
 .exact hx'
 .have : t < y := by simpa using (List.mem_filter.1 hy).2
  omega
theorem Zih (t : Int) (l : List Int) : (insT t l).length <= l.length + 1 := by
 have : ∀ m : List Int, (m.filter fun x => decide (x < t)).length + (m.filter fun x => decide (t < x)).length <= m.length := by
  intro m
  induction m with
  | nil => simp
  | cons a m ih =>
   simp only [List.filter_cons, List.length_cons]
   by_cases h1 : a < t
   .simp only [h1, decide_true, if_true, show ¬ t < a by omega, decide_false, Bool.false_eq_true, if_false, List.length_cons]; omega
   .by_cases h2 : t < a
    .simp only [h1, h2, decide_true, if_true, decide_false, Bool.false_eq_true, if_false, List.length_cons]; omega
    .simp only [h1, h2, decide_false, Bool.false_eq_true, if_false]; omega
 have := this l
 simp only [insT, List.length_append, List.length_cons]; omega
theorem ZDj {γ : Type} (t : Int) (k : List Int -> Option γ) (bd : Int -> Nat -> Bool × List Int -> ((Bool × List Int) -> Option γ) -> Option γ) (kk : Bool × List Int -> Option γ)
  (hb : ∀ x i d acc kc, acc.length <= 1000 -> bd x i (d, acc) kc = bif (!d) && decide (t <= x) then (bif x != t then kc (true, acc ++ [t] ++ [x]) else kc (true, acc ++ [t])) else (bif x != t then kc (d, acc ++ [x]) else kc (d, acc)))
  (hk : ∀ d acc, acc.length <= 1000 -> kk (d, acc) = bif !d then k (acc ++ [t]) else k acc) : ∀ (l : List Int) (i : Nat), l.Pairwise (· < ·) -> l.length <= 500 ->
  (∀ acc : List Int, acc.length <= 500 - l.length -> rgl bd kk l i (false, acc) = k (acc ++ insT t l)) /\ ∀ acc : List Int, acc.length <= 501 - l.length -> (∀ x ∈ l, t < x) -> rgl bd kk l i (true, acc) = k (acc ++ l)
 | [], i, _, _ => ⟨fun acc h => by rw [rgl, hk _ _ (by omega)]; simp [insT], fun acc h _ => by rw [rgl, hk _ _ (by omega)]; simp⟩
 | x :: l, i, hp, hl => by
  rw [List.pairwise_cons] at hp
  simp only [List.length_cons] at hl
  obtain ⟨q1, q2⟩ := ZDj t k bd kk hb hk l (i + 1) hp.2 (by omega)
  refine ⟨fun acc ha => ?_, fun acc ha hx => ?_⟩
  .simp only [List.length_cons] at ha
   rw [rgl, hb _ _ _ _ _ (by omega)]
   by_cases h1 : t <= x
   .have hall : ∀ y ∈ l, t < y := fun y hy => by have := hp.1 y hy; omega
    have f1 : (l.filter fun y => decide (y < t)) = [] := List.filter_eq_nil_iff.2 fun y hy => by have := hall y hy; simp; omega
    have f2 : (l.filter fun y => decide (t < y)) = l := List.filter_eq_self.2 fun y hy => by simpa using hall y hy
    simp only [Bool.not_false, Bool.true_and, h1, decide_true, cond_true]
    by_cases h2 : x = t
    .subst h2
     simp only [bne_self_eq_false, cond_false]
     rw [q2 _ (by simp; omega) hall]
     simp [insT, f1, f2]
    .rw [show (x != t) = true by simpa using h2, cond_true, q2 _ (by simp; omega) hall]
     simp [insT, f1, f2, show ¬ x < t by omega, show t < x by omega]
   .simp only [Bool.not_false, Bool.true_and, h1, decide_false, cond_false]
    rw [show (x != t) = true by simp; omega, cond_true, q1 _ (by simp; omega)]
    simp [insT, show x < t by omega, show ¬ t < x by omega]
  .simp only [List.length_cons] at ha
   have hx1 := hx x (List.mem_cons_self ..)
   rw [rgl, hb _ _ _ _ _ (by omega)]
   simp only [Bool.not_true, Bool.false_and, cond_false]
   rw [show (x != t) = true by simp; omega, cond_true, q2 _ (by simp; omega) fun y hy => hx y (List.mem_cons_of_mem _ hy)]
   simp
def ZT1 (p : List Pt) (from_ to_ : Int) : List Int := insT to_ (insT from_ (p.map Pt.t))
theorem ZQb {p : List Pt} (h : ProfP p) (from_ to_ : Int) : spec_l03Times p from_ to_ = some (ZT1 p from_ to_) := by
 have hle := h.le
 unfold spec_l03Times
 rw [Z42 (bd := ZK3) (bs := 8) (p := fun _ => true) (f := Pt.t) (fun x _ i b k => rfl) (by simp; omega)]
 have one : ∀ (t : Int) (i : Nat) (v : List Int) (k : List Int -> Option (List Int)), v.Pairwise (· < ·) -> v.length <= 300 -> Zn2 t i v k = k (insT t v) := by
  intro t i v k hv hl
  unfold Zn2
  have := (ZDj t k (Zo2 t) (Zm2 t k) (fun x i d acc kc ha => by
   unfold Zo2 ZD1
   cases ((!d) && decide (t <= x)) with
   | true =>
    simp only [cond_true]
    rw [Zm (by simp; omega), bS]
    cases (x != t) with
    | true => simp only [cond_true]; rw [Zm (by simp; omega), bS]
    | false => rfl
   | false =>
    simp only [cond_false]
    cases (x != t) with
    | true => simp only [cond_true]; rw [Zm (by simp; omega), bS]
    | false => rfl) (fun d acc ha => by
   unfold Zm2
   cases d with
   | true => rfl
   | false => simp only [Bool.not_false, cond_true]; rw [Zm (by simp; omega), bS]) v 0 hv (by omega)).1 [] (by simp)
  simpa using this
 have hp := h.asc_times
 have hl1 := Zih from_ (p.map Pt.t)
 simp only [List.length_map] at hl1
 unfold ZJ3
 simp only [List.nil_append, show (p.filter fun _ => true) = p from List.filter_eq_self.2 fun _ _ => rfl]
 rw [rgl, one _ _ _ _ hp (by simp; omega), rgl, one _ _ _ _ (Zp5 hp) (by omega)]
 rfl
theorem ZDi {l : List Int} (h : l.Pairwise (· <= ·)) : (ZX l).Pairwise (· < ·) /\ ∀ x, x ∈ ZX l ↔ x ∈ l := by
 have hsz : l.toArray.size = l.length := by simp
 have get : ∀ j, j < l.length -> l.toArray[j]! = l[j]! := by intro j hj; simp
 have mono : ∀ i j, i <= j -> j < l.length -> l.toArray[i]! <= l.toArray[j]! := by
  intro i j hij hj
  by_cases e : i = j
  .subst e; exact Int.le_refl _
  .have := List.pairwise_iff_getElem.1 h i j (by omega) hj (by omega)
   simpa [show i < l.length by omega, hj] using this
 unfold ZX Lib.compact Lib.compactUpTo
 constructor
 .rw [List.pairwise_map]
  have hr : ((List.range l.length).filter (Lib.keeps l.toArray)).Pairwise (· < ·) := List.Pairwise.filter _ List.pairwise_lt_range
  refine List.Pairwise.imp_of_mem (fun {a b} ha hb hab => ?_) hr
  have hb1 := List.mem_filter.1 hb
  have hbl : b < l.length := List.mem_range.1 hb1.1
  have hk : b = 0 \/ l.toArray[b]! ≠ l.toArray[b - 1]! := by simpa [Lib.keeps] using hb1.2
  rcases hk with rfl | hk
  .omega
  .have := mono a (b - 1) (by omega) (by omega)
   have := mono (b - 1) b (by omega) hbl
   omega
 .intro x
  simp only [List.mem_map, List.mem_filter, List.mem_range]
  constructor
  .rintro ⟨j, ⟨hj, _⟩, rfl⟩
   rw [get j hj]
   simp [hj]
  .intro hx
   -- the first place of x
   have : ∀ n, (∃ j, j < n /\ j < l.length /\ l.toArray[j]! = x) -> ∃ j, (j < l.length /\ Lib.keeps l.toArray j = true) /\ l.toArray[j]! = x := by
    intro n
    induction n with
    | zero => rintro ⟨j, hj, _⟩; omega
    | succ n ih =>
     rintro ⟨j, hj, hjl, he⟩
     cases hk : Lib.keeps l.toArray j with
     | true => exact ⟨j, ⟨hjl, hk⟩, he⟩
     | false =>
      have hk' : ¬ (j = 0 \/ l.toArray[j]! ≠ l.toArray[j - 1]!) := by simpa [Lib.keeps] using hk
      have h0 : j ≠ 0 := fun e => hk' (.inl e)
      have h1 : l.toArray[j]! = l.toArray[j - 1]! := Classical.byContradiction fun q => hk' (.inr q)
      exact ih ⟨j - 1, by omega, by omega, by rw [← h1]; exact he⟩
   obtain ⟨j, hj⟩ := List.getElem?_of_mem hx
   obtain ⟨hjl, hje⟩ := yB hj
   exact this l.length ⟨j, hjl, hjl, by rw [get j hjl]; simp [hjl, hje]⟩
theorem Z0k (l : List Int) : (sortI l).Pairwise (· <= ·) /\ ∀ x, x ∈ sortI l ↔ x ∈ l := by
 refine ⟨?_, fun x => (List.mergeSort_perm l _).mem_iff⟩
 have := List.pairwise_mergeSort (le := fun (x y : Int) => decide (x <= y)) (fun a b c h1 h2 => by simp at *; omega) (fun a b => by simp; omega) l
 exact this.imp fun h => by simpa using h
theorem ZEi {p : List Pt} (h : ProfP p) (from_ to_ : Int) : ZX (sortI ([from_, to_] ++ p.map Pt.t)) = ZT1 p from_ to_ := by
 obtain ⟨s1, s2⟩ := Z0k ([from_, to_] ++ p.map Pt.t)
 obtain ⟨c1, c2⟩ := ZDi s1
 refine ZMf c1 (Zp5 (Zp5 h.asc_times)) fun x => ?_
 rw [c2, s2, ZT1, ZHc, ZHc]
 simp only [List.cons_append, List.nil_append, List.mem_cons]
 constructor
 .rintro (h | h | h)
  .exact .inr (.inl h)
  .exact .inl h
  .exact .inr (.inr h)
 .rintro (h | h | h)
  .exact .inr (.inl h)
  .exact .inl h
  .exact .inr (.inr h)
def pushP (out : List Pt) (t : Int) (w : Vec) : List Pt := match out.getLast? with
 | some e => if e.free = w then out else out ++ [⟨t, w⟩]
 | none => [⟨t, w⟩]
theorem ZCj {out : List Pt} (h : out.length <= 1000) (x : Int) (w : Vec) (k : List Pt -> Option (List Pt × Bool)) : ZW out x k w = k (pushP out x w) := by
 unfold ZW pushP
 cases hl : out with
 | nil =>
  simp only [List.length_nil, List.getLast?_nil]
  rw [show (((0 : Nat) : Int) == 0) = true from rfl, cond_true, bS, Bool.true_or, cond_true, Zm (by simp), bS]; rfl
 | cons a l =>
  have hne : ((out.length : Int) == 0) = false := by rw [hl]; simp; omega
  obtain ⟨e, he⟩ : ∃ e, out[out.length - 1]? = some e := ⟨_, yA (by rw [hl]; simp)⟩
  have hlast : out.getLast? = some e := by rw [List.getLast?_eq_getElem?]; exact he
  rw [← hl, hne, hlast, ZAc (by rw [hl]; simp) (by omega), Zf, he]
  simp only [cond_false, bS, Bool.false_or, Zgk]
  by_cases hw : e.free = w
  .simp [hw]
  .simp only [hw, decide_false, Bool.not_false, cond_true, if_false]
   rw [Zm (by simp; omega), bS]
structure Made (T : List Int) (i : Nat) (out : List Pt) : Prop where
 len : out.length <= i
 mem : ∀ x ∈ out, ∃ j, j < i /\ T[j]? = some x.t
 ok : ∀ x ∈ out, spec_VecOk x.free = true
 asc : ∀ (j : Nat) (x y : Pt), out[j]? = some x -> out[j + 1]? = some y -> x.t < y.t /\ x.free ≠ y.free
 fst : 0 < i -> ∃ x, out[0]? = some x /\ T[0]? = some x.t
theorem Made.nil (T : List Int) : Made T 0 [] where
 len := Nat.le_refl _
 mem := fun x hx => by cases hx
 ok := fun x hx => by cases hx
 asc := fun j x y hx => by simp at hx
 fst := fun h => by omega
theorem Made.push {T : List Int} (hT : T.Pairwise (· < ·)) {i : Nat} {out : List Pt} (M : Made T i out) {t : Int} (ht : T[i]? = some t) {w : Vec} (hw : spec_VecOk w = true) : Made T (i + 1) (pushP out t w) := by
 have lt : ∀ x ∈ out, x.t < t := by
  intro x hx
  obtain ⟨j, hj, he⟩ := M.mem x hx
  obtain ⟨h1, e1⟩ := yB he
  obtain ⟨h2, e2⟩ := yB ht
  rw [← e1, ← e2]
  exact List.pairwise_iff_getElem.1 hT j i h1 h2 hj
 unfold pushP
 cases hl : out.getLast? with
 | none =>
  have : out = [] := List.getLast?_eq_none_iff.1 hl
  subst this
  have hi : i = 0 := by
   cases i with
   | zero => rfl
   | succ i => obtain ⟨x, hx, _⟩ := M.fst (by omega); simp at hx
  subst hi
  exact ⟨by simp, fun x hx => by simp at hx; subst hx; exact ⟨0, by omega, ht⟩, fun x hx => by simp at hx; subst hx; exact hw, fun j x y hx hy => by simp at hy, fun _ => ⟨_, rfl, ht⟩⟩
 | some e =>
  simp only
  by_cases he : e.free = w
  .rw [if_pos he]
   exact ⟨by have := M.len; omega, fun x hx => by obtain ⟨j, hj, h⟩ := M.mem x hx; exact ⟨j, by omega, h⟩, M.ok, M.asc, fun _ => by
    cases i with
    | zero => have := M.len; have : out = [] := List.eq_nil_of_length_eq_zero (by omega); subst this; simp at hl
    | succ i => exact M.fst (by omega)⟩
  .rw [if_neg he]
   refine ⟨by have := M.len; simp; omega, fun x hx => ?_, fun x hx => ?_, fun j x y hx hy => ?_, fun _ => ?_⟩
   .rcases List.mem_append.1 hx with hx | hx
    .obtain ⟨j, hj, h⟩ := M.mem x hx; exact ⟨j, by omega, h⟩
    .simp at hx; subst hx; exact ⟨i, by omega, ht⟩
   .rcases List.mem_append.1 hx with hx | hx
    .exact M.ok x hx
    .simp at hx; subst hx; exact hw
   .by_cases hj : j + 1 < out.length
    .rw [List.getElem?_append_left (by omega)] at hx
     rw [List.getElem?_append_left hj] at hy
     exact M.asc j x y hx hy
    .have hlt := (yB hy).1
     simp only [List.length_append, List.length_cons, List.length_nil] at hlt
     have hje : j = out.length - 1 := by omega
     rw [List.getElem?_append_left (by omega)] at hx
     rw [List.getElem?_append_right (by omega), show j + 1 - out.length = 0 by omega] at hy
     simp at hy
     subst hy
     rw [List.getLast?_eq_getElem?, ← hje, hx] at hl
     have hl := Option.some.inj hl
     subst hl
     exact ⟨lt _ (yE hx), he⟩
   .have hne : out ≠ [] := fun e => by rw [e] at hl; simp at hl
    cases i with
    | zero => have := M.len; exact absurd (List.eq_nil_of_length_eq_zero (by omega)) hne
    | succ i =>
     obtain ⟨x, hx, h⟩ := M.fst (by omega)
     exact ⟨x, by rw [List.getElem?_append_left (by have := (yB hx).1; omega)]; exact hx, h⟩
theorem Zhk {p : List Pt} (h : ProfP p) {from_ to_ : Int} (h1 : time from_ = true) (h2 : time to_ = true) :
  (ZT1 p from_ to_).Pairwise (· < ·) /\ (ZT1 p from_ to_).length <= 202 /\ (∀ t ∈ ZT1 p from_ to_, time t = true) /\ (ZT1 p from_ to_)[0]? = some 0 /\ from_ ∈ ZT1 p from_ to_ := by
 have hp := Zp5 (t := to_) (Zp5 (t := from_) h.asc_times)
 have hm : ∀ t, t ∈ ZT1 p from_ to_ ↔ t = to_ \/ t = from_ \/ t ∈ p.map Pt.t := fun t => by rw [ZT1, ZHc, ZHc]
 have hok : ∀ t ∈ ZT1 p from_ to_, time t = true := by
  intro t ht
  rcases (hm t).1 ht with rfl | rfl | ht
  .exact h2
  .exact h1
  .obtain ⟨x, hx, rfl⟩ := List.mem_map.1 ht
   exact (h.ok x hx).1
 have h0 : (0 : Int) ∈ ZT1 p from_ to_ := by
  obtain ⟨x, hx⟩ : ∃ x, p[0]? = some x := ⟨_, yA h.pos⟩
  exact (hm 0).2 (.inr (.inr (List.mem_map.2 ⟨x, yE hx, h.zero x hx⟩)))
 have hl1 := Zih from_ (p.map Pt.t)
 have hl2 := Zih to_ (insT from_ (p.map Pt.t))
 simp only [List.length_map] at hl1
 have := h.le
 refine ⟨hp, by unfold ZT1; omega, hok, ?_, (hm from_).2 (.inr (.inl rfl))⟩
 obtain ⟨j, hj⟩ := List.getElem?_of_mem h0
 obtain ⟨hjl, hje⟩ := yB hj
 by_cases e : j = 0
 .subst e; exact hj
 .have := List.pairwise_iff_getElem.1 hp 0 j (by unfold ZT1 at hjl; omega) (by unfold ZT1 at hjl; exact hjl) (by omega)
  have h00 := hok (ZT1 p from_ to_)[0] (List.getElem_mem (by omega))
  have := (ZJ5.1 h00).1
  unfold ZT1 at hje this
  omega
def takeB (p : List Pt) (from_ to_ : Int) (v : Vec) (x : Int) (out : List Pt) (k : List Pt -> Option (List Pt × Bool)) : Option (List Pt × Bool) :=
 bif decide (from_ <= x) && decide (x < to_) then (bif (spec_VecSub (atV p x) v).2 then k (pushP out x (spec_VecSub (atV p x) v).1) else some ([], false)) else k (pushP out x (atV p x))
theorem ZZj {p : List Pt} {from_ to_ : Int} {v : Vec} {x : Int} {i : Nat} {out : List Pt} (h : out.length <= 1000) (k : List Pt -> Option (List Pt × Bool)) : Z82 p from_ to_ v false x i out k = takeB p from_ to_ v x out k := by
 unfold Z82 takeB
 rw [Z97, bS]
 cases (decide (from_ <= x) && decide (x < to_)) with
 | false => simp only [cond_false]; rw [ZCj h]
 | true =>
  simp only [cond_true, cond_false, Zx1]
  cases (spec_VecSub (atV p x) v).2 with
  | false => rfl
  | true => simp only [Bool.not_true, cond_false, cond_true]; rw [ZCj h]
theorem Z4k {p : List Pt} (hp : ProfP p) {from_ to_ : Int} {v : Vec} {x : Int} {i : Nat} {out : List Pt} (h : out.length <= 1000) (k : List Pt -> Option (List Pt × Bool)) : Zj p from_ to_ v x i out k = takeB p from_ to_ v x out k := by
 unfold Zj takeB impl_ProfTake_1
 rw [Zqi, bS, ZCf (ZLi hp x)]
 cases (decide (from_ <= x) && decide (x < to_)) with
 | false => simp only [cond_false]; exact ZCj h x _ k
 | true =>
  simp only [cond_true]
  cases (spec_VecSub (atV p x) v).2 with
  | false => rfl
  | true => simp only [Bool.not_true, cond_false, cond_true]; exact ZCj h x _ k
theorem Zne {a b : Vec} (h : (spec_VecSub a b).2 = true) : spec_VecOk (spec_VecSub a b).1 = true := by
 unfold spec_VecSub at h ⊢
 cases hf : spec_VecFits b a with
 | false => rw [hf] at h; simp at h
 | true =>
  simp only [Bool.not_true, cond_false]
  unfold spec_VecFits at hf
  simp only [yD, decide_eq_true_eq] at hf
  obtain ⟨⟨⟨⟨h1, h2⟩, h3⟩, h4⟩, h5⟩ := hf
  have h1 := Zd5.1 h1
  have h2 := Zd5.1 h2
  rw [Zd5, Z72 (by omega), Z72 (by omega), Z72 (by omega)]
  simp only; omega
theorem ZT9 (p : List Pt) (from_ to_ : Int) (v : Vec) : impl_ProfTake p from_ to_ v = spec_ProfTake p from_ to_ v /\ ∃ r, spec_ProfTake p from_ to_ v = some r /\ (r.2 = true -> ProfP r.1) := by
 unfold impl_ProfTake spec_ProfTake
 rw [Zx6, Z91, ZVc, bS, bS]
 cases hpo : profOk p with
 | false => simp
 | true =>
 have hp := Z19.1 hpo
 unfold impl_isSpan
 simp only [Zq6]
 by_cases hs : time from_ = true /\ time to_ = true /\ from_ < to_
 rotate_left
 .have e : ((time from_ && time to_) && decide (from_ < to_)) = false := by
   rw [Bool.eq_false_iff]; intro q; simp only [yD, decide_eq_true_eq] at q; exact hs ⟨q.1.1, q.1.2, q.2⟩
  rw [e, if_neg (fun q => hs q.2)]
  simp
 obtain ⟨h1, h2, h3⟩ := hs
 rw [if_pos ⟨trivial, h1, h2, h3⟩]
 obtain ⟨t1, t2, t3, t4, t5⟩ := Zhk hp h1 h2
 have T := ZQb hp from_ to_
 -- the reference, in common words
 have Zag : spec_l03Change p from_ to_ v false = rgl (fun x _ => takeB p from_ to_ v x) ZV (ZT1 p from_ to_) 0 [] := by
  unfold spec_l03Change
  rw [T, bS]
  refine Zpg (fun i b c => b = c /\ Made (ZT1 p from_ to_) i b) rfl (fun i x y b c k k2 hx hy hr hk => ?_) (fun b c hr => by rw [hr.1]) ⟨rfl, Made.nil _⟩
  obtain ⟨rfl, M⟩ := hr
  rw [hx] at hy; cases hy
  have hil := (yB hx).1
  rw [ZZj (by have := M.len; omega)]
  unfold takeB
  cases (decide (from_ <= x) && decide (x < to_)) with
  | false => exact hk _ _ ⟨rfl, M.push t1 hx (ZLi hp x)⟩
  | true =>
   simp only [cond_true]
   cases hv : (spec_VecSub (atV p x) v).2 with
   | false => rfl
   | true => exact hk _ _ ⟨rfl, M.push t1 hx (Zne hv)⟩
 have ends : ∀ b, Made (ZT1 p from_ to_) (ZT1 p from_ to_).length b -> (profOk b = true ↔ b.length <= 200) := by
  intro b M
  rw [Z19]
  refine ⟨fun h => h.le, fun hl => ?_⟩
  obtain ⟨x, hx, h0⟩ := M.fst (by have := List.length_pos_of_mem t5; omega)
  rw [t4] at h0
  exact ⟨(yB hx).1, hl, fun y hy => by rw [hx] at hy; cases hy; exact (Option.some.inj h0).symm, fun y hy => ⟨by
   obtain ⟨j, _, hj⟩ := M.mem y hy
   exact t3 _ (yE hj), M.ok y hy⟩, M.asc⟩
 have total : ∃ r : List Pt × Bool, rgl (fun x _ => takeB p from_ to_ v x) ZV (ZT1 p from_ to_) 0 [] = some r /\ (r.2 = true -> ProfP r.1) := by
  refine Zx2 (fun i b => Made (ZT1 p from_ to_) i b) (fun o => ∃ r : List Pt × Bool, o = some r /\ (r.2 = true -> ProfP r.1)) (fun i x b k hx M hk => ?_) (fun b M => ?_) (Made.nil _)
  .unfold takeB
   cases (decide (from_ <= x) && decide (x < to_)) with
   | false => exact hk _ (M.push t1 hx (ZLi hp x))
   | true =>
    simp only [cond_true]
    cases hv : (spec_VecSub (atV p x) v).2 with
    | false => exact ⟨_, rfl, fun h => by cases h⟩
    | true => exact hk _ (M.push t1 hx (Zne hv))
  .unfold ZV
   rw [Z91, bS]
   cases hb : profOk b with
   | false => exact ⟨_, rfl, fun h => by cases h⟩
   | true => exact ⟨_, rfl, fun _ => Z19.1 hb⟩
 have bind_id : ∀ o : Option (List Pt × Bool), (o.bind fun y6 => some (y6.1, y6.2)) = o := by intro o; cases o <;> rfl
 simp only [Bool.not_true, Bool.false_or, h1, h2, h3, Bool.and_self, decide_true, cond_false, bind_id, Zt2]
 rw [Zag]
 refine ⟨?_, total⟩
 cases hv : spec_VecOk v with
 | false =>
  simp only [Bool.not_false, cond_true]
  symm
  refine Zx2 (fun i b => Made (ZT1 p from_ to_) i b /\ ∀ j, j < i -> (ZT1 p from_ to_)[j]? ≠ some from_) (fun o => o = some ([], false)) (fun i x b k hx hI hk => ?_) (fun b hI => ?_) ⟨Made.nil _, fun j h => by omega⟩
  .obtain ⟨M, hI⟩ := hI
   have sub : ∀ x, spec_VecSub (atV p x) v = (⟨0, 0, 0⟩, false) := fun x => by unfold spec_VecSub spec_VecFits; rw [hv]; rfl
   unfold takeB
   rw [sub]
   by_cases hf : from_ <= x /\ x < to_
   .simp [hf.1, hf.2]
   .have e : (decide (from_ <= x) && decide (x < to_)) = false := by simpa using fun q => by omega
    rw [e]
    refine hk _ ⟨M.push t1 hx (ZLi hp x), fun j hj e => ?_⟩
    by_cases hji : j = i
    .subst hji; rw [hx] at e; cases e; omega
    .exact hI j (by omega) e
  .obtain ⟨j, hj⟩ := List.getElem?_of_mem t5
   exact absurd hj (hI.2 j (yB hj).1)
 | true =>
  simp only [Bool.not_true, cond_false]
  unfold Zs
  rw [Z42 (bd := ZG) (bs := 8) (p := fun _ => true) (f := Pt.t) (fun x _ i b k => rfl) (by have := hp.le; simp; omega)]
  unfold ZF
  rw [show (p.filter fun _ => true) = p from List.filter_eq_self.2 fun _ _ => rfl]
  have hs : sortQ ([from_, to_] ++ p.map Pt.t) = some (sortI ([from_, to_] ++ p.map Pt.t)) := by
   unfold sortQ
   rw [if_pos (by have := hp.le; simp; omega)]
  rw [hs, bS, ZEi hp]
  refine Zpg (fun i b c => b = c /\ Made (ZT1 p from_ to_) i b) rfl (fun i x y b c k k2 hx hy hr hk => ?_) (fun b c hr => ?_) ⟨rfl, Made.nil _⟩
  .obtain ⟨rfl, M⟩ := hr
   rw [hx] at hy; cases hy
   have hil := (yB hx).1
   rw [Z4k hp (by have := M.len; omega)]
   unfold takeB
   cases (decide (from_ <= x) && decide (x < to_)) with
   | false => exact hk _ _ ⟨rfl, M.push t1 hx (ZLi hp x)⟩
   | true =>
    simp only [cond_true]
    cases hv : (spec_VecSub (atV p x) v).2 with
    | false => rfl
    | true => exact hk _ _ ⟨rfl, M.push t1 hx (Zne hv)⟩
  .obtain ⟨rfl, M⟩ := hr
   unfold ZE ZV
   rw [Z91, bS]
   by_cases hl : b.length <= 200
   .rw [(ends b M).2 hl]
    simp [show ¬ (200 : Int) < b.length by omega]
   .rw [show profOk b = false from Bool.eq_false_iff.2 fun q => hl ((ends b M).1 q)]
    simp [show (200 : Int) < b.length by omega]
def ZYg : L :=
sR [.bx 1 (.t 0),.mv 2 (cB false)]
 (.seq (sR [fA 3 1 0,lD 4 3 1 false,.bi 5 .lss (.t 4) (kI 1),mV 6 5,.g 6 false (fA 7 1 0),.g 6 false (lD 8 7 1 false),.g 6 false (.bi 9 .gtr (.t 8) (kI 999)),.pk 10 (.t 6) (cB true) (.t 9),mV 11 10,.g 11 false (fA 12 1 1),.g 11 false (lD 13 12 1 false),.g 11 false (.bi 14 .lss (.t 13) (kI 0)),.pk 15 (.t 11) (cB true) (.t 14),mV 16 15,.g 16 false (fA 17 1 1),.g 16 false (lD 18 17 1 false),.g 16 false (.bi 19 .gtr (.t 18) (kI 999)),.pk 20 (.t 16) (cB true) (.t 19),mV 21 20,.g 21 false (fA 22 1 2),.g 21 false (lD 23 22 1 false),.g 21 false (.bi 24 .lss (.t 23) (kI 1)),.pk 25 (.t 21) (cB true) (.t 24),mV 26 25,.g 26 false (fA 27 1 2),.g 26 false (lD 28 27 1 false),.g 26 false (.bi 29 .gtr (.t 28) (kI 24)),.pk 30 (.t 26) (cB true) (.t 29)]
 (.cond (.t 30) (.seq (rE 2 (cB false))
 gR)
 .skip))
 (sR [fA 31 1 3,lD 32 31 3 true,cQ 33 Zn [32],mV 34 33,.g 34 true (fA 35 1 6),.g 34 true (lD 36 35 3 true),.g 34 true (cQ 37 Zn [36]),.pk 38 (.t 34) (.t 37) (cB false),mV 39 38,.g 39 true (fA 40 1 9),.g 39 true (lD 41 40 1 false),.g 39 true (.bi 42 .geq (.t 41) (kI 1)),.pk 43 (.t 39) (.t 42) (cB false),mV 44 43,.g 44 true (fA 45 1 9),.g 44 true (lD 46 45 1 false),.g 44 true (.bi 47 .leq (.t 46) (kI 1000000)),.pk 48 (.t 44) (.t 47) (cB false),mV 49 48,.g 49 true (fA 50 1 10),.g 49 true (lD 51 50 1 false),.g 49 true (.bi 52 .geq (.t 51) (kI 0)),.pk 53 (.t 49) (.t 52) (cB false),mV 54 53,.g 54 true (fA 55 1 10),.g 54 true (lD 56 55 1 false),.g 54 true (.bi 57 .leq (.t 56) (kI 24)),.pk 58 (.t 54) (.t 57) (cB false),mV 2 58]
 gR))
def ZM5 (j1 : Job) : Option Bool :=
 bif ((((((decide (j1.id < 1)) || (decide (999 < j1.id))) || (decide (j1.prio < 0))) || (decide (999 < j1.prio))) || (decide (j1.nodes < 1))) || (decide (24 < j1.nodes))) then (some false) else (some ((((((spec_VecOk j1.need) && (spec_VecOk j1.lic)) && (decide (1 <= j1.wall))) && (decide (j1.wall <= 1000000))) && (decide (0 <= j1.level))) && (decide (j1.level <= 24))))
theorem ZWc {j1 : Job} {r : Bool} (H : ZM5 j1 = some r) : Snd Tryz.prog Zd6 [eJob j1] (.bool r) [] := by
 refine wS ZYg [.t 2] ?_
 unfold ZM5 at H
 refine wP ?_
 refine Wh_iH H (fun H => ?_) fun H => ?_
 .refine wP ?_
  replace H := sI H; subst H
  exact wE [(2, .d)]
 .refine wG [.c 33 (Zp j1.need), .g 37 [((spec_VecOk j1.need), true)] (.call _ _ _ _ _ (AEs.refl _) (fun _ => Zp j1.lic))] fun _ => ?_
  replace H := sI H; subst H
  exact wE [(2, .d)]
def spec_JobOk (j1 : Job) : Bool :=
 bif ((((((decide (j1.id < 1)) || (decide (999 < j1.id))) || (decide (j1.prio < 0))) || (decide (999 < j1.prio))) || (decide (j1.nodes < 1))) || (decide (24 < j1.nodes))) then (false) else (((((((spec_VecOk j1.need) && (spec_VecOk j1.lic)) && (decide (1 <= j1.wall))) && (decide (j1.wall <= 1000000))) && (decide (0 <= j1.level))) && (decide (j1.level <= 24))))
theorem ZQh (j1 : Job) : ZM5 j1 = some (spec_JobOk j1) := by
 unfold ZM5 spec_JobOk
 first | rfl | simp only [Zg]
theorem Z1a (j1 : Job) : Snd Tryz.prog Zd6 [eJob j1] (.bool (spec_JobOk j1)) [] := ZWc (ZQh j1)
def Z2f : L :=
sR [.bx 1 (.t 0),.mv 2 (cB false)]
 (.seq (sR [fA 5 1 0,lD 6 5 2 true,cQ 7 Zy3 [6],.un 8 (.t 7),mV 9 8,.g 9 false (fA 10 1 2),.g 9 false (lD 11 10 1 false),.g 9 false (.ln 12 (.t 11)),.g 9 false (fA 13 1 0),.g 9 false (fA 14 13 1),.g 9 false (lD 15 14 1 false),.g 9 false (.ln 16 (.t 15)),.g 9 false (bI 17 .neq 12 16),.pk 18 (.t 9) (cB true) (.t 17),mV 19 18,.g 19 false (fA 20 1 3),.g 19 false (lD 21 20 1 false),.g 19 false (.ln 22 (.t 21)),.g 19 false (fA 23 1 0),.g 19 false (fA 24 23 1),.g 19 false (lD 25 24 1 false),.g 19 false (.ln 26 (.t 25)),.g 19 false (bI 27 .neq 22 26),.pk 28 (.t 19) (cB true) (.t 27),mV 29 28,.g 29 false (fA 30 1 4),.g 29 false (lD 31 30 1 true),.g 29 false (cQ 32 Zz3 [31]),.g 29 false (.un 33 (.t 32)),.pk 34 (.t 29) (cB true) (.t 33)]
 (.cond (.t 34) (.seq (rE 2 (cB false))
 gR)
 .skip))
 (.seq (sR [fA 35 1 3,lD 36 35 1 false,.ln 37 (.t 36),.mv 38 (kI 0)]
 (.blk 0 (.loop (.gw (sR [bI 39 .lss 38 37]
 (.seq (.cond (.t 39) .skip
 (.exit 0))
 (.seq (.blk 1 (sR [iA 40 36 38 1,lD 41 40 1 true,.al 4 [.nl],.st (.t 4) (.t 41) 1]
 (sR [lD 42 4 1 true,cQ 43 Zz3 [42],.un 44 (.t 43)]
 (.cond (.t 44) (.seq (rE 2 (cB false))
 gR)
 .skip))))
 (.reg [.bi 45 .add (.t 38) (kI 1),mV 38 45]))))))))
 (.seq (rE 2 (cB true))
 gR)))
def Zi5 (x5 : List Pt) (_ : Nat) (_ : Unit) (k5 : Unit -> Option Bool) : Option Bool :=
 (spec_ProfOk x5).bind fun b6 => bif (!b6) then (some false) else (k5 ())
def Zf8 (_ : Unit) : Option Bool :=
 some true
def spec_RoomOk (r1 : Room) : Option Bool :=
 (spec_TopoOk r1.topo).bind fun b2 => (bif (((!b2) || ((r1.up.length : Int) != (r1.topo.nodes.length : Int))) || ((r1.profs.length : Int) != (r1.topo.nodes.length : Int))) then some default else (spec_ProfOk r1.lics)).bind fun b3 => bif ((((!b2) || ((r1.up.length : Int) != (r1.topo.nodes.length : Int))) || ((r1.profs.length : Int) != (r1.topo.nodes.length : Int))) || (!b3)) then (some false) else (rgl Zi5 Zf8 r1.profs 0 ())
theorem Zte {r1 : Room} {r : Bool} (H : spec_RoomOk r1 = some r) : Snd Tryz.prog Zta [Zt3 .rd r1] (.bool r) [] := by
 refine wS Z2f [.t 2] ?_
 unfold spec_RoomOk at H
 obtain ⟨b2, h2, H⟩ := bB H
 obtain ⟨b3, h3, H⟩ := bB H
 refine wG [.c 7 (Z04 h2), .g 12 [((!b2), false)] (.ln _ _ fun _ => lm r1.up eBo), .g 16 [((!b2), false)] (.ln _ _ fun _ => lm r1.topo.nodes eNode), .g 22 [(((!b2) || ((r1.up.length : Int) != (r1.topo.nodes.length : Int))), false)] (.ln _ _ fun _ => lm r1.profs (Zk .rd)), .g 26 [(((!b2) || ((r1.up.length : Int) != (r1.topo.nodes.length : Int))), false)] (.ln _ _ fun _ => lm r1.topo.nodes eNode), .g 32 [(_, false)] (.call _ _ _ _ _ (AEs.refl _) (fun q => Z14 (bF q.1 h3)))] fun _ => ?_
 refine Wh_iH H (fun H => ?_) fun H => ?_
 .refine wP ?_
  replace H := sI H; subst H
  exact wE [(2, .d)]
 .refine wG [.u 37 (.ln _ _ fun _ => lm r1.profs (Zk .rd))] fun q4 => ?_
  refine wR (fun (i5 : Nat) (v5 : Unit) => ⟨[(36, .sl .rd 1 (r1.profs.map (Zk .rd))), (37, .int .i64 (r1.profs.length : Int)), (38, .int .i64 (i5 : Int))], [], [], []⟩) H (fun i5 x5 v5 I m k5 hxv5 hiv5 H N27 => ?_) (fun v5 I m H => ?_)
  .unfold Zi5 at H
   refine wP ?_
   refine wt (ltT hiv5) ?_
   obtain ⟨b6, h6, H⟩ := bB H
   refine wG [.u 40 (.ix _ _ _ fun _ => Z0 (Zk .rd) (Z3 hxv5)), .c 43 (Z14 h6)] fun _ => ?_
   refine Wh_iH H (fun H => ?_) fun H => ?_
   .refine wP ?_
    replace H := sI H; subst H
    exact wE [(2, .d)]
   .refine wG [.w 45 (wi .i64 rfl hiv5 q4.1)] fun _ => ?_
    exact wT (N27 () H)
  .unfold Zf8 at H
   refine wP ?_
   refine wf (ltF r1.profs.length) ?_
   refine wP ?_
   replace H := sI H; subst H
   exact wE [(2, .d)]
def Zvd : L :=
sR [.bx 1 (.t 0),.al 2 [.nl]]
 (sR [.bs 3 4 [] true,fA 4 1 0,lD 5 4 1 false,.ap 6 (.t 3) (.t 5) 4 32,.bd 7 [.nl] [(0, 1, (.t 6))],.st (.t 2) (.t 7) 1]
 gR)
def spec_l04Prof (p1 : List Pt) : Option (List Pt) :=
 (appL 32 ([] : List Pt) p1).bind fun xs2 => some xs2
theorem Z58 {p1 : List Pt} {r : (List Pt)} (H : spec_l04Prof p1 = some r) : Snd Tryz.prog Zz6 [.agg [.sl .rd 4 (p1.map ePt)]] (Zk .nw r) [] := by
 refine wS Zvd [.c 2 1 true] ?_
 unfold spec_l04Prof at H
 obtain ⟨xs2, h2, H⟩ := bB H
 refine wG [.u 6 (.ap _ _ _ _ fun _ => Zc ePt h2)] fun _ => ?_
 replace H := sI H; subst H
 exact wN [(2, .d)] [(2, [.f])] [] [3] [] [⟨_, nw_Pt xs2⟩]
def Zxd : L :=
sR [.bx 1 (.t 0),.al 2 [.nl, .nl, .nl, .nl, .nl]]
 (.seq (.rz [(8, 3, [.nl, .nl, .nl, .nl, .nl])] [(1, false, fA 7 1 2),
 (2, false, lD 8 7 1 false),
 (4, false, fA 10 1 4),
 (5, false, lD 11 10 1 true),
 (0, true, .bs 6 1 [] true),
 (3, true, .ap 9 (.t 6) (.t 8) 1 1),
 (6, false, cQ 12 Zz6 [11]),
 (7, true, .bd 13 [.nl, .nl, .nl, .nl, .nl] [(2, 1, (.t 9)), (4, 1, (.t 12))])]
 [.st (.t 3) (.t 13) 5])
 (.seq (.rq 12 [.be 14,fA 15 1 0,fA 16 15 0,lD 17 16 1 false,.ae 18 (.t 14) (.t 17) 1 8,.be 19,fA 20 1 0,fA 21 20 1,lD 22 21 1 false,.ae 23 (.t 19) (.t 22) 4 32,.bd 24 [.nl, .nl] [(0, 1, (.t 18)), (1, 1, (.t 23))],fA 25 3 0,.st (.t 25) (.t 24) 2])
 (.seq (sR [fA 26 1 3,lD 27 26 1 false,.ln 28 (.t 27),.mv 29 (kI 0)]
 (.blk 0 (.loop (.gw (sR [bI 30 .lss 29 28]
 (.seq (.cond (.t 30) .skip
 (.exit 0))
 (.seq (.blk 1 (sR [iA 31 27 29 1,lD 32 31 1 true,.al 5 [.nl],.st (.t 5) (.t 32) 1]
 (.rq 5 [fA 33 3 3,lD 34 33 1 false,lD 35 5 1 true,cQ 36 Zz6 [35],.bs 37 1 [(.t 36)] false,.ap 38 (.t 34) (.t 37) 1 24,fA 39 3 3,.st (.t 39) (.t 38) 1])))
 (.reg [.bi 40 .add (.t 29) (kI 1),mV 29 40]))))))))
 (sR [lD 41 3 5 true,.st (.t 2) (.t 41) 5]
 gR))))
def ZI2 (x7 : List Pt) (_ : Nat) (v7 : (List (List Pt))) (k7 : (List (List Pt)) -> Option Room) : Option Room :=
 (spec_l04Prof x7).bind fun y8 => (appL 24 v7 [y8]).bind fun xs9 => k7 xs9
def Zj4 (xs2 : List Bool) (y3 : (List Pt)) (xs4 : List Int) (xs5 : List Node) (v7 : (List (List Pt))) : Option Room :=
 some (Room.mk (Topo.mk xs4 xs5) xs2 v7 y3)
def spec_l04Copy (r1 : Room) : Option Room :=
 (appL 1 ([] : List Bool) r1.up).bind fun xs2 => (spec_l04Prof r1.lics).bind fun y3 => (appL 8 ([] : List Int) r1.topo.parents).bind fun xs4 => (appL 32 ([] : List Node) r1.topo.nodes).bind fun xs5 => rgl ZI2 (Zj4 xs2 y3 xs4 xs5) r1.profs 0 []
theorem Z88 {r1 : Room} {r : Room} (H : spec_l04Copy r1 = some r) : Snd Tryz.prog ZB6 [Zt3 .rd r1] (.agg [.sl .nw 1 (r.topo.parents.map eI), .sl .nw 4 (r.topo.nodes.map eNode), .sl .nw 1 (r.up.map eBo), .sref 0, .sl .nw 4 (r.lics.map ePt)]) [⟨1, r.profs.map (Zk .nw), false⟩] := by
 refine wS Zxd [.c 2 5 true] ?_
 unfold spec_l04Copy at H
 obtain ⟨xs2, h2, H⟩ := bB H
 obtain ⟨y3, h3, H⟩ := bB H
 obtain ⟨xs4, h4, H⟩ := bB H
 obtain ⟨xs5, h5, H⟩ := bB H
 refine wG [.u 9 (.ap _ _ _ _ fun _ => Zc eBo h2), .c 12 (Z58 h3), .u 18 (.ap _ _ _ _ fun _ => Zc eI h4), .u 23 (.ap _ _ _ _ fun _ => Zc eNode h5), .u 28 (.ln _ _ fun _ => lm r1.profs (Zk .rd))] fun q6 => ?_
 refine Zme (fun (i7 : Nat) (v7 : (List (List Pt))) => ⟨[(2, .ptr 2 0), (3, .ptr 3 0), (27, .sl .rd 1 (r1.profs.map (Zk .rd))), (28, .int .i64 (r1.profs.length : Int)), (29, .int .i64 (i7 : Int))], [], [(2, [.nl, .nl, .nl, .nl, .nl]), (3, [.sl .nw 1 (xs4.map eI), .sl .nw 4 (xs5.map eNode), .sref 6, .sref 425001, .sl .nw 4 (y3.map ePt)])], [(6, ⟨1, xs2.map eBo, false⟩), (425001, ⟨1, v7.map (Zk .nw), false⟩)]⟩) [] [(3, [.d, .d, .d, .z 425001, .d])] [(425001, (none, 1))] [] (by kernel_rfl) (by kernel_rfl) H (fun i7 x7 v7 I m k7 hxv7 hiv7 H N16 => ?_) (fun v7 I m H => ?_)
 .unfold ZI2 at H
  refine wP ?_
  refine wt (ltT hiv7) ?_
  obtain ⟨y8, h8, H⟩ := bB H
  obtain ⟨xs9, h9, H⟩ := bB H
  refine wG [.u 31 (.ix _ _ _ fun _ => Z0 (Zk .rd) (Z3 hxv7)), .c 36 (Z58 h8), .u 38 (.ap _ _ _ _ fun _ => Zc (Zk .nw) h9), .w 40 (wi .i64 rfl hiv7 q6.1)] fun _ => ?_
  exact wT (N16 _ H)
 .unfold Zj4 at H
  refine wP ?_
  refine wf (ltF r1.profs.length) ?_
  refine wP ?_
  replace H := sI H; subst H
  exact wN [(2, .d)] [(2, [.d, .d, .f, .d, .d])] [(425001, some 425001, 0)] [6] [some 425001] [⟨_, nw_I xs4⟩, ⟨_, Z21 xs5⟩, ⟨_, nw_Bo xs2⟩, ⟨_, nw_Pt y3⟩, ⟨_, ZS v7⟩]
def Zwd : L :=
sR [.bx 3 (.t 0),.bx 4 (.t 1),.mv 6 (cB false)]
 (.seq (sR [lD 9 3 5 true,cQ 10 Zta [9],.un 11 (.t 10),mV 12 11,.g 12 false (lD 13 4 11 true),.g 12 false (cQ 14 Zd6 [13]),.g 12 false (.un 15 (.t 14)),.pk 16 (.t 12) (cB true) (.t 15),mV 17 16,.g 17 false (mV 18 2),.g 17 false (.ln 19 (.t 18)),.g 17 false (fA 20 4 2),.g 17 false (lD 21 20 1 false),.g 17 false (bI 22 .neq 19 21),.pk 23 (.t 17) (cB true) (.t 22),mV 24 23,.g 24 false (fA 25 3 0),.g 24 false (lD 26 25 2 true),.g 24 false (mV 27 2),.g 24 false (cQ 28 Zw5 [26, 27]),.g 24 false (.un 29 (.t 28)),.pk 30 (.t 24) (cB true) (.t 29)]
 (.cond (.t 30) (.seq (rE 6 (cB false))
 gR)
 .skip))
 (.seq (sR [mV 31 2,.ln 32 (.t 31),.mv 33 (kI 0)]
 (.blk 0 (.loop (.gw (sR [bI 34 .lss 33 32]
 (.seq (.cond (.t 34) .skip
 (.exit 0))
 (.seq (.blk 1 (sR [mV 35 33,iA 36 31 33 1,lD 37 36 1 false,mV 7 35,mV 8 37]
 (sR [mV 38 2,mV 39 7,.sc 40 (.t 38) none (some (.t 39)) 1,mV 41 8,cQ 42 Zu7 [40, 41]]
 (.cond (.t 42) (.seq (rE 6 (cB false))
 gR)
 .skip))))
 (.reg [.bi 43 .add (.t 33) (kI 1),mV 33 43]))))))))
 (.seq (rE 6 (cB true))
 gR)))
def Zi4 (nodes3 : List Int) (x7 : Int) (i7 : Nat) (_ : Unit) (k7 : Unit -> Option Bool) : Option Bool :=
 (cutL nodes3 none (some (i7 : Int))).bind fun xs8 => (spec_l02Has xs8 x7).bind fun b9 => bif b9 then (some false) else (k7 ())
def ZJ7 (_ : Unit) : Option Bool :=
 some true
def spec_l04Diff (r1 : Room) (j2 : Job) (nodes3 : List Int) : Option Bool :=
 (spec_RoomOk r1).bind fun b4 => (bif (((!b4) || (!(spec_JobOk j2))) || ((nodes3.length : Int) != j2.nodes)) then some default else (spec_l02Nodes r1.topo nodes3)).bind fun b5 => bif ((((!b4) || (!(spec_JobOk j2))) || ((nodes3.length : Int) != j2.nodes)) || (!b5)) then (some false) else (rgl (Zi4 nodes3) ZJ7 nodes3 0 ())
theorem Z68 {r1 : Room} {j2 : Job} {nodes3 : List Int} {r : Bool} (H : spec_l04Diff r1 j2 nodes3 = some r) : Snd Tryz.prog ZA6 [Zt3 .rd r1, eJob j2, .sl .rd 1 (nodes3.map eI)] (.bool r) [] := by
 refine wS Zwd [.t 6] ?_
 unfold spec_l04Diff at H
 obtain ⟨b4, h4, H⟩ := bB H
 obtain ⟨b5, h5, H⟩ := bB H
 refine wG [.c 10 (Zte h4), .g 14 [((!b4), false)] (.call _ _ _ _ _ (AEs.refl _) (fun _ => Z1a j2)), .g 19 [(((!b4) || (!(spec_JobOk j2))), false)] (.ln _ _ fun _ => lm nodes3 eI), .g 28 [(_, false)] (.call _ _ _ _ _ (AEs.refl _) (fun q => ZK7 (bF q.1 h5)))] fun _ => ?_
 refine Wh_iH H (fun H => ?_) fun H => ?_
 .refine wP ?_
  replace H := sI H; subst H
  exact wE [(6, .d)]
 .refine wG [.u 32 (.ln _ _ fun _ => lm nodes3 eI)] fun q6 => ?_
  refine wR (fun (i7 : Nat) (v7 : Unit) => ⟨[(2, .sl .rd 1 (nodes3.map eI)), (31, .sl .rd 1 (nodes3.map eI)), (32, .int .i64 (nodes3.length : Int)), (33, .int .i64 (i7 : Int))], [], [], []⟩) H (fun i7 x7 v7 I m k7 hxv7 hiv7 H N27 => ?_) (fun v7 I m H => ?_)
  .unfold Zi4 at H
   refine wP ?_
   refine wt (ltT hiv7) ?_
   obtain ⟨xs8, h8, H⟩ := bB H
   obtain ⟨b9, h9, H⟩ := bB H
   refine wG [.u 36 (.ix _ _ _ fun _ => Z0 eI (Z3 hxv7)), .u 40 (.sc _ _ _ _ fun _ => ZEh eI h8), .c 42 (Ze9 h9)] fun _ => ?_
   refine Wh_iH H (fun H => ?_) fun H => ?_
   .refine wP ?_
    replace H := sI H; subst H
    exact wE [(6, .d)]
   .refine wG [.w 43 (wi .i64 rfl hiv7 q6.1)] fun _ => ?_
    exact wT (N27 () H)
  .unfold ZJ7 at H
   refine wP ?_
   refine wf (ltF nodes3.length) ?_
   refine wP ?_
   replace H := sI H; subst H
   exact wE [(6, .d)]
def ZDd : L :=
sR [.bx 4 (.t 0),.bx 5 (.t 1),.al 8 [.nl, .nl, .nl, .nl, .nl],.mv 9 (cB false)]
 (.seq (sR [lD 17 4 5 true,lD 18 5 11 true,mV 19 3,cQ 20 ZA6 [17, 18, 19],.un 21 (.t 20),mV 22 21,.g 22 false (mV 23 2),.g 22 false (cQ 24 ZT [23]),.g 22 false (.un 25 (.t 24)),.pk 26 (.t 22) (cB true) (.t 25)]
 (.cond (.t 26) (sR [.bd 27 [.nl, .nl, .nl, .nl, .nl] [],.st (.t 8) (.t 27) 5,.mv 9 (cB false)]
 gR)
 .skip))
 (sR [lD 28 4 5 true,.cl 29 ZB6 [(.t 28)],.al 10 [.nl, .nl, .nl, .nl, .nl],.st (.t 10) (.t 29) 5]
 (.seq (sR [mV 30 3,.ln 31 (.t 30),.mv 32 (kI 0)]
 (.blk 0 (.loop (.gw (sR [bI 33 .lss 32 31]
 (.seq (.cond (.t 33) .skip
 (.exit 0))
 (.seq (.blk 1 (sR [iA 34 30 32 1,lD 35 34 1 false,mV 12 35]
 (.seq (.rz [(16, 13, [.nl])] [(2, false, mV 39 12),
 (5, false, mV 42 2),
 (6, false, mV 43 2),
 (7, false, fA 44 5 9),
 (8, false, lD 45 44 1 false),
 (9, false, bI 46 .add 43 45),
 (10, false, fA 47 5 3),
 (11, false, lD 48 47 3 true),
 (0, true, fA 37 10 3),
 (1, true, lD 38 37 1 false),
 (3, true, iA 40 38 39 1),
 (4, true, lD 41 40 1 true),
 (12, false, cQ 49 Zy5 [41, 42, 46, 48]),
 (13, false, mV 36 49),
 (14, false, eX 50 36 0),
 (15, false, eX 51 36 1)]
 [.st (.t 13) (.t 50) 1,mV 14 51])
 (.seq (sR [mV 52 14,.un 53 (.t 52)]
 (.cond (.t 53) (sR [.bd 54 [.nl, .nl, .nl, .nl, .nl] [],.st (.t 8) (.t 54) 5,.mv 9 (cB false)]
 gR)
 .skip))
 (.reg [fA 55 10 3,lD 56 55 1 false,mV 57 12,lD 58 13 1 true,iA 59 56 57 1,.st (.t 59) (.t 58) 1])))))
 (.reg [.bi 60 .add (.t 32) (kI 1),mV 32 60]))))))))
 (sR [fA 62 10 4,lD 63 62 1 true,mV 64 2,mV 65 2,fA 66 5 9,lD 67 66 1 false,bI 68 .add 65 67,fA 69 5 6,lD 70 69 3 true,cQ 71 Zy5 [63, 64, 68, 70],mV 61 71,eX 72 61 0,eX 73 61 1,.al 15 [.nl],.st (.t 15) (.t 72) 1,mV 16 73]
 (.seq (sR [mV 74 16,.un 75 (.t 74)]
 (.cond (.t 75) (sR [.bd 76 [.nl, .nl, .nl, .nl, .nl] [],.st (.t 8) (.t 76) 5,.mv 9 (cB false)]
 gR)
 .skip))
 (sR [lD 77 15 1 true,fA 78 10 4,.st (.t 78) (.t 77) 1]
 (sR [lD 79 10 5 true,.st (.t 8) (.t 79) 5,.mv 9 (cB true)]
 gR)))))))
def ZP7 (j2 : Job) (at3 : Int) (x8 : Int) (_ : Nat) (v8 : (List (List Pt))) (k8 : (List (List Pt)) -> Option (Room × Bool)) : Option (Room × Bool) :=
 (idx v8 x8).bind fun e9 => (spec_ProfTake e9 at3 (w64 (at3 + j2.wall)) j2.need).bind fun y10 => bif (!y10.2) then (some ((Room.mk (Topo.mk [] []) [] [] []), false)) else (k8 (v8.set x8.toNat y10.1))
def ZO7 (j2 : Job) (at3 : Int) (y6 : Room) (v8 : (List (List Pt))) : Option (Room × Bool) :=
 (spec_ProfTake y6.lics at3 (w64 (at3 + j2.wall)) j2.lic).bind fun y11 => bif (!y11.2) then (some ((Room.mk (Topo.mk [] []) [] [] []), false)) else (some ((Room.mk y6.topo y6.up v8 y11.1), true))
def spec_Reserve (r1 : Room) (j2 : Job) (at3 : Int) (nodes4 : List Int) : Option (Room × Bool) :=
 (spec_l04Diff r1 j2 nodes4).bind fun b5 => bif ((!b5) || (!(spec_l01Time at3))) then (some ((Room.mk (Topo.mk [] []) [] [] []), false)) else ((spec_l04Copy r1).bind fun y6 => rgl (ZP7 j2 at3) (ZO7 j2 at3 y6) nodes4 0 y6.profs)
theorem ZQc {r1 : Room} {j2 : Job} {at3 : Int} {nodes4 : List Int} {r : Room × Bool} (H : spec_Reserve r1 j2 at3 nodes4 = some r) : Snd Tryz.prog Zs9 [Zt3 .rd r1, eJob j2, .int .i64 at3, .sl .rd 1 (nodes4.map eI)] (.tup [Zt3 .nw r.1, .bool r.2]) [] := by
 refine wS ZDd [.c 8 5 true, .t 9] ?_
 unfold spec_Reserve at H
 obtain ⟨b5, h5, H⟩ := bB H
 refine wG [.c 20 (Z68 h5), .g 24 [((!b5), false)] (.call _ _ _ _ _ (AEs.refl _) (fun _ => Zk1 at3))] fun _ => ?_
 refine Wh_iH H (fun H => ?_) fun H => ?_
 .refine wP ?_
  replace H := sI H; subst H
  exact wN [(8, .d), (9, .d)] [(8, [.n 1, .n 4, .n 1, .n 1, .n 4])] [] [] [] [⟨_, nw_I ([] : List Int)⟩, ⟨_, Z21 ([] : List Node)⟩, ⟨_, nw_Bo ([] : List Bool)⟩, ⟨_, ZS ([] : List (List Pt))⟩, ⟨_, nw_Pt ([] : List Pt)⟩]
 .obtain ⟨y6, h6, H⟩ := bB H
  refine wG [.c 29 (Z88 h6), .u 31 (.ln _ _ fun _ => lm nodes4 eI)] fun q7 => ?_
  refine wR (fun (i8 : Nat) (v8 : (List (List Pt))) => ⟨[(2, .int .i64 at3), (5, .ptr 5 0), (8, .ptr 8 0), (10, .ptr 10 0), (30, .sl .rd 1 (nodes4.map eI)), (31, .int .i64 (nodes4.length : Int)), (32, .int .i64 (i8 : Int))], [], [(5, (eJob j2).cells), (8, [.nl, .nl, .nl, .nl, .nl]), (10, [.sl .nw 1 (y6.topo.parents.map eI), .sl .nw 4 (y6.topo.nodes.map eNode), .sl .nw 1 (y6.up.map eBo), .sref 30000, .sl .nw 4 (y6.lics.map ePt)])], [(30000, ⟨1, v8.map (Zk .nw), false⟩)]⟩) H (fun i8 x8 v8 I m k8 hxv8 hiv8 H N32 => ?_) (fun v8 I m H => ?_)
  .unfold ZP7 at H
   refine wP ?_
   refine wt (ltT hiv8) ?_
   obtain ⟨e9, h9, H⟩ := bB H
   obtain ⟨y10, h10, H⟩ := bB H
   refine wG [.u 34 (.ix _ _ _ fun _ => Z0 eI (Z3 hxv8)), .u 40 (.ix _ _ _ fun _ => Z0 (Zk .nw) h9), .u 41 (.el _ _ _ fun _ => gm (Zk .nw) (ZA2 h9)), .c 49 (ZQ7 h10)] fun _ => ?_
   refine Wh_iH H (fun H => ?_) fun H => ?_
   .refine wP ?_
    replace H := sI H; subst H
    exact wN [(8, .d), (9, .d)] [(8, [.n 1, .n 4, .n 1, .n 1, .n 4])] [] [] [] [⟨_, nw_I ([] : List Int)⟩, ⟨_, Z21 ([] : List Node)⟩, ⟨_, nw_Bo ([] : List Bool)⟩, ⟨_, ZS ([] : List (List Pt))⟩, ⟨_, nw_Pt ([] : List Pt)⟩]
   .refine wG [.u 59 (.ix _ _ _ fun _ => Z0 (Zk .nw) h9), .u 1000000 (.sto _ _ _ (Zk .nw y10.1) _ (fun _ => gm (Zk .nw) (ZA2 h9)) (fun _ => Zm8 ..)), .w 60 (wi .i64 rfl hiv8 q7.1)] fun _ => ?_
    exact wT (N32 _ H)
  .unfold ZO7 at H
   refine wP ?_
   refine wf (ltF nodes4.length) ?_
   obtain ⟨y11, h11, H⟩ := bB H
   refine wG [.c 71 (ZQ7 h11)] fun _ => ?_
   refine Wh_iH H (fun H => ?_) fun H => ?_
   .refine wP ?_
    replace H := sI H; subst H
    exact wN [(8, .d), (9, .d)] [(8, [.n 1, .n 4, .n 1, .n 1, .n 4])] [] [] [] [⟨_, nw_I ([] : List Int)⟩, ⟨_, Z21 ([] : List Node)⟩, ⟨_, nw_Bo ([] : List Bool)⟩, ⟨_, ZS ([] : List (List Pt))⟩, ⟨_, nw_Pt ([] : List Pt)⟩]
   .refine wP ?_
    replace H := sI H; subst H
    exact wN [(8, .d), (9, .d)] [(8, [.d, .d, .d, .f, .d])] [] [30000] [] [⟨_, nw_I y6.topo.parents⟩, ⟨_, Z21 y6.topo.nodes⟩, ⟨_, nw_Bo y6.up⟩, ⟨_, ZS v8⟩, ⟨_, nw_Pt y11.1⟩]
def Zic : L :=
sR [.bx 1 (.t 0),.al 2 [.nl, .nl, .nl, .nl, .nl]]
 (.seq (.rz [(10, 3, [.nl, .nl, .nl, .nl, .nl])] [(0, false, fA 6 1 0),
 (1, false, lD 7 6 2 true),
 (2, false, cQ 8 ZD5 [7]),
 (3, false, fA 9 1 2),
 (4, false, lD 10 9 1 false),
 (6, false, fA 12 1 4),
 (7, false, lD 13 12 1 true),
 (5, true, .ap 11 (.c (.nl)) (.t 10) 1 1),
 (8, false, cQ 14 ZE5 [13]),
 (9, true, .bd 15 [.nl, .nl, .nl, .nl, .nl] [(0, 2, (.t 8)), (2, 1, (.t 11)), (4, 1, (.t 14))])]
 [.st (.t 3) (.t 15) 5])
 (.seq (sR [fA 16 1 3,lD 17 16 1 false,.ln 18 (.t 17),.mv 19 (kI 0)]
 (.blk 0 (.loop (.gw (sR [bI 20 .lss 19 18]
 (.seq (.cond (.t 20) .skip
 (.exit 0))
 (.seq (.blk 1 (sR [iA 21 17 19 1,lD 22 21 1 true,.al 5 [.nl],.st (.t 5) (.t 22) 1]
 (.rq 5 [fA 23 3 3,lD 24 23 1 false,lD 25 5 1 true,cQ 26 ZE5 [25],.bs 27 1 [(.t 26)] false,.ap 28 (.t 24) (.t 27) 1 24,fA 29 3 3,.st (.t 29) (.t 28) 1])))
 (.reg [.bi 30 .add (.t 19) (kI 1),mV 19 30]))))))))
 (sR [lD 31 3 5 true,.st (.t 2) (.t 31) 5]
 gR)))
def Zs2 (x6 : List Pt) (_ : Nat) (v6 : (List (List Pt))) (k6 : (List (List Pt)) -> Option Room) : Option Room :=
 (impl_copyProf x6).bind fun y7 => (appL 24 v6 [y7]).bind fun xs8 => k6 xs8
def ZT3 (y2 : Topo) (xs3 : List Bool) (y4 : (List Pt)) (v6 : (List (List Pt))) : Option Room :=
 some (Room.mk y2 xs3 v6 y4)
def impl_copyRoom (r1 : Room) : Option Room :=
 (impl_copyTopo r1.topo).bind fun y2 => (appL 1 ([] : List Bool) r1.up).bind fun xs3 => (impl_copyProf r1.lics).bind fun y4 => rgl Zs2 (ZT3 y2 xs3 y4) r1.profs 0 []
theorem Zsc {r1 : Room} {r : Room} (H : impl_copyRoom r1 = some r) : Snd Tryz.prog ZU8 [Zt3 .rd r1] (.agg [.sl .nw 1 (r.topo.parents.map eI), .sl .nw 4 (r.topo.nodes.map eNode), .sl .nw 1 (r.up.map eBo), .sref 0, .sl .nw 4 (r.lics.map ePt)]) [⟨1, r.profs.map (Zk .nw), false⟩] := by
 refine wS Zic [.c 2 5 true] ?_
 unfold impl_copyRoom at H
 obtain ⟨y2, h2, H⟩ := bB H
 obtain ⟨xs3, h3, H⟩ := bB H
 obtain ⟨y4, h4, H⟩ := bB H
 refine wG [.c 8 (ZV7 h2), .u 11 (.ap _ _ _ _ fun _ => Zc eBo h3), .c 14 (ZW7 h4), .u 18 (.ln _ _ fun _ => lm r1.profs (Zk .rd))] fun q5 => ?_
 refine Zme (fun (i6 : Nat) (v6 : (List (List Pt))) => ⟨[(2, .ptr 2 0), (3, .ptr 3 0), (17, .sl .rd 1 (r1.profs.map (Zk .rd))), (18, .int .i64 (r1.profs.length : Int)), (19, .int .i64 (i6 : Int))], [], [(2, [.nl, .nl, .nl, .nl, .nl]), (3, [.sl .nw 1 (y2.parents.map eI), .sl .nw 4 (y2.nodes.map eNode), .sref 11, .sref 425001, .sl .nw 4 (y4.map ePt)])], [(11, ⟨1, xs3.map eBo, false⟩), (425001, ⟨1, v6.map (Zk .nw), false⟩)]⟩) [] [(3, [.d, .d, .d, .z 425001, .d])] [(425001, (none, 1))] [] (by kernel_rfl) (by kernel_rfl) H (fun i6 x6 v6 I m k6 hxv6 hiv6 H N15 => ?_) (fun v6 I m H => ?_)
 .unfold Zs2 at H
  refine wP ?_
  refine wt (ltT hiv6) ?_
  obtain ⟨y7, h7, H⟩ := bB H
  obtain ⟨xs8, h8, H⟩ := bB H
  refine wG [.u 21 (.ix _ _ _ fun _ => Z0 (Zk .rd) (Z3 hxv6)), .c 26 (ZW7 h7), .u 28 (.ap _ _ _ _ fun _ => Zc (Zk .nw) h8), .w 30 (wi .i64 rfl hiv6 q5.1)] fun _ => ?_
  exact wT (N15 _ H)
 .unfold ZT3 at H
  refine wP ?_
  refine wf (ltF r1.profs.length) ?_
  refine wP ?_
  replace H := sI H; subst H
  exact wN [(2, .d)] [(2, [.d, .d, .f, .d, .d])] [(425001, some 425001, 0)] [11] [some 425001] [⟨_, nw_I y2.parents⟩, ⟨_, Z21 y2.nodes⟩, ⟨_, nw_Bo xs3⟩, ⟨_, nw_Pt y4⟩, ⟨_, ZS v6⟩]
def Zgh : L :=
sR [.bx 1 (.t 0),.mv 2 (cB false)]
 (sR [fA 3 1 0,lD 4 3 1 false,.cq 5 Za [(.t 4), (kI 1), (kI 999)],mV 6 5,.g 6 true (fA 7 1 1),.g 6 true (lD 8 7 1 false),.g 6 true (.cq 9 Za [(.t 8), (kI 0), (kI 999)]),.pk 10 (.t 6) (.t 9) (cB false),mV 11 10,.g 11 true (fA 12 1 2),.g 11 true (lD 13 12 1 false),.g 11 true (.cq 14 Za [(.t 13), (kI 1), (kI 24)]),.pk 15 (.t 11) (.t 14) (cB false),mV 16 15,.g 16 true (fA 17 1 3),.g 16 true (lD 18 17 3 true),.g 16 true (cQ 19 ZL [18]),.pk 20 (.t 16) (.t 19) (cB false),mV 21 20,.g 21 true (fA 22 1 6),.g 21 true (lD 23 22 3 true),.g 21 true (cQ 24 ZL [23]),.pk 25 (.t 21) (.t 24) (cB false),mV 26 25,.g 26 true (fA 27 1 9),.g 26 true (lD 28 27 1 false),.g 26 true (.cq 29 Za [(.t 28), (kI 1), (kI 1000000)]),.pk 30 (.t 26) (.t 29) (cB false),mV 31 30,.g 31 true (fA 32 1 10),.g 31 true (lD 33 32 1 false),.g 31 true (.cq 34 Za [(.t 33), (kI 0), (kI 24)]),.pk 35 (.t 31) (.t 34) (cB false),mV 2 35]
 gR)
def Za6 (j1 : Job) : Option Bool :=
 some (((((((impl_within j1.id 1 999) && (impl_within j1.prio 0 999)) && (impl_within j1.nodes 1 24)) && (impl_VecOk j1.need)) && (impl_VecOk j1.lic)) && (impl_within j1.wall 1 1000000)) && (impl_within j1.level 0 24))
theorem Z8e {j1 : Job} {r : Bool} (H : Za6 j1 = some r) : Snd Tryz.prog Ze4 [eJob j1] (.bool r) [] := by
 refine wS Zgh [.t 2] ?_
 unfold Za6 at H
 refine wG [.c 5 (Z6 j1.id 1 999), .g 9 [((impl_within j1.id 1 999), true)] (.call _ _ _ _ _ (AEs.refl _) (fun _ => Z6 j1.prio 0 999)), .g 14 [(((impl_within j1.id 1 999) && (impl_within j1.prio 0 999)), true)] (.call _ _ _ _ _ (AEs.refl _) (fun _ => Z6 j1.nodes 1 24)), .g 19 [((((impl_within j1.id 1 999) && (impl_within j1.prio 0 999)) && (impl_within j1.nodes 1 24)), true)] (.call _ _ _ _ _ (AEs.refl _) (fun _ => ZQ j1.need)), .g 24 [(((((impl_within j1.id 1 999) && (impl_within j1.prio 0 999)) && (impl_within j1.nodes 1 24)) && (impl_VecOk j1.need)), true)] (.call _ _ _ _ _ (AEs.refl _) (fun _ => ZQ j1.lic)), .g 29 [((((((impl_within j1.id 1 999) && (impl_within j1.prio 0 999)) && (impl_within j1.nodes 1 24)) && (impl_VecOk j1.need)) && (impl_VecOk j1.lic)), true)] (.call _ _ _ _ _ (AEs.refl _) (fun _ => Z6 j1.wall 1 1000000)), .g 34 [(((((((impl_within j1.id 1 999) && (impl_within j1.prio 0 999)) && (impl_within j1.nodes 1 24)) && (impl_VecOk j1.need)) && (impl_VecOk j1.lic)) && (impl_within j1.wall 1 1000000)), true)] (.call _ _ _ _ _ (AEs.refl _) (fun _ => Z6 j1.level 0 24))] fun _ => ?_
 replace H := sI H; subst H
 exact wE [(2, .d)]
def impl_JobOk (j1 : Job) : Bool :=
 (((((((impl_within j1.id 1 999) && (impl_within j1.prio 0 999)) && (impl_within j1.nodes 1 24)) && (impl_VecOk j1.need)) && (impl_VecOk j1.lic)) && (impl_within j1.wall 1 1000000)) && (impl_within j1.level 0 24))
theorem Zsi (j1 : Job) : Za6 j1 = some (impl_JobOk j1) := by
 unfold Za6 impl_JobOk
 first | rfl | simp only [Zg]
theorem Zm7 (j1 : Job) : Snd Tryz.prog Ze4 [eJob j1] (.bool (impl_JobOk j1)) [] := Z8e (Zsi j1)
def Zuf : L :=
sR [.bx 1 (.t 0),.mv 2 (cB false)]
 (.seq (sR [fA 5 1 0,lD 6 5 2 true,cQ 7 Za5 [6],.un 8 (.t 7),mV 9 8,.g 9 false (fA 10 1 2),.g 9 false (lD 11 10 1 false),.g 9 false (.ln 12 (.t 11)),.g 9 false (fA 13 1 0),.g 9 false (fA 14 13 1),.g 9 false (lD 15 14 1 false),.g 9 false (.ln 16 (.t 15)),.g 9 false (bI 17 .neq 12 16),.pk 18 (.t 9) (cB true) (.t 17),mV 19 18,.g 19 false (fA 20 1 3),.g 19 false (lD 21 20 1 false),.g 19 false (.ln 22 (.t 21)),.g 19 false (fA 23 1 0),.g 19 false (fA 24 23 1),.g 19 false (lD 25 24 1 false),.g 19 false (.ln 26 (.t 25)),.g 19 false (bI 27 .neq 22 26),.pk 28 (.t 19) (cB true) (.t 27)]
 (.cond (.t 28) (.seq (rE 2 (cB false))
 gR)
 .skip))
 (.seq (sR [fA 29 1 3,lD 30 29 1 false,.ln 31 (.t 30),.mv 32 (kI 0)]
 (.blk 0 (.loop (.gw (sR [bI 33 .lss 32 31]
 (.seq (.cond (.t 33) .skip
 (.exit 0))
 (.seq (.blk 1 (sR [iA 34 30 32 1,lD 35 34 1 true,.al 4 [.nl],.st (.t 4) (.t 35) 1]
 (sR [lD 36 4 1 true,cQ 37 Zb5 [36],.un 38 (.t 37)]
 (.cond (.t 38) (.seq (rE 2 (cB false))
 gR)
 .skip))))
 (.reg [.bi 39 .add (.t 32) (kI 1),mV 32 39]))))))))
 (sR [fA 40 1 4,lD 41 40 1 true,cQ 42 Zb5 [41],mV 2 42]
 gR)))
def Zt5 (x4 : List Pt) (_ : Nat) (_ : Unit) (k4 : Unit -> Option Bool) : Option Bool :=
 (impl_ProfOk x4).bind fun b5 => bif (!b5) then (some false) else (k4 ())
def Zs5 (r1 : Room) (_ : Unit) : Option Bool :=
 (impl_ProfOk r1.lics).bind fun b6 => some b6
def impl_RoomOk (r1 : Room) : Option Bool :=
 (impl_TopoOk r1.topo).bind fun b2 => bif (((!b2) || ((r1.up.length : Int) != (r1.topo.nodes.length : Int))) || ((r1.profs.length : Int) != (r1.topo.nodes.length : Int))) then (some false) else (rgl Zt5 (Zs5 r1) r1.profs 0 ())
theorem ZDf {r1 : Room} {r : Bool} (H : impl_RoomOk r1 = some r) : Snd Tryz.prog ZGa [Zt3 .rd r1] (.bool r) [] := by
 refine wS Zuf [.t 2] ?_
 unfold impl_RoomOk at H
 obtain ⟨b2, h2, H⟩ := bB H
 refine wG [.c 7 (Zu6 h2), .g 12 [((!b2), false)] (.ln _ _ fun _ => lm r1.up eBo), .g 16 [((!b2), false)] (.ln _ _ fun _ => lm r1.topo.nodes eNode), .g 22 [(((!b2) || ((r1.up.length : Int) != (r1.topo.nodes.length : Int))), false)] (.ln _ _ fun _ => lm r1.profs (Zk .rd)), .g 26 [(((!b2) || ((r1.up.length : Int) != (r1.topo.nodes.length : Int))), false)] (.ln _ _ fun _ => lm r1.topo.nodes eNode)] fun _ => ?_
 refine Wh_iH H (fun H => ?_) fun H => ?_
 .refine wP ?_
  replace H := sI H; subst H
  exact wE [(2, .d)]
 .refine wG [.u 31 (.ln _ _ fun _ => lm r1.profs (Zk .rd))] fun q3 => ?_
  refine wR (fun (i4 : Nat) (v4 : Unit) => ⟨[(1, .ptr 1 0), (30, .sl .rd 1 (r1.profs.map (Zk .rd))), (31, .int .i64 (r1.profs.length : Int)), (32, .int .i64 (i4 : Int))], [], [(1, (Zt3 .rd r1).cells)], []⟩) H (fun i4 x4 v4 I m k4 hxv4 hiv4 H N27 => ?_) (fun v4 I m H => ?_)
  .unfold Zt5 at H
   refine wP ?_
   refine wt (ltT hiv4) ?_
   obtain ⟨b5, h5, H⟩ := bB H
   refine wG [.u 34 (.ix _ _ _ fun _ => Z0 (Zk .rd) (Z3 hxv4)), .c 37 (Zw6 h5)] fun _ => ?_
   refine Wh_iH H (fun H => ?_) fun H => ?_
   .refine wP ?_
    replace H := sI H; subst H
    exact wE [(2, .d)]
   .refine wG [.w 39 (wi .i64 rfl hiv4 q3.1)] fun _ => ?_
    exact wT (N27 () H)
  .unfold Zs5 at H
   refine wP ?_
   refine wf (ltF r1.profs.length) ?_
   obtain ⟨b6, h6, H⟩ := bB H
   refine wG [.c 42 (Zw6 h6)] fun _ => ?_
   replace H := sI H; subst H
   exact wE [(2, .d)]
def Z79 : L :=
.seq (rE 2 (cB false))
 (.seq (.seq (rE 3 (kI 1))
 (.blk 0 (.loop (.gw (.seq (sR [mV 4 3,mV 5 0,.ln 6 (.t 5),bI 7 .lss 4 6]
 (.cond (.t 7) .skip
 (.exit 0)))
 (.seq (.blk 1 (.seq (.rq 10 [mV 10 0,mV 11 3,.bi 12 .sub (.t 11) (kI 1),iA 13 10 12 1,lD 14 13 1 false,mV 15 0,mV 16 3,iA 17 15 16 1,lD 18 17 1 false,bI 19 .geq 14 18])
 (.cond (.t 19) (.seq (rE 2 (cB false))
 gR)
 .skip)))
 (.reg [mV 8 3,.bi 9 .add (.t 8) (kI 1),mV 3 9])))))))
 (.seq (rE 2 (cB true))
 gR))
def ZU (l1 : List Int) (v2 : Int) (k2 : Int -> Option Bool) : Option Bool :=
 bif (decide (v2 < (l1.length : Int))) then ((idx l1 (w64 (v2 - 1))).bind fun e4 => (idx l1 v2).bind fun e5 => bif (decide (e5 <= e4)) then (some false) else (k2 (w64 (v2 + 1)))) else (some true)
def impl_areAscending (l1 : List Int) : Option Bool :=
 whl (ZU l1) 9223372036854775807 1
theorem Z89 {l1 : List Int} {r : Bool} (H : impl_areAscending l1 = some r) : Snd Tryz.prog ZG5 [.sl .rd 1 (l1.map eI)] (.bool r) [] := by
 refine wS Z79 [.t 2] ?_
 unfold impl_areAscending at H
 refine wP ?_
 refine wW (fun (v2 : Int) => ⟨[(0, .sl .rd 1 (l1.map eI)), (3, .int .i64 v2)], [], [], []⟩) H (fun v2 I m k2 H N18 => ?_)
 unfold ZU at H
 refine wG [.u 6 (.ln _ _ fun _ => lm l1 eI)] fun q3 => ?_
 refine Wh_iH H (fun H => ?_) fun H => ?_
 .obtain ⟨e4, h4, H⟩ := bB H
  obtain ⟨e5, h5, H⟩ := bB H
  refine wG [.u 13 (.ix _ _ _ fun _ => Z0 eI h4), .u 17 (.ix _ _ _ fun _ => Z0 eI h5)] fun _ => ?_
  refine Wh_iH H (fun H => ?_) fun H => ?_
  .refine wP ?_
   replace H := sI H; subst H
   exact wE [(2, .d)]
  .refine wP ?_
   exact wT (N18 _ H)
 .refine wP ?_
  replace H := sI H; subst H
  exact wE [(2, .d)]
def ZO9 : L :=
sR [.bx 3 (.t 0),.bx 4 (.t 1),.mv 6 (cB false)]
 (.seq (sR [mV 9 2,.ln 10 (.t 9),.mv 11 (kI 0)]
 (.blk 0 (.loop (.gw (sR [bI 12 .lss 11 10]
 (.seq (.cond (.t 12) .skip
 (.exit 0))
 (.seq (.blk 1 (sR [mV 13 11,iA 14 9 11 1,lD 15 14 1 false,mV 7 13,mV 8 15]
 (sR [mV 16 2,mV 17 7,.sc 18 (.t 16) none (some (.t 17)) 1,mV 19 8,cQ 20 ZB1 [18, 19]]
 (.cond (.t 20) (.seq (rE 6 (cB false))
 gR)
 .skip))))
 (.reg [.bi 21 .add (.t 11) (kI 1),mV 11 21]))))))))
 (sR [lD 22 3 2 true,mV 23 2,cQ 24 ZF5 [22, 23],mV 25 24,.g 25 true (mV 26 2),.g 25 true (.ln 27 (.t 26)),.g 25 true (fA 28 4 2),.g 25 true (lD 29 28 1 false),.g 25 true (bI 30 .eql 27 29),.pk 31 (.t 25) (.t 30) (cB false),mV 6 31]
 gR))
def Zz2 (nodes3 : List Int) (x5 : Int) (i5 : Nat) (_ : Unit) (k5 : Unit -> Option Bool) : Option Bool :=
 (cutL nodes3 none (some (i5 : Int))).bind fun xs6 => (slices_Contains_int_int xs6 x5).bind fun b7 => bif b7 then (some false) else (k5 ())
def Zy2 (t1 : Topo) (j2 : Job) (nodes3 : List Int) (_ : Unit) : Option Bool :=
 (impl_areNodes t1 nodes3).bind fun b8 => some (b8 && ((nodes3.length : Int) == j2.nodes))
def impl_areJobNodes (t1 : Topo) (j2 : Job) (nodes3 : List Int) : Option Bool :=
 rgl (Zz2 nodes3) (Zy2 t1 j2 nodes3) nodes3 0 ()
theorem ZP9 {t1 : Topo} {j2 : Job} {nodes3 : List Int} {r : Bool} (H : impl_areJobNodes t1 j2 nodes3 = some r) : Snd Tryz.prog Zi6 [Zz .rd t1, eJob j2, .sl .rd 1 (nodes3.map eI)] (.bool r) [] := by
 refine wS ZO9 [.t 6] ?_
 unfold impl_areJobNodes at H
 refine wG [.u 10 (.ln _ _ fun _ => lm nodes3 eI)] fun q4 => ?_
 refine wR (fun (i5 : Nat) (v5 : Unit) => ⟨[(2, .sl .rd 1 (nodes3.map eI)), (3, .ptr 3 0), (4, .ptr 4 0), (9, .sl .rd 1 (nodes3.map eI)), (10, .int .i64 (nodes3.length : Int)), (11, .int .i64 (i5 : Int))], [], [(3, (Zz .rd t1).cells), (4, (eJob j2).cells)], []⟩) H (fun i5 x5 v5 I m k5 hxv5 hiv5 H N20 => ?_) (fun v5 I m H => ?_)
 .unfold Zz2 at H
  refine wP ?_
  refine wt (ltT hiv5) ?_
  obtain ⟨xs6, h6, H⟩ := bB H
  obtain ⟨b7, h7, H⟩ := bB H
  refine wG [.u 14 (.ix _ _ _ fun _ => Z0 eI (Z3 hxv5)), .u 18 (.sc _ _ _ _ fun _ => ZEh eI h6), .c 20 (Zv2 h7)] fun _ => ?_
  refine Wh_iH H (fun H => ?_) fun H => ?_
  .refine wP ?_
   replace H := sI H; subst H
   exact wE [(6, .d)]
  .refine wG [.w 21 (wi .i64 rfl hiv5 q4.1)] fun _ => ?_
   exact wT (N20 () H)
 .unfold Zy2 at H
  refine wP ?_
  refine wf (ltF nodes3.length) ?_
  obtain ⟨b8, h8, H⟩ := bB H
  refine wG [.c 24 (ZX7 h8), .g 27 [(b8, true)] (.ln _ _ fun _ => lm nodes3 eI)] fun _ => ?_
  replace H := sI H; subst H
  exact wE [(6, .d)]
theorem Zs8 {j : Job} : spec_JobOk j = true ↔ (1 <= j.id /\ j.id <= 999) /\ (0 <= j.prio /\ j.prio <= 999) /\ (1 <= j.nodes /\ j.nodes <= 24) /\ spec_VecOk j.need = true /\ spec_VecOk j.lic = true /\ (1 <= j.wall /\ j.wall <= 1000000) /\ (0 <= j.level /\ j.level <= 24) := by
 unfold spec_JobOk
 by_cases h : (1 <= j.id /\ j.id <= 999) /\ (0 <= j.prio /\ j.prio <= 999) /\ (1 <= j.nodes /\ j.nodes <= 24)
 .rw [show ((((((decide (j.id < 1)) || (decide (999 < j.id))) || (decide (j.prio < 0))) || (decide (999 < j.prio))) || (decide (j.nodes < 1))) || (decide (24 < j.nodes))) = false by simp; omega]
  simp only [cond_false, yD, decide_eq_true_eq]
  constructor
  .intro q; exact ⟨h.1, h.2.1, h.2.2, q.1.1.1.1.1, q.1.1.1.1.2, ⟨q.1.1.1.2, q.1.1.2⟩, q.1.2, q.2⟩
  .intro q; exact ⟨⟨⟨⟨⟨q.2.2.2.1, q.2.2.2.2.1⟩, q.2.2.2.2.2.1.1⟩, q.2.2.2.2.2.1.2⟩, q.2.2.2.2.2.2.1⟩, q.2.2.2.2.2.2.2⟩
 .rw [show ((((((decide (j.id < 1)) || (decide (999 < j.id))) || (decide (j.prio < 0))) || (decide (999 < j.prio))) || (decide (j.nodes < 1))) || (decide (24 < j.nodes))) = true by
   simp only [Bool.or_eq_true, decide_eq_true_eq]; omega]
  simp only [cond_true]
  exact ZR1 fun q => h ⟨q.1, q.2.1, q.2.2.1⟩
theorem Zn7 (j : Job) : impl_JobOk j = spec_JobOk j := by
 rw [Bool.eq_iff_iff, Zs8]
 unfold impl_JobOk impl_within
 simp only [Zt2, yD, decide_eq_true_eq, and_assoc]
structure RoomP (r : Room) : Prop where
 topo : TopoP r.topo
 up : r.up.length = r.topo.nodes.length
 profs : r.profs.length = r.topo.nodes.length
 prof : ∀ p ∈ r.profs, ProfP p
 lics : ProfP r.lics
noncomputable def roomOk (r : Room) : Bool := topoOk r.topo && decide (r.up.length = r.topo.nodes.length) && decide (r.profs.length = r.topo.nodes.length) && profOk r.lics && r.profs.all profOk
theorem ZLf {r : Room} : roomOk r = true ↔ RoomP r := by
 unfold roomOk
 simp only [yD, decide_eq_true_eq, List.all_eq_true, ZC1, Z19]
 exact ⟨fun h => ⟨h.1.1.1.1, h.1.1.1.2, h.1.1.2, h.2, h.1.2⟩, fun h => ⟨⟨⟨⟨h.topo, h.up⟩, h.profs⟩, h.lics⟩, h.prof⟩⟩
theorem ZHg (a b : Nat) : ((a : Int) != (b : Int)) = !decide (a = b) := by
 by_cases h : a = b
 .simp [h]
 .rw [show ((a : Int) != (b : Int)) = true by simp; omega]; simp [h]
theorem Zue (r : Room) : spec_RoomOk r = some (roomOk r) := by
 unfold spec_RoomOk roomOk
 rw [Z32, bS]
 simp only [ZHg, Z91]
 rw [Zg2 (r := some false) (p := fun p => !profOk p) (fun x _ i k => by unfold Zi5; rw [Z91, bS]), ← List.not_all_eq_any_not]
 cases topoOk r.topo <;> cases decide (r.up.length = r.topo.nodes.length) <;> cases decide (r.profs.length = r.topo.nodes.length) <;> cases profOk r.lics <;> cases r.profs.all profOk <;> rfl
theorem ZEf (r : Room) : impl_RoomOk r = some (roomOk r) := by
 unfold impl_RoomOk roomOk
 rw [Zv6, Z32, bS]
 simp only [ZHg]
 rw [Zg2 (r := some false) (p := fun p => !profOk p) (fun x _ i k => by unfold Zt5; rw [Zx6, Z91, bS]), ← List.not_all_eq_any_not]
 unfold Zs5
 rw [Zx6, Z91, bS]
 cases topoOk r.topo <;> cases decide (r.up.length = r.topo.nodes.length) <;> cases decide (r.profs.length = r.topo.nodes.length) <;> cases profOk r.lics <;> cases r.profs.all profOk <;> rfl
structure RoomS (r : Room) : Prop where
 up : r.up.length <= 1048576
 par : r.topo.parents.length <= 1048576
 nodes : r.topo.nodes.length <= 1048576
 profs : r.profs.length <= 1048576
 prof : ∀ p ∈ r.profs, p.length <= 1048576
 lics : r.lics.length <= 1048576
theorem RoomP.small {r : Room} (h : RoomP r) : RoomS r :=
  ⟨by have := h.up; have := h.topo.nodes; omega, by have := h.topo.tree.le; omega, by have := h.topo.nodes; omega, by have := h.profs; have := h.topo.nodes; omega, fun p hp => by have := (h.prof p hp).le; omega, by have := h.lics.le; omega⟩
theorem Z98 {r : Room} (h : RoomS r) : spec_l04Copy r = some r := by
 unfold spec_l04Copy spec_l04Prof
 have := h.up; have := h.lics; have := h.par; have := h.nodes; have := h.profs
 rw [Zm (by simp; omega), bS, Zm (by simp; omega), bS, bS, Zm (by simp; omega), bS, Zm (by simp; omega), bS]
 rw [Z42 (bd := ZI2) (bs := 24) (p := fun _ => true) (f := id) (fun x hx i b k => by
  have := h.prof x hx
  unfold ZI2 spec_l04Prof
  rw [Zm (by simp; omega), bS, bS]; simp) (by simp; omega)]
 unfold Zj4
 simp [List.filter_eq_self.2]
theorem Ztc {r : Room} (h : RoomS r) : impl_copyRoom r = some r := by
 unfold impl_copyRoom impl_copyTopo impl_copyInts impl_copyProf
 have := h.up; have := h.lics; have := h.par; have := h.nodes; have := h.profs
 rw [Zm (by simp; omega), bS, bS, Zm (by simp; omega), bS, bS, Zm (by simp; omega), bS, Zm (by simp; omega), bS, bS]
 rw [Z42 (bd := Zs2) (bs := 24) (p := fun _ => true) (f := id) (fun x hx i b k => by
  have := h.prof x hx
  unfold Zs2 impl_copyProf
  rw [Zm (by simp; omega), bS, bS]; simp) (by simp; omega)]
 unfold ZT3
 simp [List.filter_eq_self.2]
theorem ZDh {α : Type} {l : List α} {i : Nat} (h : i <= l.length) : cutL l none (some (i : Int)) = some (l.take i) := by
 unfold cutL bhi blo
 simp [h]
theorem ZSf {l : List Int} {i : Nat} {x : Int} (hx : l[i]? = some x) : (l.take (i + 1)).Nodup ↔ (l.take i).Nodup /\ x ∉ l.take i := by
 obtain ⟨hi, rfl⟩ := yB hx
 rw [List.take_succ_eq_append_getElem hi, List.nodup_append]
 constructor
 .intro h; exact ⟨h.1, fun hm => h.2.2 _ hm _ (List.mem_singleton.2 rfl) rfl⟩
 .intro h; exact ⟨h.1, by simp, fun a ha b hb e => by rw [List.mem_singleton.1 hb] at e; subst e; exact h.2 ha⟩
theorem ZTf {γ : Type} {bd : Int -> Nat -> Unit -> (Unit -> Option γ) -> Option γ} {kk : Unit -> Option γ} {r : Option γ} {l : List Int}
  (hb : ∀ i x k, i <= l.length -> bd x i () k = bif (l.take i).contains x then r else k ()) : rgl bd kk l 0 () = bif decide l.Nodup then kk () else r := by
 refine Zx2 (fun i (_ : Unit) => (l.take i).Nodup) (fun o => o = bif decide l.Nodup then kk () else r) (fun i x b k hx hI hk => ?_) (fun b hI => ?_) (by simp)
 .have hil := (yB hx).1
  rw [hb i x k (by omega)]
  cases hc : (l.take i).contains x with
  | true =>
   have hm := List.contains_iff_mem.1 hc
   have : ¬ l.Nodup := fun q => ((ZSf hx).1 (q.sublist (List.take_sublist _ _))).2 hm
   simp [this]
  | false => exact hk () ((ZSf hx).2 ⟨hI, fun hm => by rw [List.contains_iff_mem.2 hm] at hc; cases hc⟩)
 .rw [List.take_of_length_le (Nat.le_refl _)] at hI
  simp [hI]
noncomputable def diffOk (r : Room) (j : Job) (nodes : List Int) : Bool := roomOk r && spec_JobOk j && decide ((nodes.length : Int) = j.nodes) && ZM1 r.topo nodes && decide nodes.Nodup
theorem Z78 (r : Room) (j : Job) (nodes : List Int) : spec_l04Diff r j nodes = some (diffOk r j nodes) := by
 unfold spec_l04Diff diffOk
 rw [Zue, bS]
 have e : ((nodes.length : Int) != j.nodes) = !decide ((nodes.length : Int) = j.nodes) := by
  by_cases h : (nodes.length : Int) = j.nodes <;> simp [h]
 simp only [e, Zk4]
 rw [ZTf (r := some false) (fun i x k hi => by unfold Zi4; rw [ZDh hi, bS, Zl6, bS])]
 cases roomOk r <;> cases spec_JobOk j <;> cases decide ((nodes.length : Int) = j.nodes) <;> cases ZM1 r.topo nodes <;> cases decide nodes.Nodup <;> rfl
theorem ZQ9 {t : Topo} (ht : t.nodes.length <= 1048576) (j : Job) (nodes : List Int) : impl_areJobNodes t j nodes = some (decide ((nodes.length : Int) = j.nodes) && ZM1 t nodes && decide nodes.Nodup) := by
 unfold impl_areJobNodes
 rw [ZTf (r := some false) (fun i x k hi => by unfold Zz2; rw [ZDh hi, bS, ZN5, bS])]
 unfold Zy2
 rw [ZY7 t nodes ht, bS]
 have e : ((nodes.length : Int) == j.nodes) = decide ((nodes.length : Int) = j.nodes) := by
  by_cases h : (nodes.length : Int) = j.nodes <;> simp [h]
 rw [e]
 cases decide ((nodes.length : Int) = j.nodes) <;> cases ZM1 t nodes <;> cases decide nodes.Nodup <;> rfl
def Zd3 : Room × Bool := (⟨⟨[], []⟩, [], [], []⟩, false)
def ZW8 (r : Room) (need lic : Vec) (from_ to_ : Int) (nodes : List Int) : Option (Room × Bool) :=
 rgl (fun x _ v k => (idx v x).bind fun e => (spec_ProfTake e from_ to_ need).bind fun y => bif !y.2 then some Zd3 else k (v.set x.toNat y.1))
  (fun v => (spec_ProfTake r.lics from_ to_ lic).bind fun y => bif !y.2 then some Zd3 else some (⟨r.topo, r.up, v, y.1⟩, true)) nodes 0 r.profs
theorem Z9g {r : Room} (hr : RoomP r) (need lic : Vec) (from_ to_ : Int) {nodes : List Int} (hn : ZM1 r.topo nodes = true) :
  ∃ q, ZW8 r need lic from_ to_ nodes = some q /\ (q.2 = true -> RoomP q.1 /\ q.1.topo = r.topo /\ q.1.up = r.up) := by
 have hn := (ZQ3.1 hn).2
 unfold ZW8
 refine Zx2 (fun i (v : List (List Pt)) => v.length = r.topo.nodes.length /\ ∀ p ∈ v, ProfP p) (fun o => ∃ q : Room × Bool, o = some q /\ (q.2 = true -> RoomP q.1 /\ q.1.topo = r.topo /\ q.1.up = r.up)) (fun i x v k hx hI hk => ?_) (fun v hI => ?_) ⟨hr.profs, hr.prof⟩
 .have hx' := hn x (yE hx)
  obtain ⟨e, q1, q2⟩ := Zwh (l := v) (i := x) hx'.1 (by rw [hI.1]; exact hx'.2)
  obtain ⟨y, h1, h2⟩ := (ZT9 e from_ to_ need).2
  rw [q1, bS, h1, bS]
  cases hy : y.2 with
  | false => exact ⟨Zd3, rfl, fun h => by cases h⟩
  | true =>
   refine hk _ ⟨by simp [hI.1], fun p hp => ?_⟩
   rcases List.mem_or_eq_of_mem_set hp with hp | rfl
   .exact hI.2 p hp
   .exact h2 hy
 .obtain ⟨y, h1, h2⟩ := (ZT9 r.lics from_ to_ lic).2
  rw [h1, bS]
  cases hy : y.2 with
  | false => exact ⟨Zd3, rfl, fun h => by cases h⟩
  | true => exact ⟨_, rfl, fun _ => ⟨⟨hr.topo, hr.up, hI.1, hI.2, h2 hy⟩, rfl, rfl⟩⟩
theorem ZRc (r : Room) (j : Job) (t : Int) (nodes : List Int) : spec_Reserve r j t nodes = bif diffOk r j nodes && time t then ZW8 r j.need j.lic t (w64 (t + j.wall)) nodes else some Zd3 := by
 unfold spec_Reserve
 rw [Z78, bS, ZF1]
 cases hd : diffOk r j nodes with
 | false => rfl
 | true =>
  cases time t with
  | false => rfl
  | true =>
   have hr : roomOk r = true := by unfold diffOk at hd; simp only [yD] at hd; exact hd.1.1.1.1
   simp only [Bool.not_true, Bool.or_self, cond_false, Bool.and_self, cond_true]
   rw [Z98 (ZLf.1 hr).small, bS]
   rfl
def ZEd : L :=
.seq (rE 2 (cB false))
 (.seq (sR [mV 6 0,.ln 7 (.t 6),.bi 8 .gtr (.t 7) (kI 60)]
 (.cond (.t 8) (.seq (rE 2 (cB false))
 gR)
 .skip))
 (.seq (sR [mV 9 0,.ln 10 (.t 9),.mv 11 (kI 0)]
 (.blk 0 (.loop (.gw (sR [bI 12 .lss 11 10]
 (.seq (.cond (.t 12) .skip
 (.exit 0))
 (.seq (.blk 1 (sR [mV 13 11,iA 14 9 11 11,lD 15 14 11 true,.al 4 [.int .i64 0, .int .i64 0, .int .i64 0, .int .i64 0, .int .i64 0, .int .i64 0, .int .i64 0, .int .i64 0, .int .i64 0, .int .i64 0, .int .i64 0],mV 3 13,.st (.t 4) (.t 15) 11]
 (.seq (sR [lD 16 4 11 true,cQ 17 Zd6 [16],.un 18 (.t 17)]
 (.cond (.t 18) (.seq (rE 2 (cB false))
 gR)
 .skip))
 (.seq (rE 5 (kI 0))
 (.blk 2 (.loop (.gw (.seq (sR [mV 19 5,mV 20 3,bI 21 .lss 19 20]
 (.cond (.t 21) .skip
 (.exit 2)))
 (.seq (.blk 3 (.seq (.rq 8 [mV 24 0,mV 25 5,iA 26 24 25 11,fA 27 26 0,lD 28 27 1 false,fA 29 4 0,lD 30 29 1 false,bI 31 .eql 28 30])
 (.cond (.t 31) (.seq (rE 2 (cB false))
 gR)
 .skip)))
 (.reg [mV 22 5,.bi 23 .add (.t 22) (kI 1),mV 5 23]))))))))))
 (.reg [.bi 32 .add (.t 11) (kI 1),mV 11 32]))))))))
 (.seq (rE 2 (cB true))
 gR)))
def Z02 (l1 : List Job) (i4 : Nat) (x4 : Job) (k4 : Unit -> Option Bool) (v5 : Int) (k5 : Int -> Option Bool) : Option Bool :=
 bif (decide (v5 < (i4 : Int))) then ((idx l1 v5).bind fun e6 => bif (e6.id == x4.id) then (some false) else (k5 (w64 (v5 + 1)))) else (k4 ())
def Zo4 (l1 : List Job) (x4 : Job) (i4 : Nat) (_ : Unit) (k4 : Unit -> Option Bool) : Option Bool :=
 bif (!(spec_JobOk x4)) then (some false) else (whl (Z02 l1 i4 x4 k4) 9223372036854775807 0)
def Zn4 (_ : Unit) : Option Bool :=
 some true
def spec_QueueOk (l1 : List Job) : Option Bool :=
 bif (decide (60 < (l1.length : Int))) then (some false) else (rgl (Zo4 l1) Zn4 l1 0 ())
theorem ZSc {l1 : List Job} {r : Bool} (H : spec_QueueOk l1 = some r) : Snd Tryz.prog Zt9 [.sl .rd 11 (l1.map eJob)] (.bool r) [] := by
 refine wS ZEd [.t 2] ?_
 unfold spec_QueueOk at H
 refine wG [.u 7 (.ln _ _ fun _ => lm l1 eJob)] fun q2 => ?_
 refine Wh_iH H (fun H => ?_) fun H => ?_
 .refine wP ?_
  replace H := sI H; subst H
  exact wE [(2, .d)]
 .refine wG [.u 10 (.ln _ _ fun _ => lm l1 eJob)] fun q3 => ?_
  refine wR (fun (i4 : Nat) (v4 : Unit) => ⟨[(0, .sl .rd 11 (l1.map eJob)), (9, .sl .rd 11 (l1.map eJob)), (10, .int .i64 (l1.length : Int)), (11, .int .i64 (i4 : Int))], [], [], []⟩) H (fun i4 x4 v4 I m k4 hxv4 hiv4 H N48 => ?_) (fun v4 I m H => ?_)
  .unfold Zo4 at H
   refine wP ?_
   refine wt (ltT hiv4) ?_
   refine wG [.u 14 (.ix _ _ _ fun _ => Z0 eJob (Z3 hxv4)), .c 17 (Z1a x4)] fun _ => ?_
   refine Wh_iH H (fun H => ?_) fun H => ?_
   .refine wP ?_
    replace H := sI H; subst H
    exact wE [(2, .d)]
   .refine wP ?_
    refine wW (fun (v5 : Int) => ⟨[(0, .sl .rd 11 (l1.map eJob)), (3, .int .i64 (i4 : Int)), (4, .ptr 4 0), (5, .int .i64 v5), (9, .sl .rd 11 (l1.map eJob)), (10, .int .i64 (l1.length : Int)), (11, .int .i64 (i4 : Int))], [], [(4, (eJob x4).cells)], []⟩) H (fun v5 I m k5 H N38 => ?_)
    unfold Z02 at H
    refine wP ?_
    refine Wh_iH H (fun H => ?_) fun H => ?_
    .obtain ⟨e6, h6, H⟩ := bB H
     refine wG [.u 26 (.ix _ _ _ fun _ => Z0 eJob h6)] fun _ => ?_
     refine Wh_iH H (fun H => ?_) fun H => ?_
     .refine wP ?_
      replace H := sI H; subst H
      exact wE [(2, .d)]
     .refine wP ?_
      exact wT (N38 _ H)
    .refine wG [.w 32 (wi .i64 rfl hiv4 q2.1)] fun _ => ?_
     exact wT (N48 () H)
  .unfold Zn4 at H
   refine wP ?_
   refine wf (ltF l1.length) ?_
   refine wP ?_
   replace H := sI H; subst H
   exact wE [(2, .d)]
def Zud : L :=
sR [.al 4 [.int .i64 0, .int .i64 0, .int .i64 0, .int .i64 0, .int .i64 0, .int .i64 0, .int .i64 0, .int .i64 0, .int .i64 0, .int .i64 0, .int .i64 0],.mv 5 (cB false)]
 (.seq (sR [mV 8 0,.ln 9 (.t 8),.mv 10 (kI 0)]
 (.blk 0 (.loop (.gw (sR [bI 11 .lss 10 9]
 (.seq (.cond (.t 11) .skip
 (.exit 0))
 (.seq (.blk 1 (sR [iA 12 8 10 11,lD 13 12 11 true,.al 7 [.int .i64 0, .int .i64 0, .int .i64 0, .int .i64 0, .int .i64 0, .int .i64 0, .int .i64 0, .int .i64 0, .int .i64 0, .int .i64 0, .int .i64 0],.st (.t 7) (.t 13) 11]
 (sR [fA 14 7 0,lD 15 14 1 false,mV 16 1,bI 17 .eql 15 16]
 (.cond (.t 17) (sR [lD 18 7 11 true,.st (.t 4) (.t 18) 11,.mv 5 (cB true)]
 gR)
 .skip))))
 (.reg [.bi 19 .add (.t 10) (kI 1),mV 10 19]))))))))
 (sR [.bd 20 [.int .i64 0, .int .i64 0, .int .i64 0, .int .i64 0, .int .i64 0, .int .i64 0, .int .i64 0, .int .i64 0, .int .i64 0, .int .i64 0, .int .i64 0] [],.st (.t 4) (.t 20) 11,.mv 5 (cB false)]
 gR))
def Zh4 (id2 : Int) (x4 : Job) (_ : Nat) (_ : Unit) (k4 : Unit -> Option (Job × Bool)) : Option (Job × Bool) :=
 bif (x4.id == id2) then (some (x4, true)) else (k4 ())
def ZI7 (_ : Unit) : Option (Job × Bool) :=
 some ((Job.mk 0 0 0 (Vec.mk 0 0 0) (Vec.mk 0 0 0) 0 0), false)
def spec_l05Find (l1 : List Job) (id2 : Int) : Option (Job × Bool) :=
 rgl (Zh4 id2) ZI7 l1 0 ()
theorem Ze5 {l1 : List Job} {id2 : Int} {r : Job × Bool} (H : spec_l05Find l1 id2 = some r) : Snd Tryz.prog Z84 [.sl .rd 11 (l1.map eJob), .int .i64 id2] (.tup [eJob r.1, .bool r.2]) [] := by
 refine wS Zud [.c 4 11 true, .t 5] ?_
 unfold spec_l05Find at H
 refine wG [.u 9 (.ln _ _ fun _ => lm l1 eJob)] fun q3 => ?_
 refine wR (fun (i4 : Nat) (v4 : Unit) => ⟨[(1, .int .i64 id2), (4, .ptr 4 0), (8, .sl .rd 11 (l1.map eJob)), (9, .int .i64 (l1.length : Int)), (10, .int .i64 (i4 : Int))], [], [(4, (eJob (Job.mk 0 0 0 (Vec.mk 0 0 0) (Vec.mk 0 0 0) 0 0)).cells)], []⟩) H (fun i4 x4 v4 I m k4 hxv4 hiv4 H N20 => ?_) (fun v4 I m H => ?_)
 .unfold Zh4 at H
  refine wP ?_
  refine wt (ltT hiv4) ?_
  refine wG [.u 12 (.ix _ _ _ fun _ => Z0 eJob (Z3 hxv4))] fun _ => ?_
  refine Wh_iH H (fun H => ?_) fun H => ?_
  .refine wP ?_
   replace H := sI H; subst H
   exact wN [(4, .d), (5, .d)] [(4, [])] [] [] [] []
  .refine wG [.w 19 (wi .i64 rfl hiv4 q3.1)] fun _ => ?_
   exact wT (N20 () H)
 .unfold ZI7 at H
  refine wP ?_
  refine wf (ltF l1.length) ?_
  refine wP ?_
  replace H := sI H; subst H
  exact wN [(4, .d), (5, .d)] [(4, [])] [] [] [] []
def Z6b : L :=
sR [.bx 2 (.t 0),.mv 3 (cB false)]
 (sR [fA 4 2 0,lD 5 4 1 false,fA 6 1 0,lD 7 6 1 false,bI 8 .eql 5 7,mV 3 8]
 gR)
def ZT2 (k1 : Job) (x2 : Job) : Option Bool :=
 some (k1.id == x2.id)
theorem ZR9 {k1 : Job} {x2 : Job} {r : Bool} (H : ZT2 k1 x2 = some r) : Snd Tryz.prog Zu1 [eJob k1, .ept (eJob x2) 0] (.bool r) [] := by
 refine wS Z6b [.t 3] ?_
 unfold ZT2 at H
 refine wP ?_
 replace H := sI H; subst H
 exact wE [(3, .d)]
def impl_QueueOk_1 (k1 : Job) (x2 : Job) : Bool :=
 (k1.id == x2.id)
theorem Zwc (k1 : Job) (x2 : Job) : ZT2 k1 x2 = some (impl_QueueOk_1 k1 x2) := by
 unfold ZT2 impl_QueueOk_1
 first | rfl | simp only [Zg]
theorem Zab (k1 : Job) (x2 : Job) : Snd Tryz.prog Zu1 [eJob k1, .ept (eJob x2) 0] (.bool (impl_QueueOk_1 k1 x2)) [] := ZR9 (Zwc k1 x2)
def Zg1 : L :=
.seq (rE 4 (kI 0))
 (.seq (sR [mV 6 0,.ln 7 (.t 6),.mv 8 (kI 0)]
 (.blk 0 (.loop (.gw (sR [bI 9 .lss 8 7]
 (.seq (.cond (.t 9) .skip
 (.exit 0))
 (.seq (.blk 1 (sR [mV 10 8,mV 5 10]
 (sR [mV 11 1,mV 12 0,mV 13 5,iA 14 12 13 11,lD 15 14 11 true,.cc 16 (.t 11) [(.t 15)]]
 (.cond (.t 16) (sR [mV 17 5,mV 4 17]
 gR)
 .skip))))
 (.reg [.bi 18 .add (.t 8) (kI 1),mV 8 18]))))))))
 (.seq (rE 4 (kI (-1)))
 gR))
def Z4 (c2 : Job) (x4 : Job) (i4 : Nat) (_ : Unit) (k4 : Unit -> Option Int) : Option Int :=
 bif (impl_QueueOk_1 x4 c2) then (some (i4 : Int)) else (k4 ())
def Ze (_ : Unit) : Option Int :=
 some (-1)
def Z8 (s1 : List Job) (c2 : Job) : Option Int :=
 rgl (Z4 c2) Ze s1 0 ()
theorem Ze1 {s1 : List Job} {c2 : Job} {r : Int} (H : Z8 s1 c2 = some r) : Snd Tryz.prog Z7 [.sl .rd 11 (s1.map eJob), .fn Zu1 [.ept (eJob c2) 0]] (.int .i64 r) [] := by
 refine wS Zg1 [.t 4] ?_
 unfold Z8 at H
 refine wG [.u 7 (.ln _ _ fun _ => lm s1 eJob)] fun q3 => ?_
 refine wR (fun (i4 : Nat) (v4 : Unit) => ⟨[(0, .sl .rd 11 (s1.map eJob)), (1, .fn Zu1 [.ept (eJob c2) 0]), (7, .int .i64 (s1.length : Int)), (8, .int .i64 (i4 : Int))], [], [], []⟩) H (fun i4 x4 v4 I m k4 hxv4 hiv4 H N20 => ?_) (fun v4 I m H => ?_)
 .unfold Z4 at H
  refine wP ?_
  refine wt (ltT hiv4) ?_
  refine wG [.u 14 (.ix _ _ _ fun _ => Z0 eJob (Z3 hxv4)), .u 16 (.clsr _ _ _ _ _ (AEs.refl _) (by kernel_rfl) (fun _ => Zab x4 c2))] fun _ => ?_
  refine Wh_iH H (fun H => ?_) fun H => ?_
  .refine wP ?_
   replace H := sI H; subst H
   exact wE [(4, .d)]
  .refine wG [.w 18 (wi .i64 rfl hiv4 q3.1)] fun _ => ?_
   exact wT (N20 () H)
 .unfold Ze at H
  refine wP ?_
  refine wf (ltF s1.length) ?_
  refine wP ?_
  replace H := sI H; subst H
  exact wE [(4, .d)]
def Z31 : L :=
.seq (rE 4 (cB false))
 (sR [mV 5 0,mV 6 1,cQ 7 Z7 [5, 6],.bi 8 .geq (.t 7) (kI 0),mV 4 8]
 gR)
def Z1 (s1 : List Job) (c2 : Job) : Option Bool :=
 (Z8 s1 c2).bind fun n3 => some (decide (0 <= n3))
theorem ZZ {s1 : List Job} {c2 : Job} {r : Bool} (H : Z1 s1 c2 = some r) : Snd Tryz.prog Zh [.sl .rd 11 (s1.map eJob), .fn Zu1 [.ept (eJob c2) 0]] (.bool r) [] := by
 refine wS Z31 [.t 4] ?_
 unfold Z1 at H
 obtain ⟨n3, h3, H⟩ := bB H
 refine wG [.c 7 (Ze1 h3)] fun _ => ?_
 replace H := sI H; subst H
 exact wE [(4, .d)]
def ZVd : L :=
.seq (rE 2 (cB false))
 (.seq (sR [mV 5 0,.ln 6 (.t 5),.mv 7 (kI 0)]
 (.blk 0 (.loop (.gw (sR [bI 8 .lss 7 6]
 (.seq (.cond (.t 8) .skip
 (.exit 0))
 (.seq (.blk 1 (sR [mV 9 7,iA 10 5 7 11,lD 11 10 11 true,.al 4 [.int .i64 0, .int .i64 0, .int .i64 0, .int .i64 0, .int .i64 0, .int .i64 0, .int .i64 0, .int .i64 0, .int .i64 0, .int .i64 0, .int .i64 0],mV 3 9,.st (.t 4) (.t 11) 11]
 (sR [.fb 4,lD 12 4 11 true,cQ 13 Ze4 [12],.un 14 (.t 13),mV 15 14,.g 15 false (mV 16 0),.g 15 false (mV 17 3),.g 15 false (.sc 18 (.t 16) none (some (.t 17)) 11),.g 15 false (.mf 19 Zu1 [(.t 4)]),.g 15 false (cQ 20 Zh [18, 19]),.pk 21 (.t 15) (cB true) (.t 20)]
 (.cond (.t 21) (.seq (rE 2 (cB false))
 gR)
 .skip))))
 (.reg [.bi 22 .add (.t 7) (kI 1),mV 7 22]))))))))
 (sR [mV 23 0,.ln 24 (.t 23),.bi 25 .leq (.t 24) (kI 60),mV 2 25]
 gR))
def ZB4 (l1 : List Job) (x3 : Job) (i3 : Nat) (_ : Unit) (k3 : Unit -> Option Bool) : Option Bool :=
 (bif (!(impl_JobOk x3)) then some default else (cutL l1 none (some (i3 : Int)))).bind fun xs4 => (bif (!(impl_JobOk x3)) then some default else (Z1 xs4 x3)).bind fun b5 => bif ((!(impl_JobOk x3)) || b5) then (some false) else (k3 ())
def ZA4 (l1 : List Job) (_ : Unit) : Option Bool :=
 some (decide ((l1.length : Int) <= 60))
def impl_QueueOk (l1 : List Job) : Option Bool :=
 rgl (ZB4 l1) (ZA4 l1) l1 0 ()
theorem Z5e {l1 : List Job} {r : Bool} (H : impl_QueueOk l1 = some r) : Snd Tryz.prog ZB9 [.sl .rd 11 (l1.map eJob)] (.bool r) [] := by
 refine wS ZVd [.t 2] ?_
 unfold impl_QueueOk at H
 refine wG [.u 6 (.ln _ _ fun _ => lm l1 eJob)] fun q2 => ?_
 refine wR (fun (i3 : Nat) (v3 : Unit) => ⟨[(0, .sl .rd 11 (l1.map eJob)), (5, .sl .rd 11 (l1.map eJob)), (6, .int .i64 (l1.length : Int)), (7, .int .i64 (i3 : Int))], [], [], []⟩) H (fun i3 x3 v3 I m k3 hxv3 hiv3 H N20 => ?_) (fun v3 I m H => ?_)
 .unfold ZB4 at H
  refine wP ?_
  refine wt (ltT hiv3) ?_
  obtain ⟨xs4, h4, H⟩ := bB H
  obtain ⟨b5, h5, H⟩ := bB H
  refine wG [.u 10 (.ix _ _ _ fun _ => Z0 eJob (Z3 hxv3)), .c 13 (Zm7 x3), .g 18 [(_, false)] (.sc _ _ _ _ fun q => ZEh eJob (bF q.1 h4)), .g 20 [(_, false)] (.call _ _ _ _ _ (AEs.refl _) (fun q => ZZ (bF q.1 h5)))] fun _ => ?_
  refine Wh_iH H (fun H => ?_) fun H => ?_
  .refine wP ?_
   replace H := sI H; subst H
   exact wE [(2, .d)]
  .refine wG [.w 22 (wi .i64 rfl hiv3 q2.1)] fun _ => ?_
   exact wT (N20 () H)
 .unfold ZA4 at H
  refine wP ?_
  refine wf (ltF l1.length) ?_
  refine wG [.u 24 (.ln _ _ fun _ => lm l1 eJob)] fun q6 => ?_
  replace H := sI H; subst H
  exact wE [(2, .d)]
def ZSd : L :=
sR [.bx 2 (.t 0),.mv 3 (cB false)]
 (sR [fA 4 2 0,lD 5 4 1 false,lD 6 1 1 false,bI 7 .eql 5 6,mV 3 7]
 gR)
def Z54 (j1 : Job) (x2 : Int) : Option Bool :=
 some (j1.id == x2)
theorem Z9b {j1 : Job} {x2 : Int} {r : Bool} (H : Z54 j1 x2 = some r) : Snd Tryz.prog ZG2 [eJob j1, .ept (.agg [.int .i64 x2]) 0] (.bool r) [] := by
 refine wS ZSd [.t 3] ?_
 unfold Z54 at H
 refine wP ?_
 replace H := sI H; subst H
 exact wE [(3, .d)]
def impl_jobAt_1 (j1 : Job) (x2 : Int) : Bool :=
 (j1.id == x2)
theorem Zyf (j1 : Job) (x2 : Int) : Z54 j1 x2 = some (impl_jobAt_1 j1 x2) := by
 unfold Z54 impl_jobAt_1
 first | rfl | simp only [Zg]
theorem Z0e (j1 : Job) (x2 : Int) : Snd Tryz.prog ZG2 [eJob j1, .ept (.agg [.int .i64 x2]) 0] (.bool (impl_jobAt_1 j1 x2)) [] := Z9b (Zyf j1 x2)
def Zq1 : L :=
.seq (rE 4 (kI 0))
 (.seq (sR [mV 6 0,.ln 7 (.t 6),.mv 8 (kI 0)]
 (.blk 0 (.loop (.gw (sR [bI 9 .lss 8 7]
 (.seq (.cond (.t 9) .skip
 (.exit 0))
 (.seq (.blk 1 (sR [mV 10 8,mV 5 10]
 (sR [mV 11 1,mV 12 0,mV 13 5,iA 14 12 13 11,lD 15 14 11 true,.cc 16 (.t 11) [(.t 15)]]
 (.cond (.t 16) (sR [mV 17 5,mV 4 17]
 gR)
 .skip))))
 (.reg [.bi 18 .add (.t 8) (kI 1),mV 8 18]))))))))
 (.seq (rE 4 (kI (-1)))
 gR))
def Zy (c2 : Int) (x4 : Job) (i4 : Nat) (_ : Unit) (k4 : Unit -> Option Int) : Option Int :=
 bif (impl_jobAt_1 x4 c2) then (some (i4 : Int)) else (k4 ())
def Zx (_ : Unit) : Option Int :=
 some (-1)
def Zb (s1 : List Job) (c2 : Int) : Option Int :=
 rgl (Zy c2) Zx s1 0 ()
theorem Zp1 {s1 : List Job} {c2 : Int} {r : Int} (H : Zb s1 c2 = some r) : Snd Tryz.prog Z7 [.sl .rd 11 (s1.map eJob), .fn ZG2 [.ept (.agg [.int .i64 c2]) 0]] (.int .i64 r) [] := by
 refine wS Zq1 [.t 4] ?_
 unfold Zb at H
 refine wG [.u 7 (.ln _ _ fun _ => lm s1 eJob)] fun q3 => ?_
 refine wR (fun (i4 : Nat) (v4 : Unit) => ⟨[(0, .sl .rd 11 (s1.map eJob)), (1, .fn ZG2 [.ept (.agg [.int .i64 c2]) 0]), (7, .int .i64 (s1.length : Int)), (8, .int .i64 (i4 : Int))], [], [], []⟩) H (fun i4 x4 v4 I m k4 hxv4 hiv4 H N20 => ?_) (fun v4 I m H => ?_)
 .unfold Zy at H
  refine wP ?_
  refine wt (ltT hiv4) ?_
  refine wG [.u 14 (.ix _ _ _ fun _ => Z0 eJob (Z3 hxv4)), .u 16 (.clsr _ _ _ _ _ (AEs.refl _) (by kernel_rfl) (fun _ => Z0e x4 c2))] fun _ => ?_
  refine Wh_iH H (fun H => ?_) fun H => ?_
  .refine wP ?_
   replace H := sI H; subst H
   exact wE [(4, .d)]
  .refine wG [.w 18 (wi .i64 rfl hiv4 q3.1)] fun _ => ?_
   exact wT (N20 () H)
 .unfold Zx at H
  refine wP ?_
  refine wf (ltF s1.length) ?_
  refine wP ?_
  replace H := sI H; subst H
  exact wE [(4, .d)]
def Zbh : L :=
sR [.bx 3 (.t 1),.mv 4 (kI 0)]
 (sR [.fb 3,mV 5 0,.mf 6 ZG2 [(.t 3)],cQ 7 Z7 [5, 6],mV 4 7]
 gR)
def impl_jobAt (l1 : List Job) (id2 : Int) : Option Int :=
 (Zb l1 id2).bind fun n3 => some n3
theorem Zga {l1 : List Job} {id2 : Int} {r : Int} (H : impl_jobAt l1 id2 = some r) : Snd Tryz.prog ZT8 [.sl .rd 11 (l1.map eJob), .int .i64 id2] (.int .i64 r) [] := by
 refine wS Zbh [.t 4] ?_
 unfold impl_jobAt at H
 obtain ⟨n3, h3, H⟩ := bB H
 refine wG [.c 7 (Zp1 h3)] fun _ => ?_
 replace H := sI H; subst H
 exact wE [(4, .d)]
def Z9c : L :=
sR [.bx 1 (.t 0),.al 2 [.nl, .nl, .nl, .nl, .nl],.mv 3 (cB false)]
 (sR [fA 9 1 0,lD 10 9 2 true,fA 11 1 2,lD 12 11 1 false,.bd 13 [.nl, .nl, .nl, .nl, .nl] [(0, 2, (.t 10)), (2, 1, (.t 12))],.al 4 [.nl, .nl, .nl, .nl, .nl],.st (.t 4) (.t 13) 5]
 (.seq (sR [fA 14 1 0,lD 15 14 2 true,cQ 16 Zy3 [15],.un 17 (.t 16),mV 18 17,.g 18 false (fA 19 1 2),.g 18 false (lD 20 19 1 false),.g 18 false (.ln 21 (.t 20)),.g 18 false (fA 22 1 0),.g 18 false (fA 23 22 1),.g 18 false (lD 24 23 1 false),.g 18 false (.ln 25 (.t 24)),.g 18 false (bI 26 .neq 21 25),.pk 27 (.t 18) (cB true) (.t 26),mV 28 27,.g 28 false (fA 29 1 3),.g 28 false (lD 30 29 3 true),.g 28 false (cQ 31 Zn [30]),.g 28 false (.un 32 (.t 31)),.pk 33 (.t 28) (cB true) (.t 32)]
 (.cond (.t 33) (sR [.bd 34 [.nl, .nl, .nl, .nl, .nl] [],.st (.t 2) (.t 34) 5,.mv 3 (cB false)]
 gR)
 .skip))
 (.seq (sR [fA 35 1 0,fA 36 35 1,lD 37 36 1 false,.ln 38 (.t 37),.mv 39 (kI 0)]
 (.blk 0 (.loop (.gw (sR [bI 40 .lss 39 38]
 (.seq (.cond (.t 40) .skip
 (.exit 0))
 (.seq (.blk 1 (sR [iA 41 37 39 4,lD 42 41 4 true,.al 6 [.int .i64 0, .int .i64 0, .int .i64 0, .int .i64 0],.st (.t 6) (.t 42) 4]
 (sR [fA 44 6 1,lD 45 44 3 true,cQ 46 Z94 [45],mV 43 46,eX 47 43 0,eX 48 43 1,.al 7 [.nl],.st (.t 7) (.t 47) 1,mV 8 48]
 (.reg [fA 49 4 3,lD 50 49 1 false,lD 51 7 1 true,.bs 52 1 [(.t 51)] false,.ap 53 (.t 50) (.t 52) 1 24,fA 54 4 3,.st (.t 54) (.t 53) 1]))))
 (.reg [.bi 55 .add (.t 39) (kI 1),mV 39 55]))))))))
 (sR [fA 57 1 3,lD 58 57 3 true,cQ 59 Z94 [58],mV 56 59,eX 60 56 0,eX 61 56 1,fA 62 4 4,.st (.t 62) (.t 60) 1]
 (sR [lD 63 4 5 true,cQ 64 ZB6 [63],.st (.t 2) (.t 64) 5,.mv 3 (cB true)]
 gR)))))
def ZI3 (x4 : Node) (_ : Nat) (v4 : (List (List Pt))) (k4 : (List (List Pt)) -> Option (Room × Bool)) : Option (Room × Bool) :=
 (appL 24 v4 [(spec_ProfNew x4.cap).1]).bind fun xs5 => k4 xs5
def ZH3 (s1 : State) (v4 : (List (List Pt))) : Option (Room × Bool) :=
 (spec_l04Copy (Room.mk s1.topo s1.up v4 ((spec_ProfNew s1.lic).1))).bind fun y6 => some (y6, true)
def spec_l06Empty (s1 : State) : Option (Room × Bool) :=
 (spec_TopoOk s1.topo).bind fun b2 => bif (((!b2) || ((s1.up.length : Int) != (s1.topo.nodes.length : Int))) || (!(spec_VecOk s1.lic))) then (some ((Room.mk (Topo.mk [] []) [] [] []), false)) else (rgl ZI3 (ZH3 s1) s1.topo.nodes 0 [])
theorem ZNb {s1 : State} {r : Room × Bool} (H : spec_l06Empty s1 = some r) : Snd Tryz.prog ZL8 [Z5 .rd s1] (.tup [Zt3 .nw r.1, .bool r.2]) [] := by
 refine wS Z9c [.c 2 5 true, .t 3] ?_
 unfold spec_l06Empty at H
 obtain ⟨b2, h2, H⟩ := bB H
 refine wG [.c 16 (Z04 h2), .g 21 [((!b2), false)] (.ln _ _ fun _ => lm s1.up eBo), .g 25 [((!b2), false)] (.ln _ _ fun _ => lm s1.topo.nodes eNode), .g 31 [(((!b2) || ((s1.up.length : Int) != (s1.topo.nodes.length : Int))), false)] (.call _ _ _ _ _ (AEs.refl _) (fun _ => Zp s1.lic))] fun _ => ?_
 refine Wh_iH H (fun H => ?_) fun H => ?_
 .refine wP ?_
  replace H := sI H; subst H
  exact wN [(2, .d), (3, .d)] [(2, [.n 1, .n 4, .n 1, .n 1, .n 4])] [] [] [] [⟨_, nw_I ([] : List Int)⟩, ⟨_, Z21 ([] : List Node)⟩, ⟨_, nw_Bo ([] : List Bool)⟩, ⟨_, ZS ([] : List (List Pt))⟩, ⟨_, nw_Pt ([] : List Pt)⟩]
 .refine wG [.u 38 (.ln _ _ fun _ => lm s1.topo.nodes eNode)] fun q3 => ?_
  refine Zme (fun (i4 : Nat) (v4 : (List (List Pt))) => ⟨[(1, .ptr 1 0), (2, .ptr 2 0), (4, .ptr 4 0), (37, .sl .rd 4 (s1.topo.nodes.map eNode)), (38, .int .i64 (s1.topo.nodes.length : Int)), (39, .int .i64 (i4 : Int))], [], [(1, (Z5 .rd s1).cells), (2, [.nl, .nl, .nl, .nl, .nl]), (4, [.sl .rd 1 (s1.topo.parents.map eI), .sl .rd 4 (s1.topo.nodes.map eNode), .sl .rd 1 (s1.up.map eBo), .sref 198000, .nl])], [(198000, ⟨1, v4.map (Zk .nw), false⟩)]⟩) [] [(4, [.d, .d, .d, .z 198000, .d])] [(198000, (none, 1))] [] (by kernel_rfl) (by kernel_rfl) H (fun i4 x4 v4 I m k4 hxv4 hiv4 H N24 => ?_) (fun v4 I m H => ?_)
  .unfold ZI3 at H
   refine wP ?_
   refine wt (ltT hiv4) ?_
   obtain ⟨xs5, h5, H⟩ := bB H
   refine wG [.u 41 (.ix _ _ _ fun _ => Z0 eNode (Z3 hxv4)), .c 46 (Zj8 x4.cap), .u 53 (.ap _ _ _ _ fun _ => Zc (Zk .nw) h5), .w 55 (wi .i64 rfl hiv4 q3.1)] fun _ => ?_
   exact wT (N24 _ H)
  .unfold ZH3 at H
   refine wP ?_
   refine wf (ltF s1.topo.nodes.length) ?_
   obtain ⟨y6, h6, H⟩ := bB H
   refine wG [.c 59 (Zj8 s1.lic), .u 64 (.call _ _ _ _ _ (AEs.of (xs := [.agg [.sl .rd 1 (s1.topo.parents.map eI), .sl .rd 4 (s1.topo.nodes.map eNode), .sl .rd 1 (s1.up.map eBo), .sl .rd 1 (v4.map (Zk .nw)), .sl .rd 4 (((spec_ProfNew s1.lic).1).map ePt)]]) (by simp)) (fun _ => Z88 h6))] fun _ => ?_
   replace H := sI H; subst H
   exact wN [(2, .d), (3, .d)] [(2, [])] [] [] [] [⟨_, nw_I y6.topo.parents⟩, ⟨_, Z21 y6.topo.nodes⟩, ⟨_, nw_Bo y6.up⟩, ⟨_, ZS y6.profs⟩, ⟨_, nw_Pt y6.lics⟩]
def Z3f : L :=
sR [.bx 1 (.t 0),.al 2 [.nl, .nl, .nl, .nl, .nl],.mv 3 (cB false)]
 (sR [lD 13 1 11 true,cQ 14 ZL8 [13],mV 12 14,eX 15 12 0,eX 16 12 1,.al 4 [.nl, .nl, .nl, .nl, .nl],.st (.t 4) (.t 15) 5,mV 5 16]
 (.seq (sR [mV 17 5,.un 18 (.t 17),mV 19 18,.g 19 false (fA 20 1 7),.g 19 false (lD 21 20 1 false),.g 19 false (cQ 22 ZT [21]),.g 19 false (.un 23 (.t 22)),.pk 24 (.t 19) (cB true) (.t 23)]
 (.cond (.t 24) (sR [.bd 25 [.nl, .nl, .nl, .nl, .nl] [],.st (.t 2) (.t 25) 5,.mv 3 (cB false)]
 gR)
 .skip))
 (.seq (sR [fA 26 1 9,lD 27 26 1 false,.ln 28 (.t 27),.mv 29 (kI 0)]
 (.blk 0 (.loop (.gw (sR [bI 30 .lss 29 28]
 (.seq (.cond (.t 30) .skip
 (.exit 0))
 (.seq (.blk 1 (sR [iA 31 27 29 13,lD 32 31 13 true,.al 7 [.int .i64 0, .int .i64 0, .int .i64 0, .int .i64 0, .int .i64 0, .int .i64 0, .int .i64 0, .int .i64 0, .int .i64 0, .int .i64 0, .int .i64 0, .int .i64 0, .nl],.st (.t 7) (.t 32) 13]
 (sR [fA 33 7 11,lD 34 33 1 false,fA 35 7 0,fA 36 35 9,lD 37 36 1 false,bI 38 .add 34 37,mV 8 38]
 (.seq (sR [lD 39 4 5 true,fA 40 7 0,lD 41 40 11 true,fA 42 7 12,lD 43 42 1 false,cQ 44 ZA6 [39, 41, 43],.un 45 (.t 44),mV 46 45,.g 46 false (fA 47 7 11),.g 46 false (lD 48 47 1 false),.g 46 false (cQ 49 ZT [48]),.g 46 false (.un 50 (.t 49)),.pk 51 (.t 46) (cB true) (.t 50),mV 52 51,.g 52 false (fA 53 7 11),.g 52 false (lD 54 53 1 false),.g 52 false (fA 55 1 7),.g 52 false (lD 56 55 1 false),.g 52 false (bI 57 .gtr 54 56),.pk 58 (.t 52) (cB true) (.t 57),mV 59 58,.g 59 false (mV 60 8),.g 59 false (fA 61 1 7),.g 59 false (lD 62 61 1 false),.g 59 false (bI 63 .leq 60 62),.pk 64 (.t 59) (cB true) (.t 63),mV 65 64,.g 65 false (mV 66 8),.g 65 false (.bi 67 .gtr (.t 66) (kI 1000000000)),.pk 68 (.t 65) (cB true) (.t 67)]
 (.cond (.t 68) (sR [.bd 69 [.nl, .nl, .nl, .nl, .nl] [],.st (.t 2) (.t 69) 5,.mv 3 (cB false)]
 gR)
 .skip))
 (sR [fA 70 7 0,lD 71 70 11 true,.al 9 [.int .i64 0, .int .i64 0, .int .i64 0, .int .i64 0, .int .i64 0, .int .i64 0, .int .i64 0, .int .i64 0, .int .i64 0, .int .i64 0, .int .i64 0],.st (.t 9) (.t 71) 11]
 (sR [mV 72 8,fA 73 1 7,lD 74 73 1 false,bI 75 .sub 72 74,fA 76 9 9,.st (.t 76) (.t 75) 1]
 (sR [lD 78 4 5 true,lD 79 9 11 true,fA 80 1 7,lD 81 80 1 false,fA 82 7 12,lD 83 82 1 false,cQ 84 Zs9 [78, 79, 81, 83],mV 77 84,eX 85 77 0,eX 86 77 1,.al 10 [.nl, .nl, .nl, .nl, .nl],.st (.t 10) (.t 85) 5,mV 11 86]
 (.seq (sR [mV 87 11,.un 88 (.t 87)]
 (.cond (.t 88) (sR [.bd 89 [.nl, .nl, .nl, .nl, .nl] [],.st (.t 2) (.t 89) 5,.mv 3 (cB false)]
 gR)
 .skip))
 (.reg [lD 90 10 5 true,.st (.t 4) (.t 90) 5])))))))))
 (.reg [.bi 91 .add (.t 29) (kI 1),mV 29 91]))))))))
 (sR [lD 92 4 5 true,.st (.t 2) (.t 92) 5,.mv 3 (cB true)]
 gR))))
def Z93 (s1 : State) (x4 : Run) (_ : Nat) (v4 : Room) (k4 : Room -> Option (Room × Bool)) : Option (Room × Bool) :=
 (spec_l04Diff v4 x4.job x4.nodes).bind fun b5 => bif (((((!b5) || (!(spec_l01Time x4.t))) || (decide (s1.now < x4.t))) || (decide ((w64 (x4.t + x4.job.wall)) <= s1.now))) || (decide (1000000000 < (w64 (x4.t + x4.job.wall))))) then (some ((Room.mk (Topo.mk [] []) [] [] []), false)) else ((spec_Reserve v4 (Job.mk x4.job.id x4.job.prio x4.job.nodes x4.job.need x4.job.lic (w64 ((w64 (x4.t + x4.job.wall)) - s1.now)) x4.job.level) s1.now x4.nodes).bind fun y6 => bif (!y6.2) then (some ((Room.mk (Topo.mk [] []) [] [] []), false)) else (k4 y6.1))
def Zg8 (v4 : Room) : Option (Room × Bool) :=
 some (v4, true)
def spec_RoomOf (s1 : State) : Option (Room × Bool) :=
 (spec_l06Empty s1).bind fun y2 => bif ((!y2.2) || (!(spec_l01Time s1.now))) then (some ((Room.mk (Topo.mk [] []) [] [] []), false)) else (rgl (Z93 s1) Zg8 s1.runs 0 y2.1)
theorem Zve {s1 : State} {r : Room × Bool} (H : spec_RoomOf s1 = some r) : Snd Tryz.prog Zua [Z5 .rd s1] (.tup [Zt3 .nw r.1, .bool r.2]) [] := by
 refine wS Z3f [.c 2 5 true, .t 3] ?_
 unfold spec_RoomOf at H
 obtain ⟨y2, h2, H⟩ := bB H
 refine wG [.c 14 (ZNb h2), .g 22 [((!y2.2), false)] (.call _ _ _ _ _ (AEs.refl _) (fun _ => Zk1 s1.now))] fun _ => ?_
 refine Wh_iH H (fun H => ?_) fun H => ?_
 .refine wP ?_
  replace H := sI H; subst H
  exact wN [(2, .d), (3, .d)] [(2, [.n 1, .n 4, .n 1, .n 1, .n 4])] [] [] [] [⟨_, nw_I ([] : List Int)⟩, ⟨_, Z21 ([] : List Node)⟩, ⟨_, nw_Bo ([] : List Bool)⟩, ⟨_, ZS ([] : List (List Pt))⟩, ⟨_, nw_Pt ([] : List Pt)⟩]
 .refine wG [.u 28 (.ln _ _ fun _ => lm s1.runs (eRunT .rd))] fun q3 => ?_
  refine wR (fun (i4 : Nat) (v4 : Room) => ⟨[(1, .ptr 1 0), (2, .ptr 2 0), (4, .ptr 4 0), (27, .sl .rd 13 (s1.runs.map (eRunT .rd))), (28, .int .i64 (s1.runs.length : Int)), (29, .int .i64 (i4 : Int))], [], [(1, (Z5 .rd s1).cells), (2, [.nl, .nl, .nl, .nl, .nl]), (4, (Zt3 .nw v4).cells)], []⟩) H (fun i4 x4 v4 I m k4 hxv4 hiv4 H N46 => ?_) (fun v4 I m H => ?_)
  .unfold Z93 at H
   refine wP ?_
   refine wt (ltT hiv4) ?_
   obtain ⟨b5, h5, H⟩ := bB H
   refine wG [.u 31 (.ix _ _ _ fun _ => Z0 (eRunT .rd) (Z3 hxv4)), .u 44 (.call _ _ _ _ _ (AEs.of (xs := [.agg [.sl .rd 1 (v4.topo.parents.map eI), .sl .rd 4 (v4.topo.nodes.map eNode), .sl .rd 1 (v4.up.map eBo), .sl .rd 1 (v4.profs.map (Zk .nw)), .sl .rd 4 (v4.lics.map ePt)], .agg [.int .i64 x4.job.id, .int .i64 x4.job.prio, .int .i64 x4.job.nodes, .int .i64 x4.job.need.a, .int .i64 x4.job.need.b, .int .i64 x4.job.need.c, .int .i64 x4.job.lic.a, .int .i64 x4.job.lic.b, .int .i64 x4.job.lic.c, .int .i64 x4.job.wall, .int .i64 x4.job.level], .sl .rd 1 (x4.nodes.map eI)]) (by simp)) (fun _ => Z68 h5)), .g 49 [((!b5), false)] (.call _ _ _ _ _ (AEs.refl _) (fun _ => Zk1 x4.t))] fun _ => ?_
   refine Wh_iH H (fun H => ?_) fun H => ?_
   .refine wP ?_
    replace H := sI H; subst H
    exact wN [(2, .d), (3, .d)] [(2, [.n 1, .n 4, .n 1, .n 1, .n 4])] [] [] [] [⟨_, nw_I ([] : List Int)⟩, ⟨_, Z21 ([] : List Node)⟩, ⟨_, nw_Bo ([] : List Bool)⟩, ⟨_, ZS ([] : List (List Pt))⟩, ⟨_, nw_Pt ([] : List Pt)⟩]
   .obtain ⟨y6, h6, H⟩ := bB H
    refine wG [.u 84 (.call _ _ _ _ _ (AEs.of (xs := [.agg [.sl .rd 1 (v4.topo.parents.map eI), .sl .rd 4 (v4.topo.nodes.map eNode), .sl .rd 1 (v4.up.map eBo), .sl .rd 1 (v4.profs.map (Zk .nw)), .sl .rd 4 (v4.lics.map ePt)], .agg [.int .i64 x4.job.id, .int .i64 x4.job.prio, .int .i64 x4.job.nodes, .int .i64 x4.job.need.a, .int .i64 x4.job.need.b, .int .i64 x4.job.need.c, .int .i64 x4.job.lic.a, .int .i64 x4.job.lic.b, .int .i64 x4.job.lic.c, .int .i64 (w64 ((w64 (x4.t + x4.job.wall)) - s1.now)), .int .i64 x4.job.level], .int .i64 s1.now, .sl .rd 1 (x4.nodes.map eI)]) (by simp)) (fun _ => ZQc h6))] fun _ => ?_
    refine Wh_iH H (fun H => ?_) fun H => ?_
    .refine wP ?_
     replace H := sI H; subst H
     exact wN [(2, .d), (3, .d)] [(2, [.n 1, .n 4, .n 1, .n 1, .n 4])] [] [] [] [⟨_, nw_I ([] : List Int)⟩, ⟨_, Z21 ([] : List Node)⟩, ⟨_, nw_Bo ([] : List Bool)⟩, ⟨_, ZS ([] : List (List Pt))⟩, ⟨_, nw_Pt ([] : List Pt)⟩]
    .refine wG [.w 91 (wi .i64 rfl hiv4 q3.1)] fun _ => ?_
     exact wT (N46 _ H)
  .unfold Zg8 at H
   refine wP ?_
   refine wf (ltF s1.runs.length) ?_
   refine wP ?_
   replace H := sI H; subst H
   exact wN [(2, .d), (3, .d)] [(2, [])] [] [] [] [⟨_, nw_I v4.topo.parents⟩, ⟨_, Z21 v4.topo.nodes⟩, ⟨_, nw_Bo v4.up⟩, ⟨_, ZS v4.profs⟩, ⟨_, nw_Pt v4.lics⟩]
def Ztd : L :=
sR [.bx 1 (.t 0),.mv 2 (.c (.nl))]
 (sR [.bs 6 11 [] true,fA 7 1 8,lD 8 7 1 false,.ap 9 (.t 6) (.t 8) 11 88,mV 3 9]
 (.seq (sR [fA 10 1 9,lD 11 10 1 false,.ln 12 (.t 11),.mv 13 (kI 0)]
 (.blk 0 (.loop (.gw (sR [bI 14 .lss 13 12]
 (.seq (.cond (.t 14) .skip
 (.exit 0))
 (.seq (.blk 1 (sR [iA 15 11 13 13,lD 16 15 13 true,.al 5 [.int .i64 0, .int .i64 0, .int .i64 0, .int .i64 0, .int .i64 0, .int .i64 0, .int .i64 0, .int .i64 0, .int .i64 0, .int .i64 0, .int .i64 0, .int .i64 0, .nl],.st (.t 5) (.t 16) 13]
 (.reg [mV 17 3,fA 18 5 0,lD 19 18 11 true,.bs 20 11 [(.t 19)] false,.ap 21 (.t 17) (.t 20) 11 88,mV 3 21])))
 (.reg [.bi 22 .add (.t 13) (kI 1),mV 13 22]))))))))
 (sR [mV 23 3,mV 2 23]
 gR)))
def Zg4 (x4 : Run) (_ : Nat) (v4 : (List Job)) (k4 : (List Job) -> Option (List Job)) : Option (List Job) :=
 (appL 88 v4 [x4.job]).bind fun xs5 => k4 xs5
def Zf4 (v4 : (List Job)) : Option (List Job) :=
 some v4
def spec_l06Jobs (s1 : State) : Option (List Job) :=
 (appL 88 ([] : List Job) s1.queue).bind fun xs2 => rgl Zg4 Zf4 s1.runs 0 xs2
theorem Zc2 {s1 : State} {r : (List Job)} (H : spec_l06Jobs s1 = some r) : Snd Tryz.prog Z62 [Z5 .rd s1] (.sl .nw 11 (r.map eJob)) [] := by
 refine wS Ztd [.t 2] ?_
 unfold spec_l06Jobs at H
 obtain ⟨xs2, h2, H⟩ := bB H
 refine wG [.u 9 (.ap _ _ _ _ fun _ => Zc eJob h2), .u 12 (.ln _ _ fun _ => lm s1.runs (eRunT .rd))] fun q3 => ?_
 refine wR (fun (i4 : Nat) (v4 : (List Job)) => ⟨[(3, .sref 6), (11, .sl .rd 13 (s1.runs.map (eRunT .rd))), (12, .int .i64 (s1.runs.length : Int)), (13, .int .i64 (i4 : Int))], [], [], [(6, ⟨11, v4.map eJob, false⟩)]⟩) H (fun i4 x4 v4 I m k4 hxv4 hiv4 H N15 => ?_) (fun v4 I m H => ?_)
 .unfold Zg4 at H
  refine wP ?_
  refine wt (ltT hiv4) ?_
  obtain ⟨xs5, h5, H⟩ := bB H
  refine wG [.u 15 (.ix _ _ _ fun _ => Z0 (eRunT .rd) (Z3 hxv4)), .u 21 (.ap _ _ _ _ fun _ => Zc eJob h5), .w 22 (wi .i64 rfl hiv4 q3.1)] fun _ => ?_
  exact wT (N15 _ H)
 .unfold Zf4 at H
  refine wP ?_
  refine wf (ltF s1.runs.length) ?_
  refine wP ?_
  replace H := sI H; subst H
  exact wN [(2, .f)] [] [] [6] [] [⟨_, Zvj v4⟩]
def ZCd : L :=
sR [.bx 1 (.t 0),.mv 2 (cB false)]
 (sR [lD 12 1 11 true,cQ 13 Zua [12],mV 11 13,eX 14 11 0,eX 15 11 1,.al 3 [.nl, .nl, .nl, .nl, .nl],.st (.t 3) (.t 14) 5,mV 4 15]
 (.seq (sR [mV 16 4,.un 17 (.t 16),mV 18 17,.g 18 false (fA 19 1 6),.g 18 false (lD 20 19 1 false),.g 18 false (.bi 21 .lss (.t 20) (kI 0)),.pk 22 (.t 18) (cB true) (.t 21),mV 23 22,.g 23 false (fA 24 1 6),.g 23 false (lD 25 24 1 false),.g 23 false (.bi 26 .gtr (.t 25) (kI 60)),.pk 27 (.t 23) (cB true) (.t 26),mV 28 27,.g 28 false (lD 29 1 11 true),.g 28 false (cQ 30 Z62 [29]),.g 28 false (cQ 31 Zt9 [30]),.g 28 false (.un 32 (.t 31)),.pk 33 (.t 28) (cB true) (.t 32),mV 34 33,.g 34 false (fA 35 1 10),.g 34 false (lD 36 35 1 false),.g 34 false (.ln 37 (.t 36)),.g 34 false (.bi 38 .gtr (.t 37) (kI 300)),.pk 39 (.t 34) (cB true) (.t 38)]
 (.cond (.t 39) (.seq (rE 2 (cB false))
 gR)
 .skip))
 (.seq (sR [fA 40 1 9,lD 41 40 1 false,.ln 42 (.t 41),.mv 43 (kI 0)]
 (.blk 0 (.loop (.gw (sR [bI 44 .lss 43 42]
 (.seq (.cond (.t 44) .skip
 (.exit 0))
 (.seq (.blk 1 (sR [iA 45 41 43 13,lD 46 45 13 true,.al 6 [.int .i64 0, .int .i64 0, .int .i64 0, .int .i64 0, .int .i64 0, .int .i64 0, .int .i64 0, .int .i64 0, .int .i64 0, .int .i64 0, .int .i64 0, .int .i64 0, .nl],.st (.t 6) (.t 46) 13]
 (.seq (sR [fA 47 6 12,lD 48 47 1 false,.ln 49 (.t 48),.mv 50 (kI 0)]
 (.blk 2 (.loop (.gw (sR [bI 51 .lss 50 49]
 (.seq (.cond (.t 51) .skip
 (.exit 2))
 (.seq (.blk 3 (sR [mV 52 50,iA 53 48 50 1,lD 54 53 1 false,mV 7 52,mV 8 54]
 (sR [fA 55 1 2,lD 56 55 1 false,mV 57 8,iA 58 56 57 1,lD 59 58 1 false,.un 60 (.t 59),mV 61 60,.g 61 false (mV 62 7),.g 61 false (.bi 63 .gtr (.t 62) (kI 0)),.g 61 false (mV 64 63),.g 64 true (fA 65 6 12),.g 64 true (lD 66 65 1 false),.g 64 true (mV 67 7),.g 64 true (.bi 68 .sub (.t 67) (kI 1)),.g 64 true (iA 69 66 68 1),.g 64 true (lD 70 69 1 false),.g 64 true (mV 71 8),.g 64 true (bI 72 .geq 70 71),.g 61 false (.pk 73 (.t 64) (.t 72) (cB false)),.pk 74 (.t 61) (cB true) (.t 73)]
 (.cond (.t 74) (.seq (rE 2 (cB false))
 gR)
 .skip))))
 (.reg [.bi 75 .add (.t 50) (kI 1),mV 50 75]))))))))
 (.seq (.rq 12 [fA 76 1 0,lD 77 76 2 true,fA 78 1 0,lD 79 78 2 true,fA 80 6 12,lD 81 80 1 false,cQ 82 Zva [79, 81],cQ 83 Zl1 [77, 82],fA 84 6 0,fA 85 84 10,lD 86 85 1 false,bI 87 .gtr 83 86])
 (.cond (.t 87) (.seq (rE 2 (cB false))
 gR)
 .skip)))))
 (.reg [.bi 88 .add (.t 43) (kI 1),mV 43 88]))))))))
 (.seq (sR [fA 89 1 10,lD 90 89 1 false,.ln 91 (.t 90),.mv 92 (kI 0)]
 (.blk 4 (.loop (.gw (sR [bI 93 .lss 92 91]
 (.seq (.cond (.t 93) .skip
 (.exit 4))
 (.seq (.blk 5 (sR [iA 94 90 92 3,lD 95 94 3 true,.al 10 [.int .i64 0, .int .i64 0, .int .i64 0],.st (.t 10) (.t 95) 3]
 (sR [fA 96 10 0,lD 97 96 1 false,.bi 98 .lss (.t 97) (kI 1),mV 99 98,.g 99 false (fA 100 10 0),.g 99 false (lD 101 100 1 false),.g 99 false (.bi 102 .gtr (.t 101) (kI 999)),.pk 103 (.t 99) (cB true) (.t 102),mV 104 103,.g 104 false (fA 105 10 1),.g 104 false (lD 106 105 1 false),.g 104 false (.bi 107 .lss (.t 106) (kI 0)),.pk 108 (.t 104) (cB true) (.t 107),mV 109 108,.g 109 false (fA 110 10 1),.g 109 false (lD 111 110 1 false),.g 109 false (fA 112 1 7),.g 109 false (lD 113 112 1 false),.g 109 false (bI 114 .gtr 111 113),.pk 115 (.t 109) (cB true) (.t 114),mV 116 115,.g 116 false (fA 117 10 2),.g 116 false (lD 118 117 1 false),.g 116 false (.bi 119 .lss (.t 118) (kI 1)),.pk 120 (.t 116) (cB true) (.t 119),mV 121 120,.g 121 false (fA 122 10 2),.g 121 false (lD 123 122 1 false),.g 121 false (.bi 124 .gtr (.t 123) (kI 4)),.pk 125 (.t 121) (cB true) (.t 124)]
 (.cond (.t 125) (.seq (rE 2 (cB false))
 gR)
 .skip))))
 (.reg [.bi 126 .add (.t 92) (kI 1),mV 92 126]))))))))
 (.seq (rE 2 (cB true))
 gR)))))
def ZM2 (s1 : State) (x6 : Run) (x8 : Int) (i8 : Nat) (_ : Unit) (k8 : Unit -> Option Bool) : Option Bool :=
 (idx s1.up x8).bind fun e9 => (bif (!e9) then some default else (bif (decide (0 < (i8 : Int))) then (idx x6.nodes (w64 ((i8 : Int) - 1))) else some default)).bind fun e10 => bif ((!e9) || ((decide (0 < (i8 : Int))) && (decide (x8 <= e10)))) then (some false) else (k8 ())
def ZY (s1 : State) (x6 : Run) (k6 : Unit -> Option Bool) (_ : Unit) : Option Bool :=
 (spec_Lowest s1.topo x6.nodes).bind fun n11 => (spec_l02Level s1.topo n11).bind fun n12 => bif (decide (x6.job.level < n12)) then (some false) else (k6 ())
def ZK2 (s1 : State) (x14 : End) (_ : Nat) (_ : Unit) (k14 : Unit -> Option Bool) : Option Bool :=
 bif ((((((decide (x14.id < 1)) || (decide (999 < x14.id))) || (decide (x14.t < 0))) || (decide (s1.now < x14.t))) || (decide (x14.why < 1))) || (decide (4 < x14.why))) then (some false) else (k14 ())
def Zl4 (_ : Unit) : Option Bool :=
 some true
def ZL2 (s1 : State) (x6 : Run) (_ : Nat) (_ : Unit) (k6 : Unit -> Option Bool) : Option Bool :=
 rgl (ZM2 s1 x6) (ZY s1 x6 k6) x6.nodes 0 ()
def Zm4 (s1 : State) (_ : Unit) : Option Bool :=
 rgl (ZK2 s1) Zl4 s1.ends 0 ()
def spec_StateOk (s1 : State) : Option Bool :=
 (spec_RoomOf s1).bind fun y2 => (bif (((!y2.2) || (decide (s1.depth < 0))) || (decide (60 < s1.depth))) then some default else (spec_l06Jobs s1)).bind fun y3 => (bif (((!y2.2) || (decide (s1.depth < 0))) || (decide (60 < s1.depth))) then some default else (spec_QueueOk y3)).bind fun b4 => bif (((((!y2.2) || (decide (s1.depth < 0))) || (decide (60 < s1.depth))) || (!b4)) || (decide (300 < (s1.ends.length : Int)))) then (some false) else (rgl (ZL2 s1) (Zm4 s1) s1.runs 0 ())
theorem Ze8 {s1 : State} {r : Bool} (H : spec_StateOk s1 = some r) : Snd Tryz.prog ZF6 [Z5 .rd s1] (.bool r) [] := by
 refine wS ZCd [.t 2] ?_
 unfold spec_StateOk at H
 obtain ⟨y2, h2, H⟩ := bB H
 obtain ⟨y3, h3, H⟩ := bB H
 obtain ⟨b4, h4, H⟩ := bB H
 refine wG [.c 13 (Zve h2), .g 30 [(_, false)] (.call _ _ _ _ _ (AEs.refl _) (fun q => Zc2 (bF q.1 h3))), .g 31 [(_, false)] (.call _ _ _ _ _ (AEs.refl _) (fun q => ZSc (bF q.1 h4))), .g 37 [(((((!y2.2) || (decide (s1.depth < 0))) || (decide (60 < s1.depth))) || (!b4)), false)] (.ln _ _ fun _ => lm s1.ends eEnd)] fun _ => ?_
 refine Wh_iH H (fun H => ?_) fun H => ?_
 .refine wP ?_
  replace H := sI H; subst H
  exact wE [(2, .d)]
 .refine wG [.u 42 (.ln _ _ fun _ => lm s1.runs (eRunT .rd))] fun q5 => ?_
  refine wR (fun (i6 : Nat) (v6 : Unit) => ⟨[(1, .ptr 1 0), (41, .sl .rd 13 (s1.runs.map (eRunT .rd))), (42, .int .i64 (s1.runs.length : Int)), (43, .int .i64 (i6 : Int))], [], [(1, (Z5 .rd s1).cells)], []⟩) H (fun i6 x6 v6 I m k6 hxv6 hiv6 H N51 => ?_) (fun v6 I m H => ?_)
  .unfold ZL2 at H
   refine wP ?_
   refine wt (ltT hiv6) ?_
   refine wG [.u 45 (.ix _ _ _ fun _ => Z0 (eRunT .rd) (Z3 hxv6)), .u 49 (.ln _ _ fun _ => lm x6.nodes eI)] fun q7 => ?_
   refine wR (fun (i8 : Nat) (v8 : Unit) => ⟨[(1, .ptr 1 0), (6, .ptr 6 0), (41, .sl .rd 13 (s1.runs.map (eRunT .rd))), (42, .int .i64 (s1.runs.length : Int)), (43, .int .i64 (i6 : Int)), (48, .sl .rd 1 (x6.nodes.map eI)), (49, .int .i64 (x6.nodes.length : Int)), (50, .int .i64 (i8 : Int))], [], [(1, (Z5 .rd s1).cells), (6, (eRunT .rd x6).cells)], []⟩) H (fun i8 x8 v8 I m k8 hxv8 hiv8 H N34 => ?_) (fun v8 I m H => ?_)
   .unfold ZM2 at H
    refine wP ?_
    refine wt (ltT hiv8) ?_
    obtain ⟨e9, h9, H⟩ := bB H
    obtain ⟨e10, h10, H⟩ := bB H
    refine wG [.u 53 (.ix _ _ _ fun _ => Z0 eI (Z3 hxv8)), .u 58 (.ix _ _ _ fun _ => Z0 eBo h9), .g 69 [(_, true), (_, false)] (.ix _ _ _ fun q => Z0 eI (bT q.1 (bF q.2.1 h10)))] fun _ => ?_
    refine Wh_iH H (fun H => ?_) fun H => ?_
    .refine wP ?_
     replace H := sI H; subst H
     exact wE [(2, .d)]
    .refine wG [.w 75 (wi .i64 rfl hiv8 q7.1)] fun _ => ?_
     exact wT (N34 () H)
   .unfold ZY at H
    refine wP ?_
    refine wf (ltF x6.nodes.length) ?_
    obtain ⟨n11, h11, H⟩ := bB H
    obtain ⟨n12, h12, H⟩ := bB H
    refine wG [.c 82 (Zxe h11), .c 83 (ZJ2 h12)] fun _ => ?_
    refine Wh_iH H (fun H => ?_) fun H => ?_
    .refine wP ?_
     replace H := sI H; subst H
     exact wE [(2, .d)]
    .refine wG [.w 88 (wi .i64 rfl hiv6 q5.1)] fun _ => ?_
     exact wT (N51 () H)
  .unfold Zm4 at H
   refine wP ?_
   refine wf (ltF s1.runs.length) ?_
   refine wG [.u 91 (.ln _ _ fun _ => lm s1.ends eEnd)] fun q13 => ?_
   refine wR (fun (i14 : Nat) (v14 : Unit) => ⟨[(1, .ptr 1 0), (90, .sl .rd 3 (s1.ends.map eEnd)), (91, .int .i64 (s1.ends.length : Int)), (92, .int .i64 (i14 : Int))], [], [(1, (Z5 .rd s1).cells)], []⟩) H (fun i14 x14 v14 I m k14 hxv14 hiv14 H N73 => ?_) (fun v14 I m H => ?_)
   .unfold ZK2 at H
    refine wP ?_
    refine wt (ltT hiv14) ?_
    refine wG [.u 94 (.ix _ _ _ fun _ => Z0 eEnd (Z3 hxv14))] fun _ => ?_
    refine Wh_iH H (fun H => ?_) fun H => ?_
    .refine wP ?_
     replace H := sI H; subst H
     exact wE [(2, .d)]
    .refine wG [.w 126 (wi .i64 rfl hiv14 q13.1)] fun _ => ?_
     exact wT (N73 () H)
   .unfold Zl4 at H
    refine wP ?_
    refine wf (ltF s1.ends.length) ?_
    refine wP ?_
    replace H := sI H; subst H
    exact wE [(2, .d)]
def Zch : L :=
sR [.bx 3 (.t 0),.bx 5 (.t 2),.al 6 [.nl, .nl, .nl, .nl, .nl]]
 (sR [lD 12 3 2 true,cQ 13 ZD5 [12],mV 14 1,.ap 15 (.c (.nl)) (.t 14) 1 1,.bd 16 [.nl, .nl, .nl, .nl, .nl] [(0, 2, (.t 13)), (2, 1, (.t 15))],.al 7 [.nl, .nl, .nl, .nl, .nl],.st (.t 7) (.t 16) 5]
 (.seq (sR [fA 17 3 1,lD 18 17 1 false,.ln 19 (.t 18),.mv 20 (kI 0)]
 (.blk 0 (.loop (.gw (sR [bI 21 .lss 20 19]
 (.seq (.cond (.t 21) .skip
 (.exit 0))
 (.seq (.blk 1 (sR [iA 22 18 20 4,lD 23 22 4 true,.al 9 [.int .i64 0, .int .i64 0, .int .i64 0, .int .i64 0],.st (.t 9) (.t 23) 4]
 (sR [fA 25 9 1,lD 26 25 3 true,cQ 27 Zb4 [26],mV 24 27,eX 28 24 0,eX 29 24 1,.al 10 [.nl],.st (.t 10) (.t 28) 1,mV 11 29]
 (.reg [fA 30 7 3,lD 31 30 1 false,lD 32 10 1 true,.bs 33 1 [(.t 32)] false,.ap 34 (.t 31) (.t 33) 1 24,fA 35 7 3,.st (.t 35) (.t 34) 1]))))
 (.reg [.bi 36 .add (.t 20) (kI 1),mV 20 36]))))))))
 (sR [lD 38 5 3 true,cQ 39 Zb4 [38],mV 37 39,eX 40 37 0,eX 41 37 1,fA 42 7 4,.st (.t 42) (.t 40) 1]
 (sR [lD 43 7 5 true,.st (.t 6) (.t 43) 5]
 gR))))
def Zs6 (x7 : Node) (_ : Nat) (v7 : (List (List Pt))) (k7 : (List (List Pt)) -> Option Room) : Option Room :=
 (appL 24 v7 [(impl_ProfNew x7.cap).1]).bind fun xs8 => k7 xs8
def Zr6 (lic3 : Vec) (y4 : Topo) (xs5 : List Bool) (v7 : (List (List Pt))) : Option Room :=
 some (Room.mk y4 xs5 v7 ((impl_ProfNew lic3).1))
def impl_empty (t1 : Topo) (up2 : List Bool) (lic3 : Vec) : Option Room :=
 (impl_copyTopo t1).bind fun y4 => (appL 1 ([] : List Bool) up2).bind fun xs5 => rgl Zs6 (Zr6 lic3 y4 xs5) t1.nodes 0 []
theorem Zrh {t1 : Topo} {up2 : List Bool} {lic3 : Vec} {r : Room} (H : impl_empty t1 up2 lic3 = some r) : Snd Tryz.prog ZLb [Zz .rd t1, .sl .rd 1 (up2.map eBo), eVec lic3] (Zt3 .nw r) [] := by
 refine wS Zch [.c 6 5 true] ?_
 unfold impl_empty at H
 obtain ⟨y4, h4, H⟩ := bB H
 obtain ⟨xs5, h5, H⟩ := bB H
 refine wG [.c 13 (ZV7 h4), .u 15 (.ap _ _ _ _ fun _ => Zc eBo h5), .u 19 (.ln _ _ fun _ => lm t1.nodes eNode)] fun q6 => ?_
 refine Zme (fun (i7 : Nat) (v7 : (List (List Pt))) => ⟨[(5, .ptr 5 0), (6, .ptr 6 0), (7, .ptr 7 0), (18, .sl .rd 4 (t1.nodes.map eNode)), (19, .int .i64 (t1.nodes.length : Int)), (20, .int .i64 (i7 : Int))], [], [(5, (eVec lic3).cells), (6, [.nl, .nl, .nl, .nl, .nl]), (7, [.sl .nw 1 (y4.parents.map eI), .sl .nw 4 (y4.nodes.map eNode), .sref 15, .sref 450001, .nl])], [(15, ⟨1, xs5.map eBo, false⟩), (450001, ⟨1, v7.map (Zk .nw), false⟩)]⟩) [] [(7, [.d, .d, .d, .z 450001, .d])] [(450001, (none, 1))] [] (by kernel_rfl) (by kernel_rfl) H (fun i7 x7 v7 I m k7 hxv7 hiv7 H N17 => ?_) (fun v7 I m H => ?_)
 .unfold Zs6 at H
  refine wP ?_
  refine wt (ltT hiv7) ?_
  obtain ⟨xs8, h8, H⟩ := bB H
  refine wG [.u 22 (.ix _ _ _ fun _ => Z0 eNode (Z3 hxv7)), .c 27 (Zy8 x7.cap), .u 34 (.ap _ _ _ _ fun _ => Zc (Zk .nw) h8), .w 36 (wi .i64 rfl hiv7 q6.1)] fun _ => ?_
  exact wT (N17 _ H)
 .unfold Zr6 at H
  refine wP ?_
  refine wf (ltF t1.nodes.length) ?_
  refine wG [.c 39 (Zy8 lic3)] fun _ => ?_
  replace H := sI H; subst H
  exact wN [(6, .d)] [(6, [.d, .d, .f, .f, .d])] [] [15, 450001] [] [⟨_, nw_I y4.parents⟩, ⟨_, Z21 y4.nodes⟩, ⟨_, nw_Bo xs5⟩, ⟨_, ZS v7⟩, ⟨_, nw_Pt ((impl_ProfNew lic3).1)⟩]
def Zo5 : L :=
sR [.bx 6 (.t 0),.bx 7 (.t 1),.al 12 [.nl, .nl, .nl, .nl, .nl],.mv 13 (cB false)]
 (.seq (sR [lD 21 6 5 true,cQ 22 ZGa [21],.un 23 (.t 22),mV 24 23,.g 24 false (lD 25 7 11 true),.g 24 false (cQ 26 Ze4 [25]),.g 24 false (.un 27 (.t 26)),.pk 28 (.t 24) (cB true) (.t 27),mV 29 28,.g 29 false (fA 30 6 0),.g 29 false (lD 31 30 2 true),.g 29 false (lD 32 7 11 true),.g 29 false (mV 33 4),.g 29 false (cQ 34 Zi6 [31, 32, 33]),.g 29 false (.un 35 (.t 34)),.pk 36 (.t 29) (cB true) (.t 35)]
 (.cond (.t 36) (sR [.bd 37 [.nl, .nl, .nl, .nl, .nl] [],.st (.t 12) (.t 37) 5,.mv 13 (cB false)]
 gR)
 .skip))
 (sR [lD 38 6 5 true,.cl 39 ZU8 [(.t 38)],.al 14 [.nl, .nl, .nl, .nl, .nl],.st (.t 14) (.t 39) 5]
 (.seq (sR [mV 40 4,.ln 41 (.t 40),.mv 42 (kI 0)]
 (.blk 0 (.loop (.gw (sR [bI 43 .lss 42 41]
 (.seq (.cond (.t 43) .skip
 (.exit 0))
 (.seq (.blk 1 (sR [iA 44 40 42 1,lD 45 44 1 false,mV 16 45]
 (.seq (.rz [(14, 17, [.nl])] [(0, false, mV 47 5),
 (3, false, mV 50 16),
 (6, false, mV 53 2),
 (7, false, mV 54 3),
 (8, false, fA 55 7 3),
 (9, false, lD 56 55 3 true),
 (1, true, fA 48 14 3),
 (2, true, lD 49 48 1 false),
 (4, true, iA 51 49 50 1),
 (5, true, lD 52 51 1 true),
 (10, false, .cc 57 (.t 47) [(.t 52), (.t 53), (.t 54), (.t 56)]),
 (11, false, mV 46 57),
 (12, false, eX 58 46 0),
 (13, false, eX 59 46 1)]
 [.st (.t 17) (.t 58) 1,mV 18 59])
 (.seq (sR [mV 60 18,.un 61 (.t 60)]
 (.cond (.t 61) (sR [.bd 62 [.nl, .nl, .nl, .nl, .nl] [],.st (.t 12) (.t 62) 5,.mv 13 (cB false)]
 gR)
 .skip))
 (.reg [fA 63 14 3,lD 64 63 1 false,mV 65 16,lD 66 17 1 true,iA 67 64 65 1,.st (.t 67) (.t 66) 1])))))
 (.reg [.bi 68 .add (.t 42) (kI 1),mV 42 68]))))))))
 (sR [mV 70 5,fA 71 14 4,lD 72 71 1 true,mV 73 2,mV 74 3,fA 75 7 6,lD 76 75 3 true,.cc 77 (.t 70) [(.t 72), (.t 73), (.t 74), (.t 76)],mV 69 77,eX 78 69 0,eX 79 69 1,.al 19 [.nl],.st (.t 19) (.t 78) 1,mV 20 79]
 (.seq (sR [mV 80 20,.un 81 (.t 80)]
 (.cond (.t 81) (sR [.bd 82 [.nl, .nl, .nl, .nl, .nl] [],.st (.t 12) (.t 82) 5,.mv 13 (cB false)]
 gR)
 .skip))
 (sR [lD 83 19 1 true,fA 84 14 4,.st (.t 84) (.t 83) 1]
 (sR [lD 85 14 5 true,.st (.t 12) (.t 85) 5,.mv 13 (cB true)]
 gR)))))))
def Z81 (j2 : Job) (from3 : Int) (to4 : Int) (x10 : Int) (_ : Nat) (v10 : (List (List Pt))) (k10 : (List (List Pt)) -> Option (Room × Bool)) : Option (Room × Bool) :=
 (idx v10 x10).bind fun e11 => (impl_ProfTake e11 from3 to4 j2.need).bind fun y12 => bif (!y12.2) then (some ((Room.mk (Topo.mk [] []) [] [] []), false)) else (k10 (v10.set x10.toNat y12.1))
def Z71 (j2 : Job) (from3 : Int) (to4 : Int) (y8 : Room) (v10 : (List (List Pt))) : Option (Room × Bool) :=
 (impl_ProfTake y8.lics from3 to4 j2.lic).bind fun y13 => bif (!y13.2) then (some ((Room.mk (Topo.mk [] []) [] [] []), false)) else (some ((Room.mk y8.topo y8.up v10 y13.1), true))
def ZK (r1 : Room) (j2 : Job) (from3 : Int) (to4 : Int) (nodes5 : List Int) : Option (Room × Bool) :=
 (impl_RoomOk r1).bind fun b6 => (bif ((!b6) || (!(impl_JobOk j2))) then some default else (impl_areJobNodes r1.topo j2 nodes5)).bind fun b7 => bif (((!b6) || (!(impl_JobOk j2))) || (!b7)) then (some ((Room.mk (Topo.mk [] []) [] [] []), false)) else ((impl_copyRoom r1).bind fun y8 => rgl (Z81 j2 from3 to4) (Z71 j2 from3 to4 y8) nodes5 0 y8.profs)
theorem Zq5 {r1 : Room} {j2 : Job} {from3 : Int} {to4 : Int} {nodes5 : List Int} {r : Room × Bool} (H : ZK r1 j2 from3 to4 nodes5 = some r) : Snd Tryz.prog ZKb [Zt3 .rd r1, eJob j2, .int .i64 from3, .int .i64 to4, .sl .rd 1 (nodes5.map eI), .fn Zl2 []] (.tup [Zt3 .nw r.1, .bool r.2]) [] := by
 refine wS Zo5 [.c 12 5 true, .t 13] ?_
 unfold ZK at H
 obtain ⟨b6, h6, H⟩ := bB H
 obtain ⟨b7, h7, H⟩ := bB H
 refine wG [.c 22 (ZDf h6), .g 26 [((!b6), false)] (.call _ _ _ _ _ (AEs.refl _) (fun _ => Zm7 j2)), .g 34 [(_, false)] (.call _ _ _ _ _ (AEs.refl _) (fun q => ZP9 (bF q.1 h7)))] fun _ => ?_
 refine Wh_iH H (fun H => ?_) fun H => ?_
 .refine wP ?_
  replace H := sI H; subst H
  exact wN [(12, .d), (13, .d)] [(12, [.n 1, .n 4, .n 1, .n 1, .n 4])] [] [] [] [⟨_, nw_I ([] : List Int)⟩, ⟨_, Z21 ([] : List Node)⟩, ⟨_, nw_Bo ([] : List Bool)⟩, ⟨_, ZS ([] : List (List Pt))⟩, ⟨_, nw_Pt ([] : List Pt)⟩]
 .obtain ⟨y8, h8, H⟩ := bB H
  refine wG [.c 39 (Zsc h8), .u 41 (.ln _ _ fun _ => lm nodes5 eI)] fun q9 => ?_
  refine wR (fun (i10 : Nat) (v10 : (List (List Pt))) => ⟨[(2, .int .i64 from3), (3, .int .i64 to4), (5, .fn Zl2 []), (7, .ptr 7 0), (12, .ptr 12 0), (14, .ptr 14 0), (40, .sl .rd 1 (nodes5.map eI)), (41, .int .i64 (nodes5.length : Int)), (42, .int .i64 (i10 : Int))], [], [(7, (eJob j2).cells), (12, [.nl, .nl, .nl, .nl, .nl]), (14, [.sl .nw 1 (y8.topo.parents.map eI), .sl .nw 4 (y8.topo.nodes.map eNode), .sl .nw 1 (y8.up.map eBo), .sref 40000, .sl .nw 4 (y8.lics.map ePt)])], [(40000, ⟨1, v10.map (Zk .nw), false⟩)]⟩) H (fun i10 x10 v10 I m k10 hxv10 hiv10 H N32 => ?_) (fun v10 I m H => ?_)
  .unfold Z81 at H
   refine wP ?_
   refine wt (ltT hiv10) ?_
   obtain ⟨e11, h11, H⟩ := bB H
   obtain ⟨y12, h12, H⟩ := bB H
   refine wG [.u 44 (.ix _ _ _ fun _ => Z0 eI (Z3 hxv10)), .u 51 (.ix _ _ _ fun _ => Z0 (Zk .nw) h11), .u 52 (.el _ _ _ fun _ => gm (Zk .nw) (ZA2 h11)), .u 57 (.clsr _ _ _ _ _ (AEs.refl _) (by kernel_rfl) (fun _ => ZZ7 h12))] fun _ => ?_
   refine Wh_iH H (fun H => ?_) fun H => ?_
   .refine wP ?_
    replace H := sI H; subst H
    exact wN [(12, .d), (13, .d)] [(12, [.n 1, .n 4, .n 1, .n 1, .n 4])] [] [] [] [⟨_, nw_I ([] : List Int)⟩, ⟨_, Z21 ([] : List Node)⟩, ⟨_, nw_Bo ([] : List Bool)⟩, ⟨_, ZS ([] : List (List Pt))⟩, ⟨_, nw_Pt ([] : List Pt)⟩]
   .refine wG [.u 67 (.ix _ _ _ fun _ => Z0 (Zk .nw) h11), .u 1000000 (.sto _ _ _ (Zk .nw y12.1) _ (fun _ => gm (Zk .nw) (ZA2 h11)) (fun _ => Zm8 ..)), .w 68 (wi .i64 rfl hiv10 q9.1)] fun _ => ?_
    exact wT (N32 _ H)
  .unfold Z71 at H
   refine wP ?_
   refine wf (ltF nodes5.length) ?_
   obtain ⟨y13, h13, H⟩ := bB H
   refine wG [.u 77 (.clsr _ _ _ _ _ (AEs.refl _) (by kernel_rfl) (fun _ => ZZ7 h13))] fun _ => ?_
   refine Wh_iH H (fun H => ?_) fun H => ?_
   .refine wP ?_
    replace H := sI H; subst H
    exact wN [(12, .d), (13, .d)] [(12, [.n 1, .n 4, .n 1, .n 1, .n 4])] [] [] [] [⟨_, nw_I ([] : List Int)⟩, ⟨_, Z21 ([] : List Node)⟩, ⟨_, nw_Bo ([] : List Bool)⟩, ⟨_, ZS ([] : List (List Pt))⟩, ⟨_, nw_Pt ([] : List Pt)⟩]
   .refine wP ?_
    replace H := sI H; subst H
    exact wN [(12, .d), (13, .d)] [(12, [.d, .d, .d, .f, .d])] [] [40000] [] [⟨_, nw_I y8.topo.parents⟩, ⟨_, Z21 y8.topo.nodes⟩, ⟨_, nw_Bo y8.up⟩, ⟨_, ZS v10⟩, ⟨_, nw_Pt y13.1⟩]
def Zvf : L :=
sR [.bx 1 (.t 0),.al 2 [.nl, .nl, .nl, .nl, .nl],.mv 3 (cB false)]
 (.seq (sR [fA 9 1 0,lD 10 9 2 true,cQ 11 Za5 [10],.un 12 (.t 11),mV 13 12,.g 13 false (fA 14 1 2),.g 13 false (lD 15 14 1 false),.g 13 false (.ln 16 (.t 15)),.g 13 false (fA 17 1 0),.g 13 false (fA 18 17 1),.g 13 false (lD 19 18 1 false),.g 13 false (.ln 20 (.t 19)),.g 13 false (bI 21 .neq 16 20),.pk 22 (.t 13) (cB true) (.t 21),mV 23 22,.g 23 false (fA 24 1 3),.g 23 false (lD 25 24 3 true),.g 23 false (cQ 26 ZL [25]),.g 23 false (.un 27 (.t 26)),.pk 28 (.t 23) (cB true) (.t 27),mV 29 28,.g 29 false (fA 30 1 7),.g 29 false (lD 31 30 1 false),.g 29 false (cQ 32 ZY1 [31]),.g 29 false (.un 33 (.t 32)),.pk 34 (.t 29) (cB true) (.t 33)]
 (.cond (.t 34) (sR [.bd 35 [.nl, .nl, .nl, .nl, .nl] [],.st (.t 2) (.t 35) 5,.mv 3 (cB false)]
 gR)
 .skip))
 (sR [fA 36 1 0,lD 37 36 2 true,fA 38 1 2,lD 39 38 1 false,fA 40 1 3,lD 41 40 3 true,cQ 42 ZLb [37, 39, 41],.al 4 [.nl, .nl, .nl, .nl, .nl],.st (.t 4) (.t 42) 5]
 (.seq (sR [fA 43 1 9,lD 44 43 1 false,.ln 45 (.t 44),.mv 46 (kI 0)]
 (.blk 0 (.loop (.gw (sR [bI 47 .lss 46 45]
 (.seq (.cond (.t 47) .skip
 (.exit 0))
 (.seq (.blk 1 (sR [iA 48 44 46 13,lD 49 48 13 true,.al 6 [.int .i64 0, .int .i64 0, .int .i64 0, .int .i64 0, .int .i64 0, .int .i64 0, .int .i64 0, .int .i64 0, .int .i64 0, .int .i64 0, .int .i64 0, .int .i64 0, .nl],.st (.t 6) (.t 49) 13]
 (.seq (sR [fA 50 6 0,lD 51 50 11 true,cQ 52 Ze4 [51],.un 53 (.t 52),mV 54 53,.g 54 false (fA 55 6 11),.g 54 false (lD 56 55 1 false),.g 54 false (fA 57 1 7),.g 54 false (lD 58 57 1 false),.g 54 false (.cq 59 Za [(.t 56), (kI 0), (.t 58)]),.g 54 false (.un 60 (.t 59)),.pk 61 (.t 54) (cB true) (.t 60),mV 62 61,.g 62 false (fA 63 6 11),.g 62 false (lD 64 63 1 false),.g 62 false (fA 65 6 0),.g 62 false (fA 66 65 9),.g 62 false (lD 67 66 1 false),.g 62 false (bI 68 .add 64 67),.g 62 false (fA 69 1 7),.g 62 false (lD 70 69 1 false),.g 62 false (.bi 71 .add (.t 70) (kI 1)),.g 62 false (.cq 72 Za [(.t 68), (.t 71), (kI 1000000000)]),.g 62 false (.un 73 (.t 72)),.pk 74 (.t 62) (cB true) (.t 73)]
 (.cond (.t 74) (sR [.bd 75 [.nl, .nl, .nl, .nl, .nl] [],.st (.t 2) (.t 75) 5,.mv 3 (cB false)]
 gR)
 .skip))
 (sR [lD 77 4 5 true,fA 78 6 0,lD 79 78 11 true,fA 80 1 7,lD 81 80 1 false,fA 82 6 11,lD 83 82 1 false,fA 84 6 0,fA 85 84 9,lD 86 85 1 false,bI 87 .add 83 86,fA 88 6 12,lD 89 88 1 false,.cq 90 ZKb [(.t 77), (.t 79), (.t 81), (.t 87), (.t 89), (.c (.fn Zl2 []))],mV 76 90,eX 91 76 0,eX 92 76 1,.al 7 [.nl, .nl, .nl, .nl, .nl],.st (.t 7) (.t 91) 5,mV 8 92]
 (.seq (sR [mV 93 8,.un 94 (.t 93)]
 (.cond (.t 94) (sR [.bd 95 [.nl, .nl, .nl, .nl, .nl] [],.st (.t 2) (.t 95) 5,.mv 3 (cB false)]
 gR)
 .skip))
 (.reg [lD 96 7 5 true,.st (.t 4) (.t 96) 5]))))))
 (.reg [.bi 97 .add (.t 46) (kI 1),mV 46 97]))))))))
 (sR [lD 98 4 5 true,.st (.t 2) (.t 98) 5,.mv 3 (cB true)]
 gR))))
def Zp3 (s1 : State) (x5 : Run) (_ : Nat) (v5 : Room) (k5 : Room -> Option (Room × Bool)) : Option (Room × Bool) :=
 bif (((!(impl_JobOk x5.job)) || (!(impl_within x5.t 0 s1.now))) || (!(impl_within (w64 (x5.t + x5.job.wall)) (w64 (s1.now + 1)) 1000000000))) then (some ((Room.mk (Topo.mk [] []) [] [] []), false)) else ((ZK v5 x5.job s1.now (w64 (x5.t + x5.job.wall)) x5.nodes).bind fun y6 => bif (!y6.2) then (some ((Room.mk (Topo.mk [] []) [] [] []), false)) else (k5 y6.1))
def Zv8 (v5 : Room) : Option (Room × Bool) :=
 some (v5, true)
def impl_RoomOf (s1 : State) : Option (Room × Bool) :=
 (impl_TopoOk s1.topo).bind fun b2 => bif ((((!b2) || ((s1.up.length : Int) != (s1.topo.nodes.length : Int))) || (!(impl_VecOk s1.lic))) || (!(impl_isTime s1.now))) then (some ((Room.mk (Topo.mk [] []) [] [] []), false)) else ((impl_empty s1.topo s1.up s1.lic).bind fun y3 => rgl (Zp3 s1) Zv8 s1.runs 0 y3)
theorem ZFf {s1 : State} {r : Room × Bool} (H : impl_RoomOf s1 = some r) : Snd Tryz.prog ZHa [Z5 .rd s1] (.tup [Zt3 .nw r.1, .bool r.2]) [] := by
 refine wS Zvf [.c 2 5 true, .t 3] ?_
 unfold impl_RoomOf at H
 obtain ⟨b2, h2, H⟩ := bB H
 refine wG [.c 11 (Zu6 h2), .g 16 [((!b2), false)] (.ln _ _ fun _ => lm s1.up eBo), .g 20 [((!b2), false)] (.ln _ _ fun _ => lm s1.topo.nodes eNode), .g 26 [(((!b2) || ((s1.up.length : Int) != (s1.topo.nodes.length : Int))), false)] (.call _ _ _ _ _ (AEs.refl _) (fun _ => ZQ s1.lic)), .g 32 [((((!b2) || ((s1.up.length : Int) != (s1.topo.nodes.length : Int))) || (!(impl_VecOk s1.lic))), false)] (.call _ _ _ _ _ (AEs.refl _) (fun _ => ZE2 s1.now))] fun _ => ?_
 refine Wh_iH H (fun H => ?_) fun H => ?_
 .refine wP ?_
  replace H := sI H; subst H
  exact wN [(2, .d), (3, .d)] [(2, [.n 1, .n 4, .n 1, .n 1, .n 4])] [] [] [] [⟨_, nw_I ([] : List Int)⟩, ⟨_, Z21 ([] : List Node)⟩, ⟨_, nw_Bo ([] : List Bool)⟩, ⟨_, ZS ([] : List (List Pt))⟩, ⟨_, nw_Pt ([] : List Pt)⟩]
 .obtain ⟨y3, h3, H⟩ := bB H
  refine wG [.c 42 (Zrh h3), .u 45 (.ln _ _ fun _ => lm s1.runs (eRunT .rd))] fun q4 => ?_
  refine wR (fun (i5 : Nat) (v5 : Room) => ⟨[(1, .ptr 1 0), (2, .ptr 2 0), (4, .ptr 4 0), (44, .sl .rd 13 (s1.runs.map (eRunT .rd))), (45, .int .i64 (s1.runs.length : Int)), (46, .int .i64 (i5 : Int))], [], [(1, (Z5 .rd s1).cells), (2, [.nl, .nl, .nl, .nl, .nl]), (4, (Zt3 .nw v5).cells)], []⟩) H (fun i5 x5 v5 I m k5 hxv5 hiv5 H N40 => ?_) (fun v5 I m H => ?_)
  .unfold Zp3 at H
   refine wP ?_
   refine wt (ltT hiv5) ?_
   refine wG [.u 48 (.ix _ _ _ fun _ => Z0 (eRunT .rd) (Z3 hxv5)), .c 52 (Zm7 x5.job), .g 59 [((!(impl_JobOk x5.job)), false)] (.call _ _ _ _ _ (AEs.refl _) (fun _ => Z6 x5.t 0 s1.now)), .g 72 [(((!(impl_JobOk x5.job)) || (!(impl_within x5.t 0 s1.now))), false)] (.call _ _ _ _ _ (AEs.refl _) (fun _ => Z6 (w64 (x5.t + x5.job.wall)) (w64 (s1.now + 1)) 1000000000))] fun _ => ?_
   refine Wh_iH H (fun H => ?_) fun H => ?_
   .refine wP ?_
    replace H := sI H; subst H
    exact wN [(2, .d), (3, .d)] [(2, [.n 1, .n 4, .n 1, .n 1, .n 4])] [] [] [] [⟨_, nw_I ([] : List Int)⟩, ⟨_, Z21 ([] : List Node)⟩, ⟨_, nw_Bo ([] : List Bool)⟩, ⟨_, ZS ([] : List (List Pt))⟩, ⟨_, nw_Pt ([] : List Pt)⟩]
   .obtain ⟨y6, h6, H⟩ := bB H
    refine wG [.u 90 (.call _ _ _ _ _ (AEs.of (xs := [.agg [.sl .rd 1 (v5.topo.parents.map eI), .sl .rd 4 (v5.topo.nodes.map eNode), .sl .rd 1 (v5.up.map eBo), .sl .rd 1 (v5.profs.map (Zk .nw)), .sl .rd 4 (v5.lics.map ePt)], .agg [.int .i64 x5.job.id, .int .i64 x5.job.prio, .int .i64 x5.job.nodes, .int .i64 x5.job.need.a, .int .i64 x5.job.need.b, .int .i64 x5.job.need.c, .int .i64 x5.job.lic.a, .int .i64 x5.job.lic.b, .int .i64 x5.job.lic.c, .int .i64 x5.job.wall, .int .i64 x5.job.level], .int .i64 s1.now, .int .i64 (w64 (x5.t + x5.job.wall)), .sl .rd 1 (x5.nodes.map eI), .fn Zl2 []]) (by simp)) (fun _ => Zq5 h6))] fun _ => ?_
    refine Wh_iH H (fun H => ?_) fun H => ?_
    .refine wP ?_
     replace H := sI H; subst H
     exact wN [(2, .d), (3, .d)] [(2, [.n 1, .n 4, .n 1, .n 1, .n 4])] [] [] [] [⟨_, nw_I ([] : List Int)⟩, ⟨_, Z21 ([] : List Node)⟩, ⟨_, nw_Bo ([] : List Bool)⟩, ⟨_, ZS ([] : List (List Pt))⟩, ⟨_, nw_Pt ([] : List Pt)⟩]
    .refine wG [.w 97 (wi .i64 rfl hiv5 q4.1)] fun _ => ?_
     exact wT (N40 _ H)
  .unfold Zv8 at H
   refine wP ?_
   refine wf (ltF s1.runs.length) ?_
   refine wP ?_
   replace H := sI H; subst H
   exact wN [(2, .d), (3, .d)] [(2, [])] [] [] [] [⟨_, nw_I v5.topo.parents⟩, ⟨_, Z21 v5.topo.nodes⟩, ⟨_, nw_Bo v5.up⟩, ⟨_, ZS v5.profs⟩, ⟨_, nw_Pt v5.lics⟩]
def Z5b : L :=
sR [.bx 1 (.t 0),.mv 2 (.c (.nl))]
 (sR [.bs 6 11 [] true,fA 7 1 8,lD 8 7 1 false,.ap 9 (.t 6) (.t 8) 11 88,mV 3 9]
 (.seq (sR [fA 10 1 9,lD 11 10 1 false,.ln 12 (.t 11),.mv 13 (kI 0)]
 (.blk 0 (.loop (.gw (sR [bI 14 .lss 13 12]
 (.seq (.cond (.t 14) .skip
 (.exit 0))
 (.seq (.blk 1 (sR [iA 15 11 13 13,lD 16 15 13 true,.al 5 [.int .i64 0, .int .i64 0, .int .i64 0, .int .i64 0, .int .i64 0, .int .i64 0, .int .i64 0, .int .i64 0, .int .i64 0, .int .i64 0, .int .i64 0, .int .i64 0, .nl],.st (.t 5) (.t 16) 13]
 (.reg [mV 17 3,fA 18 5 0,lD 19 18 11 true,.bs 20 11 [(.t 19)] false,.ap 21 (.t 17) (.t 20) 11 88,mV 3 21])))
 (.reg [.bi 22 .add (.t 13) (kI 1),mV 13 22]))))))))
 (sR [mV 23 3,mV 2 23]
 gR)))
def Z76 (x4 : Run) (_ : Nat) (v4 : (List Job)) (k4 : (List Job) -> Option (List Job)) : Option (List Job) :=
 (appL 88 v4 [x4.job]).bind fun xs5 => k4 xs5
def Z66 (v4 : (List Job)) : Option (List Job) :=
 some v4
def impl_State_all (s1 : State) : Option (List Job) :=
 (appL 88 ([] : List Job) s1.queue).bind fun xs2 => rgl Z76 Z66 s1.runs 0 xs2
theorem ZO1 {s1 : State} {r : (List Job)} (H : impl_State_all s1 = some r) : Snd Tryz.prog Zt1 [Z5 .rd s1] (.sl .nw 11 (r.map eJob)) [] := by
 refine wS Z5b [.t 2] ?_
 unfold impl_State_all at H
 obtain ⟨xs2, h2, H⟩ := bB H
 refine wG [.u 9 (.ap _ _ _ _ fun _ => Zc eJob h2), .u 12 (.ln _ _ fun _ => lm s1.runs (eRunT .rd))] fun q3 => ?_
 refine wR (fun (i4 : Nat) (v4 : (List Job)) => ⟨[(3, .sref 6), (11, .sl .rd 13 (s1.runs.map (eRunT .rd))), (12, .int .i64 (s1.runs.length : Int)), (13, .int .i64 (i4 : Int))], [], [], [(6, ⟨11, v4.map eJob, false⟩)]⟩) H (fun i4 x4 v4 I m k4 hxv4 hiv4 H N15 => ?_) (fun v4 I m H => ?_)
 .unfold Z76 at H
  refine wP ?_
  refine wt (ltT hiv4) ?_
  obtain ⟨xs5, h5, H⟩ := bB H
  refine wG [.u 15 (.ix _ _ _ fun _ => Z0 (eRunT .rd) (Z3 hxv4)), .u 21 (.ap _ _ _ _ fun _ => Zc eJob h5), .w 22 (wi .i64 rfl hiv4 q3.1)] fun _ => ?_
  exact wT (N15 _ H)
 .unfold Z66 at H
  refine wP ?_
  refine wf (ltF s1.runs.length) ?_
  refine wP ?_
  replace H := sI H; subst H
  exact wN [(2, .f)] [] [] [6] [] [⟨_, Zvj v4⟩]
def ZUd : L :=
sR [.bx 1 (.t 0),.mv 2 (cB false)]
 (.seq (sR [lD 12 1 11 true,cQ 13 ZHa [12],mV 11 13,eX 14 11 0,eX 15 11 1,.al 3 [.nl, .nl, .nl, .nl, .nl],.st (.t 3) (.t 14) 5,mV 4 15]
 (sR [mV 16 4,.un 17 (.t 16),mV 18 17,.g 18 false (fA 19 1 6),.g 18 false (lD 20 19 1 false),.g 18 false (.cq 21 Za [(.t 20), (kI 0), (kI 60)]),.g 18 false (.un 22 (.t 21)),.pk 23 (.t 18) (cB true) (.t 22),mV 24 23,.g 24 false (lD 25 1 11 true),.g 24 false (cQ 26 Zt1 [25]),.g 24 false (cQ 27 ZB9 [26]),.g 24 false (.un 28 (.t 27)),.pk 29 (.t 24) (cB true) (.t 28),mV 30 29,.g 30 false (fA 31 1 10),.g 30 false (lD 32 31 1 false),.g 30 false (.ln 33 (.t 32)),.g 30 false (.bi 34 .gtr (.t 33) (kI 300)),.pk 35 (.t 30) (cB true) (.t 34)]
 (.cond (.t 35) (.seq (rE 2 (cB false))
 gR)
 .skip)))
 (.seq (sR [fA 36 1 9,lD 37 36 1 false,.ln 38 (.t 37),.mv 39 (kI 0)]
 (.blk 0 (.loop (.gw (sR [bI 40 .lss 39 38]
 (.seq (.cond (.t 40) .skip
 (.exit 0))
 (.seq (.blk 1 (sR [iA 41 37 39 13,lD 42 41 13 true,.al 6 [.int .i64 0, .int .i64 0, .int .i64 0, .int .i64 0, .int .i64 0, .int .i64 0, .int .i64 0, .int .i64 0, .int .i64 0, .int .i64 0, .int .i64 0, .int .i64 0, .nl],.st (.t 6) (.t 42) 13]
 (.seq (sR [fA 43 6 12,lD 44 43 1 false,.ln 45 (.t 44),.mv 46 (kI 0)]
 (.blk 2 (.loop (.gw (sR [bI 47 .lss 46 45]
 (.seq (.cond (.t 47) .skip
 (.exit 2))
 (.seq (.blk 3 (sR [iA 48 44 46 1,lD 49 48 1 false,mV 8 49]
 (sR [fA 50 1 2,lD 51 50 1 false,mV 52 8,iA 53 51 52 1,lD 54 53 1 false,.un 55 (.t 54)]
 (.cond (.t 55) (.seq (rE 2 (cB false))
 gR)
 .skip))))
 (.reg [.bi 56 .add (.t 46) (kI 1),mV 46 56]))))))))
 (.seq (.rq 18 [fA 57 6 12,lD 58 57 1 false,cQ 59 ZG5 [58],.un 60 (.t 59),mV 61 60,.g 61 false (fA 62 1 0),.g 61 false (lD 63 62 2 true),.g 61 false (fA 64 1 0),.g 61 false (lD 65 64 2 true),.g 61 false (fA 66 6 12),.g 61 false (lD 67 66 1 false),.g 61 false (cQ 68 ZIa [65, 67]),.g 61 false (cQ 69 Zg6 [63, 68]),.g 61 false (fA 70 6 0),.g 61 false (fA 71 70 10),.g 61 false (lD 72 71 1 false),.g 61 false (bI 73 .gtr 69 72),.pk 74 (.t 61) (cB true) (.t 73)])
 (.cond (.t 74) (.seq (rE 2 (cB false))
 gR)
 .skip)))))
 (.reg [.bi 75 .add (.t 39) (kI 1),mV 39 75]))))))))
 (.seq (sR [fA 76 1 10,lD 77 76 1 false,.ln 78 (.t 77),.mv 79 (kI 0)]
 (.blk 4 (.loop (.gw (sR [bI 80 .lss 79 78]
 (.seq (.cond (.t 80) .skip
 (.exit 4))
 (.seq (.blk 5 (sR [iA 81 77 79 3,lD 82 81 3 true,.al 10 [.int .i64 0, .int .i64 0, .int .i64 0],.st (.t 10) (.t 82) 3]
 (sR [fA 83 10 0,lD 84 83 1 false,.cq 85 Za [(.t 84), (kI 1), (kI 999)],.un 86 (.t 85),mV 87 86,.g 87 false (fA 88 10 1),.g 87 false (lD 89 88 1 false),.g 87 false (fA 90 1 7),.g 87 false (lD 91 90 1 false),.g 87 false (.cq 92 Za [(.t 89), (kI 0), (.t 91)]),.g 87 false (.un 93 (.t 92)),.pk 94 (.t 87) (cB true) (.t 93),mV 95 94,.g 95 false (fA 96 10 2),.g 95 false (lD 97 96 1 false),.g 95 false (.cq 98 Za [(.t 97), (kI 1), (kI 4)]),.g 95 false (.un 99 (.t 98)),.pk 100 (.t 95) (cB true) (.t 99)]
 (.cond (.t 100) (.seq (rE 2 (cB false))
 gR)
 .skip))))
 (.reg [.bi 101 .add (.t 79) (kI 1),mV 79 101]))))))))
 (.seq (rE 2 (cB true))
 gR))))
def Zz4 (s1 : State) (x8 : Int) (_ : Nat) (_ : Unit) (k8 : Unit -> Option Bool) : Option Bool :=
 (idx s1.up x8).bind fun e9 => bif (!e9) then (some false) else (k8 ())
def Zy4 (s1 : State) (x6 : Run) (k6 : Unit -> Option Bool) (_ : Unit) : Option Bool :=
 (impl_areAscending x6.nodes).bind fun b10 => (bif (!b10) then some default else (impl_Lowest s1.topo x6.nodes)).bind fun n11 => (bif (!b10) then some default else (impl_level s1.topo n11)).bind fun n12 => bif ((!b10) || (decide (x6.job.level < n12))) then (some false) else (k6 ())
def ZR2 (s1 : State) (x14 : End) (_ : Nat) (_ : Unit) (k14 : Unit -> Option Bool) : Option Bool :=
 bif (((!(impl_within x14.id 1 999)) || (!(impl_within x14.t 0 s1.now))) || (!(impl_within x14.why 1 4))) then (some false) else (k14 ())
def Zw4 (_ : Unit) : Option Bool :=
 some true
def ZS2 (s1 : State) (x6 : Run) (_ : Nat) (_ : Unit) (k6 : Unit -> Option Bool) : Option Bool :=
 rgl (Zz4 s1) (Zy4 s1 x6 k6) x6.nodes 0 ()
def Zx4 (s1 : State) (_ : Unit) : Option Bool :=
 rgl (ZR2 s1) Zw4 s1.ends 0 ()
def impl_StateOk (s1 : State) : Option Bool :=
 (impl_RoomOf s1).bind fun y2 => (bif ((!y2.2) || (!(impl_within s1.depth 0 60))) then some default else (impl_State_all s1)).bind fun y3 => (bif ((!y2.2) || (!(impl_within s1.depth 0 60))) then some default else (impl_QueueOk y3)).bind fun b4 => bif ((((!y2.2) || (!(impl_within s1.depth 0 60))) || (!b4)) || (decide (300 < (s1.ends.length : Int)))) then (some false) else (rgl (ZS2 s1) (Zx4 s1) s1.runs 0 ())
theorem Zu8 {s1 : State} {r : Bool} (H : impl_StateOk s1 = some r) : Snd Tryz.prog ZJ6 [Z5 .rd s1] (.bool r) [] := by
 refine wS ZUd [.t 2] ?_
 unfold impl_StateOk at H
 obtain ⟨y2, h2, H⟩ := bB H
 obtain ⟨y3, h3, H⟩ := bB H
 obtain ⟨b4, h4, H⟩ := bB H
 refine wG [.c 13 (ZFf h2), .g 21 [((!y2.2), false)] (.call _ _ _ _ _ (AEs.refl _) (fun _ => Z6 s1.depth 0 60)), .g 26 [(_, false)] (.call _ _ _ _ _ (AEs.refl _) (fun q => ZO1 (bF q.1 h3))), .g 27 [(_, false)] (.call _ _ _ _ _ (AEs.refl _) (fun q => Z5e (bF q.1 h4))), .g 33 [((((!y2.2) || (!(impl_within s1.depth 0 60))) || (!b4)), false)] (.ln _ _ fun _ => lm s1.ends eEnd)] fun _ => ?_
 refine Wh_iH H (fun H => ?_) fun H => ?_
 .refine wP ?_
  replace H := sI H; subst H
  exact wE [(2, .d)]
 .refine wG [.u 38 (.ln _ _ fun _ => lm s1.runs (eRunT .rd))] fun q5 => ?_
  refine wR (fun (i6 : Nat) (v6 : Unit) => ⟨[(1, .ptr 1 0), (37, .sl .rd 13 (s1.runs.map (eRunT .rd))), (38, .int .i64 (s1.runs.length : Int)), (39, .int .i64 (i6 : Int))], [], [(1, (Z5 .rd s1).cells)], []⟩) H (fun i6 x6 v6 I m k6 hxv6 hiv6 H N52 => ?_) (fun v6 I m H => ?_)
  .unfold ZS2 at H
   refine wP ?_
   refine wt (ltT hiv6) ?_
   refine wG [.u 41 (.ix _ _ _ fun _ => Z0 (eRunT .rd) (Z3 hxv6)), .u 45 (.ln _ _ fun _ => lm x6.nodes eI)] fun q7 => ?_
   refine wR (fun (i8 : Nat) (v8 : Unit) => ⟨[(1, .ptr 1 0), (6, .ptr 6 0), (37, .sl .rd 13 (s1.runs.map (eRunT .rd))), (38, .int .i64 (s1.runs.length : Int)), (39, .int .i64 (i6 : Int)), (44, .sl .rd 1 (x6.nodes.map eI)), (45, .int .i64 (x6.nodes.length : Int)), (46, .int .i64 (i8 : Int))], [], [(1, (Z5 .rd s1).cells), (6, (eRunT .rd x6).cells)], []⟩) H (fun i8 x8 v8 I m k8 hxv8 hiv8 H N35 => ?_) (fun v8 I m H => ?_)
   .unfold Zz4 at H
    refine wP ?_
    refine wt (ltT hiv8) ?_
    obtain ⟨e9, h9, H⟩ := bB H
    refine wG [.u 48 (.ix _ _ _ fun _ => Z0 eI (Z3 hxv8)), .u 53 (.ix _ _ _ fun _ => Z0 eBo h9)] fun _ => ?_
    refine Wh_iH H (fun H => ?_) fun H => ?_
    .refine wP ?_
     replace H := sI H; subst H
     exact wE [(2, .d)]
    .refine wG [.w 56 (wi .i64 rfl hiv8 q7.1)] fun _ => ?_
     exact wT (N35 () H)
   .unfold Zy4 at H
    refine wP ?_
    refine wf (ltF x6.nodes.length) ?_
    obtain ⟨b10, h10, H⟩ := bB H
    obtain ⟨n11, h11, H⟩ := bB H
    obtain ⟨n12, h12, H⟩ := bB H
    refine wG [.c 59 (Z89 h10), .g 68 [(_, false)] (.call _ _ _ _ _ (AEs.refl _) (fun q => ZIf (bF q.1 h11))), .g 69 [(_, false)] (.call _ _ _ _ _ (AEs.refl _) (fun q => Zj7 (bF q.1 h12)))] fun _ => ?_
    refine Wh_iH H (fun H => ?_) fun H => ?_
    .refine wP ?_
     replace H := sI H; subst H
     exact wE [(2, .d)]
    .refine wG [.w 75 (wi .i64 rfl hiv6 q5.1)] fun _ => ?_
     exact wT (N52 () H)
  .unfold Zx4 at H
   refine wP ?_
   refine wf (ltF s1.runs.length) ?_
   refine wG [.u 78 (.ln _ _ fun _ => lm s1.ends eEnd)] fun q13 => ?_
   refine wR (fun (i14 : Nat) (v14 : Unit) => ⟨[(1, .ptr 1 0), (77, .sl .rd 3 (s1.ends.map eEnd)), (78, .int .i64 (s1.ends.length : Int)), (79, .int .i64 (i14 : Int))], [], [(1, (Z5 .rd s1).cells)], []⟩) H (fun i14 x14 v14 I m k14 hxv14 hiv14 H N74 => ?_) (fun v14 I m H => ?_)
   .unfold ZR2 at H
    refine wP ?_
    refine wt (ltT hiv14) ?_
    refine wG [.u 81 (.ix _ _ _ fun _ => Z0 eEnd (Z3 hxv14)), .c 85 (Z6 x14.id 1 999), .g 92 [((!(impl_within x14.id 1 999)), false)] (.call _ _ _ _ _ (AEs.refl _) (fun _ => Z6 x14.t 0 s1.now)), .g 98 [(((!(impl_within x14.id 1 999)) || (!(impl_within x14.t 0 s1.now))), false)] (.call _ _ _ _ _ (AEs.refl _) (fun _ => Z6 x14.why 1 4))] fun _ => ?_
    refine Wh_iH H (fun H => ?_) fun H => ?_
    .refine wP ?_
     replace H := sI H; subst H
     exact wE [(2, .d)]
    .refine wG [.w 101 (wi .i64 rfl hiv14 q13.1)] fun _ => ?_
     exact wT (N74 () H)
   .unfold Zw4 at H
    refine wP ?_
    refine wf (ltF s1.ends.length) ?_
    refine wP ?_
    replace H := sI H; subst H
    exact wE [(2, .d)]
theorem Zoh (r : Room) (j : Job) (from_ to_ : Int) (nodes : List Int) : ZK r j from_ to_ nodes = bif diffOk r j nodes then ZW8 r j.need j.lic from_ to_ nodes else some Zd3 := by
 unfold ZK diffOk
 rw [ZEf, bS, Zn7]
 cases hr : roomOk r with
 | false => rfl
 | true =>
  have hR := ZLf.1 hr
  rw [ZQ9 hR.small.nodes]
  cases spec_JobOk j with
  | false => rfl
  | true =>
   simp only [Bool.not_true, Bool.or_self, cond_false, Bool.true_and, bS]
   cases (decide ((nodes.length : Int) = j.nodes) && ZM1 r.topo nodes && decide nodes.Nodup) with
   | false => rfl
   | true =>
    simp only [Bool.not_true, Bool.or_self, cond_false, cond_true]
    rw [Ztc hR.small, bS]
    unfold ZW8 Z81 Z71
    simp only [fun p f t v => (ZT9 p f t v).1]
    rfl
def idsOk (l : List Job) : Bool := decide (l.map Job.id).Nodup
noncomputable def queueOk (l : List Job) : Bool := decide (l.length <= 60) && l.all spec_JobOk && idsOk l
theorem ZEj {l : List Job} {i : Nat} {x : Job} (hx : l[i]? = some x) : ((l.take (i + 1)).map Job.id).Nodup ↔ ((l.take i).map Job.id).Nodup /\ ∀ y ∈ l.take i, y.id ≠ x.id := by
 obtain ⟨hi, rfl⟩ := yB hx
 rw [List.take_succ_eq_append_getElem hi, List.map_append, List.nodup_append]
 constructor
 .intro h; exact ⟨h.1, fun y hy e => h.2.2 _ (List.mem_map_of_mem hy) _ (List.mem_singleton.2 rfl) e⟩
 .intro h; exact ⟨h.1, by simp, fun a ha b hb e => by
   obtain ⟨y, hy, rfl⟩ := List.mem_map.1 ha
   rw [show b = l[i].id by simpa using hb] at e
   exact h.2 y hy e⟩
theorem ZOf {γ : Type} {bd : Job -> Nat -> Unit -> (Unit -> Option γ) -> Option γ} {kk : Unit -> Option γ} {r : Option γ} {l : List Job}
  (hb : ∀ i x k, l[i]? = some x -> bd x i () k = bif (!spec_JobOk x) || (l.take i).any (fun y => y.id == x.id) then r else k ()) : rgl bd kk l 0 () = bif l.all spec_JobOk && idsOk l then kk () else r := by
 refine Zx2 (fun i (_ : Unit) => (∀ y ∈ l.take i, spec_JobOk y = true) /\ ((l.take i).map Job.id).Nodup) (fun o => o = bif l.all spec_JobOk && idsOk l then kk () else r) (fun i x b k hx hI hk => ?_) (fun b hI => ?_) (by simp)
 .have hil := (yB hx).1
  rw [hb i x k hx]
  cases hj : spec_JobOk x with
  | false =>
   have : l.all spec_JobOk = false := List.all_eq_false.2 ⟨x, yE hx, by rw [hj]; simp⟩
   rw [this]; rfl
  | true =>
   cases hc : (l.take i).any (fun y => y.id == x.id) with
   | true =>
    obtain ⟨y, hy, he⟩ := List.any_eq_true.1 hc
    have : idsOk l = false := by
     unfold idsOk
     rw [decide_eq_false_iff_not]
     intro q
     have q2 : ((l.take (i + 1)).map Job.id).Nodup := q.sublist ((List.take_sublist _ _).map _)
     exact ((ZEj hx).1 q2).2 y hy (by simpa using he)
    rw [this, Bool.and_false]; rfl
   | false =>
    refine hk () ⟨fun y hy => ?_, (ZEj hx).2 ⟨hI.2, fun y hy e => ?_⟩⟩
    .obtain ⟨hi, rfl⟩ := yB hx
     rw [List.take_succ_eq_append_getElem hi] at hy
     rcases List.mem_append.1 hy with hy | hy
     .exact hI.1 y hy
     .rw [List.mem_singleton.1 hy]; exact hj
    .have := List.any_eq_false.1 hc y hy
     simp [e] at this
 .rw [List.take_of_length_le (Nat.le_refl _)] at hI
  rw [List.all_eq_true.2 hI.1]
  unfold idsOk
  rw [decide_eq_true hI.2]; rfl
theorem ZTc (l : List Job) : spec_QueueOk l = some (queueOk l) := by
 unfold spec_QueueOk queueOk
 by_cases h : 60 < l.length
 .simp [show (60 : Int) < l.length by omega, show ¬ l.length <= 60 by omega]
 .rw [show decide ((60 : Int) < (l.length : Int)) = false by simp; omega, show decide (l.length <= 60) = true by simp; omega]
  simp only [cond_false, Bool.true_and]
  rw [ZOf (r := some false) (fun i x k hx => ?_)]
  .unfold Zn4
   cases (l.all spec_JobOk && idsOk l) <;> rfl
  .have hil := (yB hx).1
   unfold Zo4
   cases spec_JobOk x with
   | false => rfl
   | true =>
    simp only [Bool.not_true, cond_false, Bool.false_or]
    have h := Z48 (bd := Z02 l i x k) (fun (i : Nat) (_ : Unit) => (i : Int)) (n := i)
     (B := fun m _ _ k => bif (match l[m]? with | some e => e.id == x.id | none => false) then some false else k ()) (kk := fun _ => k ()) (fun m st k hm => by
      obtain ⟨e, he⟩ : ∃ e, l[m]? = some e := ⟨_, yA (by omega)⟩
      have hlt : (m : Int) < (i : Int) := by omega
      simp only [Z02, hlt, decide_true, cond_true, Zf, he, bS, Zz1 (n := m) (by omega)])
     (fun m st k hm => by
      have hlt : ¬ (m : Int) < (i : Int) := by omega
      simp only [Z02, hlt, decide_false, cond_false]) 9223372036854775807 0 () (by omega)
    refine h.trans ?_
    rw [Zg2 (r := some false) (p := fun (m : Nat) => match l[m]? with | some e => e.id == x.id | none => false) (fun m _ i k => rfl)]
    have e : (List.range' 0 (i - 0)).any (fun (m : Nat) => match l[m]? with | some e => e.id == x.id | none => false) = (l.take i).any (fun y => y.id == x.id) := by
     rw [Bool.eq_iff_iff, List.any_eq_true, List.any_eq_true]
     constructor
     .rintro ⟨m, hm, hq⟩
      obtain ⟨j, hj, rfl⟩ := List.mem_range'.1 hm
      have hlt : 0 + 1 * j < l.length := by omega
      rw [yA hlt] at hq
      exact ⟨_, List.mem_take_iff_getElem.2 ⟨0 + 1 * j, by omega, rfl⟩, hq⟩
     .rintro ⟨y, hy, hq⟩
      obtain ⟨m, hm, rfl⟩ := List.mem_take_iff_getElem.1 hy
      exact ⟨m, List.mem_range'.2 ⟨m, by omega, by omega⟩, by rw [yA (by omega)]; exact hq⟩
    rw [e]
theorem Z3j (l : List Job) (c : Job) : Z1 l c = some (l.any fun y => y.id == c.id) := by
 unfold Z1 Z8
 have : ∃ r : Int, rgl (Z4 c) Ze l 0 () = some r /\ decide (0 <= r) = l.any fun y => y.id == c.id := by
  refine Zx2 (fun i (_ : Unit) => ∀ y ∈ l.take i, (y.id == c.id) = false) (fun o => ∃ r : Int, o = some r /\ decide (0 <= r) = l.any fun y => y.id == c.id) (fun i x b k hx hI hk => ?_) (fun b hI => ?_) (by simp)
  .unfold Z4 impl_QueueOk_1
   cases h : (x.id == c.id) with
   | true => exact ⟨i, rfl, by rw [List.any_eq_true.2 ⟨x, yE hx, h⟩]; simp⟩
   | false =>
    refine hk () fun y hy => ?_
    obtain ⟨hi, rfl⟩ := yB hx
    rw [List.take_succ_eq_append_getElem hi] at hy
    rcases List.mem_append.1 hy with hy | hy
    .exact hI y hy
    .rw [List.mem_singleton.1 hy]; exact h
  .rw [List.take_of_length_le (Nat.le_refl _)] at hI
   exact ⟨-1, rfl, by rw [List.any_eq_false.2 fun y hy => by rw [hI y hy]; simp]; rfl⟩
 obtain ⟨r, h1, h2⟩ := this
 rw [h1, bS, h2]
theorem Z6e (l : List Job) : impl_QueueOk l = some (queueOk l) := by
 unfold impl_QueueOk queueOk
 rw [ZOf (r := some false) (fun i x k hx => ?_)]
 .unfold ZA4
  have e : decide ((l.length : Int) <= 60) = decide (l.length <= 60) := by rw [Bool.eq_iff_iff]; simp; omega
  rw [e]
  cases l.all spec_JobOk <;> cases idsOk l <;> cases decide (l.length <= 60) <;> rfl
 .have hil := (yB hx).1
  unfold ZB4
  rw [Zn7, ZDh (by omega)]
  cases spec_JobOk x with
  | false => rfl
  | true =>
   simp only [Bool.not_true, cond_false, bS, Z3j, Bool.false_or]
theorem Z7e (v : Vec) : impl_ProfNew v = spec_ProfNew v := rfl
def Zv5 (t : Topo) (up : List Bool) (lic : Vec) : Room := ⟨t, up, t.nodes.map fun x => (spec_ProfNew x.cap).1, (spec_ProfNew lic).1⟩
theorem Z4g {v : Vec} (h : spec_VecOk v = true) : ProfP (spec_ProfNew v).1 := by
 unfold spec_ProfNew
 rw [h]
 simp only [Bool.not_true, cond_false]
 exact ⟨by simp, by simp, fun x hx => by simp at hx; rw [← hx], fun x hx => by simp at hx; subst hx; exact ⟨rfl, h⟩, fun i x y hx hy => by simp at hy⟩
theorem ZDb {t : Topo} (h : TopoP t) {up : List Bool} (hu : up.length = t.nodes.length) {lic : Vec} (hl : spec_VecOk lic = true) : RoomP (Zv5 t up lic) :=
  ⟨h, hu, by simp [Zv5], fun p hp => by
    obtain ⟨x, hx, rfl⟩ := List.mem_map.1 hp
    exact Z4g (h.node x hx).2.2.2, Z4g hl⟩
theorem Zsh {t : Topo} (h : TopoP t) {up : List Bool} (hu : up.length = t.nodes.length) (lic : Vec) : impl_empty t up lic = some (Zv5 t up lic) := by
 have := h.tree.le; have := h.nodes
 unfold impl_empty impl_copyTopo impl_copyInts
 rw [Zm (by simp; omega), bS, bS, Zm (by simp; omega), bS, bS, Zm (by simp; omega), bS]
 rw [Z42 (bd := Zs6) (bs := 24) (p := fun _ => true) (f := fun x => (spec_ProfNew x.cap).1) (fun x hx i b k => rfl) (by simp; omega)]
 unfold Zr6 Zv5
 simp [List.filter_eq_self.2, Z7e]
theorem ZOb (s : State) : spec_l06Empty s = some (bif topoOk s.topo && decide (s.up.length = s.topo.nodes.length) && spec_VecOk s.lic then (Zv5 s.topo s.up s.lic, true) else Zd3) := by
 unfold spec_l06Empty
 rw [Z32, bS, ZHg]
 cases ht : topoOk s.topo with
 | false => rfl
 | true =>
 cases hu : decide (s.up.length = s.topo.nodes.length) with
 | false => rfl
 | true =>
 cases hl : spec_VecOk s.lic with
 | false => rfl
 | true =>
  have h := ZC1.1 ht
  have hu := of_decide_eq_true hu
  have := h.nodes
  simp only [Bool.not_true, Bool.or_self, cond_false, Bool.and_self, cond_true]
  rw [Z42 (bd := ZI3) (bs := 24) (p := fun _ => true) (f := fun x => (spec_ProfNew x.cap).1) (fun x hx i b k => rfl) (by simp; omega)]
  unfold ZH3
  rw [show (s.topo.nodes.filter fun _ => true) = s.topo.nodes from List.filter_eq_self.2 fun _ _ => rfl, List.nil_append]
  have hR := ZDb h hu hl
  unfold Zv5 at hR
  rw [Z98 hR.small, bS]
  rfl
def runOk (s : State) (x : Run) : Bool := time x.t && decide (x.t <= s.now) && decide (s.now < x.t + x.job.wall) && decide (x.t + x.job.wall <= 1000000000)
noncomputable def ZY8 (s : State) (x : Run) (v : Room) : Option (Room × Bool) := bif diffOk v x.job x.nodes && runOk s x then ZW8 v x.job.need x.job.lic s.now (x.t + x.job.wall) x.nodes else some Zd3
theorem Zbg {s : State} (hs : time s.now = true) (x : Run) (i : Nat) (v : Room) (k : Room -> Option (Room × Bool)) : Z93 s x i v k = (ZY8 s x v).bind fun y => bif !y.2 then some Zd3 else k y.1 := by
 have hn := ZJ5.1 hs
 unfold Z93 ZY8
 rw [Z78, bS, ZF1]
 cases hd : diffOk v x.job x.nodes with
 | false => rfl
 | true =>
  have hj : spec_JobOk x.job = true := by unfold diffOk at hd; simp only [yD] at hd; exact hd.1.1.1.2
  have hj' := Zs8.1 hj
  unfold runOk
  by_cases ht : time x.t = true /\ x.t <= s.now
  .have ht1 := ZJ5.1 ht.1
   rw [ht.1, Z72 (n := x.t + x.job.wall) (by omega), show decide (s.now < x.t) = false by simp; omega, show decide (x.t <= s.now) = true by simpa using ht.2]
   by_cases h3 : s.now < x.t + x.job.wall
   .rw [show decide (x.t + x.job.wall <= s.now) = false by simp; omega, show decide (s.now < x.t + x.job.wall) = true by simpa using h3]
    by_cases h4 : x.t + x.job.wall <= 1000000000
    .rw [show decide (1000000000 < x.t + x.job.wall) = false by simp; omega, show decide (x.t + x.job.wall <= 1000000000) = true by simpa using h4]
     simp only [Bool.not_true, Bool.or_self, cond_false, Bool.and_self, cond_true]
     rw [Z72 (n := x.t + x.job.wall - s.now) (by omega), ZRc]
     have e : diffOk v ⟨x.job.id, x.job.prio, x.job.nodes, x.job.need, x.job.lic, x.t + x.job.wall - s.now, x.job.level⟩ x.nodes = true := by
      have hj2 : spec_JobOk ⟨x.job.id, x.job.prio, x.job.nodes, x.job.need, x.job.lic, x.t + x.job.wall - s.now, x.job.level⟩ = true := by
       rw [Zs8]; simp only; refine ⟨hj'.1, hj'.2.1, hj'.2.2.1, hj'.2.2.2.1, hj'.2.2.2.2.1, by omega, hj'.2.2.2.2.2.2⟩
      unfold diffOk at hd ⊢
      rw [hj] at hd
      rw [hj2]; exact hd
     rw [e, hs]
     simp only [Bool.and_self, cond_true]
     rw [show s.now + (x.t + x.job.wall - s.now) = x.t + x.job.wall by omega, Z72 (by omega)]
     rfl
    .rw [show decide (1000000000 < x.t + x.job.wall) = true by simp; omega, show decide (x.t + x.job.wall <= 1000000000) = false by simpa using h4]
     simp [Zd3]
   .rw [show decide (x.t + x.job.wall <= s.now) = true by simp; omega, show decide (s.now < x.t + x.job.wall) = false by simpa using h3]
    simp [Zd3]
  .have : (time x.t && decide (x.t <= s.now)) = false := by
    rw [Bool.eq_false_iff]; intro q; simp only [yD, decide_eq_true_eq] at q; exact ht q
   rw [this]
   have h2 : (!(time x.t) || decide (s.now < x.t)) = true := by
    cases hx : time x.t with
    | false => rfl
    | true =>
     have : ¬ x.t <= s.now := fun q => ht ⟨hx, q⟩
     simp; omega
   simp only [Bool.not_true, Bool.false_or, h2, Bool.true_or, cond_true, Bool.false_and, Bool.and_false, cond_false, bS]
   rfl
theorem Znh {s : State} (hs : time s.now = true) (x : Run) (i : Nat) (v : Room) (k : Room -> Option (Room × Bool)) : Zp3 s x i v k = (ZY8 s x v).bind fun y => bif !y.2 then some Zd3 else k y.1 := by
 have hn := ZJ5.1 hs
 unfold Zp3 ZY8
 rw [Zn7, Zoh]
 cases hj : spec_JobOk x.job with
 | false =>
  have hd : diffOk v x.job x.nodes = false := by unfold diffOk; rw [hj]; simp
  rw [hd]; rfl
 | true =>
  have hj' := Zs8.1 hj
  by_cases h1 : 0 <= x.t /\ x.t <= s.now
  .rw [Z72 (n := x.t + x.job.wall) (by omega), Z72 (n := s.now + 1) (by omega)]
   have e1 : impl_within x.t 0 s.now = true := by simp [impl_within]; exact h1
   have e2 : impl_within (x.t + x.job.wall) (s.now + 1) 1000000000 = (decide (s.now < x.t + x.job.wall) && decide (x.t + x.job.wall <= 1000000000)) := by
    unfold impl_within; congr 1
   have e3 : time x.t = true := by rw [ZJ5]; omega
   unfold runOk
   rw [e1, e2, e3, show decide (x.t <= s.now) = true by simpa using h1.2]
   simp only [Bool.not_true, Bool.false_or, Bool.and_self, Bool.true_and]
   cases (decide (s.now < x.t + x.job.wall) && decide (x.t + x.job.wall <= 1000000000)) <;> cases diffOk v x.job x.nodes <;> rfl
  .have e1 : impl_within x.t 0 s.now = false := by
    unfold impl_within; rw [Bool.eq_false_iff]; intro q; simp only [yD, decide_eq_true_eq] at q; exact h1 q
   have e2 : runOk s x = false := by
    unfold runOk; rw [Bool.eq_false_iff]; intro q; simp only [yD, decide_eq_true_eq, ZJ5] at q; exact h1 ⟨q.1.1.1.1, q.1.1.2⟩
   rw [e1, e2]
   simp [Zd3]
noncomputable def Z4a (s : State) : Option (Room × Bool) := rgl (fun x _ v k => (ZY8 s x v).bind fun y => bif !y.2 then some Zd3 else k y.1) (fun v => some (v, true)) s.runs 0 (Zv5 s.topo s.up s.lic)
noncomputable def ZK5 (s : State) : Bool := topoOk s.topo && decide (s.up.length = s.topo.nodes.length) && spec_VecOk s.lic && time s.now
theorem Zf9 (s : State) : spec_RoomOf s = bif ZK5 s then Z4a s else some Zd3 := by
 unfold spec_RoomOf ZK5
 rw [ZOb, bS, ZF1]
 cases (topoOk s.topo && decide (s.up.length = s.topo.nodes.length) && spec_VecOk s.lic) with
 | false => rfl
 | true =>
  cases hs : time s.now with
  | false => rfl
  | true =>
   simp only [cond_true, Bool.not_true, Bool.or_self, cond_false, Bool.and_self]
   unfold Z4a
   exact Z1d (fun i x b k _ => Zbg hs x i b k) fun b => rfl
theorem ZGf (s : State) : impl_RoomOf s = spec_RoomOf s := by
 rw [Zf9]
 unfold impl_RoomOf ZK5
 rw [Zv6, Z32, bS, ZHg, Zt2, Zq6]
 cases ht : topoOk s.topo with
 | false => rfl
 | true =>
 cases hu : decide (s.up.length = s.topo.nodes.length) with
 | false => rfl
 | true =>
 cases hl : spec_VecOk s.lic with
 | false => rfl
 | true =>
 cases hs : time s.now with
 | false => rfl
 | true =>
  simp only [Bool.not_true, Bool.or_self, cond_false, Bool.and_self, cond_true]
  rw [Zsh (ZC1.1 ht) (of_decide_eq_true hu), bS]
  unfold Z4a
  exact Z1d (fun i x b k _ => Znh hs x i b k) fun b => rfl
structure RunsP (s : State) : Prop where
 job : ∀ x ∈ s.runs, spec_JobOk x.job = true /\ (x.nodes.length : Int) = x.job.nodes /\ ZM1 s.topo x.nodes = true /\ x.nodes.Nodup /\ runOk s x = true
theorem Zog {s : State} (h : ZK5 s = true) : ∃ q, Z4a s = some q /\ (q.2 = true -> RoomP q.1 /\ q.1.topo = s.topo /\ q.1.up = s.up /\ RunsP s) := by
 unfold ZK5 at h
 simp only [yD, decide_eq_true_eq, ZC1] at h
 unfold Z4a
 refine Zx2 (fun i (v : Room) => RoomP v /\ v.topo = s.topo /\ v.up = s.up /\ ∀ x ∈ s.runs.take i, spec_JobOk x.job = true /\ (x.nodes.length : Int) = x.job.nodes /\ ZM1 s.topo x.nodes = true /\ x.nodes.Nodup /\ runOk s x = true) (fun o => ∃ q : Room × Bool, o = some q /\ (q.2 = true -> RoomP q.1 /\ q.1.topo = s.topo /\ q.1.up = s.up /\ RunsP s)) (fun i x v k hx hI hk => ?_) (fun v hI => ?_) ⟨ZDb h.1.1.1 h.1.1.2 h.1.2, rfl, rfl, by simp⟩
 .obtain ⟨h1, h2, h3, h4⟩ := hI
  unfold ZY8
  cases hd : (diffOk v x.job x.nodes && runOk s x) with
  | false => exact ⟨Zd3, rfl, fun h => by cases h⟩
  | true =>
   simp only [yD] at hd
   have hd1 := hd.1
   unfold diffOk at hd1
   simp only [yD, decide_eq_true_eq] at hd1
   obtain ⟨q, q1, q2⟩ := Z9g h1 x.job.need x.job.lic s.now (x.t + x.job.wall) hd1.1.2
   simp only [cond_true]
   rw [q1, bS]
   cases hq : q.2 with
   | false => exact ⟨Zd3, rfl, fun h => by cases h⟩
   | true =>
    obtain ⟨a1, a2, a3⟩ := q2 hq
    refine hk q.1 ⟨a1, a2.trans h2, a3.trans h3, fun y hy => ?_⟩
    obtain ⟨hi, rfl⟩ := yB hx
    rw [List.take_succ_eq_append_getElem hi] at hy
    rcases List.mem_append.1 hy with hy | hy
    .exact h4 y hy
    .rw [List.mem_singleton.1 hy]
     exact ⟨hd1.1.1.1.2, hd1.1.1.2, by rw [← h2]; exact hd1.1.2, hd1.2, hd.2⟩
 .obtain ⟨h1, h2, h3, h4⟩ := hI
  rw [List.take_of_length_le (Nat.le_refl _)] at h4
  exact ⟨_, rfl, fun _ => ⟨h1, h2, h3, ⟨h4⟩⟩⟩
theorem ZN7 (s : State) : ∃ q, spec_RoomOf s = some q /\ (q.2 = true -> ZK5 s = true /\ RoomP q.1 /\ q.1.topo = s.topo /\ q.1.up = s.up /\ RunsP s) := by
 rw [Zf9]
 cases h : ZK5 s with
 | false => exact ⟨Zd3, rfl, fun h => by cases h⟩
 | true =>
  obtain ⟨q, h1, h2⟩ := Zog h
  exact ⟨q, h1, fun h => ⟨rfl, h2 h⟩⟩
def allJobs (s : State) : List Job := s.queue ++ s.runs.map Run.job
theorem ZN {s : State} (h : s.queue.length + s.runs.length <= 1048576) : spec_l06Jobs s = some (allJobs s) := by
 unfold spec_l06Jobs
 rw [Zm (by simp; omega), bS, Z42 (bd := Zg4) (bs := 88) (p := fun _ => true) (f := Run.job) (fun x hx i b k => rfl) (by simp; omega)]
 unfold Zf4 allJobs
 simp [List.filter_eq_self.2]
theorem ZP1 (s : State) : impl_State_all s = spec_l06Jobs s := rfl
end Go.Proofs.YtndemhaoilhbbaaGreat
