/-
  Lemmas, part 9: the engine that steps through the code, the walks of functions, and the laws of what they compute.
-/
import Derived.Test.YtndemhaoilhbbaaGreatBA8
namespace Go.Proofs.YtndemhaoilhbbaaGreat
open Go Go.RowKit Eng
def Zxi : L :=
.seq (.reg [.bx 1 (.t 0),.al 2 [.int .i64 0, .int .i64 0, .int .i64 0]])
 (.seq (.reg [.al 3 [.int .i64 0, .int .i64 0, .int .i64 0]])
 (.seq (.reg [fA 4 1 0,lD 5 4 1 false,fA 6 3 0,.st (.t 6) (.t 5) 1])
 (.seq (.reg [fA 7 1 1,lD 8 7 1 false,fA 9 3 1,.st (.t 9) (.t 8) 1])
 (.seq (.reg [fA 10 1 2,lD 11 10 1 false,fA 12 3 2,.st (.t 12) (.t 11) 1])
 (.seq (.reg [lD 13 3 3 true,.st (.t 2) (.t 13) 3])
 (.gw (.ret)))))))
def ZEh : List Rv := [.c 2 3 true]
theorem Zcj : chkFn Tryz.prog ZO1 1 Zxi ZEh = true := by kernel_rfl
def Zx5 (a1 : Vec) : Option Vec :=
 some a1
theorem ZNc {a1 : Vec} {r : Vec} (H : Zx5 a1 = some r) : Snd Tryz.prog ZO1 [eVec a1] (eVec r) [] := by
 refine snd_g Zcj rfl (by simp) ?_
 unfold Zx5 at H
 refine Wh_o fun _ => ?_
 replace H := sI H; subst H
 exact Z0 [(2, .d)] [(2, [])] [] [] [] [] (by kernel_rfl)
def laws_toVec (a1 : Vec) : Vec :=
 a1
theorem ZXj (a1 : Vec) : Zx5 a1 = some (laws_toVec a1) := by
 unfold Zx5 laws_toVec
 first | rfl | simp only [Za]
theorem Zr4 (a1 : Vec) : Snd Tryz.prog ZO1 [eVec a1] (eVec (laws_toVec a1)) [] := ZNc (ZXj a1)
def ZCi : L :=
.seq (.reg [.bx 2 (.t 0),.bx 3 (.t 1),.mv 4 (cB false)])
 (.seq (.seq (.reg [fA 5 2 0,lD 6 5 1 false,fA 7 3 0,lD 8 7 1 false,bI 9 .neq 6 8])
 (.cond (.t 9) (.seq (rE 4 (cB false))
 (.gw (.ret)))
 (.skip)))
 (.seq (.seq (.reg [fA 10 2 1,lD 11 10 1 false,fA 12 3 1,lD 13 12 1 false,bI 14 .neq 11 13])
 (.cond (.t 14) (.seq (rE 4 (cB false))
 (.gw (.ret)))
 (.skip)))
 (.seq (.seq (.reg [fA 15 2 2,lD 16 15 1 false,fA 17 3 2,lD 18 17 1 false,bI 19 .neq 16 18])
 (.cond (.t 19) (.seq (rE 4 (cB false))
 (.gw (.ret)))
 (.skip)))
 (.seq (rE 4 (cB true))
 (.gw (.ret))))))
def ZJh : List Rv := [.t 4]
theorem Zhj : chkFn Tryz.prog Zr1 2 ZCi ZJh = true := by kernel_rfl
def ZB5 (a1 : Vec) (b2 : Vec) : Option Bool :=
 bif (a1.a != b2.a) then (some false) else (bif (a1.b != b2.b) then (some false) else (bif (a1.c != b2.c) then (some false) else (some true)))
theorem ZZc {a1 : Vec} {b2 : Vec} {r : Bool} (H : ZB5 a1 b2 = some r) : Snd Tryz.prog Zr1 [eVec a1, eVec b2] (.bool r) [] := by
 refine snd_g Zhj rfl (by simp) ?_
 unfold ZB5 at H
 refine Wh_o fun _ => ?_
 refine Wh_iH H (fun H => ?_) fun H => ?_
 ·refine Wh_o fun _ => ?_
  replace H := sI H; subst H
  exact Z0 [(4, .d)] [] [] [] [] [] (by kernel_rfl)
 ·refine Wh_o fun _ => ?_
  refine Wh_iH H (fun H => ?_) fun H => ?_
  ·refine Wh_o fun _ => ?_
   replace H := sI H; subst H
   exact Z0 [(4, .d)] [] [] [] [] [] (by kernel_rfl)
  ·refine Wh_o fun _ => ?_
   refine Wh_iH H (fun H => ?_) fun H => ?_
   ·refine Wh_o fun _ => ?_
    replace H := sI H; subst H
    exact Z0 [(4, .d)] [] [] [] [] [] (by kernel_rfl)
   ·refine Wh_o fun _ => ?_
    replace H := sI H; subst H
    exact Z0 [(4, .d)] [] [] [] [] [] (by kernel_rfl)
def laws_eqVec (a1 : Vec) (b2 : Vec) : Bool :=
 bif (a1.a != b2.a) then (false) else (bif (a1.b != b2.b) then (false) else (bif (a1.c != b2.c) then (false) else (true)))
theorem Z1k (a1 : Vec) (b2 : Vec) : ZB5 a1 b2 = some (laws_eqVec a1 b2) := by
 unfold ZB5 laws_eqVec
 first | rfl | simp only [Za]
theorem ZL2 (a1 : Vec) (b2 : Vec) : Snd Tryz.prog Zr1 [eVec a1, eVec b2] (.bool (laws_eqVec a1 b2)) [] := ZZc (Z1k a1 b2)
def ZPf : L :=
.seq (.reg [.mv 2 (.c (.nl))])
 (.seq (.reg [mV 5 0,.ln 6 (.t 5),.ms 7 1 8 [.int .i64 0] (.t 6),mV 3 7])
 (.seq (.seq (rE 4 (kI 0))
 (.blk 0 (.loop (.gw (.seq (.seq (.reg [mV 8 4,mV 9 0,.ln 10 (.t 9),bI 11 .lss 8 10])
 (.cond (.t 11) (.skip)
 (.exit 0)))
 (.seq (.blk 1 (.reg [mV 14 3,mV 15 4,mV 16 0,mV 17 4,iA 18 16 17 1,lD 19 18 1 false,iA 20 14 15 1,.st (.t 20) (.t 19) 1]))
 (.reg [mV 12 4,.bi 13 .add (.t 12) (kI 1),mV 4 13])))))))
 (.seq (.reg [mV 21 3,mV 2 21])
 (.gw (.ret)))))
def ZPe : List Rv := [.t 2]
theorem ZDg : chkFn Tryz.prog ZI4 1 ZPf ZPe = true := by kernel_rfl
def ZI2 (a1 : List Int) (v4 : Int × (List Int)) (k4 : (Int × (List Int)) → Option (List Int)) : Option (List Int) :=
 bif (decide (v4.1 < (a1.length : Int))) then ((idx a1 v4.1).bind fun e6 => (idx v4.2 v4.1).bind fun _ => k4 ((w64 (v4.1 + 1)), (v4.2.set v4.1.toNat e6))) else (some v4.2)
def laws_toIntS (a1 : List Int) : Option (List Int) :=
 (mkL 8 (a1.length : Int) 0).bind fun xs2 => whl (ZI2 a1) 9223372036854775807 (0, xs2)
theorem ZI8 {a1 : List Int} {r : (List Int)} (H : laws_toIntS a1 = some r) : Snd Tryz.prog ZI4 [.sl .rd 1 (a1.map eI)] (.sl .nw 1 (r.map eI)) [] := by
 refine snd_g ZDg rfl (by simp) ?_
 unfold laws_toIntS at H
 obtain ⟨xs2, h2, H⟩ := bB H
 refine Wh_go 99 [.u 6 (.ln _ _ fun _ => lm a1 eI), .u 7 (.ms _ _ _ _ fun _ => Z0a eI h2)] (by kernel_rfl) fun q3 => ?_
 refine ZM1 (fun (v4 : Int × (List Int)) => ⟨[(0, .sl .rd 1 (a1.map eI)), (3, .sref 7), (4, .int .i64 v4.1)], [], [], [(7, ⟨1, v4.2.map eI, false⟩)]⟩) [] [] [] [] (by kernel_rfl) (by kernel_rfl) H (fun v4 I m k4 H N13 => ?_)
 unfold ZI2 at H
 refine Wh_go 99 [.u 10 (.ln _ _ fun _ => lm a1 eI)] (by kernel_rfl) fun q5 => ?_
 refine Wh_iH H (fun H => ?_) fun H => ?_
 ·obtain ⟨e6, h6, H⟩ := bB H
  obtain ⟨e7, h7, H⟩ := bB H
  refine Wh_go 99 [.u 18 (.ix _ _ _ fun _ => Z1 eI h6), .u 20 (.ix _ _ _ fun _ => Z1 eI h7), .u 1000000 (.sto _ _ _ (eI e6) _ (fun _ => gm eI (Z32 h7)) (fun _ => ZS7 ..))] (by kernel_rfl) fun _ => ?_
  exact Wh_to (N13 _ H) [] [] [] [] (by kernel_rfl) (by kernel_rfl)
 ·refine Wh_o fun _ => ?_
  replace H := sI H; subst H
  exact Z0 [(2, .f)] [] [] [7] [] [⟨_, nw_I v4.2⟩] (by kernel_rfl)
def ZNf : L :=
.seq (.reg [.bx 1 (.t 0),.al 2 [.int .i64 0, .int .i64 0, .int .i64 0, .int .i64 0]])
 (.seq (.reg [.al 3 [.int .i64 0, .int .i64 0, .int .i64 0, .int .i64 0]])
 (.seq (.reg [fA 4 1 0,lD 5 4 1 false,fA 6 3 0,.st (.t 6) (.t 5) 1])
 (.seq (.reg [fA 7 1 1,lD 8 7 3 true,cQ 9 ZO1 [8],fA 10 3 1,.st (.t 10) (.t 9) 3])
 (.seq (.reg [lD 11 3 4 true,.st (.t 2) (.t 11) 4])
 (.gw (.ret))))))
def ZNe : List Rv := [.c 2 4 true]
theorem ZBg : chkFn Tryz.prog ZH4 1 ZNf ZNe = true := by kernel_rfl
def Zs4 (a1 : Node) : Option Node :=
 some (Node.mk a1.leaf (laws_toVec a1.cap))
theorem Z6b {a1 : Node} {r : Node} (H : Zs4 a1 = some r) : Snd Tryz.prog ZH4 [eNode a1] (eNode r) [] := by
 refine snd_g ZBg rfl (by simp) ?_
 unfold Zs4 at H
 refine Wh_go 99 [.c 9 (Zr4 a1.cap)] (by kernel_rfl) fun _ => ?_
 replace H := sI H; subst H
 exact Z0 [(2, .d)] [(2, [])] [] [] [] [] (by kernel_rfl)
def laws_toNode (a1 : Node) : Node :=
 (Node.mk a1.leaf (laws_toVec a1.cap))
theorem Zhi (a1 : Node) : Zs4 a1 = some (laws_toNode a1) := by
 unfold Zs4 laws_toNode
 first | rfl | simp only [Za]
theorem Zjf (a1 : Node) : Snd Tryz.prog ZH4 [eNode a1] (eNode (laws_toNode a1)) [] := Z6b (Zhi a1)
def Zpd : L :=
.seq (.reg [.mv 2 (.c (.nl))])
 (.seq (.reg [mV 5 0,.ln 6 (.t 5),.ms 7 4 32 [.int .i64 0, .int .i64 0, .int .i64 0, .int .i64 0] (.t 6),mV 3 7])
 (.seq (.seq (rE 4 (kI 0))
 (.blk 0 (.loop (.gw (.seq (.seq (.reg [mV 8 4,mV 9 0,.ln 10 (.t 9),bI 11 .lss 8 10])
 (.cond (.t 11) (.skip)
 (.exit 0)))
 (.seq (.blk 1 (.reg [mV 14 3,mV 15 4,mV 16 0,mV 17 4,iA 18 16 17 4,lD 19 18 4 true,cQ 20 ZH4 [19],iA 21 14 15 4,.st (.t 21) (.t 20) 4]))
 (.reg [mV 12 4,.bi 13 .add (.t 12) (kI 1),mV 4 13])))))))
 (.seq (.reg [mV 22 3,mV 2 22])
 (.gw (.ret)))))
def Zwc : List Rv := [.t 2]
theorem Z6e : chkFn Tryz.prog Zj6 1 Zpd Zwc = true := by kernel_rfl
def Zj2 (a1 : List Node) (v4 : Int × (List Node)) (k4 : (Int × (List Node)) → Option (List Node)) : Option (List Node) :=
 bif (decide (v4.1 < (a1.length : Int))) then ((idx a1 v4.1).bind fun e6 => (idx v4.2 v4.1).bind fun _ => k4 ((w64 (v4.1 + 1)), (v4.2.set v4.1.toNat (Node.mk ((laws_toNode e6).leaf) ((laws_toNode e6).cap))))) else (some v4.2)
def laws_toNodeS (a1 : List Node) : Option (List Node) :=
 (mkL 32 (a1.length : Int) (Node.mk 0 (Vec.mk 0 0 0))).bind fun xs2 => whl (Zj2 a1) 9223372036854775807 (0, xs2)
theorem ZQc {a1 : List Node} {r : (List Node)} (H : laws_toNodeS a1 = some r) : Snd Tryz.prog Zj6 [.sl .rd 4 (a1.map eNode)] (.sl .nw 4 (r.map eNode)) [] := by
 refine snd_g Z6e rfl (by simp) ?_
 unfold laws_toNodeS at H
 obtain ⟨xs2, h2, H⟩ := bB H
 refine Wh_go 99 [.u 6 (.ln _ _ fun _ => lm a1 eNode), .u 7 (.ms _ _ _ _ fun _ => Z0a eNode h2)] (by kernel_rfl) fun q3 => ?_
 refine ZM1 (fun (v4 : Int × (List Node)) => ⟨[(0, .sl .rd 4 (a1.map eNode)), (3, .sref 7), (4, .int .i64 v4.1)], [], [], [(7, ⟨4, v4.2.map eNode, false⟩)]⟩) [] [] [] [] (by kernel_rfl) (by kernel_rfl) H (fun v4 I m k4 H N13 => ?_)
 unfold Zj2 at H
 refine Wh_go 99 [.u 10 (.ln _ _ fun _ => lm a1 eNode)] (by kernel_rfl) fun q5 => ?_
 refine Wh_iH H (fun H => ?_) fun H => ?_
 ·obtain ⟨e6, h6, H⟩ := bB H
  obtain ⟨e7, h7, H⟩ := bB H
  refine Wh_go 99 [.u 18 (.ix _ _ _ fun _ => Z1 eNode h6), .c 20 (Zjf e6), .u 21 (.ix _ _ _ fun _ => Z1 eNode h7), .u 1000000 (.sto _ _ _ (eNode (Node.mk ((laws_toNode e6).leaf) ((laws_toNode e6).cap))) _ (fun _ => gm eNode (Z32 h7)) (fun _ => ZS7 ..))] (by kernel_rfl) fun _ => ?_
  exact Wh_to (N13 _ H) [] [] [] [] (by kernel_rfl) (by kernel_rfl)
 ·refine Wh_o fun _ => ?_
  replace H := sI H; subst H
  exact Z0 [(2, .f)] [] [] [7] [] [⟨_, ZT v4.2⟩] (by kernel_rfl)
def ZLf : L :=
.seq (.reg [.bx 1 (.t 0),.al 2 [.nl, .nl]])
 (.seq (.reg [.al 3 [.nl, .nl]])
 (.seq (.reg [fA 4 1 0,lD 5 4 1 false,cQ 6 ZI4 [5],fA 7 3 0,.st (.t 7) (.t 6) 1])
 (.seq (.reg [fA 8 1 1,lD 9 8 1 false,cQ 10 Zj6 [9],fA 11 3 1,.st (.t 11) (.t 10) 1])
 (.seq (.reg [lD 12 3 2 true,.st (.t 2) (.t 12) 2])
 (.gw (.ret))))))
def ZLe : List Rv := [.c 2 2 true]
theorem Zzg : chkFn Tryz.prog Z47 1 ZLf ZLe = true := by kernel_rfl
def laws_toTopo (a1 : Topo) : Option Topo :=
 (laws_toIntS a1.parents).bind fun y2 => (laws_toNodeS a1.nodes).bind fun y3 => some (Topo.mk y2 y3)
theorem Zff {a1 : Topo} {r : Topo} (H : laws_toTopo a1 = some r) : Snd Tryz.prog Z47 [Zy .rd a1] (Zy .nw r) [] := by
 refine snd_g Zzg rfl (by simp) ?_
 unfold laws_toTopo at H
 obtain ⟨y2, h2, H⟩ := bB H
 obtain ⟨y3, h3, H⟩ := bB H
 refine Wh_go 99 [.c 6 (ZI8 h2), .c 10 (ZQc h3)] (by kernel_rfl) fun _ => ?_
 replace H := sI H; subst H
 exact Z0 [(2, .d)] [(2, [])] [] [] [] [⟨_, nw_I y2⟩, ⟨_, ZT y3⟩] (by kernel_rfl)
def ZUf : L :=
.seq (rE 4 (kI 0))
 (.seq (.reg [mV 5 1,mV 6 0,.ln 7 (.t 6),bI 8 .sub 5 7,mV 1 8])
 (.seq (.seq (.reg [mV 9 1,.bi 10 .lss (.t 9) (kI 0)])
 (.cond (.t 10) (.seq (rE 4 (kI (-1)))
 (.gw (.ret)))
 (.skip)))
 (.seq (.reg [mV 11 1,mV 4 11])
 (.gw (.ret)))))
def ZUe : List Rv := [.t 4]
theorem ZIg : chkFn Tryz.prog Z43 2 ZUf ZUe = true := by kernel_rfl
def Zv4 (a1 : List Int) (left2 : Int) : Option Int :=
 bif (decide ((w64 (left2 - (a1.length : Int))) < 0)) then (some (-1)) else (some (w64 (left2 - (a1.length : Int))))
theorem Z9b {a1 : List Int} {left2 : Int} {r : Int} (H : Zv4 a1 left2 = some r) : Snd Tryz.prog Z43 [.sl .rd 1 (a1.map eI), .int .i64 left2] (.int .i64 r) [] := by
 refine snd_g ZIg rfl (by simp) ?_
 unfold Zv4 at H
 refine Wh_go 99 [.u 7 (.ln _ _ fun _ => lm a1 eI)] (by kernel_rfl) fun q3 => ?_
 refine Wh_iH H (fun H => ?_) fun H => ?_
 ·refine Wh_o fun _ => ?_
  replace H := sI H; subst H
  exact Z0 [(4, .d)] [] [] [] [] [] (by kernel_rfl)
 ·refine Wh_o fun _ => ?_
  replace H := sI H; subst H
  exact Z0 [(4, .d)] [] [] [] [] [] (by kernel_rfl)
def laws_szIntS (a1 : List Int) (left2 : Int) : Int :=
 bif (decide ((w64 (left2 - (a1.length : Int))) < 0)) then ((-1)) else ((w64 (left2 - (a1.length : Int))))
theorem Zmi (a1 : List Int) (left2 : Int) : Zv4 a1 left2 = some (laws_szIntS a1 left2) := by
 unfold Zv4 laws_szIntS
 first | rfl | simp only [Za]
theorem ZL8 (a1 : List Int) (left2 : Int) : Snd Tryz.prog Z43 [.sl .rd 1 (a1.map eI), .int .i64 left2] (.int .i64 (laws_szIntS a1 left2)) [] := Z9b (Zmi a1 left2)
def Zsd : L :=
.seq (rE 4 (kI 0))
 (.seq (.reg [mV 5 1,mV 6 0,.ln 7 (.t 6),bI 8 .sub 5 7,mV 1 8])
 (.seq (.seq (.reg [mV 9 1,.bi 10 .lss (.t 9) (kI 0)])
 (.cond (.t 10) (.seq (rE 4 (kI (-1)))
 (.gw (.ret)))
 (.skip)))
 (.seq (.reg [mV 11 1,mV 4 11])
 (.gw (.ret)))))
def Zzc : List Rv := [.t 4]
theorem Z9e : chkFn Tryz.prog ZH3 2 Zsd Zzc = true := by kernel_rfl
def Zv3 (a1 : List Node) (left2 : Int) : Option Int :=
 bif (decide ((w64 (left2 - (a1.length : Int))) < 0)) then (some (-1)) else (some (w64 (left2 - (a1.length : Int))))
theorem Z2a {a1 : List Node} {left2 : Int} {r : Int} (H : Zv3 a1 left2 = some r) : Snd Tryz.prog ZH3 [.sl .rd 4 (a1.map eNode), .int .i64 left2] (.int .i64 r) [] := by
 refine snd_g Z9e rfl (by simp) ?_
 unfold Zv3 at H
 refine Wh_go 99 [.u 7 (.ln _ _ fun _ => lm a1 eNode)] (by kernel_rfl) fun q3 => ?_
 refine Wh_iH H (fun H => ?_) fun H => ?_
 ·refine Wh_o fun _ => ?_
  replace H := sI H; subst H
  exact Z0 [(4, .d)] [] [] [] [] [] (by kernel_rfl)
 ·refine Wh_o fun _ => ?_
  replace H := sI H; subst H
  exact Z0 [(4, .d)] [] [] [] [] [] (by kernel_rfl)
def laws_szNodeS (a1 : List Node) (left2 : Int) : Int :=
 bif (decide ((w64 (left2 - (a1.length : Int))) < 0)) then ((-1)) else ((w64 (left2 - (a1.length : Int))))
theorem Zqf (a1 : List Node) (left2 : Int) : Zv3 a1 left2 = some (laws_szNodeS a1 left2) := by
 unfold Zv3 laws_szNodeS
 first | rfl | simp only [Za]
theorem ZXc (a1 : List Node) (left2 : Int) : Snd Tryz.prog ZH3 [.sl .rd 4 (a1.map eNode), .int .i64 left2] (.int .i64 (laws_szNodeS a1 left2)) [] := Z2a (Zqf a1 left2)
def ZRf : L :=
.seq (.reg [.bx 2 (.t 0),.mv 4 (kI 0)])
 (.seq (.reg [fA 5 2 0,lD 6 5 1 false,mV 7 1,cQ 8 Z43 [6, 7],mV 1 8])
 (.seq (.seq (.reg [mV 9 1,.bi 10 .lss (.t 9) (kI 0)])
 (.cond (.t 10) (.seq (rE 4 (kI (-1)))
 (.gw (.ret)))
 (.skip)))
 (.seq (.reg [fA 11 2 1,lD 12 11 1 false,mV 13 1,cQ 14 ZH3 [12, 13],mV 1 14])
 (.seq (.seq (.reg [mV 15 1,.bi 16 .lss (.t 15) (kI 0)])
 (.cond (.t 16) (.seq (rE 4 (kI (-1)))
 (.gw (.ret)))
 (.skip)))
 (.seq (.reg [mV 17 1,mV 4 17])
 (.gw (.ret)))))))
def ZRe : List Rv := [.t 4]
theorem ZFg : chkFn Tryz.prog ZJ4 2 ZRf ZRe = true := by kernel_rfl
def Zt4 (a1 : Topo) (left2 : Int) : Option Int :=
 bif (decide ((laws_szIntS a1.parents left2) < 0)) then (some (-1)) else (bif (decide ((laws_szNodeS a1.nodes (laws_szIntS a1.parents left2)) < 0)) then (some (-1)) else (some (laws_szNodeS a1.nodes (laws_szIntS a1.parents left2))))
theorem Z7b {a1 : Topo} {left2 : Int} {r : Int} (H : Zt4 a1 left2 = some r) : Snd Tryz.prog ZJ4 [Zy .rd a1, .int .i64 left2] (.int .i64 r) [] := by
 refine snd_g ZFg rfl (by simp) ?_
 unfold Zt4 at H
 refine Wh_go 99 [.c 8 (ZL8 a1.parents left2)] (by kernel_rfl) fun _ => ?_
 refine Wh_iH H (fun H => ?_) fun H => ?_
 ·refine Wh_o fun _ => ?_
  replace H := sI H; subst H
  exact Z0 [(4, .d)] [] [] [] [] [] (by kernel_rfl)
 ·refine Wh_go 99 [.u 14 (.call _ _ _ _ _ (AEs.refl _) (fun _ => ZXc a1.nodes (laws_szIntS a1.parents left2)))] (by kernel_rfl) fun _ => ?_
  refine Wh_iH H (fun H => ?_) fun H => ?_
  ·refine Wh_o fun _ => ?_
   replace H := sI H; subst H
   exact Z0 [(4, .d)] [] [] [] [] [] (by kernel_rfl)
  ·refine Wh_o fun _ => ?_
   replace H := sI H; subst H
   exact Z0 [(4, .d)] [] [] [] [] [] (by kernel_rfl)
def laws_szTopo (a1 : Topo) (left2 : Int) : Int :=
 bif (decide ((laws_szIntS a1.parents left2) < 0)) then ((-1)) else (bif (decide ((laws_szNodeS a1.nodes (laws_szIntS a1.parents left2)) < 0)) then ((-1)) else ((laws_szNodeS a1.nodes (laws_szIntS a1.parents left2))))
theorem Zji (a1 : Topo) (left2 : Int) : Zt4 a1 left2 = some (laws_szTopo a1 left2) := by
 unfold Zt4 laws_szTopo
 first | rfl | simp only [Za]
theorem Zof (a1 : Topo) (left2 : Int) : Snd Tryz.prog ZJ4 [Zy .rd a1, .int .i64 left2] (.int .i64 (laws_szTopo a1 left2)) [] := Z7b (Zji a1 left2)
def Z0g : L :=
.seq (rE 4 (cB false))
 (.seq (.seq (.reg [mV 6 0,.ln 7 (.t 6),mV 8 1,.ln 9 (.t 8),bI 10 .neq 7 9])
 (.cond (.t 10) (.seq (rE 4 (cB false))
 (.gw (.ret)))
 (.skip)))
 (.seq (.seq (rE 5 (kI 0))
 (.blk 0 (.loop (.gw (.seq (.seq (.reg [mV 11 5,mV 12 0,.ln 13 (.t 12),bI 14 .lss 11 13])
 (.cond (.t 14) (.skip)
 (.exit 0)))
 (.seq (.blk 1 (.seq (.rq 9 [mV 17 0,mV 18 5,iA 19 17 18 1,lD 20 19 1 false,mV 21 1,mV 22 5,iA 23 21 22 1,lD 24 23 1 false,bI 25 .neq 20 24])
 (.cond (.t 25) (.seq (rE 4 (cB false))
 (.gw (.ret)))
 (.skip))))
 (.reg [mV 15 5,.bi 16 .add (.t 15) (kI 1),mV 5 16])))))))
 (.seq (rE 4 (cB true))
 (.gw (.ret)))))
def Z0f : List Rv := [.t 4]
theorem ZOg : chkFn Tryz.prog ZN4 2 Z0g Z0f = true := by kernel_rfl
def ZO2 (a1 : List Int) (b2 : List Int) (v4 : Int) (k4 : Int → Option Bool) : Option Bool :=
 bif (decide (v4 < (a1.length : Int))) then ((idx a1 v4).bind fun e6 => (idx b2 v4).bind fun e7 => bif (e6 != e7) then (some false) else (k4 (w64 (v4 + 1)))) else (some true)
def laws_eqIntS (a1 : List Int) (b2 : List Int) : Option Bool :=
 bif ((a1.length : Int) != (b2.length : Int)) then (some false) else (whl (ZO2 a1 b2) 9223372036854775807 0)
theorem ZM8 {a1 : List Int} {b2 : List Int} {r : Bool} (H : laws_eqIntS a1 b2 = some r) : Snd Tryz.prog ZN4 [.sl .rd 1 (a1.map eI), .sl .rd 1 (b2.map eI)] (.bool r) [] := by
 refine snd_g ZOg rfl (by simp) ?_
 unfold laws_eqIntS at H
 refine Wh_go 99 [.u 7 (.ln _ _ fun _ => lm a1 eI), .u 9 (.ln _ _ fun _ => lm b2 eI)] (by kernel_rfl) fun q3 => ?_
 refine Wh_iH H (fun H => ?_) fun H => ?_
 ·refine Wh_o fun _ => ?_
  replace H := sI H; subst H
  exact Z0 [(4, .d)] [] [] [] [] [] (by kernel_rfl)
 ·refine Wh_o fun _ => ?_
  refine ZM1 (fun (v4 : Int) => ⟨[(0, .sl .rd 1 (a1.map eI)), (1, .sl .rd 1 (b2.map eI)), (5, .int .i64 v4)], [], [], []⟩) [] [] [] [] (by kernel_rfl) (by kernel_rfl) H (fun v4 I m k4 H N25 => ?_)
  unfold ZO2 at H
  refine Wh_go 99 [.u 13 (.ln _ _ fun _ => lm a1 eI)] (by kernel_rfl) fun q5 => ?_
  refine Wh_iH H (fun H => ?_) fun H => ?_
  ·obtain ⟨e6, h6, H⟩ := bB H
   obtain ⟨e7, h7, H⟩ := bB H
   refine Wh_go 99 [.u 19 (.ix _ _ _ fun _ => Z1 eI h6), .u 23 (.ix _ _ _ fun _ => Z1 eI h7)] (by kernel_rfl) fun _ => ?_
   refine Wh_iH H (fun H => ?_) fun H => ?_
   ·refine Wh_o fun _ => ?_
    replace H := sI H; subst H
    exact Z0 [(4, .d)] [] [] [] [] [] (by kernel_rfl)
   ·refine Wh_o fun _ => ?_
    exact Wh_to (N25 _ H) [] [] [] [] (by kernel_rfl) (by kernel_rfl)
  ·refine Wh_o fun _ => ?_
   replace H := sI H; subst H
   exact Z0 [(4, .d)] [] [] [] [] [] (by kernel_rfl)
def ZYf : L :=
.seq (.reg [.bx 2 (.t 0),.bx 3 (.t 1),.mv 4 (cB false)])
 (.seq (.seq (.reg [fA 5 2 0,lD 6 5 1 false,fA 7 3 0,lD 8 7 1 false,bI 9 .neq 6 8])
 (.cond (.t 9) (.seq (rE 4 (cB false))
 (.gw (.ret)))
 (.skip)))
 (.seq (.seq (.reg [fA 10 2 1,lD 11 10 3 true,fA 12 3 1,lD 13 12 3 true,cQ 14 Zr1 [11, 13],.un 15 (.t 14)])
 (.cond (.t 15) (.seq (rE 4 (cB false))
 (.gw (.ret)))
 (.skip)))
 (.seq (rE 4 (cB true))
 (.gw (.ret)))))
def ZYe : List Rv := [.t 4]
theorem ZMg : chkFn Tryz.prog ZM4 2 ZYf ZYe = true := by kernel_rfl
def Zx4 (a1 : Node) (b2 : Node) : Option Bool :=
 bif (a1.leaf != b2.leaf) then (some false) else (bif (!(laws_eqVec a1.cap b2.cap)) then (some false) else (some true))
theorem Zeb {a1 : Node} {b2 : Node} {r : Bool} (H : Zx4 a1 b2 = some r) : Snd Tryz.prog ZM4 [eNode a1, eNode b2] (.bool r) [] := by
 refine snd_g ZMg rfl (by simp) ?_
 unfold Zx4 at H
 refine Wh_o fun _ => ?_
 refine Wh_iH H (fun H => ?_) fun H => ?_
 ·refine Wh_o fun _ => ?_
  replace H := sI H; subst H
  exact Z0 [(4, .d)] [] [] [] [] [] (by kernel_rfl)
 ·refine Wh_go 99 [.c 14 (ZL2 a1.cap b2.cap)] (by kernel_rfl) fun _ => ?_
  refine Wh_iH H (fun H => ?_) fun H => ?_
  ·refine Wh_o fun _ => ?_
   replace H := sI H; subst H
   exact Z0 [(4, .d)] [] [] [] [] [] (by kernel_rfl)
  ·refine Wh_o fun _ => ?_
   replace H := sI H; subst H
   exact Z0 [(4, .d)] [] [] [] [] [] (by kernel_rfl)
def laws_eqNode (a1 : Node) (b2 : Node) : Bool :=
 bif (a1.leaf != b2.leaf) then (false) else (bif (!(laws_eqVec a1.cap b2.cap)) then (false) else (true))
theorem Zpi (a1 : Node) (b2 : Node) : Zx4 a1 b2 = some (laws_eqNode a1 b2) := by
 unfold Zx4 laws_eqNode
 first | rfl | simp only [Za]
theorem Zwf (a1 : Node) (b2 : Node) : Snd Tryz.prog ZM4 [eNode a1, eNode b2] (.bool (laws_eqNode a1 b2)) [] := Zeb (Zpi a1 b2)
def Zvd : L :=
.seq (rE 4 (cB false))
 (.seq (.seq (.reg [mV 6 0,.ln 7 (.t 6),mV 8 1,.ln 9 (.t 8),bI 10 .neq 7 9])
 (.cond (.t 10) (.seq (rE 4 (cB false))
 (.gw (.ret)))
 (.skip)))
 (.seq (.seq (rE 5 (kI 0))
 (.blk 0 (.loop (.gw (.seq (.seq (.reg [mV 11 5,mV 12 0,.ln 13 (.t 12),bI 14 .lss 11 13])
 (.cond (.t 14) (.skip)
 (.exit 0)))
 (.seq (.blk 1 (.seq (.rq 10 [mV 17 0,mV 18 5,iA 19 17 18 4,lD 20 19 4 true,mV 21 1,mV 22 5,iA 23 21 22 4,lD 24 23 4 true,cQ 25 ZM4 [20, 24],.un 26 (.t 25)])
 (.cond (.t 26) (.seq (rE 4 (cB false))
 (.gw (.ret)))
 (.skip))))
 (.reg [mV 15 5,.bi 16 .add (.t 15) (kI 1),mV 5 16])))))))
 (.seq (rE 4 (cB true))
 (.gw (.ret)))))
def ZCc : List Rv := [.t 4]
theorem Zce : chkFn Tryz.prog Zl6 2 Zvd ZCc = true := by kernel_rfl
def Zl2 (a1 : List Node) (b2 : List Node) (v4 : Int) (k4 : Int → Option Bool) : Option Bool :=
 bif (decide (v4 < (a1.length : Int))) then ((idx a1 v4).bind fun e6 => (idx b2 v4).bind fun e7 => bif (!(laws_eqNode e6 e7)) then (some false) else (k4 (w64 (v4 + 1)))) else (some true)
def laws_eqNodeS (a1 : List Node) (b2 : List Node) : Option Bool :=
 bif ((a1.length : Int) != (b2.length : Int)) then (some false) else (whl (Zl2 a1 b2) 9223372036854775807 0)
theorem Z2d {a1 : List Node} {b2 : List Node} {r : Bool} (H : laws_eqNodeS a1 b2 = some r) : Snd Tryz.prog Zl6 [.sl .rd 4 (a1.map eNode), .sl .rd 4 (b2.map eNode)] (.bool r) [] := by
 refine snd_g Zce rfl (by simp) ?_
 unfold laws_eqNodeS at H
 refine Wh_go 99 [.u 7 (.ln _ _ fun _ => lm a1 eNode), .u 9 (.ln _ _ fun _ => lm b2 eNode)] (by kernel_rfl) fun q3 => ?_
 refine Wh_iH H (fun H => ?_) fun H => ?_
 ·refine Wh_o fun _ => ?_
  replace H := sI H; subst H
  exact Z0 [(4, .d)] [] [] [] [] [] (by kernel_rfl)
 ·refine Wh_o fun _ => ?_
  refine ZM1 (fun (v4 : Int) => ⟨[(0, .sl .rd 4 (a1.map eNode)), (1, .sl .rd 4 (b2.map eNode)), (5, .int .i64 v4)], [], [], []⟩) [] [] [] [] (by kernel_rfl) (by kernel_rfl) H (fun v4 I m k4 H N25 => ?_)
  unfold Zl2 at H
  refine Wh_go 99 [.u 13 (.ln _ _ fun _ => lm a1 eNode)] (by kernel_rfl) fun q5 => ?_
  refine Wh_iH H (fun H => ?_) fun H => ?_
  ·obtain ⟨e6, h6, H⟩ := bB H
   obtain ⟨e7, h7, H⟩ := bB H
   refine Wh_go 99 [.u 19 (.ix _ _ _ fun _ => Z1 eNode h6), .u 23 (.ix _ _ _ fun _ => Z1 eNode h7), .c 25 (Zwf e6 e7)] (by kernel_rfl) fun _ => ?_
   refine Wh_iH H (fun H => ?_) fun H => ?_
   ·refine Wh_o fun _ => ?_
    replace H := sI H; subst H
    exact Z0 [(4, .d)] [] [] [] [] [] (by kernel_rfl)
   ·refine Wh_o fun _ => ?_
    exact Wh_to (N25 _ H) [] [] [] [] (by kernel_rfl) (by kernel_rfl)
  ·refine Wh_o fun _ => ?_
   replace H := sI H; subst H
   exact Z0 [(4, .d)] [] [] [] [] [] (by kernel_rfl)
def ZWf : L :=
.seq (.reg [.bx 2 (.t 0),.bx 3 (.t 1),.mv 4 (cB false)])
 (.seq (.seq (.reg [fA 5 2 0,lD 6 5 1 false,fA 7 3 0,lD 8 7 1 false,cQ 9 ZN4 [6, 8],.un 10 (.t 9)])
 (.cond (.t 10) (.seq (rE 4 (cB false))
 (.gw (.ret)))
 (.skip)))
 (.seq (.seq (.reg [fA 11 2 1,lD 12 11 1 false,fA 13 3 1,lD 14 13 1 false,cQ 15 Zl6 [12, 14],.un 16 (.t 15)])
 (.cond (.t 16) (.seq (rE 4 (cB false))
 (.gw (.ret)))
 (.skip)))
 (.seq (rE 4 (cB true))
 (.gw (.ret)))))
def ZWe : List Rv := [.t 4]
theorem ZKg : chkFn Tryz.prog Z97 2 ZWf ZWe = true := by kernel_rfl
def laws_eqTopo (a1 : Topo) (b2 : Topo) : Option Bool :=
 (laws_eqIntS a1.parents b2.parents).bind fun b3 => bif (!b3) then (some false) else ((laws_eqNodeS a1.nodes b2.nodes).bind fun b4 => bif (!b4) then (some false) else (some true))
theorem Zuf {a1 : Topo} {b2 : Topo} {r : Bool} (H : laws_eqTopo a1 b2 = some r) : Snd Tryz.prog Z97 [Zy .rd a1, Zy .rd b2] (.bool r) [] := by
 refine snd_g ZKg rfl (by simp) ?_
 unfold laws_eqTopo at H
 obtain ⟨b3, h3, H⟩ := bB H
 refine Wh_go 99 [.c 9 (ZM8 h3)] (by kernel_rfl) fun _ => ?_
 refine Wh_iH H (fun H => ?_) fun H => ?_
 ·refine Wh_o fun _ => ?_
  replace H := sI H; subst H
  exact Z0 [(4, .d)] [] [] [] [] [] (by kernel_rfl)
 ·obtain ⟨b4, h4, H⟩ := bB H
  refine Wh_go 99 [.c 15 (Z2d h4)] (by kernel_rfl) fun _ => ?_
  refine Wh_iH H (fun H => ?_) fun H => ?_
  ·refine Wh_o fun _ => ?_
   replace H := sI H; subst H
   exact Z0 [(4, .d)] [] [] [] [] [] (by kernel_rfl)
  ·refine Wh_o fun _ => ?_
   replace H := sI H; subst H
   exact Z0 [(4, .d)] [] [] [] [] [] (by kernel_rfl)
def Zzi : L :=
.seq (.reg [.bx 1 (.t 0),.al 2 [.int .i64 0, .int .i64 0, .int .i64 0, .int .i64 0, .int .i64 0, .int .i64 0, .int .i64 0, .int .i64 0, .int .i64 0, .int .i64 0, .int .i64 0]])
 (.seq (.reg [.al 3 [.int .i64 0, .int .i64 0, .int .i64 0, .int .i64 0, .int .i64 0, .int .i64 0, .int .i64 0, .int .i64 0, .int .i64 0, .int .i64 0, .int .i64 0]])
 (.seq (.reg [fA 4 1 0,lD 5 4 1 false,fA 6 3 0,.st (.t 6) (.t 5) 1])
 (.seq (.reg [fA 7 1 1,lD 8 7 1 false,fA 9 3 1,.st (.t 9) (.t 8) 1])
 (.seq (.reg [fA 10 1 2,lD 11 10 1 false,fA 12 3 2,.st (.t 12) (.t 11) 1])
 (.seq (.reg [fA 13 1 3,lD 14 13 3 true,cQ 15 ZO1 [14],fA 16 3 3,.st (.t 16) (.t 15) 3])
 (.seq (.reg [fA 17 1 6,lD 18 17 3 true,cQ 19 ZO1 [18],fA 20 3 6,.st (.t 20) (.t 19) 3])
 (.seq (.reg [fA 21 1 9,lD 22 21 1 false,fA 23 3 9,.st (.t 23) (.t 22) 1])
 (.seq (.reg [fA 24 1 10,lD 25 24 1 false,fA 26 3 10,.st (.t 26) (.t 25) 1])
 (.seq (.reg [lD 27 3 11 true,.st (.t 2) (.t 27) 11])
 (.gw (.ret)))))))))))
def ZGh : List Rv := [.c 2 11 true]
theorem Zej : chkFn Tryz.prog ZO3 1 Zzi ZGh = true := by kernel_rfl
def Zy5 (a1 : Job) : Option Job :=
 some (Job.mk a1.id a1.prio a1.nodes (laws_toVec a1.need) (laws_toVec a1.lic) a1.wall a1.level)
theorem ZSc {a1 : Job} {r : Job} (H : Zy5 a1 = some r) : Snd Tryz.prog ZO3 [eJob a1] (eJob r) [] := by
 refine snd_g Zej rfl (by simp) ?_
 unfold Zy5 at H
 refine Wh_go 99 [.c 15 (Zr4 a1.need), .c 19 (Zr4 a1.lic)] (by kernel_rfl) fun _ => ?_
 replace H := sI H; subst H
 exact Z0 [(2, .d)] [(2, [])] [] [] [] [] (by kernel_rfl)
def laws_toJob (a1 : Job) : Job :=
 (Job.mk a1.id a1.prio a1.nodes (laws_toVec a1.need) (laws_toVec a1.lic) a1.wall a1.level)
theorem ZYj (a1 : Job) : Zy5 a1 = some (laws_toJob a1) := by
 unfold Zy5 laws_toJob
 first | rfl | simp only [Za]
theorem Zo9 (a1 : Job) : Snd Tryz.prog ZO3 [eJob a1] (eJob (laws_toJob a1)) [] := ZSc (ZYj a1)
def Zqd : L :=
.seq (.reg [.mv 2 (.c (.nl))])
 (.seq (.reg [mV 5 0,.ln 6 (.t 5),.ms 7 1 1 [.bool false] (.t 6),mV 3 7])
 (.seq (.seq (rE 4 (kI 0))
 (.blk 0 (.loop (.gw (.seq (.seq (.reg [mV 8 4,mV 9 0,.ln 10 (.t 9),bI 11 .lss 8 10])
 (.cond (.t 11) (.skip)
 (.exit 0)))
 (.seq (.blk 1 (.reg [mV 14 3,mV 15 4,mV 16 0,mV 17 4,iA 18 16 17 1,lD 19 18 1 false,iA 20 14 15 1,.st (.t 20) (.t 19) 1]))
 (.reg [mV 12 4,.bi 13 .add (.t 12) (kI 1),mV 4 13])))))))
 (.seq (.reg [mV 21 3,mV 2 21])
 (.gw (.ret)))))
def Zxc : List Rv := [.t 2]
theorem Z7e : chkFn Tryz.prog Zk6 1 Zqd Zxc = true := by kernel_rfl
def Zk2 (a1 : List Bool) (v4 : Int × (List Bool)) (k4 : (Int × (List Bool)) → Option (List Bool)) : Option (List Bool) :=
 bif (decide (v4.1 < (a1.length : Int))) then ((idx a1 v4.1).bind fun e6 => (idx v4.2 v4.1).bind fun _ => k4 ((w64 (v4.1 + 1)), (v4.2.set v4.1.toNat e6))) else (some v4.2)
def laws_toBoolS (a1 : List Bool) : Option (List Bool) :=
 (mkL 1 (a1.length : Int) false).bind fun xs2 => whl (Zk2 a1) 9223372036854775807 (0, xs2)
theorem ZUc {a1 : List Bool} {r : (List Bool)} (H : laws_toBoolS a1 = some r) : Snd Tryz.prog Zk6 [.sl .rd 1 (a1.map eBo)] (.sl .nw 1 (r.map eBo)) [] := by
 refine snd_g Z7e rfl (by simp) ?_
 unfold laws_toBoolS at H
 obtain ⟨xs2, h2, H⟩ := bB H
 refine Wh_go 99 [.u 6 (.ln _ _ fun _ => lm a1 eBo), .u 7 (.ms _ _ _ _ fun _ => Z0a eBo h2)] (by kernel_rfl) fun q3 => ?_
 refine ZM1 (fun (v4 : Int × (List Bool)) => ⟨[(0, .sl .rd 1 (a1.map eBo)), (3, .sref 7), (4, .int .i64 v4.1)], [], [], [(7, ⟨1, v4.2.map eBo, false⟩)]⟩) [] [] [] [] (by kernel_rfl) (by kernel_rfl) H (fun v4 I m k4 H N13 => ?_)
 unfold Zk2 at H
 refine Wh_go 99 [.u 10 (.ln _ _ fun _ => lm a1 eBo)] (by kernel_rfl) fun q5 => ?_
 refine Wh_iH H (fun H => ?_) fun H => ?_
 ·obtain ⟨e6, h6, H⟩ := bB H
  obtain ⟨e7, h7, H⟩ := bB H
  refine Wh_go 99 [.u 18 (.ix _ _ _ fun _ => Z1 eBo h6), .u 20 (.ix _ _ _ fun _ => Z1 eBo h7), .u 1000000 (.sto _ _ _ (eBo e6) _ (fun _ => gm eBo (Z32 h7)) (fun _ => ZS7 ..))] (by kernel_rfl) fun _ => ?_
  exact Wh_to (N13 _ H) [] [] [] [] (by kernel_rfl) (by kernel_rfl)
 ·refine Wh_o fun _ => ?_
  replace H := sI H; subst H
  exact Z0 [(2, .f)] [] [] [7] [] [⟨_, nw_Bo v4.2⟩] (by kernel_rfl)
def Ztd : L :=
.seq (rE 4 (kI 0))
 (.seq (.reg [mV 5 1,mV 6 0,.ln 7 (.t 6),bI 8 .sub 5 7,mV 1 8])
 (.seq (.seq (.reg [mV 9 1,.bi 10 .lss (.t 9) (kI 0)])
 (.cond (.t 10) (.seq (rE 4 (kI (-1)))
 (.gw (.ret)))
 (.skip)))
 (.seq (.reg [mV 11 1,mV 4 11])
 (.gw (.ret)))))
def ZAc : List Rv := [.t 4]
theorem Zae : chkFn Tryz.prog ZI3 2 Ztd ZAc = true := by kernel_rfl
def Zw3 (a1 : List Bool) (left2 : Int) : Option Int :=
 bif (decide ((w64 (left2 - (a1.length : Int))) < 0)) then (some (-1)) else (some (w64 (left2 - (a1.length : Int))))
theorem Z3a {a1 : List Bool} {left2 : Int} {r : Int} (H : Zw3 a1 left2 = some r) : Snd Tryz.prog ZI3 [.sl .rd 1 (a1.map eBo), .int .i64 left2] (.int .i64 r) [] := by
 refine snd_g Zae rfl (by simp) ?_
 unfold Zw3 at H
 refine Wh_go 99 [.u 7 (.ln _ _ fun _ => lm a1 eBo)] (by kernel_rfl) fun q3 => ?_
 refine Wh_iH H (fun H => ?_) fun H => ?_
 ·refine Wh_o fun _ => ?_
  replace H := sI H; subst H
  exact Z0 [(4, .d)] [] [] [] [] [] (by kernel_rfl)
 ·refine Wh_o fun _ => ?_
  replace H := sI H; subst H
  exact Z0 [(4, .d)] [] [] [] [] [] (by kernel_rfl)
def laws_szBoolS (a1 : List Bool) (left2 : Int) : Int :=
 bif (decide ((w64 (left2 - (a1.length : Int))) < 0)) then ((-1)) else ((w64 (left2 - (a1.length : Int))))
theorem Ztf (a1 : List Bool) (left2 : Int) : Zw3 a1 left2 = some (laws_szBoolS a1 left2) := by
 unfold Zw3 laws_szBoolS
 first | rfl | simp only [Za]
theorem ZYc (a1 : List Bool) (left2 : Int) : Snd Tryz.prog ZI3 [.sl .rd 1 (a1.map eBo), .int .i64 left2] (.int .i64 (laws_szBoolS a1 left2)) [] := Z3a (Ztf a1 left2)
def Zwd : L :=
.seq (rE 4 (cB false))
 (.seq (.seq (.reg [mV 6 0,.ln 7 (.t 6),mV 8 1,.ln 9 (.t 8),bI 10 .neq 7 9])
 (.cond (.t 10) (.seq (rE 4 (cB false))
 (.gw (.ret)))
 (.skip)))
 (.seq (.seq (rE 5 (kI 0))
 (.blk 0 (.loop (.gw (.seq (.seq (.reg [mV 11 5,mV 12 0,.ln 13 (.t 12),bI 14 .lss 11 13])
 (.cond (.t 14) (.skip)
 (.exit 0)))
 (.seq (.blk 1 (.seq (.rq 9 [mV 17 0,mV 18 5,iA 19 17 18 1,lD 20 19 1 false,mV 21 1,mV 22 5,iA 23 21 22 1,lD 24 23 1 false,.eb 25 true (.t 20) (.t 24)])
 (.cond (.t 25) (.seq (rE 4 (cB false))
 (.gw (.ret)))
 (.skip))))
 (.reg [mV 15 5,.bi 16 .add (.t 15) (kI 1),mV 5 16])))))))
 (.seq (rE 4 (cB true))
 (.gw (.ret)))))
def ZDc : List Rv := [.t 4]
theorem Zde : chkFn Tryz.prog Zm6 2 Zwd ZDc = true := by kernel_rfl
def Zm2 (a1 : List Bool) (b2 : List Bool) (v4 : Int) (k4 : Int → Option Bool) : Option Bool :=
 bif (decide (v4 < (a1.length : Int))) then ((idx a1 v4).bind fun e6 => (idx b2 v4).bind fun e7 => bif (!(e6 == e7)) then (some false) else (k4 (w64 (v4 + 1)))) else (some true)
def laws_eqBoolS (a1 : List Bool) (b2 : List Bool) : Option Bool :=
 bif ((a1.length : Int) != (b2.length : Int)) then (some false) else (whl (Zm2 a1 b2) 9223372036854775807 0)
theorem Z6d {a1 : List Bool} {b2 : List Bool} {r : Bool} (H : laws_eqBoolS a1 b2 = some r) : Snd Tryz.prog Zm6 [.sl .rd 1 (a1.map eBo), .sl .rd 1 (b2.map eBo)] (.bool r) [] := by
 refine snd_g Zde rfl (by simp) ?_
 unfold laws_eqBoolS at H
 refine Wh_go 99 [.u 7 (.ln _ _ fun _ => lm a1 eBo), .u 9 (.ln _ _ fun _ => lm b2 eBo)] (by kernel_rfl) fun q3 => ?_
 refine Wh_iH H (fun H => ?_) fun H => ?_
 ·refine Wh_o fun _ => ?_
  replace H := sI H; subst H
  exact Z0 [(4, .d)] [] [] [] [] [] (by kernel_rfl)
 ·refine Wh_o fun _ => ?_
  refine ZM1 (fun (v4 : Int) => ⟨[(0, .sl .rd 1 (a1.map eBo)), (1, .sl .rd 1 (b2.map eBo)), (5, .int .i64 v4)], [], [], []⟩) [] [] [] [] (by kernel_rfl) (by kernel_rfl) H (fun v4 I m k4 H N25 => ?_)
  unfold Zm2 at H
  refine Wh_go 99 [.u 13 (.ln _ _ fun _ => lm a1 eBo)] (by kernel_rfl) fun q5 => ?_
  refine Wh_iH H (fun H => ?_) fun H => ?_
  ·obtain ⟨e6, h6, H⟩ := bB H
   obtain ⟨e7, h7, H⟩ := bB H
   refine Wh_go 99 [.u 19 (.ix _ _ _ fun _ => Z1 eBo h6), .u 23 (.ix _ _ _ fun _ => Z1 eBo h7)] (by kernel_rfl) fun _ => ?_
   refine Wh_iH H (fun H => ?_) fun H => ?_
   ·refine Wh_o fun _ => ?_
    replace H := sI H; subst H
    exact Z0 [(4, .d)] [] [] [] [] [] (by kernel_rfl)
   ·refine Wh_o fun _ => ?_
    exact Wh_to (N25 _ H) [] [] [] [] (by kernel_rfl) (by kernel_rfl)
  ·refine Wh_o fun _ => ?_
   replace H := sI H; subst H
   exact Z0 [(4, .d)] [] [] [] [] [] (by kernel_rfl)
def ZOf : L :=
.seq (.reg [.mv 2 (.c (.nl))])
 (.seq (.reg [mV 5 0,.ln 6 (.t 5),.ms 7 11 88 [.int .i64 0, .int .i64 0, .int .i64 0, .int .i64 0, .int .i64 0, .int .i64 0, .int .i64 0, .int .i64 0, .int .i64 0, .int .i64 0, .int .i64 0] (.t 6),mV 3 7])
 (.seq (.seq (rE 4 (kI 0))
 (.blk 0 (.loop (.gw (.seq (.seq (.reg [mV 8 4,mV 9 0,.ln 10 (.t 9),bI 11 .lss 8 10])
 (.cond (.t 11) (.skip)
 (.exit 0)))
 (.seq (.blk 1 (.reg [mV 14 3,mV 15 4,mV 16 0,mV 17 4,iA 18 16 17 11,lD 19 18 11 true,cQ 20 ZO3 [19],iA 21 14 15 11,.st (.t 21) (.t 20) 11]))
 (.reg [mV 12 4,.bi 13 .add (.t 12) (kI 1),mV 4 13])))))))
 (.seq (.reg [mV 22 3,mV 2 22])
 (.gw (.ret)))))
def ZOe : List Rv := [.t 2]
theorem ZCg : chkFn Tryz.prog Z67 1 ZOf ZOe = true := by kernel_rfl
def ZH2 (a1 : List Job) (v4 : Int × (List Job)) (k4 : (Int × (List Job)) → Option (List Job)) : Option (List Job) :=
 bif (decide (v4.1 < (a1.length : Int))) then ((idx a1 v4.1).bind fun e6 => (idx v4.2 v4.1).bind fun _ => k4 ((w64 (v4.1 + 1)), (v4.2.set v4.1.toNat (Job.mk ((laws_toJob e6).id) ((laws_toJob e6).prio) ((laws_toJob e6).nodes) ((laws_toJob e6).need) ((laws_toJob e6).lic) ((laws_toJob e6).wall) ((laws_toJob e6).level))))) else (some v4.2)
def laws_toJobS (a1 : List Job) : Option (List Job) :=
 (mkL 88 (a1.length : Int) (Job.mk 0 0 0 (Vec.mk 0 0 0) (Vec.mk 0 0 0) 0 0)).bind fun xs2 => whl (ZH2 a1) 9223372036854775807 (0, xs2)
theorem Zkf {a1 : List Job} {r : (List Job)} (H : laws_toJobS a1 = some r) : Snd Tryz.prog Z67 [.sl .rd 11 (a1.map eJob)] (.sl .nw 11 (r.map eJob)) [] := by
 refine snd_g ZCg rfl (by simp) ?_
 unfold laws_toJobS at H
 obtain ⟨xs2, h2, H⟩ := bB H
 refine Wh_go 99 [.u 6 (.ln _ _ fun _ => lm a1 eJob), .u 7 (.ms _ _ _ _ fun _ => Z0a eJob h2)] (by kernel_rfl) fun q3 => ?_
 refine ZM1 (fun (v4 : Int × (List Job)) => ⟨[(0, .sl .rd 11 (a1.map eJob)), (3, .sref 7), (4, .int .i64 v4.1)], [], [], [(7, ⟨11, v4.2.map eJob, false⟩)]⟩) [] [] [] [] (by kernel_rfl) (by kernel_rfl) H (fun v4 I m k4 H N13 => ?_)
 unfold ZH2 at H
 refine Wh_go 99 [.u 10 (.ln _ _ fun _ => lm a1 eJob)] (by kernel_rfl) fun q5 => ?_
 refine Wh_iH H (fun H => ?_) fun H => ?_
 ·obtain ⟨e6, h6, H⟩ := bB H
  obtain ⟨e7, h7, H⟩ := bB H
  refine Wh_go 99 [.u 18 (.ix _ _ _ fun _ => Z1 eJob h6), .c 20 (Zo9 e6), .u 21 (.ix _ _ _ fun _ => Z1 eJob h7), .u 1000000 (.sto _ _ _ (eJob (Job.mk ((laws_toJob e6).id) ((laws_toJob e6).prio) ((laws_toJob e6).nodes) ((laws_toJob e6).need) ((laws_toJob e6).lic) ((laws_toJob e6).wall) ((laws_toJob e6).level))) _ (fun _ => gm eJob (Z32 h7)) (fun _ => ZS7 ..))] (by kernel_rfl) fun _ => ?_
  exact Wh_to (N13 _ H) [] [] [] [] (by kernel_rfl) (by kernel_rfl)
 ·refine Wh_o fun _ => ?_
  replace H := sI H; subst H
  exact Z0 [(2, .f)] [] [] [7] [] [⟨_, Z5l v4.2⟩] (by kernel_rfl)
def ZTf : L :=
.seq (rE 4 (kI 0))
 (.seq (.reg [mV 5 1,mV 6 0,.ln 7 (.t 6),bI 8 .sub 5 7,mV 1 8])
 (.seq (.seq (.reg [mV 9 1,.bi 10 .lss (.t 9) (kI 0)])
 (.cond (.t 10) (.seq (rE 4 (kI (-1)))
 (.gw (.ret)))
 (.skip)))
 (.seq (.reg [mV 11 1,mV 4 11])
 (.gw (.ret)))))
def ZTe : List Rv := [.t 4]
theorem ZHg : chkFn Tryz.prog ZK4 2 ZTf ZTe = true := by kernel_rfl
def Zu4 (a1 : List Job) (left2 : Int) : Option Int :=
 bif (decide ((w64 (left2 - (a1.length : Int))) < 0)) then (some (-1)) else (some (w64 (left2 - (a1.length : Int))))
theorem Z8b {a1 : List Job} {left2 : Int} {r : Int} (H : Zu4 a1 left2 = some r) : Snd Tryz.prog ZK4 [.sl .rd 11 (a1.map eJob), .int .i64 left2] (.int .i64 r) [] := by
 refine snd_g ZHg rfl (by simp) ?_
 unfold Zu4 at H
 refine Wh_go 99 [.u 7 (.ln _ _ fun _ => lm a1 eJob)] (by kernel_rfl) fun q3 => ?_
 refine Wh_iH H (fun H => ?_) fun H => ?_
 ·refine Wh_o fun _ => ?_
  replace H := sI H; subst H
  exact Z0 [(4, .d)] [] [] [] [] [] (by kernel_rfl)
 ·refine Wh_o fun _ => ?_
  replace H := sI H; subst H
  exact Z0 [(4, .d)] [] [] [] [] [] (by kernel_rfl)
def laws_szJobS (a1 : List Job) (left2 : Int) : Int :=
 bif (decide ((w64 (left2 - (a1.length : Int))) < 0)) then ((-1)) else ((w64 (left2 - (a1.length : Int))))
theorem Zli (a1 : List Job) (left2 : Int) : Zu4 a1 left2 = some (laws_szJobS a1 left2) := by
 unfold Zu4 laws_szJobS
 first | rfl | simp only [Za]
theorem Zrf (a1 : List Job) (left2 : Int) : Snd Tryz.prog ZK4 [.sl .rd 11 (a1.map eJob), .int .i64 left2] (.int .i64 (laws_szJobS a1 left2)) [] := Z8b (Zli a1 left2)
def ZEi : L :=
.seq (.reg [.bx 2 (.t 0),.bx 3 (.t 1),.mv 4 (cB false)])
 (.seq (.seq (.reg [fA 5 2 0,lD 6 5 1 false,fA 7 3 0,lD 8 7 1 false,bI 9 .neq 6 8])
 (.cond (.t 9) (.seq (rE 4 (cB false))
 (.gw (.ret)))
 (.skip)))
 (.seq (.seq (.reg [fA 10 2 1,lD 11 10 1 false,fA 12 3 1,lD 13 12 1 false,bI 14 .neq 11 13])
 (.cond (.t 14) (.seq (rE 4 (cB false))
 (.gw (.ret)))
 (.skip)))
 (.seq (.seq (.reg [fA 15 2 2,lD 16 15 1 false,fA 17 3 2,lD 18 17 1 false,bI 19 .neq 16 18])
 (.cond (.t 19) (.seq (rE 4 (cB false))
 (.gw (.ret)))
 (.skip)))
 (.seq (.seq (.reg [fA 20 2 3,lD 21 20 3 true,fA 22 3 3,lD 23 22 3 true,cQ 24 Zr1 [21, 23],.un 25 (.t 24)])
 (.cond (.t 25) (.seq (rE 4 (cB false))
 (.gw (.ret)))
 (.skip)))
 (.seq (.seq (.reg [fA 26 2 6,lD 27 26 3 true,fA 28 3 6,lD 29 28 3 true,cQ 30 Zr1 [27, 29],.un 31 (.t 30)])
 (.cond (.t 31) (.seq (rE 4 (cB false))
 (.gw (.ret)))
 (.skip)))
 (.seq (.seq (.reg [fA 32 2 9,lD 33 32 1 false,fA 34 3 9,lD 35 34 1 false,bI 36 .neq 33 35])
 (.cond (.t 36) (.seq (rE 4 (cB false))
 (.gw (.ret)))
 (.skip)))
 (.seq (.seq (.reg [fA 37 2 10,lD 38 37 1 false,fA 39 3 10,lD 40 39 1 false,bI 41 .neq 38 40])
 (.cond (.t 41) (.seq (rE 4 (cB false))
 (.gw (.ret)))
 (.skip)))
 (.seq (rE 4 (cB true))
 (.gw (.ret))))))))))
def ZLh : List Rv := [.t 4]
theorem Zjj : chkFn Tryz.prog ZP3 2 ZEi ZLh = true := by kernel_rfl
def ZC5 (a1 : Job) (b2 : Job) : Option Bool :=
 bif (a1.id != b2.id) then (some false) else (bif (a1.prio != b2.prio) then (some false) else (bif (a1.nodes != b2.nodes) then (some false) else (bif (!(laws_eqVec a1.need b2.need)) then (some false) else (bif (!(laws_eqVec a1.lic b2.lic)) then (some false) else (bif (a1.wall != b2.wall) then (some false) else (bif (a1.level != b2.level) then (some false) else (some true)))))))
theorem Z3d {a1 : Job} {b2 : Job} {r : Bool} (H : ZC5 a1 b2 = some r) : Snd Tryz.prog ZP3 [eJob a1, eJob b2] (.bool r) [] := by
 refine snd_g Zjj rfl (by simp) ?_
 unfold ZC5 at H
 refine Wh_o fun _ => ?_
 refine Wh_iH H (fun H => ?_) fun H => ?_
 ·refine Wh_o fun _ => ?_
  replace H := sI H; subst H
  exact Z0 [(4, .d)] [] [] [] [] [] (by kernel_rfl)
 ·refine Wh_o fun _ => ?_
  refine Wh_iH H (fun H => ?_) fun H => ?_
  ·refine Wh_o fun _ => ?_
   replace H := sI H; subst H
   exact Z0 [(4, .d)] [] [] [] [] [] (by kernel_rfl)
  ·refine Wh_o fun _ => ?_
   refine Wh_iH H (fun H => ?_) fun H => ?_
   ·refine Wh_o fun _ => ?_
    replace H := sI H; subst H
    exact Z0 [(4, .d)] [] [] [] [] [] (by kernel_rfl)
   ·refine Wh_go 99 [.c 24 (ZL2 a1.need b2.need)] (by kernel_rfl) fun _ => ?_
    refine Wh_iH H (fun H => ?_) fun H => ?_
    ·refine Wh_o fun _ => ?_
     replace H := sI H; subst H
     exact Z0 [(4, .d)] [] [] [] [] [] (by kernel_rfl)
    ·refine Wh_go 99 [.c 30 (ZL2 a1.lic b2.lic)] (by kernel_rfl) fun _ => ?_
     refine Wh_iH H (fun H => ?_) fun H => ?_
     ·refine Wh_o fun _ => ?_
      replace H := sI H; subst H
      exact Z0 [(4, .d)] [] [] [] [] [] (by kernel_rfl)
     ·refine Wh_o fun _ => ?_
      refine Wh_iH H (fun H => ?_) fun H => ?_
      ·refine Wh_o fun _ => ?_
       replace H := sI H; subst H
       exact Z0 [(4, .d)] [] [] [] [] [] (by kernel_rfl)
      ·refine Wh_o fun _ => ?_
       refine Wh_iH H (fun H => ?_) fun H => ?_
       ·refine Wh_o fun _ => ?_
        replace H := sI H; subst H
        exact Z0 [(4, .d)] [] [] [] [] [] (by kernel_rfl)
       ·refine Wh_o fun _ => ?_
        replace H := sI H; subst H
        exact Z0 [(4, .d)] [] [] [] [] [] (by kernel_rfl)
def laws_eqJob (a1 : Job) (b2 : Job) : Bool :=
 bif (a1.id != b2.id) then (false) else (bif (a1.prio != b2.prio) then (false) else (bif (a1.nodes != b2.nodes) then (false) else (bif (!(laws_eqVec a1.need b2.need)) then (false) else (bif (!(laws_eqVec a1.lic b2.lic)) then (false) else (bif (a1.wall != b2.wall) then (false) else (bif (a1.level != b2.level) then (false) else (true)))))))
theorem Z2k (a1 : Job) (b2 : Job) : ZC5 a1 b2 = some (laws_eqJob a1 b2) := by
 unfold ZC5 laws_eqJob
 first | rfl | simp only [Za]
theorem Zp9 (a1 : Job) (b2 : Job) : Snd Tryz.prog ZP3 [eJob a1, eJob b2] (.bool (laws_eqJob a1 b2)) [] := Z3d (Z2k a1 b2)
def ZZf : L :=
.seq (rE 4 (cB false))
 (.seq (.seq (.reg [mV 6 0,.ln 7 (.t 6),mV 8 1,.ln 9 (.t 8),bI 10 .neq 7 9])
 (.cond (.t 10) (.seq (rE 4 (cB false))
 (.gw (.ret)))
 (.skip)))
 (.seq (.seq (rE 5 (kI 0))
 (.blk 0 (.loop (.gw (.seq (.seq (.reg [mV 11 5,mV 12 0,.ln 13 (.t 12),bI 14 .lss 11 13])
 (.cond (.t 14) (.skip)
 (.exit 0)))
 (.seq (.blk 1 (.seq (.rq 10 [mV 17 0,mV 18 5,iA 19 17 18 11,lD 20 19 11 true,mV 21 1,mV 22 5,iA 23 21 22 11,lD 24 23 11 true,cQ 25 ZP3 [20, 24],.un 26 (.t 25)])
 (.cond (.t 26) (.seq (rE 4 (cB false))
 (.gw (.ret)))
 (.skip))))
 (.reg [mV 15 5,.bi 16 .add (.t 15) (kI 1),mV 5 16])))))))
 (.seq (rE 4 (cB true))
 (.gw (.ret)))))
def ZZe : List Rv := [.t 4]
theorem ZNg : chkFn Tryz.prog Zb7 2 ZZf ZZe = true := by kernel_rfl
def ZN2 (a1 : List Job) (b2 : List Job) (v4 : Int) (k4 : Int → Option Bool) : Option Bool :=
 bif (decide (v4 < (a1.length : Int))) then ((idx a1 v4).bind fun e6 => (idx b2 v4).bind fun e7 => bif (!(laws_eqJob e6 e7)) then (some false) else (k4 (w64 (v4 + 1)))) else (some true)
def laws_eqJobS (a1 : List Job) (b2 : List Job) : Option Bool :=
 bif ((a1.length : Int) != (b2.length : Int)) then (some false) else (whl (ZN2 a1 b2) 9223372036854775807 0)
theorem Zxf {a1 : List Job} {b2 : List Job} {r : Bool} (H : laws_eqJobS a1 b2 = some r) : Snd Tryz.prog Zb7 [.sl .rd 11 (a1.map eJob), .sl .rd 11 (b2.map eJob)] (.bool r) [] := by
 refine snd_g ZNg rfl (by simp) ?_
 unfold laws_eqJobS at H
 refine Wh_go 99 [.u 7 (.ln _ _ fun _ => lm a1 eJob), .u 9 (.ln _ _ fun _ => lm b2 eJob)] (by kernel_rfl) fun q3 => ?_
 refine Wh_iH H (fun H => ?_) fun H => ?_
 ·refine Wh_o fun _ => ?_
  replace H := sI H; subst H
  exact Z0 [(4, .d)] [] [] [] [] [] (by kernel_rfl)
 ·refine Wh_o fun _ => ?_
  refine ZM1 (fun (v4 : Int) => ⟨[(0, .sl .rd 11 (a1.map eJob)), (1, .sl .rd 11 (b2.map eJob)), (5, .int .i64 v4)], [], [], []⟩) [] [] [] [] (by kernel_rfl) (by kernel_rfl) H (fun v4 I m k4 H N25 => ?_)
  unfold ZN2 at H
  refine Wh_go 99 [.u 13 (.ln _ _ fun _ => lm a1 eJob)] (by kernel_rfl) fun q5 => ?_
  refine Wh_iH H (fun H => ?_) fun H => ?_
  ·obtain ⟨e6, h6, H⟩ := bB H
   obtain ⟨e7, h7, H⟩ := bB H
   refine Wh_go 99 [.u 19 (.ix _ _ _ fun _ => Z1 eJob h6), .u 23 (.ix _ _ _ fun _ => Z1 eJob h7), .c 25 (Zp9 e6 e7)] (by kernel_rfl) fun _ => ?_
   refine Wh_iH H (fun H => ?_) fun H => ?_
   ·refine Wh_o fun _ => ?_
    replace H := sI H; subst H
    exact Z0 [(4, .d)] [] [] [] [] [] (by kernel_rfl)
   ·refine Wh_o fun _ => ?_
    exact Wh_to (N25 _ H) [] [] [] [] (by kernel_rfl) (by kernel_rfl)
  ·refine Wh_o fun _ => ?_
   replace H := sI H; subst H
   exact Z0 [(4, .d)] [] [] [] [] [] (by kernel_rfl)
def Zyi : L :=
.seq (.reg [.bx 1 (.t 0),.al 2 [.int .i64 0, .int .i64 0, .int .i64 0, .int .i64 0, .int .i64 0, .int .i64 0, .int .i64 0, .int .i64 0, .int .i64 0, .int .i64 0, .int .i64 0, .int .i64 0, .nl]])
 (.seq (.reg [.al 3 [.int .i64 0, .int .i64 0, .int .i64 0, .int .i64 0, .int .i64 0, .int .i64 0, .int .i64 0, .int .i64 0, .int .i64 0, .int .i64 0, .int .i64 0, .int .i64 0, .nl]])
 (.seq (.reg [fA 4 1 0,lD 5 4 11 true,cQ 6 ZO3 [5],fA 7 3 0,.st (.t 7) (.t 6) 11])
 (.seq (.reg [fA 8 1 11,lD 9 8 1 false,fA 10 3 11,.st (.t 10) (.t 9) 1])
 (.seq (.reg [fA 11 1 12,lD 12 11 1 false,cQ 13 ZI4 [12],fA 14 3 12,.st (.t 14) (.t 13) 1])
 (.seq (.reg [lD 15 3 13 true,.st (.t 2) (.t 15) 13])
 (.gw (.ret)))))))
def ZFh : List Rv := [.c 2 13 true]
theorem Zdj : chkFn Tryz.prog Zg8 1 Zyi ZFh = true := by kernel_rfl
def laws_toRun (a1 : Run) : Option Run :=
 (laws_toIntS a1.nodes).bind fun y2 => some (Run.mk (Job.mk ((laws_toJob a1.job).id) ((laws_toJob a1.job).prio) ((laws_toJob a1.job).nodes) ((laws_toJob a1.job).need) ((laws_toJob a1.job).lic) ((laws_toJob a1.job).wall) ((laws_toJob a1.job).level)) a1.t y2)
theorem Zfi {a1 : Run} {r : Run} (H : laws_toRun a1 = some r) : Snd Tryz.prog Zg8 [eRunT .rd a1] (eRunT .nw r) [] := by
 refine snd_g Zdj rfl (by simp) ?_
 unfold laws_toRun at H
 obtain ⟨y2, h2, H⟩ := bB H
 refine Wh_go 99 [.c 6 (Zo9 a1.job), .c 13 (ZI8 h2)] (by kernel_rfl) fun _ => ?_
 replace H := sI H; subst H
 exact Z0 [(2, .d)] [(2, [])] [] [] [] [⟨_, nw_I y2⟩] (by kernel_rfl)
def ZMf : L :=
.seq (.reg [.mv 2 (.c (.nl))])
 (.seq (.reg [mV 5 0,.ln 6 (.t 5),.ms 7 13 120 [.int .i64 0, .int .i64 0, .int .i64 0, .int .i64 0, .int .i64 0, .int .i64 0, .int .i64 0, .int .i64 0, .int .i64 0, .int .i64 0, .int .i64 0, .int .i64 0, .sl .nw 1 []] (.t 6),mV 3 7])
 (.seq (.seq (rE 4 (kI 0))
 (.blk 0 (.loop (.gw (.seq (.seq (.reg [mV 8 4,mV 9 0,.ln 10 (.t 9),bI 11 .lss 8 10])
 (.cond (.t 11) (.skip)
 (.exit 0)))
 (.seq (.blk 1 (.reg [mV 14 3,mV 15 4,mV 16 0,mV 17 4,iA 18 16 17 13,lD 19 18 13 true,cQ 20 Zg8 [19],iA 21 14 15 13,.st (.t 21) (.t 20) 13]))
 (.reg [mV 12 4,.bi 13 .add (.t 12) (kI 1),mV 4 13])))))))
 (.seq (.reg [mV 22 3,mV 2 22])
 (.gw (.ret)))))
def ZMe : List Rv := [.t 2]
theorem ZAg : chkFn Tryz.prog Z57 1 ZMf ZMe = true := by kernel_rfl
def ZG2 (a1 : List Run) (v4 : Int × (List Run)) (k4 : (Int × (List Run)) → Option (List Run)) : Option (List Run) :=
 bif (decide (v4.1 < (a1.length : Int))) then ((idx a1 v4.1).bind fun e6 => (laws_toRun e6).bind fun y7 => (idx v4.2 v4.1).bind fun _ => k4 ((w64 (v4.1 + 1)), (v4.2.set v4.1.toNat y7))) else (some v4.2)
def laws_toRunS (a1 : List Run) : Option (List Run) :=
 (mkL 120 (a1.length : Int) (Run.mk (Job.mk 0 0 0 (Vec.mk 0 0 0) (Vec.mk 0 0 0) 0 0) 0 [])).bind fun xs2 => whl (ZG2 a1) 9223372036854775807 (0, xs2)
theorem Zhf {a1 : List Run} {r : (List Run)} (H : laws_toRunS a1 = some r) : Snd Tryz.prog Z57 [.sl .rd 13 (a1.map (eRunT .rd))] (.sl .nw 13 (r.map (eRunT .nw))) [] := by
 refine snd_g ZAg rfl (by simp) ?_
 unfold laws_toRunS at H
 obtain ⟨xs2, h2, H⟩ := bB H
 refine Wh_go 99 [.u 6 (.ln _ _ fun _ => lm a1 (eRunT .rd)), .u 7 (.ms _ _ _ _ fun _ => Z0a (eRunT .nw) h2)] (by kernel_rfl) fun q3 => ?_
 refine ZM1 (fun (v4 : Int × (List Run)) => ⟨[(0, .sl .rd 13 (a1.map (eRunT .rd))), (3, .sref 7), (4, .int .i64 v4.1)], [], [], [(7, ⟨13, v4.2.map (eRunT .nw), false⟩)]⟩) [] [] [] [] (by kernel_rfl) (by kernel_rfl) H (fun v4 I m k4 H N13 => ?_)
 unfold ZG2 at H
 refine Wh_go 99 [.u 10 (.ln _ _ fun _ => lm a1 (eRunT .rd))] (by kernel_rfl) fun q5 => ?_
 refine Wh_iH H (fun H => ?_) fun H => ?_
 ·obtain ⟨e6, h6, H⟩ := bB H
  obtain ⟨y7, h7, H⟩ := bB H
  obtain ⟨e8, h8, H⟩ := bB H
  refine Wh_go 99 [.u 18 (.ix _ _ _ fun _ => Z1 (eRunT .rd) h6), .c 20 (Zfi h7), .u 21 (.ix _ _ _ fun _ => Z1 (eRunT .nw) h8), .u 1000000 (.sto _ _ _ (eRunT .nw y7) _ (fun _ => gm (eRunT .nw) (Z32 h8)) (fun _ => ZS7 ..))] (by kernel_rfl) fun _ => ?_
  exact Wh_to (N13 _ H) [] [] [] [] (by kernel_rfl) (by kernel_rfl)
 ·refine Wh_o fun _ => ?_
  replace H := sI H; subst H
  exact Z0 [(2, .f)] [] [] [7] [] [⟨_, Z7m v4.2⟩] (by kernel_rfl)
def ZAi : L :=
.seq (.reg [.bx 1 (.t 0),.al 2 [.int .i64 0, .int .i64 0, .int .i64 0]])
 (.seq (.reg [.al 3 [.int .i64 0, .int .i64 0, .int .i64 0]])
 (.seq (.reg [fA 4 1 0,lD 5 4 1 false,fA 6 3 0,.st (.t 6) (.t 5) 1])
 (.seq (.reg [fA 7 1 1,lD 8 7 1 false,fA 9 3 1,.st (.t 9) (.t 8) 1])
 (.seq (.reg [fA 10 1 2,lD 11 10 1 false,fA 12 3 2,.st (.t 12) (.t 11) 1])
 (.seq (.reg [lD 13 3 3 true,.st (.t 2) (.t 13) 3])
 (.gw (.ret)))))))
def ZHh : List Rv := [.c 2 3 true]
theorem Zfj : chkFn Tryz.prog ZU5 1 ZAi ZHh = true := by kernel_rfl
def Zz5 (a1 : End) : Option End :=
 some a1
theorem ZTc {a1 : End} {r : End} (H : Zz5 a1 = some r) : Snd Tryz.prog ZU5 [eEnd a1] (eEnd r) [] := by
 refine snd_g Zfj rfl (by simp) ?_
 unfold Zz5 at H
 refine Wh_o fun _ => ?_
 replace H := sI H; subst H
 exact Z0 [(2, .d)] [(2, [])] [] [] [] [] (by kernel_rfl)
def laws_toEnd (a1 : End) : End :=
 a1
theorem ZZj (a1 : End) : Zz5 a1 = some (laws_toEnd a1) := by
 unfold Zz5 laws_toEnd
 first | rfl | simp only [Za]
theorem Zii (a1 : End) : Snd Tryz.prog ZU5 [eEnd a1] (eEnd (laws_toEnd a1)) [] := ZTc (ZZj a1)
def ZQf : L :=
.seq (.reg [.mv 2 (.c (.nl))])
 (.seq (.reg [mV 5 0,.ln 6 (.t 5),.ms 7 3 24 [.int .i64 0, .int .i64 0, .int .i64 0] (.t 6),mV 3 7])
 (.seq (.seq (rE 4 (kI 0))
 (.blk 0 (.loop (.gw (.seq (.seq (.reg [mV 8 4,mV 9 0,.ln 10 (.t 9),bI 11 .lss 8 10])
 (.cond (.t 11) (.skip)
 (.exit 0)))
 (.seq (.blk 1 (.reg [mV 14 3,mV 15 4,mV 16 0,mV 17 4,iA 18 16 17 3,lD 19 18 3 true,cQ 20 ZU5 [19],iA 21 14 15 3,.st (.t 21) (.t 20) 3]))
 (.reg [mV 12 4,.bi 13 .add (.t 12) (kI 1),mV 4 13])))))))
 (.seq (.reg [mV 22 3,mV 2 22])
 (.gw (.ret)))))
def ZQe : List Rv := [.t 2]
theorem ZEg : chkFn Tryz.prog Z77 1 ZQf ZQe = true := by kernel_rfl
def ZJ2 (a1 : List End) (v4 : Int × (List End)) (k4 : (Int × (List End)) → Option (List End)) : Option (List End) :=
 bif (decide (v4.1 < (a1.length : Int))) then ((idx a1 v4.1).bind fun e6 => (idx v4.2 v4.1).bind fun _ => k4 ((w64 (v4.1 + 1)), (v4.2.set v4.1.toNat (laws_toEnd e6)))) else (some v4.2)
def laws_toEndS (a1 : List End) : Option (List End) :=
 (mkL 24 (a1.length : Int) (End.mk 0 0 0)).bind fun xs2 => whl (ZJ2 a1) 9223372036854775807 (0, xs2)
theorem Zmf {a1 : List End} {r : (List End)} (H : laws_toEndS a1 = some r) : Snd Tryz.prog Z77 [.sl .rd 3 (a1.map eEnd)] (.sl .nw 3 (r.map eEnd)) [] := by
 refine snd_g ZEg rfl (by simp) ?_
 unfold laws_toEndS at H
 obtain ⟨xs2, h2, H⟩ := bB H
 refine Wh_go 99 [.u 6 (.ln _ _ fun _ => lm a1 eEnd), .u 7 (.ms _ _ _ _ fun _ => Z0a eEnd h2)] (by kernel_rfl) fun q3 => ?_
 refine ZM1 (fun (v4 : Int × (List End)) => ⟨[(0, .sl .rd 3 (a1.map eEnd)), (3, .sref 7), (4, .int .i64 v4.1)], [], [], [(7, ⟨3, v4.2.map eEnd, false⟩)]⟩) [] [] [] [] (by kernel_rfl) (by kernel_rfl) H (fun v4 I m k4 H N13 => ?_)
 unfold ZJ2 at H
 refine Wh_go 99 [.u 10 (.ln _ _ fun _ => lm a1 eEnd)] (by kernel_rfl) fun q5 => ?_
 refine Wh_iH H (fun H => ?_) fun H => ?_
 ·obtain ⟨e6, h6, H⟩ := bB H
  obtain ⟨e7, h7, H⟩ := bB H
  refine Wh_go 99 [.u 18 (.ix _ _ _ fun _ => Z1 eEnd h6), .c 20 (Zii e6), .u 21 (.ix _ _ _ fun _ => Z1 eEnd h7), .u 1000000 (.sto _ _ _ (eEnd (laws_toEnd e6)) _ (fun _ => gm eEnd (Z32 h7)) (fun _ => ZS7 ..))] (by kernel_rfl) fun _ => ?_
  exact Wh_to (N13 _ H) [] [] [] [] (by kernel_rfl) (by kernel_rfl)
 ·refine Wh_o fun _ => ?_
  replace H := sI H; subst H
  exact Z0 [(2, .f)] [] [] [7] [] [⟨_, nw_End v4.2⟩] (by kernel_rfl)
def Zod : L :=
.seq (.reg [.bx 1 (.t 0),.al 2 [.nl, .nl, .nl, .int .i64 0, .int .i64 0, .int .i64 0, .int .i64 0, .int .i64 0, .nl, .nl, .nl]])
 (.seq (.reg [.al 3 [.nl, .nl, .nl, .int .i64 0, .int .i64 0, .int .i64 0, .int .i64 0, .int .i64 0, .nl, .nl, .nl]])
 (.seq (.reg [fA 4 1 0,lD 5 4 2 true,cQ 6 Z47 [5],fA 7 3 0,.st (.t 7) (.t 6) 2])
 (.seq (.reg [fA 8 1 2,lD 9 8 1 false,cQ 10 Zk6 [9],fA 11 3 2,.st (.t 11) (.t 10) 1])
 (.seq (.reg [fA 12 1 3,lD 13 12 3 true,cQ 14 ZO1 [13],fA 15 3 3,.st (.t 15) (.t 14) 3])
 (.seq (.reg [fA 16 1 6,lD 17 16 1 false,fA 18 3 6,.st (.t 18) (.t 17) 1])
 (.seq (.reg [fA 19 1 7,lD 20 19 1 false,fA 21 3 7,.st (.t 21) (.t 20) 1])
 (.seq (.reg [fA 22 1 8,lD 23 22 1 false,cQ 24 Z67 [23],fA 25 3 8,.st (.t 25) (.t 24) 1])
 (.seq (.reg [fA 26 1 9,lD 27 26 1 false,cQ 28 Z57 [27],fA 29 3 9,.st (.t 29) (.t 28) 1])
 (.seq (.reg [fA 30 1 10,lD 31 30 1 false,cQ 32 Z77 [31],fA 33 3 10,.st (.t 33) (.t 32) 1])
 (.seq (.reg [lD 34 3 11 true,.st (.t 2) (.t 34) 11])
 (.gw (.ret))))))))))))
def Zvc : List Rv := [.c 2 11 true]
theorem Z5e : chkFn Tryz.prog Zx 1 Zod Zvc = true := by kernel_rfl
def laws_toState (a1 : State) : Option State :=
 (laws_toTopo a1.topo).bind fun y2 => (laws_toBoolS a1.up).bind fun y3 => (laws_toJobS a1.queue).bind fun y4 => (laws_toRunS a1.runs).bind fun y5 => (laws_toEndS a1.ends).bind fun y6 => some (State.mk y2 y3 (laws_toVec a1.lic) a1.depth a1.now y4 y5 y6)
theorem ZOc {a1 : State} {r : State} (H : laws_toState a1 = some r) : Snd Tryz.prog Zx [Zb .rd a1] (Zb .nw r) [] := by
 refine snd_g Z5e rfl (by simp) ?_
 unfold laws_toState at H
 obtain ⟨y2, h2, H⟩ := bB H
 obtain ⟨y3, h3, H⟩ := bB H
 obtain ⟨y4, h4, H⟩ := bB H
 obtain ⟨y5, h5, H⟩ := bB H
 obtain ⟨y6, h6, H⟩ := bB H
 refine Wh_go 99 [.c 6 (Zff h2), .c 10 (ZUc h3), .c 14 (Zr4 a1.lic), .c 24 (Zkf h4), .c 28 (Zhf h5), .c 32 (Zmf h6)] (by kernel_rfl) fun _ => ?_
 replace H := sI H; subst H
 exact Z0 [(2, .d)] [(2, [])] [] [] [] [⟨_, nw_I y2.parents⟩, ⟨_, ZT y2.nodes⟩, ⟨_, nw_Bo y3⟩, ⟨_, Z5l y4⟩, ⟨_, Z7m y5⟩, ⟨_, nw_End y6⟩] (by kernel_rfl)
def ZBi : L :=
.seq (.reg [.bx 2 (.t 0),.mv 4 (kI 0)])
 (.seq (.reg [fA 5 2 12,lD 6 5 1 false,mV 7 1,cQ 8 Z43 [6, 7],mV 1 8])
 (.seq (.seq (.reg [mV 9 1,.bi 10 .lss (.t 9) (kI 0)])
 (.cond (.t 10) (.seq (rE 4 (kI (-1)))
 (.gw (.ret)))
 (.skip)))
 (.seq (.reg [mV 11 1,mV 4 11])
 (.gw (.ret)))))
def ZIh : List Rv := [.t 4]
theorem Zgj : chkFn Tryz.prog ZV5 2 ZBi ZIh = true := by kernel_rfl
def ZA5 (a1 : Run) (left2 : Int) : Option Int :=
 bif (decide ((laws_szIntS a1.nodes left2) < 0)) then (some (-1)) else (some (laws_szIntS a1.nodes left2))
theorem ZWc {a1 : Run} {left2 : Int} {r : Int} (H : ZA5 a1 left2 = some r) : Snd Tryz.prog ZV5 [eRunT .rd a1, .int .i64 left2] (.int .i64 r) [] := by
 refine snd_g Zgj rfl (by simp) ?_
 unfold ZA5 at H
 refine Wh_go 99 [.c 8 (ZL8 a1.nodes left2)] (by kernel_rfl) fun _ => ?_
 refine Wh_iH H (fun H => ?_) fun H => ?_
 ·refine Wh_o fun _ => ?_
  replace H := sI H; subst H
  exact Z0 [(4, .d)] [] [] [] [] [] (by kernel_rfl)
 ·refine Wh_o fun _ => ?_
  replace H := sI H; subst H
  exact Z0 [(4, .d)] [] [] [] [] [] (by kernel_rfl)
def laws_szRun (a1 : Run) (left2 : Int) : Int :=
 bif (decide ((laws_szIntS a1.nodes left2) < 0)) then ((-1)) else ((laws_szIntS a1.nodes left2))
theorem Z0k (a1 : Run) (left2 : Int) : ZA5 a1 left2 = some (laws_szRun a1 left2) := by
 unfold ZA5 laws_szRun
 first | rfl | simp only [Za]
theorem Zki (a1 : Run) (left2 : Int) : Snd Tryz.prog ZV5 [eRunT .rd a1, .int .i64 left2] (.int .i64 (laws_szRun a1 left2)) [] := ZWc (Z0k a1 left2)
def ZSf : L :=
.seq (rE 4 (kI 0))
 (.seq (.reg [mV 6 1,mV 7 0,.ln 8 (.t 7),bI 9 .sub 6 8,mV 1 9])
 (.seq (.seq (.reg [mV 10 1,.bi 11 .lss (.t 10) (kI 0)])
 (.cond (.t 11) (.seq (rE 4 (kI (-1)))
 (.gw (.ret)))
 (.skip)))
 (.seq (.seq (rE 5 (kI 0))
 (.blk 0 (.loop (.gw (.seq (.seq (.reg [mV 12 5,mV 13 0,.ln 14 (.t 13),bI 15 .lss 12 14])
 (.cond (.t 15) (.skip)
 (.exit 0)))
 (.seq (.blk 1 (.seq (.reg [mV 18 0,mV 19 5,iA 20 18 19 13,lD 21 20 13 true,mV 22 1,cQ 23 ZV5 [21, 22],mV 1 23])
 (.seq (.reg [mV 24 1,.bi 25 .lss (.t 24) (kI 0)])
 (.cond (.t 25) (.seq (rE 4 (kI (-1)))
 (.gw (.ret)))
 (.skip)))))
 (.reg [mV 16 5,.bi 17 .add (.t 16) (kI 1),mV 5 17])))))))
 (.seq (.reg [mV 26 1,mV 4 26])
 (.gw (.ret))))))
def ZSe : List Rv := [.t 4]
theorem ZGg : chkFn Tryz.prog Z87 2 ZSf ZSe = true := by kernel_rfl
def Z05 (a1 : List Run) (v4 : Int × Int) (k4 : (Int × Int) → Option Int) : Option Int :=
 bif (decide (v4.2 < (a1.length : Int))) then ((idx a1 v4.2).bind fun e6 => bif (decide ((laws_szRun e6 v4.1) < 0)) then (some (-1)) else (k4 ((laws_szRun e6 v4.1), (w64 (v4.2 + 1))))) else (some v4.1)
def laws_szRunS (a1 : List Run) (left2 : Int) : Option Int :=
 bif (decide ((w64 (left2 - (a1.length : Int))) < 0)) then (some (-1)) else (whl (Z05 a1) 9223372036854775807 ((w64 (left2 - (a1.length : Int))), 0))
theorem Zpf {a1 : List Run} {left2 : Int} {r : Int} (H : laws_szRunS a1 left2 = some r) : Snd Tryz.prog Z87 [.sl .rd 13 (a1.map (eRunT .rd)), .int .i64 left2] (.int .i64 r) [] := by
 refine snd_g ZGg rfl (by simp) ?_
 unfold laws_szRunS at H
 refine Wh_go 99 [.u 8 (.ln _ _ fun _ => lm a1 (eRunT .rd))] (by kernel_rfl) fun q3 => ?_
 refine Wh_iH H (fun H => ?_) fun H => ?_
 ·refine Wh_o fun _ => ?_
  replace H := sI H; subst H
  exact Z0 [(4, .d)] [] [] [] [] [] (by kernel_rfl)
 ·refine Wh_o fun _ => ?_
  refine ZM1 (fun (v4 : Int × Int) => ⟨[(0, .sl .rd 13 (a1.map (eRunT .rd))), (1, .int .i64 v4.1), (5, .int .i64 v4.2)], [], [], []⟩) [] [] [] [] (by kernel_rfl) (by kernel_rfl) H (fun v4 I m k4 H N28 => ?_)
  unfold Z05 at H
  refine Wh_go 99 [.u 14 (.ln _ _ fun _ => lm a1 (eRunT .rd))] (by kernel_rfl) fun q5 => ?_
  refine Wh_iH H (fun H => ?_) fun H => ?_
  ·obtain ⟨e6, h6, H⟩ := bB H
   refine Wh_go 99 [.u 20 (.ix _ _ _ fun _ => Z1 (eRunT .rd) h6), .c 23 (Zki e6 v4.1)] (by kernel_rfl) fun _ => ?_
   refine Wh_iH H (fun H => ?_) fun H => ?_
   ·refine Wh_o fun _ => ?_
    replace H := sI H; subst H
    exact Z0 [(4, .d)] [] [] [] [] [] (by kernel_rfl)
   ·refine Wh_o fun _ => ?_
    exact Wh_to (N28 _ H) [] [] [] [] (by kernel_rfl) (by kernel_rfl)
  ·refine Wh_o fun _ => ?_
   replace H := sI H; subst H
   exact Z0 [(4, .d)] [] [] [] [] [] (by kernel_rfl)
def ZVf : L :=
.seq (rE 4 (kI 0))
 (.seq (.reg [mV 5 1,mV 6 0,.ln 7 (.t 6),bI 8 .sub 5 7,mV 1 8])
 (.seq (.seq (.reg [mV 9 1,.bi 10 .lss (.t 9) (kI 0)])
 (.cond (.t 10) (.seq (rE 4 (kI (-1)))
 (.gw (.ret)))
 (.skip)))
 (.seq (.reg [mV 11 1,mV 4 11])
 (.gw (.ret)))))
def ZVe : List Rv := [.t 4]
theorem ZJg : chkFn Tryz.prog ZL4 2 ZVf ZVe = true := by kernel_rfl
def Zw4 (a1 : List End) (left2 : Int) : Option Int :=
 bif (decide ((w64 (left2 - (a1.length : Int))) < 0)) then (some (-1)) else (some (w64 (left2 - (a1.length : Int))))
theorem Zab {a1 : List End} {left2 : Int} {r : Int} (H : Zw4 a1 left2 = some r) : Snd Tryz.prog ZL4 [.sl .rd 3 (a1.map eEnd), .int .i64 left2] (.int .i64 r) [] := by
 refine snd_g ZJg rfl (by simp) ?_
 unfold Zw4 at H
 refine Wh_go 99 [.u 7 (.ln _ _ fun _ => lm a1 eEnd)] (by kernel_rfl) fun q3 => ?_
 refine Wh_iH H (fun H => ?_) fun H => ?_
 ·refine Wh_o fun _ => ?_
  replace H := sI H; subst H
  exact Z0 [(4, .d)] [] [] [] [] [] (by kernel_rfl)
 ·refine Wh_o fun _ => ?_
  replace H := sI H; subst H
  exact Z0 [(4, .d)] [] [] [] [] [] (by kernel_rfl)
def laws_szEndS (a1 : List End) (left2 : Int) : Int :=
 bif (decide ((w64 (left2 - (a1.length : Int))) < 0)) then ((-1)) else ((w64 (left2 - (a1.length : Int))))
theorem Zni (a1 : List End) (left2 : Int) : Zw4 a1 left2 = some (laws_szEndS a1 left2) := by
 unfold Zw4 laws_szEndS
 first | rfl | simp only [Za]
theorem Zsf (a1 : List End) (left2 : Int) : Snd Tryz.prog ZL4 [.sl .rd 3 (a1.map eEnd), .int .i64 left2] (.int .i64 (laws_szEndS a1 left2)) [] := Zab (Zni a1 left2)
def Zrd : L :=
.seq (.reg [.bx 2 (.t 0),.mv 4 (kI 0)])
 (.seq (.reg [fA 5 2 0,lD 6 5 2 true,mV 7 1,cQ 8 ZJ4 [6, 7],mV 1 8])
 (.seq (.seq (.reg [mV 9 1,.bi 10 .lss (.t 9) (kI 0)])
 (.cond (.t 10) (.seq (rE 4 (kI (-1)))
 (.gw (.ret)))
 (.skip)))
 (.seq (.reg [fA 11 2 2,lD 12 11 1 false,mV 13 1,cQ 14 ZI3 [12, 13],mV 1 14])
 (.seq (.seq (.reg [mV 15 1,.bi 16 .lss (.t 15) (kI 0)])
 (.cond (.t 16) (.seq (rE 4 (kI (-1)))
 (.gw (.ret)))
 (.skip)))
 (.seq (.reg [fA 17 2 8,lD 18 17 1 false,mV 19 1,cQ 20 ZK4 [18, 19],mV 1 20])
 (.seq (.seq (.reg [mV 21 1,.bi 22 .lss (.t 21) (kI 0)])
 (.cond (.t 22) (.seq (rE 4 (kI (-1)))
 (.gw (.ret)))
 (.skip)))
 (.seq (.reg [fA 23 2 9,lD 24 23 1 false,mV 25 1,cQ 26 Z87 [24, 25],mV 1 26])
 (.seq (.seq (.reg [mV 27 1,.bi 28 .lss (.t 27) (kI 0)])
 (.cond (.t 28) (.seq (rE 4 (kI (-1)))
 (.gw (.ret)))
 (.skip)))
 (.seq (.reg [fA 29 2 10,lD 30 29 1 false,mV 31 1,cQ 32 ZL4 [30, 31],mV 1 32])
 (.seq (.seq (.reg [mV 33 1,.bi 34 .lss (.t 33) (kI 0)])
 (.cond (.t 34) (.seq (rE 4 (kI (-1)))
 (.gw (.ret)))
 (.skip)))
 (.seq (.reg [mV 35 1,mV 4 35])
 (.gw (.ret)))))))))))))
def Zyc : List Rv := [.t 4]
theorem Z8e : chkFn Tryz.prog ZG3 2 Zrd Zyc = true := by kernel_rfl
def laws_szState (a1 : State) (left2 : Int) : Option Int :=
 bif (decide ((laws_szTopo a1.topo left2) < 0)) then (some (-1)) else (bif (decide ((laws_szBoolS a1.up (laws_szTopo a1.topo left2)) < 0)) then (some (-1)) else (bif (decide ((laws_szJobS a1.queue (laws_szBoolS a1.up (laws_szTopo a1.topo left2))) < 0)) then (some (-1)) else ((laws_szRunS a1.runs (laws_szJobS a1.queue (laws_szBoolS a1.up (laws_szTopo a1.topo left2)))).bind fun n3 => bif (decide (n3 < 0)) then (some (-1)) else (bif (decide ((laws_szEndS a1.ends n3) < 0)) then (some (-1)) else (some (laws_szEndS a1.ends n3))))))
theorem ZW7 {a1 : State} {left2 : Int} {r : Int} (H : laws_szState a1 left2 = some r) : Snd Tryz.prog ZG3 [Zb .rd a1, .int .i64 left2] (.int .i64 r) [] := by
 refine snd_g Z8e rfl (by simp) ?_
 unfold laws_szState at H
 refine Wh_go 99 [.c 8 (Zof a1.topo left2)] (by kernel_rfl) fun _ => ?_
 refine Wh_iH H (fun H => ?_) fun H => ?_
 ·refine Wh_o fun _ => ?_
  replace H := sI H; subst H
  exact Z0 [(4, .d)] [] [] [] [] [] (by kernel_rfl)
 ·refine Wh_go 99 [.u 14 (.call _ _ _ _ _ (AEs.refl _) (fun _ => ZYc a1.up (laws_szTopo a1.topo left2)))] (by kernel_rfl) fun _ => ?_
  refine Wh_iH H (fun H => ?_) fun H => ?_
  ·refine Wh_o fun _ => ?_
   replace H := sI H; subst H
   exact Z0 [(4, .d)] [] [] [] [] [] (by kernel_rfl)
  ·refine Wh_go 99 [.u 20 (.call _ _ _ _ _ (AEs.refl _) (fun _ => Zrf a1.queue (laws_szBoolS a1.up (laws_szTopo a1.topo left2))))] (by kernel_rfl) fun _ => ?_
   refine Wh_iH H (fun H => ?_) fun H => ?_
   ·refine Wh_o fun _ => ?_
    replace H := sI H; subst H
    exact Z0 [(4, .d)] [] [] [] [] [] (by kernel_rfl)
   ·obtain ⟨n3, h3, H⟩ := bB H
    refine Wh_go 99 [.c 26 (Zpf h3)] (by kernel_rfl) fun _ => ?_
    refine Wh_iH H (fun H => ?_) fun H => ?_
    ·refine Wh_o fun _ => ?_
     replace H := sI H; subst H
     exact Z0 [(4, .d)] [] [] [] [] [] (by kernel_rfl)
    ·refine Wh_go 99 [.c 32 (Zsf a1.ends n3)] (by kernel_rfl) fun _ => ?_
     refine Wh_iH H (fun H => ?_) fun H => ?_
     ·refine Wh_o fun _ => ?_
      replace H := sI H; subst H
      exact Z0 [(4, .d)] [] [] [] [] [] (by kernel_rfl)
     ·refine Wh_o fun _ => ?_
      replace H := sI H; subst H
      exact Z0 [(4, .d)] [] [] [] [] [] (by kernel_rfl)
def ZDi : L :=
.seq (.reg [.bx 2 (.t 0),.bx 3 (.t 1),.mv 4 (cB false)])
 (.seq (.seq (.reg [fA 5 2 0,lD 6 5 11 true,fA 7 3 0,lD 8 7 11 true,cQ 9 ZP3 [6, 8],.un 10 (.t 9)])
 (.cond (.t 10) (.seq (rE 4 (cB false))
 (.gw (.ret)))
 (.skip)))
 (.seq (.seq (.reg [fA 11 2 11,lD 12 11 1 false,fA 13 3 11,lD 14 13 1 false,bI 15 .neq 12 14])
 (.cond (.t 15) (.seq (rE 4 (cB false))
 (.gw (.ret)))
 (.skip)))
 (.seq (.seq (.reg [fA 16 2 12,lD 17 16 1 false,fA 18 3 12,lD 19 18 1 false,cQ 20 ZN4 [17, 19],.un 21 (.t 20)])
 (.cond (.t 21) (.seq (rE 4 (cB false))
 (.gw (.ret)))
 (.skip)))
 (.seq (rE 4 (cB true))
 (.gw (.ret))))))
def ZKh : List Rv := [.t 4]
theorem Zij : chkFn Tryz.prog Zh8 2 ZDi ZKh = true := by kernel_rfl
def laws_eqRun (a1 : Run) (b2 : Run) : Option Bool :=
 bif (!(laws_eqJob a1.job b2.job)) then (some false) else (bif (a1.t != b2.t) then (some false) else ((laws_eqIntS a1.nodes b2.nodes).bind fun b3 => bif (!b3) then (some false) else (some true)))
theorem Zoi {a1 : Run} {b2 : Run} {r : Bool} (H : laws_eqRun a1 b2 = some r) : Snd Tryz.prog Zh8 [eRunT .rd a1, eRunT .rd b2] (.bool r) [] := by
 refine snd_g Zij rfl (by simp) ?_
 unfold laws_eqRun at H
 refine Wh_go 99 [.c 9 (Zp9 a1.job b2.job)] (by kernel_rfl) fun _ => ?_
 refine Wh_iH H (fun H => ?_) fun H => ?_
 ·refine Wh_o fun _ => ?_
  replace H := sI H; subst H
  exact Z0 [(4, .d)] [] [] [] [] [] (by kernel_rfl)
 ·refine Wh_o fun _ => ?_
  refine Wh_iH H (fun H => ?_) fun H => ?_
  ·refine Wh_o fun _ => ?_
   replace H := sI H; subst H
   exact Z0 [(4, .d)] [] [] [] [] [] (by kernel_rfl)
  ·obtain ⟨b3, h3, H⟩ := bB H
   refine Wh_go 99 [.c 20 (ZM8 h3)] (by kernel_rfl) fun _ => ?_
   refine Wh_iH H (fun H => ?_) fun H => ?_
   ·refine Wh_o fun _ => ?_
    replace H := sI H; subst H
    exact Z0 [(4, .d)] [] [] [] [] [] (by kernel_rfl)
   ·refine Wh_o fun _ => ?_
    replace H := sI H; subst H
    exact Z0 [(4, .d)] [] [] [] [] [] (by kernel_rfl)
def ZXf : L :=
.seq (rE 4 (cB false))
 (.seq (.seq (.reg [mV 6 0,.ln 7 (.t 6),mV 8 1,.ln 9 (.t 8),bI 10 .neq 7 9])
 (.cond (.t 10) (.seq (rE 4 (cB false))
 (.gw (.ret)))
 (.skip)))
 (.seq (.seq (rE 5 (kI 0))
 (.blk 0 (.loop (.gw (.seq (.seq (.reg [mV 11 5,mV 12 0,.ln 13 (.t 12),bI 14 .lss 11 13])
 (.cond (.t 14) (.skip)
 (.exit 0)))
 (.seq (.blk 1 (.seq (.rq 10 [mV 17 0,mV 18 5,iA 19 17 18 13,lD 20 19 13 true,mV 21 1,mV 22 5,iA 23 21 22 13,lD 24 23 13 true,cQ 25 Zh8 [20, 24],.un 26 (.t 25)])
 (.cond (.t 26) (.seq (rE 4 (cB false))
 (.gw (.ret)))
 (.skip))))
 (.reg [mV 15 5,.bi 16 .add (.t 15) (kI 1),mV 5 16])))))))
 (.seq (rE 4 (cB true))
 (.gw (.ret)))))
def ZXe : List Rv := [.t 4]
theorem ZLg : chkFn Tryz.prog Za7 2 ZXf ZXe = true := by kernel_rfl
def ZM2 (a1 : List Run) (b2 : List Run) (v4 : Int) (k4 : Int → Option Bool) : Option Bool :=
 bif (decide (v4 < (a1.length : Int))) then ((idx a1 v4).bind fun e6 => (idx b2 v4).bind fun e7 => (laws_eqRun e6 e7).bind fun b8 => bif (!b8) then (some false) else (k4 (w64 (v4 + 1)))) else (some true)
def laws_eqRunS (a1 : List Run) (b2 : List Run) : Option Bool :=
 bif ((a1.length : Int) != (b2.length : Int)) then (some false) else (whl (ZM2 a1 b2) 9223372036854775807 0)
theorem Zvf {a1 : List Run} {b2 : List Run} {r : Bool} (H : laws_eqRunS a1 b2 = some r) : Snd Tryz.prog Za7 [.sl .rd 13 (a1.map (eRunT .rd)), .sl .rd 13 (b2.map (eRunT .rd))] (.bool r) [] := by
 refine snd_g ZLg rfl (by simp) ?_
 unfold laws_eqRunS at H
 refine Wh_go 99 [.u 7 (.ln _ _ fun _ => lm a1 (eRunT .rd)), .u 9 (.ln _ _ fun _ => lm b2 (eRunT .rd))] (by kernel_rfl) fun q3 => ?_
 refine Wh_iH H (fun H => ?_) fun H => ?_
 ·refine Wh_o fun _ => ?_
  replace H := sI H; subst H
  exact Z0 [(4, .d)] [] [] [] [] [] (by kernel_rfl)
 ·refine Wh_o fun _ => ?_
  refine ZM1 (fun (v4 : Int) => ⟨[(0, .sl .rd 13 (a1.map (eRunT .rd))), (1, .sl .rd 13 (b2.map (eRunT .rd))), (5, .int .i64 v4)], [], [], []⟩) [] [] [] [] (by kernel_rfl) (by kernel_rfl) H (fun v4 I m k4 H N25 => ?_)
  unfold ZM2 at H
  refine Wh_go 99 [.u 13 (.ln _ _ fun _ => lm a1 (eRunT .rd))] (by kernel_rfl) fun q5 => ?_
  refine Wh_iH H (fun H => ?_) fun H => ?_
  ·obtain ⟨e6, h6, H⟩ := bB H
   obtain ⟨e7, h7, H⟩ := bB H
   obtain ⟨b8, h8, H⟩ := bB H
   refine Wh_go 99 [.u 19 (.ix _ _ _ fun _ => Z1 (eRunT .rd) h6), .u 23 (.ix _ _ _ fun _ => Z1 (eRunT .rd) h7), .c 25 (Zoi h8)] (by kernel_rfl) fun _ => ?_
   refine Wh_iH H (fun H => ?_) fun H => ?_
   ·refine Wh_o fun _ => ?_
    replace H := sI H; subst H
    exact Z0 [(4, .d)] [] [] [] [] [] (by kernel_rfl)
   ·refine Wh_o fun _ => ?_
    exact Wh_to (N25 _ H) [] [] [] [] (by kernel_rfl) (by kernel_rfl)
  ·refine Wh_o fun _ => ?_
   replace H := sI H; subst H
   exact Z0 [(4, .d)] [] [] [] [] [] (by kernel_rfl)
def ZFi : L :=
.seq (.reg [.bx 2 (.t 0),.bx 3 (.t 1),.mv 4 (cB false)])
 (.seq (.seq (.reg [fA 5 2 0,lD 6 5 1 false,fA 7 3 0,lD 8 7 1 false,bI 9 .neq 6 8])
 (.cond (.t 9) (.seq (rE 4 (cB false))
 (.gw (.ret)))
 (.skip)))
 (.seq (.seq (.reg [fA 10 2 1,lD 11 10 1 false,fA 12 3 1,lD 13 12 1 false,bI 14 .neq 11 13])
 (.cond (.t 14) (.seq (rE 4 (cB false))
 (.gw (.ret)))
 (.skip)))
 (.seq (.seq (.reg [fA 15 2 2,lD 16 15 1 false,fA 17 3 2,lD 18 17 1 false,bI 19 .neq 16 18])
 (.cond (.t 19) (.seq (rE 4 (cB false))
 (.gw (.ret)))
 (.skip)))
 (.seq (rE 4 (cB true))
 (.gw (.ret))))))
def ZMh : List Rv := [.t 4]
theorem Zkj : chkFn Tryz.prog ZW5 2 ZFi ZMh = true := by kernel_rfl
def ZD5 (a1 : End) (b2 : End) : Option Bool :=
 bif (a1.id != b2.id) then (some false) else (bif (a1.t != b2.t) then (some false) else (bif (a1.why != b2.why) then (some false) else (some true)))
theorem Z5d {a1 : End} {b2 : End} {r : Bool} (H : ZD5 a1 b2 = some r) : Snd Tryz.prog ZW5 [eEnd a1, eEnd b2] (.bool r) [] := by
 refine snd_g Zkj rfl (by simp) ?_
 unfold ZD5 at H
 refine Wh_o fun _ => ?_
 refine Wh_iH H (fun H => ?_) fun H => ?_
 ·refine Wh_o fun _ => ?_
  replace H := sI H; subst H
  exact Z0 [(4, .d)] [] [] [] [] [] (by kernel_rfl)
 ·refine Wh_o fun _ => ?_
  refine Wh_iH H (fun H => ?_) fun H => ?_
  ·refine Wh_o fun _ => ?_
   replace H := sI H; subst H
   exact Z0 [(4, .d)] [] [] [] [] [] (by kernel_rfl)
  ·refine Wh_o fun _ => ?_
   refine Wh_iH H (fun H => ?_) fun H => ?_
   ·refine Wh_o fun _ => ?_
    replace H := sI H; subst H
    exact Z0 [(4, .d)] [] [] [] [] [] (by kernel_rfl)
   ·refine Wh_o fun _ => ?_
    replace H := sI H; subst H
    exact Z0 [(4, .d)] [] [] [] [] [] (by kernel_rfl)
def laws_eqEnd (a1 : End) (b2 : End) : Bool :=
 bif (a1.id != b2.id) then (false) else (bif (a1.t != b2.t) then (false) else (bif (a1.why != b2.why) then (false) else (true)))
theorem Z3k (a1 : End) (b2 : End) : ZD5 a1 b2 = some (laws_eqEnd a1 b2) := by
 unfold ZD5 laws_eqEnd
 first | rfl | simp only [Za]
theorem Zqi (a1 : End) (b2 : End) : Snd Tryz.prog ZW5 [eEnd a1, eEnd b2] (.bool (laws_eqEnd a1 b2)) [] := Z5d (Z3k a1 b2)
def Z1g : L :=
.seq (rE 4 (cB false))
 (.seq (.seq (.reg [mV 6 0,.ln 7 (.t 6),mV 8 1,.ln 9 (.t 8),bI 10 .neq 7 9])
 (.cond (.t 10) (.seq (rE 4 (cB false))
 (.gw (.ret)))
 (.skip)))
 (.seq (.seq (rE 5 (kI 0))
 (.blk 0 (.loop (.gw (.seq (.seq (.reg [mV 11 5,mV 12 0,.ln 13 (.t 12),bI 14 .lss 11 13])
 (.cond (.t 14) (.skip)
 (.exit 0)))
 (.seq (.blk 1 (.seq (.rq 10 [mV 17 0,mV 18 5,iA 19 17 18 3,lD 20 19 3 true,mV 21 1,mV 22 5,iA 23 21 22 3,lD 24 23 3 true,cQ 25 ZW5 [20, 24],.un 26 (.t 25)])
 (.cond (.t 26) (.seq (rE 4 (cB false))
 (.gw (.ret)))
 (.skip))))
 (.reg [mV 15 5,.bi 16 .add (.t 15) (kI 1),mV 5 16])))))))
 (.seq (rE 4 (cB true))
 (.gw (.ret)))))
def Z1f : List Rv := [.t 4]
theorem ZPg : chkFn Tryz.prog Zc7 2 Z1g Z1f = true := by kernel_rfl
def ZP2 (a1 : List End) (b2 : List End) (v4 : Int) (k4 : Int → Option Bool) : Option Bool :=
 bif (decide (v4 < (a1.length : Int))) then ((idx a1 v4).bind fun e6 => (idx b2 v4).bind fun e7 => bif (!(laws_eqEnd e6 e7)) then (some false) else (k4 (w64 (v4 + 1)))) else (some true)
def laws_eqEndS (a1 : List End) (b2 : List End) : Option Bool :=
 bif ((a1.length : Int) != (b2.length : Int)) then (some false) else (whl (ZP2 a1 b2) 9223372036854775807 0)
theorem Zyf {a1 : List End} {b2 : List End} {r : Bool} (H : laws_eqEndS a1 b2 = some r) : Snd Tryz.prog Zc7 [.sl .rd 3 (a1.map eEnd), .sl .rd 3 (b2.map eEnd)] (.bool r) [] := by
 refine snd_g ZPg rfl (by simp) ?_
 unfold laws_eqEndS at H
 refine Wh_go 99 [.u 7 (.ln _ _ fun _ => lm a1 eEnd), .u 9 (.ln _ _ fun _ => lm b2 eEnd)] (by kernel_rfl) fun q3 => ?_
 refine Wh_iH H (fun H => ?_) fun H => ?_
 ·refine Wh_o fun _ => ?_
  replace H := sI H; subst H
  exact Z0 [(4, .d)] [] [] [] [] [] (by kernel_rfl)
 ·refine Wh_o fun _ => ?_
  refine ZM1 (fun (v4 : Int) => ⟨[(0, .sl .rd 3 (a1.map eEnd)), (1, .sl .rd 3 (b2.map eEnd)), (5, .int .i64 v4)], [], [], []⟩) [] [] [] [] (by kernel_rfl) (by kernel_rfl) H (fun v4 I m k4 H N25 => ?_)
  unfold ZP2 at H
  refine Wh_go 99 [.u 13 (.ln _ _ fun _ => lm a1 eEnd)] (by kernel_rfl) fun q5 => ?_
  refine Wh_iH H (fun H => ?_) fun H => ?_
  ·obtain ⟨e6, h6, H⟩ := bB H
   obtain ⟨e7, h7, H⟩ := bB H
   refine Wh_go 99 [.u 19 (.ix _ _ _ fun _ => Z1 eEnd h6), .u 23 (.ix _ _ _ fun _ => Z1 eEnd h7), .c 25 (Zqi e6 e7)] (by kernel_rfl) fun _ => ?_
   refine Wh_iH H (fun H => ?_) fun H => ?_
   ·refine Wh_o fun _ => ?_
    replace H := sI H; subst H
    exact Z0 [(4, .d)] [] [] [] [] [] (by kernel_rfl)
   ·refine Wh_o fun _ => ?_
    exact Wh_to (N25 _ H) [] [] [] [] (by kernel_rfl) (by kernel_rfl)
  ·refine Wh_o fun _ => ?_
   replace H := sI H; subst H
   exact Z0 [(4, .d)] [] [] [] [] [] (by kernel_rfl)
def Zud : L :=
.seq (.reg [.bx 2 (.t 0),.bx 3 (.t 1),.mv 4 (cB false)])
 (.seq (.seq (.reg [fA 5 2 0,lD 6 5 2 true,fA 7 3 0,lD 8 7 2 true,cQ 9 Z97 [6, 8],.un 10 (.t 9)])
 (.cond (.t 10) (.seq (rE 4 (cB false))
 (.gw (.ret)))
 (.skip)))
 (.seq (.seq (.reg [fA 11 2 2,lD 12 11 1 false,fA 13 3 2,lD 14 13 1 false,cQ 15 Zm6 [12, 14],.un 16 (.t 15)])
 (.cond (.t 16) (.seq (rE 4 (cB false))
 (.gw (.ret)))
 (.skip)))
 (.seq (.seq (.reg [fA 17 2 3,lD 18 17 3 true,fA 19 3 3,lD 20 19 3 true,cQ 21 Zr1 [18, 20],.un 22 (.t 21)])
 (.cond (.t 22) (.seq (rE 4 (cB false))
 (.gw (.ret)))
 (.skip)))
 (.seq (.seq (.reg [fA 23 2 6,lD 24 23 1 false,fA 25 3 6,lD 26 25 1 false,bI 27 .neq 24 26])
 (.cond (.t 27) (.seq (rE 4 (cB false))
 (.gw (.ret)))
 (.skip)))
 (.seq (.seq (.reg [fA 28 2 7,lD 29 28 1 false,fA 30 3 7,lD 31 30 1 false,bI 32 .neq 29 31])
 (.cond (.t 32) (.seq (rE 4 (cB false))
 (.gw (.ret)))
 (.skip)))
 (.seq (.seq (.reg [fA 33 2 8,lD 34 33 1 false,fA 35 3 8,lD 36 35 1 false,cQ 37 Zb7 [34, 36],.un 38 (.t 37)])
 (.cond (.t 38) (.seq (rE 4 (cB false))
 (.gw (.ret)))
 (.skip)))
 (.seq (.seq (.reg [fA 39 2 9,lD 40 39 1 false,fA 41 3 9,lD 42 41 1 false,cQ 43 Za7 [40, 42],.un 44 (.t 43)])
 (.cond (.t 44) (.seq (rE 4 (cB false))
 (.gw (.ret)))
 (.skip)))
 (.seq (.seq (.reg [fA 45 2 10,lD 46 45 1 false,fA 47 3 10,lD 48 47 1 false,cQ 49 Zc7 [46, 48],.un 50 (.t 49)])
 (.cond (.t 50) (.seq (rE 4 (cB false))
 (.gw (.ret)))
 (.skip)))
 (.seq (rE 4 (cB true))
 (.gw (.ret)))))))))))
def ZBc : List Rv := [.t 4]
theorem Zbe : chkFn Tryz.prog Za2 2 Zud ZBc = true := by kernel_rfl
def laws_eqState (a1 : State) (b2 : State) : Option Bool :=
 (laws_eqTopo a1.topo b2.topo).bind fun b3 => bif (!b3) then (some false) else ((laws_eqBoolS a1.up b2.up).bind fun b4 => bif (!b4) then (some false) else (bif (!(laws_eqVec a1.lic b2.lic)) then (some false) else (bif (a1.depth != b2.depth) then (some false) else (bif (a1.now != b2.now) then (some false) else ((laws_eqJobS a1.queue b2.queue).bind fun b5 => bif (!b5) then (some false) else ((laws_eqRunS a1.runs b2.runs).bind fun b6 => bif (!b6) then (some false) else ((laws_eqEndS a1.ends b2.ends).bind fun b7 => bif (!b7) then (some false) else (some true))))))))
theorem Z0d {a1 : State} {b2 : State} {r : Bool} (H : laws_eqState a1 b2 = some r) : Snd Tryz.prog Za2 [Zb .rd a1, Zb .rd b2] (.bool r) [] := by
 refine snd_g Zbe rfl (by simp) ?_
 unfold laws_eqState at H
 obtain ⟨b3, h3, H⟩ := bB H
 refine Wh_go 99 [.c 9 (Zuf h3)] (by kernel_rfl) fun _ => ?_
 refine Wh_iH H (fun H => ?_) fun H => ?_
 ·refine Wh_o fun _ => ?_
  replace H := sI H; subst H
  exact Z0 [(4, .d)] [] [] [] [] [] (by kernel_rfl)
 ·obtain ⟨b4, h4, H⟩ := bB H
  refine Wh_go 99 [.c 15 (Z6d h4)] (by kernel_rfl) fun _ => ?_
  refine Wh_iH H (fun H => ?_) fun H => ?_
  ·refine Wh_o fun _ => ?_
   replace H := sI H; subst H
   exact Z0 [(4, .d)] [] [] [] [] [] (by kernel_rfl)
  ·refine Wh_go 99 [.c 21 (ZL2 a1.lic b2.lic)] (by kernel_rfl) fun _ => ?_
   refine Wh_iH H (fun H => ?_) fun H => ?_
   ·refine Wh_o fun _ => ?_
    replace H := sI H; subst H
    exact Z0 [(4, .d)] [] [] [] [] [] (by kernel_rfl)
   ·refine Wh_o fun _ => ?_
    refine Wh_iH H (fun H => ?_) fun H => ?_
    ·refine Wh_o fun _ => ?_
     replace H := sI H; subst H
     exact Z0 [(4, .d)] [] [] [] [] [] (by kernel_rfl)
    ·refine Wh_o fun _ => ?_
     refine Wh_iH H (fun H => ?_) fun H => ?_
     ·refine Wh_o fun _ => ?_
      replace H := sI H; subst H
      exact Z0 [(4, .d)] [] [] [] [] [] (by kernel_rfl)
     ·obtain ⟨b5, h5, H⟩ := bB H
      refine Wh_go 99 [.c 37 (Zxf h5)] (by kernel_rfl) fun _ => ?_
      refine Wh_iH H (fun H => ?_) fun H => ?_
      ·refine Wh_o fun _ => ?_
       replace H := sI H; subst H
       exact Z0 [(4, .d)] [] [] [] [] [] (by kernel_rfl)
      ·obtain ⟨b6, h6, H⟩ := bB H
       refine Wh_go 99 [.c 43 (Zvf h6)] (by kernel_rfl) fun _ => ?_
       refine Wh_iH H (fun H => ?_) fun H => ?_
       ·refine Wh_o fun _ => ?_
        replace H := sI H; subst H
        exact Z0 [(4, .d)] [] [] [] [] [] (by kernel_rfl)
       ·obtain ⟨b7, h7, H⟩ := bB H
        refine Wh_go 99 [.c 49 (Zyf h7)] (by kernel_rfl) fun _ => ?_
        refine Wh_iH H (fun H => ?_) fun H => ?_
        ·refine Wh_o fun _ => ?_
         replace H := sI H; subst H
         exact Z0 [(4, .d)] [] [] [] [] [] (by kernel_rfl)
        ·refine Wh_o fun _ => ?_
         replace H := sI H; subst H
         exact Z0 [(4, .d)] [] [] [] [] [] (by kernel_rfl)
def Z2g : L :=
.seq (.reg [.bx 2 (.t 0),.bx 3 (.t 1),.mv 4 (cB false)])
 (.seq (.seq (.reg [fA 5 2 0,lD 6 5 1 false,fA 7 3 0,lD 8 7 1 false,bI 9 .neq 6 8])
 (.cond (.t 9) (.seq (rE 4 (cB false))
 (.gw (.ret)))
 (.skip)))
 (.seq (.seq (.reg [fA 10 2 1,lD 11 10 1 false,fA 12 3 1,lD 13 12 1 false,bI 14 .neq 11 13])
 (.cond (.t 14) (.seq (rE 4 (cB false))
 (.gw (.ret)))
 (.skip)))
 (.seq (.seq (.reg [fA 15 2 2,lD 16 15 1 false,fA 17 3 2,lD 18 17 1 false,bI 19 .neq 16 18])
 (.cond (.t 19) (.seq (rE 4 (cB false))
 (.gw (.ret)))
 (.skip)))
 (.seq (.seq (.reg [fA 20 2 3,lD 21 20 1 false,fA 22 3 3,lD 23 22 1 false,bI 24 .neq 21 23])
 (.cond (.t 24) (.seq (rE 4 (cB false))
 (.gw (.ret)))
 (.skip)))
 (.seq (.seq (.reg [fA 25 2 4,lD 26 25 3 true,fA 27 3 4,lD 28 27 3 true,cQ 29 Zr1 [26, 28],.un 30 (.t 29)])
 (.cond (.t 30) (.seq (rE 4 (cB false))
 (.gw (.ret)))
 (.skip)))
 (.seq (rE 4 (cB true))
 (.gw (.ret))))))))
def Z2f : List Rv := [.t 4]
theorem ZQg : chkFn Tryz.prog ZO4 2 Z2g Z2f = true := by kernel_rfl
def Zy4 (a1 : Bill) (b2 : Bill) : Option Bool :=
 bif (a1.id != b2.id) then (some false) else (bif (a1.fr != b2.fr) then (some false) else (bif (a1.to_ != b2.to_) then (some false) else (bif (a1.nodes != b2.nodes) then (some false) else (bif (!(laws_eqVec a1.need b2.need)) then (some false) else (some true)))))
theorem Zib {a1 : Bill} {b2 : Bill} {r : Bool} (H : Zy4 a1 b2 = some r) : Snd Tryz.prog ZO4 [eBill a1, eBill b2] (.bool r) [] := by
 refine snd_g ZQg rfl (by simp) ?_
 unfold Zy4 at H
 refine Wh_o fun _ => ?_
 refine Wh_iH H (fun H => ?_) fun H => ?_
 ·refine Wh_o fun _ => ?_
  replace H := sI H; subst H
  exact Z0 [(4, .d)] [] [] [] [] [] (by kernel_rfl)
 ·refine Wh_o fun _ => ?_
  refine Wh_iH H (fun H => ?_) fun H => ?_
  ·refine Wh_o fun _ => ?_
   replace H := sI H; subst H
   exact Z0 [(4, .d)] [] [] [] [] [] (by kernel_rfl)
  ·refine Wh_o fun _ => ?_
   refine Wh_iH H (fun H => ?_) fun H => ?_
   ·refine Wh_o fun _ => ?_
    replace H := sI H; subst H
    exact Z0 [(4, .d)] [] [] [] [] [] (by kernel_rfl)
   ·refine Wh_o fun _ => ?_
    refine Wh_iH H (fun H => ?_) fun H => ?_
    ·refine Wh_o fun _ => ?_
     replace H := sI H; subst H
     exact Z0 [(4, .d)] [] [] [] [] [] (by kernel_rfl)
    ·refine Wh_go 99 [.c 29 (ZL2 a1.need b2.need)] (by kernel_rfl) fun _ => ?_
     refine Wh_iH H (fun H => ?_) fun H => ?_
     ·refine Wh_o fun _ => ?_
      replace H := sI H; subst H
      exact Z0 [(4, .d)] [] [] [] [] [] (by kernel_rfl)
     ·refine Wh_o fun _ => ?_
      replace H := sI H; subst H
      exact Z0 [(4, .d)] [] [] [] [] [] (by kernel_rfl)
def laws_eqBill (a1 : Bill) (b2 : Bill) : Bool :=
 bif (a1.id != b2.id) then (false) else (bif (a1.fr != b2.fr) then (false) else (bif (a1.to_ != b2.to_) then (false) else (bif (a1.nodes != b2.nodes) then (false) else (bif (!(laws_eqVec a1.need b2.need)) then (false) else (true)))))
theorem Zri (a1 : Bill) (b2 : Bill) : Zy4 a1 b2 = some (laws_eqBill a1 b2) := by
 unfold Zy4 laws_eqBill
 first | rfl | simp only [Za]
theorem Zzf (a1 : Bill) (b2 : Bill) : Snd Tryz.prog ZO4 [eBill a1, eBill b2] (.bool (laws_eqBill a1 b2)) [] := Zib (Zri a1 b2)
def Zxd : L :=
.seq (rE 4 (cB false))
 (.seq (.seq (.reg [mV 6 0,.ln 7 (.t 6),mV 8 1,.ln 9 (.t 8),bI 10 .neq 7 9])
 (.cond (.t 10) (.seq (rE 4 (cB false))
 (.gw (.ret)))
 (.skip)))
 (.seq (.seq (rE 5 (kI 0))
 (.blk 0 (.loop (.gw (.seq (.seq (.reg [mV 11 5,mV 12 0,.ln 13 (.t 12),bI 14 .lss 11 13])
 (.cond (.t 14) (.skip)
 (.exit 0)))
 (.seq (.blk 1 (.seq (.rq 10 [mV 17 0,mV 18 5,iA 19 17 18 7,lD 20 19 7 true,mV 21 1,mV 22 5,iA 23 21 22 7,lD 24 23 7 true,cQ 25 ZO4 [20, 24],.un 26 (.t 25)])
 (.cond (.t 26) (.seq (rE 4 (cB false))
 (.gw (.ret)))
 (.skip))))
 (.reg [mV 15 5,.bi 16 .add (.t 15) (kI 1),mV 5 16])))))))
 (.seq (rE 4 (cB true))
 (.gw (.ret)))))
def ZEc : List Rv := [.t 4]
theorem Zee : chkFn Tryz.prog Zb2 2 Zxd ZEc = true := by kernel_rfl
def Zn2 (a1 : List Bill) (b2 : List Bill) (v4 : Int) (k4 : Int → Option Bool) : Option Bool :=
 bif (decide (v4 < (a1.length : Int))) then ((idx a1 v4).bind fun e6 => (idx b2 v4).bind fun e7 => bif (!(laws_eqBill e6 e7)) then (some false) else (k4 (w64 (v4 + 1)))) else (some true)
def laws_eqBillS (a1 : List Bill) (b2 : List Bill) : Option Bool :=
 bif ((a1.length : Int) != (b2.length : Int)) then (some false) else (whl (Zn2 a1 b2) 9223372036854775807 0)
theorem Z15 {a1 : List Bill} {b2 : List Bill} {r : Bool} (H : laws_eqBillS a1 b2 = some r) : Snd Tryz.prog Zb2 [.sl .rd 7 (a1.map eBill), .sl .rd 7 (b2.map eBill)] (.bool r) [] := by
 refine snd_g Zee rfl (by simp) ?_
 unfold laws_eqBillS at H
 refine Wh_go 99 [.u 7 (.ln _ _ fun _ => lm a1 eBill), .u 9 (.ln _ _ fun _ => lm b2 eBill)] (by kernel_rfl) fun q3 => ?_
 refine Wh_iH H (fun H => ?_) fun H => ?_
 ·refine Wh_o fun _ => ?_
  replace H := sI H; subst H
  exact Z0 [(4, .d)] [] [] [] [] [] (by kernel_rfl)
 ·refine Wh_o fun _ => ?_
  refine ZM1 (fun (v4 : Int) => ⟨[(0, .sl .rd 7 (a1.map eBill)), (1, .sl .rd 7 (b2.map eBill)), (5, .int .i64 v4)], [], [], []⟩) [] [] [] [] (by kernel_rfl) (by kernel_rfl) H (fun v4 I m k4 H N25 => ?_)
  unfold Zn2 at H
  refine Wh_go 99 [.u 13 (.ln _ _ fun _ => lm a1 eBill)] (by kernel_rfl) fun q5 => ?_
  refine Wh_iH H (fun H => ?_) fun H => ?_
  ·obtain ⟨e6, h6, H⟩ := bB H
   obtain ⟨e7, h7, H⟩ := bB H
   refine Wh_go 99 [.u 19 (.ix _ _ _ fun _ => Z1 eBill h6), .u 23 (.ix _ _ _ fun _ => Z1 eBill h7), .c 25 (Zzf e6 e7)] (by kernel_rfl) fun _ => ?_
   refine Wh_iH H (fun H => ?_) fun H => ?_
   ·refine Wh_o fun _ => ?_
    replace H := sI H; subst H
    exact Z0 [(4, .d)] [] [] [] [] [] (by kernel_rfl)
   ·refine Wh_o fun _ => ?_
    exact Wh_to (N25 _ H) [] [] [] [] (by kernel_rfl) (by kernel_rfl)
  ·refine Wh_o fun _ => ?_
   replace H := sI H; subst H
   exact Z0 [(4, .d)] [] [] [] [] [] (by kernel_rfl)
end Go.Proofs.YtndemhaoilhbbaaGreat
namespace Go.Proofs.YtndemhaoilhbbaaGreat.Eng
open Go Go.RowKit
/-- A cell that may be told as another. -/
def CE (a b : AV) : Prop := AE a b ∧ (a.one = true → b.one = true)
def CEs (l m : List AV) : Prop := l.length = m.length ∧ ∀ (i : Nat) (a b : AV), l[i]? = some a → m[i]? = some b → CE a b
theorem CE.refl (a : AV) : CE a a := ⟨AE.refl a, id⟩
theorem CEs.refl (l : List AV) : CEs l l := ⟨rfl, fun i a b h h' => by rw [h] at h'; cases h'; exact .refl a⟩
theorem CEs.one {a b : AV} (h : CE a b) : CEs [a] [b] := ⟨rfl, fun i x y hx hy => by
 cases i with
 | zero => simp at hx hy; subst hx; subst hy; exact h
 | succ i => simp at hx⟩
theorem CEs.append {l1 l2 m1 m2 : List AV} (h1 : CEs l1 m1) (h2 : CEs l2 m2) : CEs (l1 ++ l2) (m1 ++ m2) := by
 refine ⟨by rw [List.length_append, List.length_append, h1.1, h2.1], fun i a b ha hb => ?_⟩
 by_cases hi : i < l1.length
 ·rw [List.getElem?_append_left hi] at ha
  rw [List.getElem?_append_left (by rw [← h1.1]; exact hi)] at hb
  exact h1.2 i a b ha hb
 ·rw [List.getElem?_append_right (by omega)] at ha
  rw [List.getElem?_append_right (by rw [← h1.1]; omega), ← h1.1] at hb
  exact h2.2 _ a b ha hb
theorem CEs.flat {α : Type} {E : α → AV} : ∀ {es : List AV} {ys : List α}, es.length = ys.length → (∀ (i : Nat) (x : AV) (y : α), es[i]? = some x → ys[i]? = some y → CEs x.cells (E y).cells) → CEs (Eng.flat es) (Eng.flat (ys.map E))
 | [], [], _, _ => CEs.refl []
 | x :: es, y :: ys, hl, h => by
  have h0 := h 0 x y rfl rfl
  have h1 := CEs.flat (es := es) (ys := ys) (by simpa using hl) fun i x y hx hy => h (i + 1) x y (by simpa using hx) (by simpa using hy)
  simpa [Eng.flat] using h0.append h1
 | [], _ :: _, hl, _ => by simp at hl
 | _ :: _, [], hl, _ => by simp at hl
theorem AE.agg {cs ds : List AV} (h : CEs cs ds) : AE (.agg cs) (.agg ds) := by
 intro w S v hr
 cases hr with
 | agg _ vs hl h1 h2 =>
  refine .agg ds vs (by rw [← h.1, hl]) (fun b hb => ?_) fun i b u hb hu => ?_
  ·obtain ⟨i, hi⟩ := List.getElem?_of_mem hb
   have hlt : i < cs.length := by rw [h.1]; exact (List.getElem?_eq_some_iff.1 hi).1
   exact (h.2 i cs[i] b (List.getElem?_eq_getElem hlt) hi).2 (h1 _ (List.getElem_mem hlt))
  ·have hlt : i < cs.length := by rw [h.1]; exact (List.getElem?_eq_some_iff.1 hb).1
   exact (h.2 i cs[i] b (List.getElem?_eq_getElem hlt) hb).1 w S u (h2 i _ u (List.getElem?_eq_getElem hlt) hu)
theorem AE.nl {sz : Nat} : AE .nl (.sl .rd sz []) := by
 intro w S v hr
 cases hr
 exact .sl0 _ _ _ _ fun _ _ => trivial
theorem AE.sl {g : Tag} {sz : Nat} {es ds : List AV} (hl : es.length = ds.length) (hs : ∀ e ∈ ds, e.cells.length = sz) (h : CEs (Eng.flat es) (Eng.flat ds)) : AE (.sl g sz es) (.sl g sz ds) := by
 intro w S v hr
 cases hr with
 | sl0 _ _ a c ho =>
  cases ds with
  | nil => exact .sl0 _ _ _ _ ho
  | cons _ _ => simp at hl
 | sl _ _ _ b o c cv hc hm _ hw ho h2 =>
  rw [hl]
  have hx : ∀ (j : Nat) (d : AV), (Eng.flat ds)[j]? = some d → ∃ e, (Eng.flat es)[j]? = some e ∧ CE e d := fun j d hj => by
   have hlt : j < (Eng.flat es).length := by rw [h.1]; exact (List.getElem?_eq_some_iff.1 hj).1
   exact ⟨_, List.getElem?_eq_getElem hlt, h.2 j _ d (List.getElem?_eq_getElem hlt) hj⟩
  refine .sl g sz ds b o c cv (by rw [← hl]; exact hc) hm hs (fun j d hj => ?_) ho fun j d hj => ?_
  ·obtain ⟨e, he, hce⟩ := hx j d hj
   obtain ⟨q1, q2, q3, _⟩ := hw j e he
   exact ⟨q1, q2, hce.2 q3, trivial⟩
  ·obtain ⟨e, he, hce⟩ := hx j d hj
   exact hce.1 w S _ (h2 j e he)
theorem Snd.wkS {P : Program} {f : FuncId} {xs1 xs2 : List AV} {res : AV} {rows : List Row} (h : Snd P f xs2 res rows) (hae : AEs xs1 xs2) : Snd P f xs1 res rows := by
 intro w S N vs hS hl hr
 have hal := hae.1
 refine h w S TT vs hS (by omega) fun i b v hb hv => ?_
 have hi : i < xs1.length := by have := (List.getElem?_eq_some_iff.1 hb).1; omega
 exact hae.2 w S i _ b v (List.getElem?_eq_getElem hi) hb ((hr i _ v (List.getElem?_eq_getElem hi) hv).mono (fun _ _ h => h) ⟨fun _ _ _ _ _ _ _ _ => trivial, fun _ _ _ _ => trivial⟩ fun _ _ _ => rfl)
/-- The values of a type, told as typed data. -/
def EncOf {α : Type} (τ : Ty) (e : α → List AV) (W : α → Prop) : Prop := ∀ l, τ.ok l → ∃ y, CEs l (e y) ∧ W y
def Zn {α : Type} (τs : List Ty) (e : α → List AV) (W : α → Prop) : Prop := ∀ l, okL τs l → ∃ y, CEs l (e y) ∧ W y
def FitL {α : Type} (W : α → Prop) (l : List α) : Prop := l.length ≤ maxLen ∧ ∀ x ∈ l, W x
def FitT {α : Type} (_ : α) : Prop := True
section
variable {α β : Type}
theorem EncOf.int (k : IntKind) : EncOf (.int k) (fun n : Int => [.int k n]) FitT := by
 intro l h
 obtain ⟨n, rfl, _⟩ := h
 exact ⟨n, .refl _, trivial⟩
theorem EncOf.bool : EncOf .bool (fun n : Bool => [.bool n]) FitT := by
 intro l h
 obtain ⟨n, rfl⟩ := h
 exact ⟨n, .refl _, trivial⟩
theorem Zn.nil : Zn [] (fun _ : Unit => []) FitT := by
 intro l h
 simp only [okL] at h
 subst h
 exact ⟨(), .refl _, trivial⟩
theorem Zn.cons {f : Ty} {fs : List Ty} {e1 : α → List AV} {e2 : β → List AV} {W1 : α → Prop} {W2 : β → Prop} (h1 : EncOf f e1 W1) (h2 : Zn fs e2 W2) : Zn (f :: fs) (fun p : α × β => e1 p.1 ++ e2 p.2) (fun p => W1 p.1 ∧ W2 p.2) := by
 intro l h
 simp only [okL] at h
 obtain ⟨l1, l2, rfl, q1, q2⟩ := h
 obtain ⟨y1, c1, w1⟩ := h1 l1 q1
 obtain ⟨y2, c2, w2⟩ := h2 l2 q2
 exact ⟨(y1, y2), c1.append c2, w1, w2⟩
theorem Zn.st {fs : List Ty} {e : α → List AV} {W : α → Prop} (h : Zn fs e W) (g : α → β) {e' : β → List AV} {W' : β → Prop} (he : ∀ x, e x = e' (g x)) (hW : ∀ x, W x → W' (g x)) : EncOf (.st fs) e' W' := by
 intro l hl
 simp only [Ty.ok] at hl
 obtain ⟨y, c, w⟩ := h l hl
 exact ⟨g y, he y ▸ c, hW y w⟩
theorem exL {R : AV → α → Prop} : ∀ {es : List AV}, (∀ x ∈ es, ∃ y, R x y) → ∃ ys : List α, es.length = ys.length ∧ ∀ (i : Nat) (x : AV) (y : α), es[i]? = some x → ys[i]? = some y → R x y
 | [], _ => ⟨[], rfl, fun i x y h => by simp at h⟩
 | x :: es, h => by
  obtain ⟨y, hy⟩ := h x (List.mem_cons_self ..)
  obtain ⟨ys, hl, hys⟩ := exL (es := es) fun z hz => h z (List.mem_cons_of_mem _ hz)
  refine ⟨y :: ys, by simp [hl], fun i a b ha hb => ?_⟩
  cases i with
  | zero => simp at ha hb; subst ha; subst hb; exact hy
  | succ i => exact hys i a b (by simpa using ha) (by simpa using hb)
theorem EncOf.sl {τ : Ty} {e : α → List AV} {W : α → Prop} (h : EncOf τ e W) (E : α → AV) (hE : ∀ y, (E y).cells = e y) {n : Nat} (hn : τ.size = n) : EncOf (.sl τ) (fun l : List α => [.sl .rd n (l.map E)]) (FitL W) := by
 intro l hl
 simp only [Ty.ok] at hl
 rcases hl with rfl | ⟨es, rfl, hm, h2⟩
 ·exact ⟨[], .one ⟨AE.nl, fun _ => rfl⟩, Nat.zero_le _, fun x hx => by simp at hx⟩
 ·obtain ⟨ys, hys, hR⟩ := exL (α := α) (R := fun x y => CEs x.cells (E y).cells ∧ W y ∧ x.cells.length = τ.size) (es := es) fun x hx => by
   obtain ⟨a1, _, a3⟩ := h2 x hx
   obtain ⟨y, c, w⟩ := h _ a3
   exact ⟨y, (hE y).symm ▸ c, w, a1⟩
  have get : ∀ y ∈ ys, ∃ (i : Nat) (x : AV), es[i]? = some x ∧ ys[i]? = some y := fun y hy => by
   obtain ⟨i, hi⟩ := List.getElem?_of_mem hy
   exact ⟨i, _, List.getElem?_eq_getElem (by rw [hys]; exact (List.getElem?_eq_some_iff.1 hi).1), hi⟩
  refine ⟨ys, .one ⟨?_, fun _ => rfl⟩, by rw [← hys]; exact hm, fun y hy => ?_⟩
  ·rw [hn]
   refine AE.sl (by simpa using hys) (fun d hd => ?_) (CEs.flat hys fun i x y hx hy => (hR i x y hx hy).1)
   obtain ⟨y, hy, rfl⟩ := List.mem_map.1 hd
   obtain ⟨i, x, hx, hy'⟩ := get y hy
   have := hR i x y hx hy'
   rw [← this.1.1, this.2.2, hn]
  ·obtain ⟨i, x, hx, hy'⟩ := get y hy
   exact (hR i x y hx hy').2.1
theorem EncOf.okV_st {fs : List Ty} {e : α → List AV} {W : α → Prop} (h : EncOf (.st fs) e W) {a : AV} (ha : (Ty.st fs).okV a) : ∃ y, AE a (.agg (e y)) ∧ W y := by
 obtain ⟨cs, rfl, hc⟩ := ha
 obtain ⟨y, c, w⟩ := h cs (by simpa only [Ty.ok] using hc)
 exact ⟨y, .agg c, w⟩
end
end Go.Proofs.YtndemhaoilhbbaaGreat.Eng
namespace Go.Proofs.YtndemhaoilhbbaaGreat
open Go Go.RowKit Eng
def tyVec : Ty := .st [.int .i64, .int .i64, .int .i64]
def Zdk (x : Vec) : Prop := FitT x.a ∧ FitT x.b ∧ FitT x.c ∧ True
theorem ofVec : EncOf tyVec (fun x : Vec => (eVec x).cells) Zdk := Zn.st (Zn.cons (EncOf.int .i64) (Zn.cons (EncOf.int .i64) (Zn.cons (EncOf.int .i64) Zn.nil))) (fun p => ⟨p.1, p.2.1, p.2.2.1⟩) (fun _ => by rfl) (fun _ h => by exact h)
def tyNode : Ty := .st [.int .i64, tyVec]
def ZBm (x : Node) : Prop := FitT x.leaf ∧ Zdk x.cap ∧ True
theorem ofNode : EncOf tyNode (fun x : Node => (eNode x).cells) ZBm := Zn.st (Zn.cons (EncOf.int .i64) (Zn.cons ofVec Zn.nil)) (fun p => ⟨p.1, p.2.1⟩) (fun _ => by rfl) (fun _ h => by exact h)
def tyTopo : Ty := .st [.sl (.int .i64), .sl tyNode]
def Zzm (x : Topo) : Prop := (FitL FitT) x.parents ∧ (FitL ZBm) x.nodes ∧ True
theorem ofTopo : EncOf tyTopo (fun x : Topo => (Zy .rd x).cells) Zzm := Zn.st (Zn.cons (EncOf.sl (EncOf.int .i64) eI (fun _ => rfl) rfl) (Zn.cons (EncOf.sl ofNode eNode (fun _ => rfl) rfl) Zn.nil)) (fun p => ⟨p.1, p.2.1⟩) (fun _ => by rfl) (fun _ h => by exact h)
def tyJob : Ty := .st [.int .i64, .int .i64, .int .i64, tyVec, tyVec, .int .i64, .int .i64]
def ZCm (x : Job) : Prop := FitT x.id ∧ FitT x.prio ∧ FitT x.nodes ∧ Zdk x.need ∧ Zdk x.lic ∧ FitT x.wall ∧ FitT x.level ∧ True
theorem ofJob : EncOf tyJob (fun x : Job => (eJob x).cells) ZCm := Zn.st (Zn.cons (EncOf.int .i64) (Zn.cons (EncOf.int .i64) (Zn.cons (EncOf.int .i64) (Zn.cons ofVec (Zn.cons ofVec (Zn.cons (EncOf.int .i64) (Zn.cons (EncOf.int .i64) Zn.nil))))))) (fun p => ⟨p.1, p.2.1, p.2.2.1, p.2.2.2.1, p.2.2.2.2.1, p.2.2.2.2.2.1, p.2.2.2.2.2.2.1⟩) (fun _ => by rfl) (fun _ h => by exact h)
def tyRun : Ty := .st [tyJob, .int .i64, .sl (.int .i64)]
def ZAm (x : Run) : Prop := ZCm x.job ∧ FitT x.t ∧ (FitL FitT) x.nodes ∧ True
theorem ofRun : EncOf tyRun (fun x : Run => (eRunT .rd x).cells) ZAm := Zn.st (Zn.cons ofJob (Zn.cons (EncOf.int .i64) (Zn.cons (EncOf.sl (EncOf.int .i64) eI (fun _ => rfl) rfl) Zn.nil))) (fun p => ⟨p.1, p.2.1, p.2.2.1⟩) (fun _ => by rfl) (fun _ h => by exact h)
def tyEnd : Ty := .st [.int .i64, .int .i64, .int .i64]
def fitEnd (x : End) : Prop := FitT x.id ∧ FitT x.t ∧ FitT x.why ∧ True
theorem ofEnd : EncOf tyEnd (fun x : End => (eEnd x).cells) fitEnd := Zn.st (Zn.cons (EncOf.int .i64) (Zn.cons (EncOf.int .i64) (Zn.cons (EncOf.int .i64) Zn.nil))) (fun p => ⟨p.1, p.2.1, p.2.2.1⟩) (fun _ => by rfl) (fun _ h => by exact h)
def ZM9 : Ty := .st [tyTopo, .sl .bool, tyVec, .int .i64, .int .i64, .sl tyJob, .sl tyRun, .sl tyEnd]
def Zx9 (x : State) : Prop := Zzm x.topo ∧ (FitL FitT) x.up ∧ Zdk x.lic ∧ FitT x.depth ∧ FitT x.now ∧ (FitL ZCm) x.queue ∧ (FitL ZAm) x.runs ∧ (FitL fitEnd) x.ends ∧ True
theorem ofState : EncOf ZM9 (fun x : State => (Zb .rd x).cells) Zx9 := Zn.st (Zn.cons ofTopo (Zn.cons (EncOf.sl EncOf.bool eBo (fun _ => rfl) rfl) (Zn.cons ofVec (Zn.cons (EncOf.int .i64) (Zn.cons (EncOf.int .i64) (Zn.cons (EncOf.sl ofJob eJob (fun _ => rfl) rfl) (Zn.cons (EncOf.sl ofRun (eRunT .rd) (fun _ => rfl) rfl) (Zn.cons (EncOf.sl ofEnd eEnd (fun _ => rfl) rfl) Zn.nil)))))))) (fun p => ⟨p.1, p.2.1, p.2.2.1, p.2.2.2.1, p.2.2.2.2.1, p.2.2.2.2.2.1, p.2.2.2.2.2.2.1, p.2.2.2.2.2.2.2.1⟩) (fun _ => by rfl) (fun _ h => by exact h)
section
variable {α : Type}
theorem set_take {a ys : List α} {i : Nat} {x : α} (hx : a[i]? = some x) (hl : ys.length = a.length) (h : ys.take i = a.take i) : (ys.set i x).take (i + 1) = a.take (i + 1) := by
 have hi := (List.getElem?_eq_some_iff.1 hx).1
 apply List.ext_getElem?
 intro j
 by_cases hj : j < i + 1
 ·rw [List.getElem?_take_of_lt hj, List.getElem?_take_of_lt hj, List.getElem?_set]
  by_cases e : i = j
  ·subst e; rw [if_pos rfl, if_pos (by omega), hx]
  ·rw [if_neg e]
   have := congrArg (fun l : List α => l[j]?) h
   rwa [List.getElem?_take_of_lt (by omega), List.getElem?_take_of_lt (by omega)] at this
 ·rw [List.getElem?_eq_none (by simp; omega), List.getElem?_eq_none (by simp; omega)]
theorem Zv8 {bd : Int × List α → (Int × List α → Option (List α)) → Option (List α)} {a : List α} (hm : a.length < 9223372036854775807)
  (h1 : ∀ (i : Nat) ys k x, a[i]? = some x → ys.length = a.length → bd ((i : Int), ys) k = k (((i + 1 : Nat) : Int), ys.set i x)) (h2 : ∀ ys k, bd ((a.length : Int), ys) k = some ys) {ys : List α} (hy : ys.length = a.length) : whl bd 9223372036854775807 (0, ys) = some a := by
 refine ZL9 (fun _ o => o = some a) (fun b => a.length - b.1.toNat) (fun b => ∃ i : Nat, b.1 = (i : Int) ∧ i ≤ a.length ∧ b.2.length = a.length ∧ b.2.take i = a.take i) ?_ 9223372036854775807 (0, ys) ⟨0, rfl, Nat.zero_le _, hy, rfl⟩ (by simp only; omega)
 rintro ⟨n, zs⟩ k ⟨i, hi, hle, hz, ht⟩ hk
 simp only at hi hz ht hk
 subst hi
 by_cases h : i < a.length
 ·rw [h1 i zs k a[i] (List.getElem?_eq_getElem h) hz]
  exact hk _ ⟨i + 1, rfl, h, by simp [hz], set_take (List.getElem?_eq_getElem h) hz ht⟩ (by simp only; omega)
 ·have : i = a.length := by omega
  subst this
  rw [h2]
  rw [List.take_length, ← hz, List.take_length] at ht
  rw [ht]
theorem ZZ9 {bs : Nat} {n : Nat} {z : α} (h : bs * n ≤ 140737488355328) (h' : n ≤ 9223372036854775807) : mkL bs (n : Int) z = some (List.replicate n z) := by
 unfold mkL
 have e : (bs : Int) * (n : Int) = ((bs * n : Nat) : Int) := by rw [Int.natCast_mul]
 rw [if_pos ⟨by omega, by omega, by omega⟩]
 simp
theorem ZPd {bd : Int → (Int → Option Bool) → Option Bool} {n : Nat} (hm : n < 9223372036854775807) (h1 : ∀ (i : Nat) k, i < n → bd (i : Int) k = k ((i + 1 : Nat) : Int)) (h2 : ∀ k, bd (n : Int) k = some true) : whl bd 9223372036854775807 0 = some true := by
 refine ZL9 (fun _ o => o = some true) (fun b => n - b.toNat) (fun b => ∃ i : Nat, b = (i : Int) ∧ i ≤ n) ?_ 9223372036854775807 0 ⟨0, rfl, Nat.zero_le _⟩ (by omega)
 rintro _ k ⟨i, rfl, hle⟩ hk
 by_cases h : i < n
 ·rw [h1 i k h]
  exact hk _ ⟨i + 1, rfl, h⟩ (by omega)
 ·have : i = n := by omega
  subst this
  exact h2 k
theorem ZR5 {n : Nat} : ¬ ((n : Int) < (n : Int)) := by omega
end
theorem ZJ8 {l : List Int} (h : l.length ≤ 1048576) : laws_toIntS l = some l := by
 unfold laws_toIntS
 rw [ZZ9 (by omega) (by omega), Option.bind_some]
 refine Zv8 (by omega) (fun i ys k x hx hl => ?_) (fun ys k => ?_) (by simp)
 ·have hi := (List.getElem?_eq_some_iff.1 hx).1
  have hlt : (i : Int) < (l.length : Int) := by omega
  obtain ⟨y, hy⟩ : ∃ y, ys[i]? = some y := ⟨_, List.getElem?_eq_getElem (by omega)⟩
  simp only [ZI2, hlt, decide_true, cond_true, Zc, hx, hy, Option.bind_some, Zb1 (n := i) (by omega), Int.toNat_natCast]
 ·simp only [ZI2, ZR5, decide_false, cond_false]
theorem ZRc {l : List Node} (h : l.length ≤ 1048576) : laws_toNodeS l = some l := by
 unfold laws_toNodeS
 rw [ZZ9 (by omega) (by omega), Option.bind_some]
 refine Zv8 (by omega) (fun i ys k x hx hl => ?_) (fun ys k => ?_) (by simp)
 ·have hi := (List.getElem?_eq_some_iff.1 hx).1
  have hlt : (i : Int) < (l.length : Int) := by omega
  obtain ⟨y, hy⟩ : ∃ y, ys[i]? = some y := ⟨_, List.getElem?_eq_getElem (by omega)⟩
  simp only [Zj2, hlt, decide_true, cond_true, Zc, hx, hy, Option.bind_some, Zb1 (n := i) (by omega), Int.toNat_natCast]
  rfl
 ·simp only [Zj2, ZR5, decide_false, cond_false]
theorem ZVc {l : List Bool} (h : l.length ≤ 1048576) : laws_toBoolS l = some l := by
 unfold laws_toBoolS
 rw [ZZ9 (by omega) (by omega), Option.bind_some]
 refine Zv8 (by omega) (fun i ys k x hx hl => ?_) (fun ys k => ?_) (by simp)
 ·have hi := (List.getElem?_eq_some_iff.1 hx).1
  have hlt : (i : Int) < (l.length : Int) := by omega
  obtain ⟨y, hy⟩ : ∃ y, ys[i]? = some y := ⟨_, List.getElem?_eq_getElem (by omega)⟩
  simp only [Zk2, hlt, decide_true, cond_true, Zc, hx, hy, Option.bind_some, Zb1 (n := i) (by omega), Int.toNat_natCast]
 ·simp only [Zk2, ZR5, decide_false, cond_false]
theorem Zlf {l : List Job} (h : l.length ≤ 1048576) : laws_toJobS l = some l := by
 unfold laws_toJobS
 rw [ZZ9 (by omega) (by omega), Option.bind_some]
 refine Zv8 (by omega) (fun i ys k x hx hl => ?_) (fun ys k => ?_) (by simp)
 ·have hi := (List.getElem?_eq_some_iff.1 hx).1
  have hlt : (i : Int) < (l.length : Int) := by omega
  obtain ⟨y, hy⟩ : ∃ y, ys[i]? = some y := ⟨_, List.getElem?_eq_getElem (by omega)⟩
  simp only [ZH2, hlt, decide_true, cond_true, Zc, hx, hy, Option.bind_some, Zb1 (n := i) (by omega), Int.toNat_natCast]
  rfl
 ·simp only [ZH2, ZR5, decide_false, cond_false]
theorem Znf {l : List End} (h : l.length ≤ 1048576) : laws_toEndS l = some l := by
 unfold laws_toEndS
 rw [ZZ9 (by omega) (by omega), Option.bind_some]
 refine Zv8 (by omega) (fun i ys k x hx hl => ?_) (fun ys k => ?_) (by simp)
 ·have hi := (List.getElem?_eq_some_iff.1 hx).1
  have hlt : (i : Int) < (l.length : Int) := by omega
  obtain ⟨y, hy⟩ : ∃ y, ys[i]? = some y := ⟨_, List.getElem?_eq_getElem (by omega)⟩
  simp only [ZJ2, hlt, decide_true, cond_true, Zc, hx, hy, Option.bind_some, Zb1 (n := i) (by omega), Int.toNat_natCast]
  rfl
 ·simp only [ZJ2, ZR5, decide_false, cond_false]
theorem Zgf {t : Topo} (h1 : t.parents.length ≤ 1048576) (h2 : t.nodes.length ≤ 1048576) : laws_toTopo t = some t := by
 unfold laws_toTopo
 rw [ZJ8 h1, Option.bind_some, ZRc h2, Option.bind_some]
theorem Zgi {x : Run} (h : x.nodes.length ≤ 1048576) : laws_toRun x = some x := by
 unfold laws_toRun
 rw [ZJ8 h, Option.bind_some]
 rfl
theorem Zif {l : List Run} (h : l.length ≤ 1048576) (hn : ∀ x ∈ l, x.nodes.length ≤ 1048576) : laws_toRunS l = some l := by
 unfold laws_toRunS
 rw [ZZ9 (by omega) (by omega), Option.bind_some]
 refine Zv8 (by omega) (fun i ys k x hx hl => ?_) (fun ys k => ?_) (by simp)
 ·have hi := (List.getElem?_eq_some_iff.1 hx).1
  have hlt : (i : Int) < (l.length : Int) := by omega
  obtain ⟨y, hy⟩ : ∃ y, ys[i]? = some y := ⟨_, List.getElem?_eq_getElem (by omega)⟩
  simp only [ZG2, hlt, decide_true, cond_true, Zc, hx, hy, Option.bind_some, Zb1 (n := i) (by omega), Int.toNat_natCast, Zgi (hn x (List.mem_of_getElem? hx))]
 ·simp only [ZG2, ZR5, decide_false, cond_false]
/-- The sizes that the laws ask of a state. -/
structure SizedS (s : State) : Prop where
 parents : s.topo.parents.length ≤ 1048576
 nodes : s.topo.nodes.length ≤ 1048576
 up : s.up.length ≤ 1048576
 jobs : s.queue.length + s.runs.length ≤ 1048576
 run : ∀ x ∈ s.runs, x.nodes.length ≤ 1048576
 ends : s.ends.length ≤ 1048576
theorem ZPc {s : State} (h : SizedS s) : laws_toState s = some s := by
 have := h.jobs
 unfold laws_toState
 rw [Zgf h.parents h.nodes, Option.bind_some, ZVc h.up, Option.bind_some, Zlf (by omega), Option.bind_some, Zif (by omega) h.run, Option.bind_some, Znf h.ends, Option.bind_some]
 rfl
theorem ZY2 {α : Type} [BEq α] [LawfulBEq α] (a : α) : (a != a) = false := by simp
theorem ZK2 (v : Vec) : laws_eqVec v v = true := by simp [laws_eqVec]
theorem Zdb (v : Node) : laws_eqNode v v = true := by simp [laws_eqNode, ZK2]
theorem ZX7 (v : Job) : laws_eqJob v v = true := by simp [laws_eqJob, ZK2]
theorem Z4d (v : End) : laws_eqEnd v v = true := by simp [laws_eqEnd]
theorem Zs7 {l : List Int} (h : l.length ≤ 1048576) : laws_eqIntS l l = some true := by
 unfold laws_eqIntS
 rw [ZY2, cond_false]
 refine ZPd (n := l.length) (by omega) (fun i k hi => ?_) (fun k => ?_)
 ·have hlt : (i : Int) < (l.length : Int) := by omega
  obtain ⟨x, hx⟩ : ∃ x, l[i]? = some x := ⟨_, List.getElem?_eq_getElem hi⟩
  simp only [ZO2, hlt, decide_true, cond_true, Zc, hx, Option.bind_some, Zb1 (n := i) (by omega), ZY2, cond_false]
 ·simp only [ZO2, ZR5, decide_false, cond_false]
theorem Z5a {l : List Node} (h : l.length ≤ 1048576) : laws_eqNodeS l l = some true := by
 unfold laws_eqNodeS
 rw [ZY2, cond_false]
 refine ZPd (n := l.length) (by omega) (fun i k hi => ?_) (fun k => ?_)
 ·have hlt : (i : Int) < (l.length : Int) := by omega
  obtain ⟨x, hx⟩ : ∃ x, l[i]? = some x := ⟨_, List.getElem?_eq_getElem hi⟩
  simp only [Zl2, hlt, decide_true, cond_true, Zc, hx, Option.bind_some, Zb1 (n := i) (by omega), Zdb, Bool.not_true, cond_false]
 ·simp only [Zl2, ZR5, decide_false, cond_false]
theorem Z6a {l : List Bool} (h : l.length ≤ 1048576) : laws_eqBoolS l l = some true := by
 unfold laws_eqBoolS
 rw [ZY2, cond_false]
 refine ZPd (n := l.length) (by omega) (fun i k hi => ?_) (fun k => ?_)
 ·have hlt : (i : Int) < (l.length : Int) := by omega
  obtain ⟨x, hx⟩ : ∃ x, l[i]? = some x := ⟨_, List.getElem?_eq_getElem hi⟩
  simp only [Zm2, hlt, decide_true, cond_true, Zc, hx, Option.bind_some, Zb1 (n := i) (by omega), beq_self_eq_true, Bool.not_true, cond_false]
 ·simp only [Zm2, ZR5, decide_false, cond_false]
theorem Zfb {l : List Job} (h : l.length ≤ 1048576) : laws_eqJobS l l = some true := by
 unfold laws_eqJobS
 rw [ZY2, cond_false]
 refine ZPd (n := l.length) (by omega) (fun i k hi => ?_) (fun k => ?_)
 ·have hlt : (i : Int) < (l.length : Int) := by omega
  obtain ⟨x, hx⟩ : ∃ x, l[i]? = some x := ⟨_, List.getElem?_eq_getElem hi⟩
  simp only [ZN2, hlt, decide_true, cond_true, Zc, hx, Option.bind_some, Zb1 (n := i) (by omega), ZX7, Bool.not_true, cond_false]
 ·simp only [ZN2, ZR5, decide_false, cond_false]
theorem Zgb {l : List End} (h : l.length ≤ 1048576) : laws_eqEndS l l = some true := by
 unfold laws_eqEndS
 rw [ZY2, cond_false]
 refine ZPd (n := l.length) (by omega) (fun i k hi => ?_) (fun k => ?_)
 ·have hlt : (i : Int) < (l.length : Int) := by omega
  obtain ⟨x, hx⟩ : ∃ x, l[i]? = some x := ⟨_, List.getElem?_eq_getElem hi⟩
  simp only [ZP2, hlt, decide_true, cond_true, Zc, hx, Option.bind_some, Zb1 (n := i) (by omega), Z4d, Bool.not_true, cond_false]
 ·simp only [ZP2, ZR5, decide_false, cond_false]
theorem Zhb (v : Bill) : laws_eqBill v v = true := by simp [laws_eqBill, ZK2]
theorem Zm3 {l : List Bill} (h : l.length ≤ 1048576) : laws_eqBillS l l = some true := by
 unfold laws_eqBillS
 rw [ZY2, cond_false]
 refine ZPd (n := l.length) (by omega) (fun i k hi => ?_) (fun k => ?_)
 ·have hlt : (i : Int) < (l.length : Int) := by omega
  obtain ⟨x, hx⟩ : ∃ x, l[i]? = some x := ⟨_, List.getElem?_eq_getElem hi⟩
  simp only [Zn2, hlt, decide_true, cond_true, Zc, hx, Option.bind_some, Zb1 (n := i) (by omega), Zhb, Bool.not_true, cond_false]
 ·simp only [Zn2, ZR5, decide_false, cond_false]
theorem Zbb {t : Topo} (h1 : t.parents.length ≤ 1048576) (h2 : t.nodes.length ≤ 1048576) : laws_eqTopo t t = some true := by
 unfold laws_eqTopo
 rw [Zs7 h1, Option.bind_some, Z5a h2]
 rfl
theorem Z1d {x : Run} (h : x.nodes.length ≤ 1048576) : laws_eqRun x x = some true := by
 unfold laws_eqRun
 rw [ZX7, Zs7 h, ZY2]
 rfl
theorem Zcb {l : List Run} (h : l.length ≤ 1048576) (hn : ∀ x ∈ l, x.nodes.length ≤ 1048576) : laws_eqRunS l l = some true := by
 unfold laws_eqRunS
 rw [ZY2, cond_false]
 refine ZPd (n := l.length) (by omega) (fun i k hi => ?_) (fun k => ?_)
 ·have hlt : (i : Int) < (l.length : Int) := by omega
  obtain ⟨x, hx⟩ : ∃ x, l[i]? = some x := ⟨_, List.getElem?_eq_getElem hi⟩
  simp only [ZM2, hlt, decide_true, cond_true, Zc, hx, Option.bind_some, Zb1 (n := i) (by omega), Z1d (hn x (List.mem_of_getElem? hx)), Bool.not_true, cond_false]
 ·simp only [ZM2, ZR5, decide_false, cond_false]
theorem Z4a {s : State} (h : SizedS s) : laws_eqState s s = some true := by
 have := h.jobs
 unfold laws_eqState
 rw [Zbb h.parents h.nodes, Z6a h.up, ZK2, ZY2, ZY2, Zfb (by omega), Zcb (by omega) h.run, Zgb h.ends]
 rfl
theorem sz_eq {n : Int} {c : Nat} (h0 : 0 ≤ n) (h : n ≤ 1048576) (hc : c ≤ maxLen) : (bif decide (w64 (n - (c : Int)) < 0) then (-1 : Int) else w64 (n - (c : Int))) = szr n c := by
 have hm : maxLen = 9223372036854775807 := rfl
 rw [ZE1 (by omega)]
 unfold szr
 by_cases q : n < c
 ·rw [if_pos q, show decide (n - (c : Int) < 0) = true by rw [decide_eq_true_eq]; omega]; rfl
 ·rw [if_neg q, show decide (n - (c : Int) < 0) = false by rw [decide_eq_false_iff_not]; omega]; rfl
theorem ZV8 {n : Int} {c : Nat} : (szr n c < 0) ∨ (0 ≤ szr n c ∧ (c : Int) ≤ n ∧ szr n c = n - c) := by
 unfold szr; split
 ·exact .inl (by omega)
 ·exact .inr (by omega)
theorem szRun_eq {x : Run} {n : Int} (h0 : 0 ≤ n) (h : n ≤ 1048576) (hc : x.nodes.length ≤ maxLen) : laws_szRun x n = szr n x.nodes.length := by
 unfold laws_szRun laws_szIntS
 rw [sz_eq h0 h hc]
 rcases ZV8 (n := n) (c := x.nodes.length) with q | q
 ·have : szr n x.nodes.length = -1 := by unfold szr at q ⊢; split <;> omega
  rw [this]; rfl
 ·have : decide (szr n x.nodes.length < 0) = false := by simp; omega
  rw [this]; rfl
theorem ZSl {l : List Run} {n : Int} (h0 : 0 ≤ n) (h : n ≤ 1048576) (hc : FitL ZAm l) : ∃ r, laws_szRunS l n = some r ∧ r ≤ n ∧ (0 ≤ r → (l.length : Int) + r ≤ n ∧ ∀ x ∈ l, x.nodes.length ≤ 1048576) := by
 have hm : maxLen = 9223372036854775807 := rfl
 obtain ⟨c1, c2⟩ := hc
 unfold laws_szRunS
 rw [ZE1 (by omega)]
 by_cases q : n - (l.length : Int) < 0
 ·exact ⟨-1, by simp [q], by omega, fun h => by omega⟩
 ·simp only [q, decide_false, cond_false]
  refine ZL9 (fun _ o => ∃ r, o = some r ∧ r ≤ n ∧ (0 ≤ r → (l.length : Int) + r ≤ n ∧ ∀ x ∈ l, x.nodes.length ≤ 1048576)) (fun b => l.length - b.2.toNat) (fun b => ∃ i : Nat, b.2 = (i : Int) ∧ i ≤ l.length ∧ 0 ≤ b.1 ∧ (l.length : Int) + b.1 ≤ n ∧ ∀ j x, j < i → l[j]? = some x → x.nodes.length ≤ 1048576) ?_ 9223372036854775807 (n - (l.length : Int), 0) ⟨0, rfl, Nat.zero_le _, by simp only; omega, by simp only; omega, fun j x hj => by omega⟩ (by simp only; omega)
  rintro ⟨m, _⟩ k ⟨i, rfl, hi, hm0, hmn, hall⟩ hk
  simp only at hm0 hmn hk
  unfold Z05
  by_cases hlt : i < l.length
  ·have hlt' : (i : Int) < (l.length : Int) := by omega
   have hx : l[i]? = some l[i] := List.getElem?_eq_getElem hlt
   simp only [hlt', decide_true, cond_true, Zc, hx, Option.bind_some, Zb1 (n := i) (by omega)]
   rw [szRun_eq hm0 (by omega) (c2 _ (List.getElem_mem hlt)).2.2.1.1]
   rcases ZV8 (n := m) (c := l[i].nodes.length) with q | q
   ·simp only [q, decide_true, cond_true]
    exact ⟨-1, rfl, by omega, fun h => by omega⟩
   ·have : ¬ szr m l[i].nodes.length < 0 := by omega
    simp only [this, decide_false, cond_false]
    refine hk _ ⟨i + 1, rfl, hlt, q.1, by simp only; omega, fun j x hj hx' => ?_⟩ (by simp only; omega)
    by_cases e : j = i
    ·subst e; rw [hx] at hx'; cases hx'; omega
    ·exact hall j x (by omega) hx'
  ·have : i = l.length := by omega
   subst this
   simp only [ZR5, decide_false, cond_false]
   exact ⟨m, rfl, by omega, fun _ => ⟨hmn, fun x hx => by
    obtain ⟨j, hj⟩ := List.getElem?_of_mem hx
    exact hall j x (List.getElem?_eq_some_iff.1 hj).1 hj⟩⟩
theorem ZK8 {s : State} (hf : Zx9 s) {n : Int} (hn0 : 0 ≤ n) (hn : n ≤ 1048576) : ∃ r, laws_szState s n = some r ∧ (r < 0 ∨ (SizedS s ∧ r ≤ n)) := by
 obtain ⟨⟨p1, p2, _⟩, p3, _, _, _, p4, p5, p6, _⟩ := hf
 have no : ∀ {c : Prop} [Decidable c], c → (decide c) = true := fun h => by simp [h]
 have nn : ∀ {c : Prop} [Decidable c], ¬ c → (decide c) = false := fun h => by simp [h]
 have bad : ∃ r, (some (-1) : Option Int) = some r ∧ (r < 0 ∨ (SizedS s ∧ r ≤ n)) := ⟨-1, rfl, .inl (by omega)⟩
 unfold laws_szState
 have e1 : laws_szIntS s.topo.parents n = szr n s.topo.parents.length := sz_eq hn0 hn p1.1
 have et : laws_szTopo s.topo n < 0 ∨ (s.topo.parents.length ≤ 1048576 ∧ s.topo.nodes.length ≤ 1048576 ∧ 0 ≤ laws_szTopo s.topo n ∧ laws_szTopo s.topo n ≤ n) := by
  unfold laws_szTopo
  rw [e1]
  rcases ZV8 (n := n) (c := s.topo.parents.length) with q | q
  ·rw [no q, cond_true]; exact .inl (by omega)
  ·rw [nn (by omega), cond_false]
   have e2 : laws_szNodeS s.topo.nodes (szr n s.topo.parents.length) = szr (szr n s.topo.parents.length) s.topo.nodes.length := sz_eq q.1 (by omega) p2.1
   rw [e2]
   rcases ZV8 (n := szr n s.topo.parents.length) (c := s.topo.nodes.length) with q' | q'
   ·rw [no q', cond_true]; exact .inl (by omega)
   ·rw [nn (by omega), cond_false]
    exact .inr (by omega)
 generalize laws_szTopo s.topo n = m0 at et ⊢
 rcases et with q | q
 ·rw [no q, cond_true]; exact bad
 rw [nn (by omega), cond_false]
 have e3 : laws_szBoolS s.up m0 = szr m0 s.up.length := sz_eq (by omega) (by omega) p3.1
 rw [e3]
 rcases ZV8 (n := m0) (c := s.up.length) with r | r
 ·rw [no r, cond_true]; exact bad
 rw [nn (by omega), cond_false]
 generalize szr m0 s.up.length = m1 at r ⊢
 have e4 : laws_szJobS s.queue m1 = szr m1 s.queue.length := sz_eq (by omega) (by omega) p4.1
 rw [e4]
 rcases ZV8 (n := m1) (c := s.queue.length) with t | t
 ·rw [no t, cond_true]; exact bad
 rw [nn (by omega), cond_false]
 generalize szr m1 s.queue.length = m2 at t ⊢
 obtain ⟨m3, e5, u1, u2⟩ := ZSl (n := m2) (by omega) (by omega) p5
 rw [e5, Option.bind_some]
 by_cases u : m3 < 0
 ·rw [no u, cond_true]; exact bad
 rw [nn u, cond_false]
 have u' := u2 (by omega)
 have e6 : laws_szEndS s.ends m3 = szr m3 s.ends.length := sz_eq (by omega) (by omega) p6.1
 rw [e6]
 rcases ZV8 (n := m3) (c := s.ends.length) with v | v
 ·rw [no v, cond_true]; exact bad
 rw [nn (by omega), cond_false]
 exact ⟨_, rfl, .inr ⟨⟨q.1, q.2.1, by omega, by omega, u'.2, by omega⟩, by omega⟩⟩
end Go.Proofs.YtndemhaoilhbbaaGreat
namespace Go.Proofs.YtndemhaoilhbbaaGreat.Eng
open Go Go.RowKit
section
variable {P : Program} {s : St} {K : St → Prop}
@[simp] theorem wop_oln {d : Nat} {x : X} : wop P (.oln d x) K s = match s.get x with
  | .od _ _ n => K (s.set d (.int .i64 n))
  | _ => False := _root_.id rfl
@[simp] theorem wop_oia {d n : Nat} {x i : X} : wop P (.oia d x i n) K s = match s.get x with
  | .od m ks l => match isIdx (s.get i) l with
   | some _ => ks.length = n ∧ K (s.set d (.op m ks 0))
   | none => False
  | _ => False := _root_.id rfl
@[simp] theorem wop_ofa {d off : Nat} {x : X} : wop P (.ofa d x off) K s = match s.get x with
  | .op m ks o => K (s.set d (.op m ks (o + off)))
  | _ => False := _root_.id rfl
@[simp] theorem wop_old {d : Nat} {p : X} : wop P (.old d p) K s = match s.get p with
  | .op m ks off => match ks[off]? with
   | some (.l ks') => ∀ n, n ≤ 1048576 → K (s.set d (.od m ks' n))
   | _ => False
  | _ => False := _root_.id rfl
@[simp] theorem wop_ost {p x : X} : wop P (.ost p x) K s = match s.get p with
  | .op m ks off => match ks[off]? with
   | some k => s.my m ∧ s.kn m ∧ kindOk k (s.get x) = true ∧ K s
   | none => False
  | _ => False := _root_.id rfl
section
variable {m : Nat} {rks : List Nat}
@[simp] theorem losing_e {i : Nat} : (s.losing m rks).e i = (s.e i).lose m := _root_.id rfl
@[simp] theorem losing_bx {k : Nat} : (s.losing m rks).bx k = (s.bx k).map fun cs => cs.map (AV.lose1 m) := _root_.id rfl
@[simp] theorem losing_rw {k : Nat} : (s.losing m rks).rw k = if k ∈ rks then s.rw k else none := _root_.id rfl
@[simp] theorem losing_nx : (s.losing m rks).nx = s.nx := _root_.id rfl
@[simp] theorem losing_my : (s.losing m rks).my = s.my := _root_.id rfl
@[simp] theorem losing_kn : (s.losing m rks).kn = s.kn := _root_.id rfl
end
theorem do_cf {d f m : Nat} {xs : List X} {az : List AV} {Φ : Int → Prop} (rks : List Nat) (hv : Hav P f az Φ) (ha : hvLs m (xs.map s.get) az) (hm : s.my m) (hr : ∀ k ∈ rks, ∀ r, s.rw k = some r → freeL m r.es = true)
  (h : ∀ k, Φ k → K (St.set (s.losing m rks) d (.int .i64 k))) : wop P (.cf d f m xs) K s := ⟨hm, az, Φ, rks, hv, ha, hr, h⟩
theorem do_co (n : Nat) {d f : Nat} {xs : List X} {az : List AV} {res : AV} {rows : List Row} (hs : Snd P f az res rows) (ha : argsW s xs az) (hp : (res.nwd rows).pl) (hn : s.nx = n) (h : K (St.set { s with nx := n + 1 } d ((res.nwd rows).ownt n))) : wop P (.co d f xs) K s := by
 subst hn
 obtain ⟨l, e, hs⟩ := Ztj ha hs
 exact ⟨l, e, res, rows, hs, hp, h⟩
attribute [simp] AV.lose AV.lose1 AV.free freeL AV.ownt owntL AV.pl plL hv1 hvA hvL hvLs AV.fitX fitC kindOk
@[simp] theorem freeL_map {α : Type} (m : Nat) (e : α → AV) (l : List α) : freeL m (l.map e) = true ↔ ∀ x ∈ l, (e x).free m = true := by rw [ZW2]; simp
@[simp] theorem fitE_nil (m : Nat) (ks : List DK) : fitE m ks [] = True := by simp [fitE]
@[simp] theorem fitE_cons (m : Nat) (ks : List DK) (e : AV) (l : List AV) : fitE m ks (e :: l) = (AV.fitX m ks e ∧ fitE m ks l) := by simp [fitE]
@[simp] theorem fitE_map {α : Type} (m : Nat) (ks : List DK) (e : α → AV) : ∀ l : List α, fitE m ks (l.map e) ↔ ∀ x ∈ l, AV.fitX m ks (e x)
 | [] => by simp
 | a :: l => by simp [fitE_map m ks e l]
@[simp] theorem plL_map {α : Type} (e : α → AV) : ∀ l : List α, plL (l.map e) ↔ ∀ x ∈ l, (e x).pl
 | [] => by simp
 | a :: l => by simp [plL_map e l]
theorem ZKj {α : Type} (i : Nat) (e e' : α → AV) (h : ∀ x, (e x).ownt i = e' x) (l : List α) : owntL i (l.map e) = l.map e' := by rw [Zw6, List.map_map]; exact List.map_congr_left fun x _ => h x
/-- What must hold at the end of a function that is handed data of which the kinds are known alone. -/
def postH (rs : List Rv) (Φ : Int → Prop) (e : Ex) (s : St) : Prop := (match e with | .ext _ => False | _ => True) ∧ ∃ k, s.rvs rs = some [.int .i64 k] ∧ Φ k
theorem hav_of {f : FuncId} {fn : Func} {l : L} {rs : List Rv} {args : List AV} {Φ : Int → Prop} (hf : P.funcs[f]? = some fn) (hc : chkF P args.length l rs fn = true) (h : den P l (postH rs Φ) (stH args)) : Hav P f args Φ := by
  simp only [chkF, Bool.and_eq_true, decide_eq_true_eq] at hc
  obtain ⟨⟨⟨⟨hc, hr⟩, hr4⟩, hn⟩, hnb⟩ := hc
  cases hb : fn.body with
  | none => rw [hb] at hc; cases hc
  | some code =>
    rw [hb] at hc
    simp only at hc
    intro w D vs hD hvl hvs
    let c : Cx := { nt := fn.ntmps, X := D, Y := fun _ => True, S0 := fun _ _ => False, w0 := w, rv0 := fun _ => undef, bb0 := fun _ => 0, ntb := hnb, D := D, s0 := fun _ _ h => h.elim, sx := fun _ _ h => h.elim }
    have ov0 : ∀ i E, (ghD D).ov i = some E → i = 0 ∧ E = D := by
      intro i E h
      simp only [ghD] at h
      split at h
      · rename_i hi; cases h; exact ⟨hi, rfl⟩
      · cases h
    have I : Inv c (ghD D) (stH args) { tmps := vs.toArray ++ Array.replicate (fn.ntmps - vs.toArray.size) undef, defers := [] } w := by
      refine ⟨rfl, by simp only [Array.size_append, List.size_toArray, Array.size_replicate, c]; omega, ⟨rfl, rfl, rfl, Nat.le_refl _, fun _ _ _ => rfl⟩, fun i => ?_, fun k cs h => (by cases h), fun k cs h => (by cases h), fun k r h => (by cases h), fun k r h => (by cases h), fun k k' cs cs' h => (by cases h), fun k k' cs r h => (by cases h), fun k k' r r' h => (by cases h), fun b o h => (show False from h).elim, fun b h => trivial, fun b _ _ => trivial, fun _ _ => ⟨rfl, rfl⟩, fun _ _ h => h, fun _ _ h => .inl h,
        ⟨⟨fun i E h => ?_, fun i E h b hb => ?_, fun i j E E' h1 h2 hne => ?_, fun k cs h => (by cases h), fun k r h => (by cases h), fun i E h b hb => ?_⟩, fun i E h _ b hb => ?_, rfl, Nat.zero_le _, fun i h => absurd h (Nat.not_lt_zero i), fun b hb => ⟨0, D, rfl, hb⟩, fun i hi => ⟨?_, fun E h b hb => ?_⟩, fun b o v _ hv => ⟨v, hv, .refl v⟩⟩, fun b o h => (show False from h).elim, fun b o h => (show False from h).elim⟩
      · simp only [stH]
        rcases Nat.lt_or_ge i args.length with hi | hi
        · have hiv : i < vs.length := by omega
          have e1 : args.getD i .und = args[i] := by simp [List.getD_eq_getElem?_getD, hi]
          have e2 : (vs.toArray ++ Array.replicate (fn.ntmps - vs.toArray.size) undef).getD i undef = vs[i] := by
            simp [Array.getD_eq_getD_getElem?, Array.getElem?_append_left, hiv]
          rw [e1, e2]
          exact Gv.turn (s := stH []) (s' := stH args) (Zzj rfl rfl (fun _ _ _ => rfl) kd_id) (hvs i args[i] vs[i] (List.getElem?_eq_getElem hi) (List.getElem?_eq_getElem hiv))
        · have e1 : args.getD i .und = .und := by simp [List.getD_eq_getElem?_getD, List.getElem?_eq_none hi]
          have e2 : (vs.toArray ++ Array.replicate (fn.ntmps - vs.toArray.size) undef).getD i undef = undef := by
            rw [Array.getD_eq_getD_getElem?, Array.getElem?_append_right (by simp; omega), Array.getElem?_replicate]
            split <;> rfl
          rw [e1, e2]
          exact .und
      · obtain ⟨rfl, _⟩ := ov0 i E h; exact Nat.one_pos
      · obtain ⟨_, rfl⟩ := ov0 i E h; exact ⟨(hD b hb).1, trivial⟩
      · obtain ⟨rfl, _⟩ := ov0 i E h1; obtain ⟨rfl, _⟩ := ov0 j E' h2; exact absurd rfl hne
      · obtain ⟨_, rfl⟩ := ov0 i E h; exact (hD b hb).2
      · obtain ⟨_, rfl⟩ := ov0 i E h; exact ⟨trivial, fun _ => hb⟩
      · have hi' : i = 0 := hi
        subst hi'; exact Nat.one_pos
      · obtain ⟨_, rfl⟩ := ov0 i E h; exact hb
    refine calls_of_wp hf hb ?_
    refine Zja (c := c) hc (fun e g' s' a' w' I' hp => ?_) I h
    have fin : (∃ v, (results fn a'.tmps).run P w' = .ok v w' ∧ ∃ k, Ending.returned v = .returned (.int .i64 k) ∧ Φ k ∧ Kept D w w' ∧ (∀ b, D b → UnfB w' b) ∧
        ∀ b o v, D b → w.cell? ⟨b, o, none⟩ = some v → ∃ v', w'.cell? ⟨b, o, none⟩ = some v' ∧ KRel v v') := by
      obtain ⟨_, k, h1, h2⟩ := hp
      obtain ⟨u, q1, q2⟩ := ZX8 (P := P) I' hr4 hr h1
      have hu : u = .int .i64 k := (show Gv w' g' s' (.int .i64 k) u from q2).int_inv
      refine ⟨u, q1, k, by rw [hu], h2, ⟨I'.fr.os, I'.fr.tape, I'.fr.output, I'.fr.size, fun k hk hx => I'.fr.block k hk hx⟩, fun b hb => ?_, fun b o v hb hv => I'.ow.dk b o v hb hv⟩
      obtain ⟨i, E, e1, e2⟩ := I'.ow.dd b hb
      exact I'.ow.uf i E e1 b e2
    cases e with
    | nrm => exact ⟨I'.defers, fin⟩
    | ret => exact ⟨I'.defers, fin⟩
    | ext id => exact hp.1.elim
theorem ZGa {f : FuncId} {l : L} {rs : List Rv} {args : List AV} {Φ : Int → Prop} {n : Nat} (hc : chkFn P f n l rs = true) (hn : args.length = n) (h : den P l (postH rs Φ) (stH args)) : Hav P f args Φ := by
 unfold chkFn at hc
 split at hc
 ·rename_i fn hf
  subst hn
  exact hav_of hf hc h
 ·cases hc
attribute [simp] stH
@[simp] theorem set_my {d : Nat} {v : AV} : (s.set d v).my = s.my := _root_.id rfl
@[simp] theorem set_nx {d : Nat} {v : AV} : (s.set d v).nx = s.nx := _root_.id rfl
@[simp] theorem kill_nx {k : Nat} : (s.kill k).nx = s.nx := _root_.id rfl
@[simp] theorem st0_nx {args : List AV} : (st0 args).nx = 0 := _root_.id rfl
@[simp] theorem st0_my {args : List AV} : (st0 args).my = fun _ => True := _root_.id rfl
@[simp] theorem ownt_int {i : Nat} {k : IntKind} {n : Int} : (AV.int k n).ownt i = .int k n := _root_.id rfl
@[simp] theorem ownt_bool {i : Nat} {b : Bool} : (AV.bool b).ownt i = .bool b := _root_.id rfl
@[simp] theorem ownt_str {i : Nat} {b : List UInt8} : (AV.str b).ownt i = .str b := _root_.id rfl
@[simp] theorem ownt_nl {i : Nat} : AV.nl.ownt i = .nl := _root_.id rfl
@[simp] theorem Zk3 {α : Type} {i : Nat} {e : α → AV} (h : ∀ x, (e x).ownt i = e x) (l : List α) : owntL i (l.map e) = l.map e := ZKj i e e h l
@[simp] theorem kill_my {k : Nat} : (s.kill k).my = s.my := _root_.id rfl
@[simp] theorem kill_kn {k : Nat} : (s.kill k).kn = s.kn := _root_.id rfl
@[simp] theorem set_kn {d : Nat} {v : AV} : (s.set d v).kn = s.kn := _root_.id rfl
end
end Go.Proofs.YtndemhaoilhbbaaGreat.Eng
namespace Go.Proofs.YtndemhaoilhbbaaGreat
open Go Go.RowKit Eng
def kB (k b : Int) : Int → Prop := fun j => k ≤ j ∧ j ≤ k + b
def ZB6 : L :=
 .seq (
 .reg [.mv 4 (.c (.int .i64 0))]) (
 .seq (
 .seq (
 .reg [.mv 5 (.c (.int .i64 0))]) (
 .blk 0 (
  .loop (
   .seq (
   .seq (
   .reg [.mv 6 (.t 5),.mv 7 (.t 0),.oln 8 (.t 7),.bi 9 .lss (.t 6) (.t 8)]) (
   .cond (.t 9) (
    .skip) (
    .exit 0))) (
   .seq (
   .blk 1 (
    .seq (
    .reg [.mv 12 (.t 0),.mv 13 (.t 5),.mv 14 (.t 1),.oia 15 (.t 12) (.t 13) 1,.ost (.t 15) (.t 14)]) (
    .reg [.mv 16 (.t 1),.bi 17 .add (.t 16) (.c (.int .i64 1)),.mv 1 (.t 17)]))) (
   .reg [.mv 10 (.t 5),.bi 11 .add (.t 10) (.c (.int .i64 1)),.mv 5 (.t 11)])))))) (
 .seq (
 .reg [.mv 18 (.t 1),.mv 4 (.t 18)]) (
 .ret)))
def Zt6 : List Rv := [.t 4]
theorem Zoa : chkFn Tryz.prog Z53 2 ZB6 Zt6 = true := by kernel_rfl
set_option maxRecDepth 10000 in
theorem ZDa (n : Nat) (hn : n ≤ 1048576) (k : Int) (h0 : 0 ≤ k) (h1 : k ≤ 2251799813685248) :
  Hav Tryz.prog Z53 [.od 0 [.i .i64] n, .int .i64 k] (kB k (1 * n)) := by
 refine ZGa Zoa rfl (den_W ?_)
 unfold ZB6 Zt6
 simp
 refine ZS8 (fun m s => ∃ (i : Nat) (j : Int), m = n - i ∧ i ≤ n ∧ k ≤ j ∧ j ≤ k + 1 * i ∧ s.e 0 = .od 0 [.i .i64] n ∧ s.e 1 = .int .i64 j ∧ s.e 5 = .int .i64 (i : Nat) ∧ s.my 0 ∧ s.kn 0) n ?_ ?_
 ·exact ⟨0, k, by simp⟩
 ·rintro m s ⟨i, j, rfl, hi, hj0, hj1, e0, e1, e5, hm, hk⟩
  by_cases h : i < n
  ·have hw : ∀ q : Int, 0 ≤ q → q ≤ 4611686018427387904 → IntKind.i64.wrap q = q := fun q h0 h1 => ZY (by omega) (by omega)
   simp [e0, e1, e5, h, hm, hk, hw (j + 1) (by omega) (by omega)]
   exact ⟨n - (i + 1), by omega, i + 1, rfl, by omega, j + 1, by omega, by simp; omega, rfl, by rw [hw _ (by omega) (by omega)]; simp⟩
  ·have : i = n := by omega
   subst this
   simp [e0, e1, e5, kB, postH]
   omega
def ZG5 : L :=
 .seq (
 .reg [.mv 4 (.c (.int .i64 0))]) (
 .seq (
 .seq (
 .reg [.mv 5 (.c (.int .i64 0))]) (
 .blk 0 (
  .loop (
   .seq (
   .seq (
   .reg [.mv 6 (.t 5),.mv 7 (.t 0),.oln 8 (.t 7),.bi 9 .lss (.t 6) (.t 8)]) (
   .cond (.t 9) (
    .skip) (
    .exit 0))) (
   .seq (
   .blk 1 (
    .seq (
    .reg [.mv 12 (.t 0),.mv 13 (.t 5),.mv 14 (.t 1),.oia 15 (.t 12) (.t 13) 4,.ofa 16 (.t 15) 0,.ost (.t 16) (.t 14)]) (
    .seq (
    .reg [.mv 17 (.t 1),.bi 18 .add (.t 17) (.c (.int .i64 1)),.mv 1 (.t 18)]) (
    .seq (
    .reg [.mv 19 (.t 0),.mv 20 (.t 5),.mv 21 (.t 1),.oia 22 (.t 19) (.t 20) 4,.ofa 23 (.t 22) 1,.ofa 24 (.t 23) 0,.ost (.t 24) (.t 21)]) (
    .seq (
    .reg [.mv 25 (.t 1),.bi 26 .add (.t 25) (.c (.int .i64 1)),.mv 1 (.t 26)]) (
    .seq (
    .reg [.mv 27 (.t 0),.mv 28 (.t 5),.mv 29 (.t 1),.oia 30 (.t 27) (.t 28) 4,.ofa 31 (.t 30) 1,.ofa 32 (.t 31) 1,.ost (.t 32) (.t 29)]) (
    .seq (
    .reg [.mv 33 (.t 1),.bi 34 .add (.t 33) (.c (.int .i64 1)),.mv 1 (.t 34)]) (
    .seq (
    .reg [.mv 35 (.t 0),.mv 36 (.t 5),.mv 37 (.t 1),.oia 38 (.t 35) (.t 36) 4,.ofa 39 (.t 38) 1,.ofa 40 (.t 39) 2,.ost (.t 40) (.t 37)]) (
    .reg [.mv 41 (.t 1),.bi 42 .add (.t 41) (.c (.int .i64 1)),.mv 1 (.t 42)]))))))))) (
   .reg [.mv 10 (.t 5),.bi 11 .add (.t 10) (.c (.int .i64 1)),.mv 5 (.t 11)])))))) (
 .seq (
 .reg [.mv 43 (.t 1),.mv 4 (.t 43)]) (
 .ret)))
def Zr5 : List Rv := [.t 4]
theorem ZD9 : chkFn Tryz.prog Zg4 2 ZG5 Zr5 = true := by kernel_rfl
set_option maxRecDepth 10000 in
theorem Zbi (n : Nat) (hn : n ≤ 1048576) (k : Int) (h0 : 0 ≤ k) (h1 : k ≤ 2251799813685248) :
  Hav Tryz.prog Zg4 [.od 0 [.i .i64, .i .i64, .i .i64, .i .i64] n, .int .i64 k] (kB k (4 * n)) := by
 refine ZGa ZD9 rfl (den_W ?_)
 unfold ZG5 Zr5
 simp
 refine ZS8 (fun m s => ∃ (i : Nat) (j : Int), m = n - i ∧ i ≤ n ∧ k ≤ j ∧ j ≤ k + 4 * i ∧ s.e 0 = .od 0 [.i .i64, .i .i64, .i .i64, .i .i64] n ∧ s.e 1 = .int .i64 j ∧ s.e 5 = .int .i64 (i : Nat) ∧ s.my 0 ∧ s.kn 0) n ?_ ?_
 ·exact ⟨0, k, by simp⟩
 ·rintro m s ⟨i, j, rfl, hi, hj0, hj1, e0, e1, e5, hm, hk⟩
  by_cases h : i < n
  ·have hw : ∀ q : Int, 0 ≤ q → q ≤ 4611686018427387904 → IntKind.i64.wrap q = q := fun q h0 h1 => ZY (by omega) (by omega)
   simp [e0, e1, e5, h, hm, hk, hw (j + 1) (by omega) (by omega), hw (j + 1 + 1) (by omega) (by omega), hw (j + 1 + 1 + 1) (by omega) (by omega), hw (j + 1 + 1 + 1 + 1) (by omega) (by omega)]
   exact ⟨n - (i + 1), by omega, i + 1, rfl, by omega, j + 1 + 1 + 1 + 1, by omega, by simp; omega, rfl, by rw [hw _ (by omega) (by omega)]; simp⟩
  ·have : i = n := by omega
   subst this
   simp [e0, e1, e5, kB, postH]
   omega
def ZH5 : L :=
 .seq (
 .reg [.mv 4 (.c (.int .i64 0))]) (
 .seq (
 .seq (
 .reg [.mv 5 (.c (.int .i64 0))]) (
 .blk 0 (
  .loop (
   .seq (
   .seq (
   .reg [.mv 6 (.t 5),.mv 7 (.t 0),.oln 8 (.t 7),.bi 9 .lss (.t 6) (.t 8)]) (
   .cond (.t 9) (
    .skip) (
    .exit 0))) (
   .seq (
   .blk 1 (
    .seq (
    .reg [.mv 12 (.t 0),.mv 13 (.t 5),.mv 14 (.t 1),.bi 15 .rem (.t 14) (.c (.int .i64 3)),.bi 16 .eql (.t 15) (.c (.int .i64 0)),.oia 17 (.t 12) (.t 13) 1,.ost (.t 17) (.t 16)]) (
    .reg [.mv 18 (.t 1),.bi 19 .add (.t 18) (.c (.int .i64 1)),.mv 1 (.t 19)]))) (
   .reg [.mv 10 (.t 5),.bi 11 .add (.t 10) (.c (.int .i64 1)),.mv 5 (.t 11)])))))) (
 .seq (
 .reg [.mv 20 (.t 1),.mv 4 (.t 20)]) (
 .ret)))
def Zs5 : List Rv := [.t 4]
theorem ZE9 : chkFn Tryz.prog Zh4 2 ZH5 Zs5 = true := by kernel_rfl
set_option maxRecDepth 10000 in
theorem Zci (n : Nat) (hn : n ≤ 1048576) (k : Int) (h0 : 0 ≤ k) (h1 : k ≤ 2251799813685248) :
  Hav Tryz.prog Zh4 [.od 0 [.b] n, .int .i64 k] (kB k (1 * n)) := by
 refine ZGa ZE9 rfl (den_W ?_)
 unfold ZH5 Zs5
 simp
 refine ZS8 (fun m s => ∃ (i : Nat) (j : Int), m = n - i ∧ i ≤ n ∧ k ≤ j ∧ j ≤ k + 1 * i ∧ s.e 0 = .od 0 [.b] n ∧ s.e 1 = .int .i64 j ∧ s.e 5 = .int .i64 (i : Nat) ∧ s.my 0 ∧ s.kn 0) n ?_ ?_
 ·exact ⟨0, k, by simp⟩
 ·rintro m s ⟨i, j, rfl, hi, hj0, hj1, e0, e1, e5, hm, hk⟩
  by_cases h : i < n
  ·have hw : ∀ q : Int, 0 ≤ q → q ≤ 4611686018427387904 → IntKind.i64.wrap q = q := fun q h0 h1 => ZY (by omega) (by omega)
   simp [e0, e1, e5, h, hm, hk, hw (j + 1) (by omega) (by omega)]
   exact ⟨n - (i + 1), by omega, i + 1, rfl, by omega, j + 1, by omega, by simp; omega, rfl, by rw [hw _ (by omega) (by omega)]; simp⟩
  ·have : i = n := by omega
   subst this
   simp [e0, e1, e5, kB, postH]
   omega
def ZA6 : L :=
 .seq (
 .reg [.mv 4 (.c (.int .i64 0))]) (
 .seq (
 .seq (
 .reg [.mv 5 (.c (.int .i64 0))]) (
 .blk 0 (
  .loop (
   .seq (
   .seq (
   .reg [.mv 6 (.t 5),.mv 7 (.t 0),.oln 8 (.t 7),.bi 9 .lss (.t 6) (.t 8)]) (
   .cond (.t 9) (
    .skip) (
    .exit 0))) (
   .seq (
   .blk 1 (
    .seq (
    .reg [.mv 12 (.t 0),.mv 13 (.t 5),.mv 14 (.t 1),.oia 15 (.t 12) (.t 13) 11,.ofa 16 (.t 15) 0,.ost (.t 16) (.t 14)]) (
    .seq (
    .reg [.mv 17 (.t 1),.bi 18 .add (.t 17) (.c (.int .i64 1)),.mv 1 (.t 18)]) (
    .seq (
    .reg [.mv 19 (.t 0),.mv 20 (.t 5),.mv 21 (.t 1),.oia 22 (.t 19) (.t 20) 11,.ofa 23 (.t 22) 1,.ost (.t 23) (.t 21)]) (
    .seq (
    .reg [.mv 24 (.t 1),.bi 25 .add (.t 24) (.c (.int .i64 1)),.mv 1 (.t 25)]) (
    .seq (
    .reg [.mv 26 (.t 0),.mv 27 (.t 5),.mv 28 (.t 1),.oia 29 (.t 26) (.t 27) 11,.ofa 30 (.t 29) 2,.ost (.t 30) (.t 28)]) (
    .seq (
    .reg [.mv 31 (.t 1),.bi 32 .add (.t 31) (.c (.int .i64 1)),.mv 1 (.t 32)]) (
    .seq (
    .reg [.mv 33 (.t 0),.mv 34 (.t 5),.mv 35 (.t 1),.oia 36 (.t 33) (.t 34) 11,.ofa 37 (.t 36) 3,.ofa 38 (.t 37) 0,.ost (.t 38) (.t 35)]) (
    .seq (
    .reg [.mv 39 (.t 1),.bi 40 .add (.t 39) (.c (.int .i64 1)),.mv 1 (.t 40)]) (
    .seq (
    .reg [.mv 41 (.t 0),.mv 42 (.t 5),.mv 43 (.t 1),.oia 44 (.t 41) (.t 42) 11,.ofa 45 (.t 44) 3,.ofa 46 (.t 45) 1,.ost (.t 46) (.t 43)]) (
    .seq (
    .reg [.mv 47 (.t 1),.bi 48 .add (.t 47) (.c (.int .i64 1)),.mv 1 (.t 48)]) (
    .seq (
    .reg [.mv 49 (.t 0),.mv 50 (.t 5),.mv 51 (.t 1),.oia 52 (.t 49) (.t 50) 11,.ofa 53 (.t 52) 3,.ofa 54 (.t 53) 2,.ost (.t 54) (.t 51)]) (
    .seq (
    .reg [.mv 55 (.t 1),.bi 56 .add (.t 55) (.c (.int .i64 1)),.mv 1 (.t 56)]) (
    .seq (
    .reg [.mv 57 (.t 0),.mv 58 (.t 5),.mv 59 (.t 1),.oia 60 (.t 57) (.t 58) 11,.ofa 61 (.t 60) 6,.ofa 62 (.t 61) 0,.ost (.t 62) (.t 59)]) (
    .seq (
    .reg [.mv 63 (.t 1),.bi 64 .add (.t 63) (.c (.int .i64 1)),.mv 1 (.t 64)]) (
    .seq (
    .reg [.mv 65 (.t 0),.mv 66 (.t 5),.mv 67 (.t 1),.oia 68 (.t 65) (.t 66) 11,.ofa 69 (.t 68) 6,.ofa 70 (.t 69) 1,.ost (.t 70) (.t 67)]) (
    .seq (
    .reg [.mv 71 (.t 1),.bi 72 .add (.t 71) (.c (.int .i64 1)),.mv 1 (.t 72)]) (
    .seq (
    .reg [.mv 73 (.t 0),.mv 74 (.t 5),.mv 75 (.t 1),.oia 76 (.t 73) (.t 74) 11,.ofa 77 (.t 76) 6,.ofa 78 (.t 77) 2,.ost (.t 78) (.t 75)]) (
    .seq (
    .reg [.mv 79 (.t 1),.bi 80 .add (.t 79) (.c (.int .i64 1)),.mv 1 (.t 80)]) (
    .seq (
    .reg [.mv 81 (.t 0),.mv 82 (.t 5),.mv 83 (.t 1),.oia 84 (.t 81) (.t 82) 11,.ofa 85 (.t 84) 9,.ost (.t 85) (.t 83)]) (
    .seq (
    .reg [.mv 86 (.t 1),.bi 87 .add (.t 86) (.c (.int .i64 1)),.mv 1 (.t 87)]) (
    .seq (
    .reg [.mv 88 (.t 0),.mv 89 (.t 5),.mv 90 (.t 1),.oia 91 (.t 88) (.t 89) 11,.ofa 92 (.t 91) 10,.ost (.t 92) (.t 90)]) (
    .reg [.mv 93 (.t 1),.bi 94 .add (.t 93) (.c (.int .i64 1)),.mv 1 (.t 94)]))))))))))))))))))))))) (
   .reg [.mv 10 (.t 5),.bi 11 .add (.t 10) (.c (.int .i64 1)),.mv 5 (.t 11)])))))) (
 .seq (
 .reg [.mv 95 (.t 1),.mv 4 (.t 95)]) (
 .ret)))
def Zs6 : List Rv := [.t 4]
theorem Zna : chkFn Tryz.prog Zg5 2 ZA6 Zs6 = true := by kernel_rfl
set_option maxRecDepth 10000 in
theorem ZQj (n : Nat) (hn : n ≤ 1048576) (k : Int) (h0 : 0 ≤ k) (h1 : k ≤ 2251799813685248) :
  Hav Tryz.prog Zg5 [.od 0 [.i .i64, .i .i64, .i .i64, .i .i64, .i .i64, .i .i64, .i .i64, .i .i64, .i .i64, .i .i64, .i .i64] n, .int .i64 k] (kB k (11 * n)) := by
 refine ZGa Zna rfl (den_W ?_)
 unfold ZA6 Zs6
 simp
 refine ZS8 (fun m s => ∃ (i : Nat) (j : Int), m = n - i ∧ i ≤ n ∧ k ≤ j ∧ j ≤ k + 11 * i ∧ s.e 0 = .od 0 [.i .i64, .i .i64, .i .i64, .i .i64, .i .i64, .i .i64, .i .i64, .i .i64, .i .i64, .i .i64, .i .i64] n ∧ s.e 1 = .int .i64 j ∧ s.e 5 = .int .i64 (i : Nat) ∧ s.my 0 ∧ s.kn 0) n ?_ ?_
 ·exact ⟨0, k, by simp⟩
 ·rintro m s ⟨i, j, rfl, hi, hj0, hj1, e0, e1, e5, hm, hk⟩
  by_cases h : i < n
  ·have hw : ∀ q : Int, 0 ≤ q → q ≤ 4611686018427387904 → IntKind.i64.wrap q = q := fun q h0 h1 => ZY (by omega) (by omega)
   simp [e0, e1, e5, h, hm, hk, hw (j + 1) (by omega) (by omega), hw (j + 1 + 1) (by omega) (by omega), hw (j + 1 + 1 + 1) (by omega) (by omega), hw (j + 1 + 1 + 1 + 1) (by omega) (by omega), hw (j + 1 + 1 + 1 + 1 + 1) (by omega) (by omega), hw (j + 1 + 1 + 1 + 1 + 1 + 1) (by omega) (by omega), hw (j + 1 + 1 + 1 + 1 + 1 + 1 + 1) (by omega) (by omega), hw (j + 1 + 1 + 1 + 1 + 1 + 1 + 1 + 1) (by omega) (by omega), hw (j + 1 + 1 + 1 + 1 + 1 + 1 + 1 + 1 + 1) (by omega) (by omega), hw (j + 1 + 1 + 1 + 1 + 1 + 1 + 1 + 1 + 1 + 1) (by omega) (by omega), hw (j + 1 + 1 + 1 + 1 + 1 + 1 + 1 + 1 + 1 + 1 + 1) (by omega) (by omega)]
   exact ⟨n - (i + 1), by omega, i + 1, rfl, by omega, j + 1 + 1 + 1 + 1 + 1 + 1 + 1 + 1 + 1 + 1 + 1, by omega, by simp; omega, rfl, by rw [hw _ (by omega) (by omega)]; simp⟩
  ·have : i = n := by omega
   subst this
   simp [e0, e1, e5, kB, postH]
   omega
def ZC6 : L :=
 .seq (
 .reg [.mv 4 (.c (.int .i64 0))]) (
 .seq (
 .seq (
 .reg [.mv 5 (.c (.int .i64 0))]) (
 .blk 0 (
  .loop (
   .seq (
   .seq (
   .reg [.mv 6 (.t 5),.mv 7 (.t 0),.oln 8 (.t 7),.bi 9 .lss (.t 6) (.t 8)]) (
   .cond (.t 9) (
    .skip) (
    .exit 0))) (
   .seq (
   .blk 1 (
    .seq (
    .reg [.mv 12 (.t 0),.mv 13 (.t 5),.mv 14 (.t 1),.oia 15 (.t 12) (.t 13) 3,.ofa 16 (.t 15) 0,.ost (.t 16) (.t 14)]) (
    .seq (
    .reg [.mv 17 (.t 1),.bi 18 .add (.t 17) (.c (.int .i64 1)),.mv 1 (.t 18)]) (
    .seq (
    .reg [.mv 19 (.t 0),.mv 20 (.t 5),.mv 21 (.t 1),.oia 22 (.t 19) (.t 20) 3,.ofa 23 (.t 22) 1,.ost (.t 23) (.t 21)]) (
    .seq (
    .reg [.mv 24 (.t 1),.bi 25 .add (.t 24) (.c (.int .i64 1)),.mv 1 (.t 25)]) (
    .seq (
    .reg [.mv 26 (.t 0),.mv 27 (.t 5),.mv 28 (.t 1),.oia 29 (.t 26) (.t 27) 3,.ofa 30 (.t 29) 2,.ost (.t 30) (.t 28)]) (
    .reg [.mv 31 (.t 1),.bi 32 .add (.t 31) (.c (.int .i64 1)),.mv 1 (.t 32)]))))))) (
   .reg [.mv 10 (.t 5),.bi 11 .add (.t 10) (.c (.int .i64 1)),.mv 5 (.t 11)])))))) (
 .seq (
 .reg [.mv 33 (.t 1),.mv 4 (.t 33)]) (
 .ret)))
def Zu6 : List Rv := [.t 4]
theorem Zpa : chkFn Tryz.prog Zh5 2 ZC6 Zu6 = true := by kernel_rfl
set_option maxRecDepth 10000 in
theorem ZRj (n : Nat) (hn : n ≤ 1048576) (k : Int) (h0 : 0 ≤ k) (h1 : k ≤ 2251799813685248) :
  Hav Tryz.prog Zh5 [.od 0 [.i .i64, .i .i64, .i .i64] n, .int .i64 k] (kB k (3 * n)) := by
 refine ZGa Zpa rfl (den_W ?_)
 unfold ZC6 Zu6
 simp
 refine ZS8 (fun m s => ∃ (i : Nat) (j : Int), m = n - i ∧ i ≤ n ∧ k ≤ j ∧ j ≤ k + 3 * i ∧ s.e 0 = .od 0 [.i .i64, .i .i64, .i .i64] n ∧ s.e 1 = .int .i64 j ∧ s.e 5 = .int .i64 (i : Nat) ∧ s.my 0 ∧ s.kn 0) n ?_ ?_
 ·exact ⟨0, k, by simp⟩
 ·rintro m s ⟨i, j, rfl, hi, hj0, hj1, e0, e1, e5, hm, hk⟩
  by_cases h : i < n
  ·have hw : ∀ q : Int, 0 ≤ q → q ≤ 4611686018427387904 → IntKind.i64.wrap q = q := fun q h0 h1 => ZY (by omega) (by omega)
   simp [e0, e1, e5, h, hm, hk, hw (j + 1) (by omega) (by omega), hw (j + 1 + 1) (by omega) (by omega), hw (j + 1 + 1 + 1) (by omega) (by omega)]
   exact ⟨n - (i + 1), by omega, i + 1, rfl, by omega, j + 1 + 1 + 1, by omega, by simp; omega, rfl, by rw [hw _ (by omega) (by omega)]; simp⟩
  ·have : i = n := by omega
   subst this
   simp [e0, e1, e5, kB, postH]
   omega
def Zz6 : L :=
 .seq (
 .reg [.mv 4 (.c (.int .i64 0))]) (
 .seq (
 .seq (
 .reg [.mv 5 (.c (.int .i64 0))]) (
 .blk 0 (
  .loop (
   .seq (
   .seq (
   .reg [.mv 6 (.t 5),.mv 7 (.t 0),.oln 8 (.t 7),.bi 9 .lss (.t 6) (.t 8)]) (
   .cond (.t 9) (
    .skip) (
    .exit 0))) (
   .seq (
   .blk 1 (
    .seq (
    .reg [.mv 12 (.t 0),.mv 13 (.t 5),.mv 14 (.t 1),.oia 15 (.t 12) (.t 13) 13,.ofa 16 (.t 15) 0,.ofa 17 (.t 16) 0,.ost (.t 17) (.t 14)]) (
    .seq (
    .reg [.mv 18 (.t 1),.bi 19 .add (.t 18) (.c (.int .i64 1)),.mv 1 (.t 19)]) (
    .seq (
    .reg [.mv 20 (.t 0),.mv 21 (.t 5),.mv 22 (.t 1),.oia 23 (.t 20) (.t 21) 13,.ofa 24 (.t 23) 0,.ofa 25 (.t 24) 1,.ost (.t 25) (.t 22)]) (
    .seq (
    .reg [.mv 26 (.t 1),.bi 27 .add (.t 26) (.c (.int .i64 1)),.mv 1 (.t 27)]) (
    .seq (
    .reg [.mv 28 (.t 0),.mv 29 (.t 5),.mv 30 (.t 1),.oia 31 (.t 28) (.t 29) 13,.ofa 32 (.t 31) 0,.ofa 33 (.t 32) 2,.ost (.t 33) (.t 30)]) (
    .seq (
    .reg [.mv 34 (.t 1),.bi 35 .add (.t 34) (.c (.int .i64 1)),.mv 1 (.t 35)]) (
    .seq (
    .reg [.mv 36 (.t 0),.mv 37 (.t 5),.mv 38 (.t 1),.oia 39 (.t 36) (.t 37) 13,.ofa 40 (.t 39) 0,.ofa 41 (.t 40) 3,.ofa 42 (.t 41) 0,.ost (.t 42) (.t 38)]) (
    .seq (
    .reg [.mv 43 (.t 1),.bi 44 .add (.t 43) (.c (.int .i64 1)),.mv 1 (.t 44)]) (
    .seq (
    .reg [.mv 45 (.t 0),.mv 46 (.t 5),.mv 47 (.t 1),.oia 48 (.t 45) (.t 46) 13,.ofa 49 (.t 48) 0,.ofa 50 (.t 49) 3,.ofa 51 (.t 50) 1,.ost (.t 51) (.t 47)]) (
    .seq (
    .reg [.mv 52 (.t 1),.bi 53 .add (.t 52) (.c (.int .i64 1)),.mv 1 (.t 53)]) (
    .seq (
    .reg [.mv 54 (.t 0),.mv 55 (.t 5),.mv 56 (.t 1),.oia 57 (.t 54) (.t 55) 13,.ofa 58 (.t 57) 0,.ofa 59 (.t 58) 3,.ofa 60 (.t 59) 2,.ost (.t 60) (.t 56)]) (
    .seq (
    .reg [.mv 61 (.t 1),.bi 62 .add (.t 61) (.c (.int .i64 1)),.mv 1 (.t 62)]) (
    .seq (
    .reg [.mv 63 (.t 0),.mv 64 (.t 5),.mv 65 (.t 1),.oia 66 (.t 63) (.t 64) 13,.ofa 67 (.t 66) 0,.ofa 68 (.t 67) 6,.ofa 69 (.t 68) 0,.ost (.t 69) (.t 65)]) (
    .seq (
    .reg [.mv 70 (.t 1),.bi 71 .add (.t 70) (.c (.int .i64 1)),.mv 1 (.t 71)]) (
    .seq (
    .reg [.mv 72 (.t 0),.mv 73 (.t 5),.mv 74 (.t 1),.oia 75 (.t 72) (.t 73) 13,.ofa 76 (.t 75) 0,.ofa 77 (.t 76) 6,.ofa 78 (.t 77) 1,.ost (.t 78) (.t 74)]) (
    .seq (
    .reg [.mv 79 (.t 1),.bi 80 .add (.t 79) (.c (.int .i64 1)),.mv 1 (.t 80)]) (
    .seq (
    .reg [.mv 81 (.t 0),.mv 82 (.t 5),.mv 83 (.t 1),.oia 84 (.t 81) (.t 82) 13,.ofa 85 (.t 84) 0,.ofa 86 (.t 85) 6,.ofa 87 (.t 86) 2,.ost (.t 87) (.t 83)]) (
    .seq (
    .reg [.mv 88 (.t 1),.bi 89 .add (.t 88) (.c (.int .i64 1)),.mv 1 (.t 89)]) (
    .seq (
    .reg [.mv 90 (.t 0),.mv 91 (.t 5),.mv 92 (.t 1),.oia 93 (.t 90) (.t 91) 13,.ofa 94 (.t 93) 0,.ofa 95 (.t 94) 9,.ost (.t 95) (.t 92)]) (
    .seq (
    .reg [.mv 96 (.t 1),.bi 97 .add (.t 96) (.c (.int .i64 1)),.mv 1 (.t 97)]) (
    .seq (
    .reg [.mv 98 (.t 0),.mv 99 (.t 5),.mv 100 (.t 1),.oia 101 (.t 98) (.t 99) 13,.ofa 102 (.t 101) 0,.ofa 103 (.t 102) 10,.ost (.t 103) (.t 100)]) (
    .seq (
    .reg [.mv 104 (.t 1),.bi 105 .add (.t 104) (.c (.int .i64 1)),.mv 1 (.t 105)]) (
    .seq (
    .reg [.mv 106 (.t 0),.mv 107 (.t 5),.mv 108 (.t 1),.oia 109 (.t 106) (.t 107) 13,.ofa 110 (.t 109) 11,.ost (.t 110) (.t 108)]) (
    .seq (
    .reg [.mv 111 (.t 1),.bi 112 .add (.t 111) (.c (.int .i64 1)),.mv 1 (.t 112)]) (
    .reg [.mv 113 (.t 0),.mv 114 (.t 5),.oia 115 (.t 113) (.t 114) 13,.ofa 116 (.t 115) 12,.old 117 (.t 116),.mv 118 (.t 1),.cf 119 Z53 0 [(.t 117), (.t 118)],.mv 1 (.t 119)])))))))))))))))))))))))))) (
   .reg [.mv 10 (.t 5),.bi 11 .add (.t 10) (.c (.int .i64 1)),.mv 5 (.t 11)])))))) (
 .seq (
 .reg [.mv 120 (.t 1),.mv 4 (.t 120)]) (
 .ret)))
def Zr6 : List Rv := [.t 4]
theorem Zma : chkFn Tryz.prog Zf5 2 Zz6 Zr6 = true := by kernel_rfl
set_option maxRecDepth 10000 in
theorem ZPj (n : Nat) (hn : n ≤ 1048576) (k : Int) (h0 : 0 ≤ k) (h1 : k ≤ 1125899906842624) :
  Hav Tryz.prog Zf5 [.od 0 [.i .i64, .i .i64, .i .i64, .i .i64, .i .i64, .i .i64, .i .i64, .i .i64, .i .i64, .i .i64, .i .i64, .i .i64, .l [.i .i64]] n, .int .i64 k] (kB k (1048588 * n)) := by
 refine ZGa Zma rfl (den_W ?_)
 unfold Zz6 Zr6
 simp
 refine ZS8 (fun m s => ∃ (i : Nat) (j : Int), m = n - i ∧ i ≤ n ∧ k ≤ j ∧ j ≤ k + 1048588 * i ∧ s.e 0 = .od 0 [.i .i64, .i .i64, .i .i64, .i .i64, .i .i64, .i .i64, .i .i64, .i .i64, .i .i64, .i .i64, .i .i64, .i .i64, .l [.i .i64]] n ∧ s.e 1 = .int .i64 j ∧ s.e 5 = .int .i64 (i : Nat) ∧ s.my 0 ∧ s.kn 0) n ?_ ?_
 ·exact ⟨0, k, by simp⟩
 ·rintro m s ⟨i, j, rfl, hi, hj0, hj1, e0, e1, e5, hm, hk⟩
  by_cases h : i < n
  ·have hw : ∀ q : Int, 0 ≤ q → q ≤ 4611686018427387904 → IntKind.i64.wrap q = q := fun q h0 h1 => ZY (by omega) (by omega)
   simp [e0, e1, e5, h, hm, hk, hw (j + 1) (by omega) (by omega), hw (j + 1 + 1) (by omega) (by omega), hw (j + 1 + 1 + 1) (by omega) (by omega), hw (j + 1 + 1 + 1 + 1) (by omega) (by omega), hw (j + 1 + 1 + 1 + 1 + 1) (by omega) (by omega), hw (j + 1 + 1 + 1 + 1 + 1 + 1) (by omega) (by omega), hw (j + 1 + 1 + 1 + 1 + 1 + 1 + 1) (by omega) (by omega), hw (j + 1 + 1 + 1 + 1 + 1 + 1 + 1 + 1) (by omega) (by omega), hw (j + 1 + 1 + 1 + 1 + 1 + 1 + 1 + 1 + 1) (by omega) (by omega), hw (j + 1 + 1 + 1 + 1 + 1 + 1 + 1 + 1 + 1 + 1) (by omega) (by omega), hw (j + 1 + 1 + 1 + 1 + 1 + 1 + 1 + 1 + 1 + 1 + 1) (by omega) (by omega), hw (j + 1 + 1 + 1 + 1 + 1 + 1 + 1 + 1 + 1 + 1 + 1 + 1) (by omega) (by omega)]
   intro n2 hn2
   refine do_cf [] (ZDa n2 hn2 (j + 1 + 1 + 1 + 1 + 1 + 1 + 1 + 1 + 1 + 1 + 1 + 1) (by omega) (by omega)) (by simp) (by simp [hm]) (by simp) ?_
   rintro q ⟨hq0, hq1⟩
   simp [e0, e5, hm, hk]
   exact ⟨n - (i + 1), by omega, i + 1, rfl, by omega, q, by omega, by simp; omega, rfl, by rw [hw _ (by omega) (by omega)]; simp⟩
  ·have : i = n := by omega
   subst this
   simp [e0, e1, e5, kB, postH]
   omega
def Zy6 : L :=
 .seq (
 .reg [.bx 2 (.t 0),.mv 4 (.c (.int .i64 0))]) (
 .seq (
 .reg [.fa 5 (.t 2) 0,.ld 6 (.t 5) 1 false,.mv 7 (.t 1),.cf 8 Z53 0 [(.t 6), (.t 7)],.mv 1 (.t 8)]) (
 .seq (
 .reg [.fa 9 (.t 2) 1,.ld 10 (.t 9) 1 false,.mv 11 (.t 1),.cf 12 Zg4 0 [(.t 10), (.t 11)],.mv 1 (.t 12)]) (
 .seq (
 .reg [.mv 13 (.t 1),.mv 4 (.t 13)]) (
 .ret))))
def Zq6 : List Rv := [.t 4]
theorem Zla : chkFn Tryz.prog Ze5 2 Zy6 Zq6 = true := by kernel_rfl
set_option maxRecDepth 10000 in
theorem ZOj (n1 n2 : Nat) (hn1 : n1 ≤ 1048576) (hn2 : n2 ≤ 1048576) (k : Int) (h0 : 0 ≤ k) (h1 : k ≤ 562949953421312) :
  Hav Tryz.prog Ze5 [.agg [.od 0 [.i .i64] n1, .od 0 [.i .i64, .i .i64, .i .i64, .i .i64] n2], .int .i64 k] (kB k 5242880) := by
 refine ZGa Zla rfl (den_W ?_)
 unfold Zy6 Zq6
 simp
 refine do_cf [] (ZDa n1 hn1 k (by omega) (by omega)) (by simp) (by simp) (by simp) ?_
 rintro q0 ⟨hq0, hr0⟩
 simp
 refine do_cf [] (Zbi n2 hn2 q0 (by omega) (by omega)) (by simp) (by simp) (by simp) ?_
 rintro q1 ⟨hq1, hr1⟩
 simp [kB, postH]
 omega
def ZF5 : L :=
 .seq (
 .reg [.bx 2 (.t 0),.mv 4 (.c (.int .i64 0))]) (
 .seq (
 .reg [.fa 5 (.t 2) 0,.ld 6 (.t 5) 2 true,.mv 7 (.t 1),.cf 8 Ze5 0 [(.t 6), (.t 7)],.mv 1 (.t 8)]) (
 .seq (
 .reg [.fa 9 (.t 2) 2,.ld 10 (.t 9) 1 false,.mv 11 (.t 1),.cf 12 Zh4 0 [(.t 10), (.t 11)],.mv 1 (.t 12)]) (
 .seq (
 .reg [.fa 13 (.t 2) 8,.ld 14 (.t 13) 1 false,.mv 15 (.t 1),.cf 16 Zg5 0 [(.t 14), (.t 15)],.mv 1 (.t 16)]) (
 .seq (
 .reg [.fa 17 (.t 2) 9,.ld 18 (.t 17) 1 false,.mv 19 (.t 1),.cf 20 Zf5 0 [(.t 18), (.t 19)],.mv 1 (.t 20)]) (
 .seq (
 .reg [.fa 21 (.t 2) 10,.ld 22 (.t 21) 1 false,.mv 23 (.t 1),.cf 24 Zh5 0 [(.t 22), (.t 23)],.mv 1 (.t 24)]) (
 .seq (
 .reg [.mv 25 (.t 1),.mv 4 (.t 25)]) (
 .ret)))))))
def Zq5 : List Rv := [.t 4]
theorem ZC9 : chkFn Tryz.prog Zz1 2 ZF5 Zq5 = true := by kernel_rfl
set_option maxRecDepth 10000 in
theorem Zai (n1 n2 n3 n4 n5 n6 : Nat) (a b c d e : Int) (hn1 : n1 ≤ 1048576) (hn2 : n2 ≤ 1048576) (hn3 : n3 ≤ 1048576) (hn4 : n4 ≤ 1048576) (hn5 : n5 ≤ 1048576) (hn6 : n6 ≤ 1048576) (k : Int) (h0 : 0 ≤ k) (h1 : k ≤ 562949953421312) :
  Hav Tryz.prog Zz1 [.agg [.od 0 [.i .i64] n1, .od 0 [.i .i64, .i .i64, .i .i64, .i .i64] n2, .od 0 [.b] n3, .int .i64 a, .int .i64 b, .int .i64 c, .int .i64 d, .int .i64 e, .od 0 [.i .i64, .i .i64, .i .i64, .i .i64, .i .i64, .i .i64, .i .i64, .i .i64, .i .i64, .i .i64, .i .i64] n4, .od 0 [.i .i64, .i .i64, .i .i64, .i .i64, .i .i64, .i .i64, .i .i64, .i .i64, .i .i64, .i .i64, .i .i64, .i .i64, .l [.i .i64]] n5, .od 0 [.i .i64, .i .i64, .i .i64] n6], .int .i64 k] (kB k 1099545182208) := by
 refine ZGa ZC9 rfl (den_W ?_)
 unfold ZF5 Zq5
 simp
 refine do_cf [] (ZOj n1 n2 hn1 hn2 k (by omega) (by omega)) (by simp) (by simp) (by simp) ?_
 rintro q0 ⟨hq0, hr0⟩
 simp
 refine do_cf [] (Zci n3 hn3 q0 (by omega) (by omega)) (by simp) (by simp) (by simp) ?_
 rintro q1 ⟨hq1, hr1⟩
 simp
 refine do_cf [] (ZQj n4 hn4 q1 (by omega) (by omega)) (by simp) (by simp) (by simp) ?_
 rintro q2 ⟨hq2, hr2⟩
 simp
 refine do_cf [] (ZPj n5 hn5 q2 (by omega) (by omega)) (by simp) (by simp) (by simp) ?_
 rintro q3 ⟨hq3, hr3⟩
 simp
 refine do_cf [] (ZRj n6 hn6 q3 (by omega) (by omega)) (by simp) (by simp) (by simp) ?_
 rintro q4 ⟨hq4, hr4⟩
 simp [kB, postH]
 omega
@[simp] theorem ownt_IS (i : Nat) (l : List Int) : owntL i (l.map eI) = l.map eI := Zk3 (fun _ => rfl) l
@[simp] theorem ownt_BS (i : Nat) (l : List Int) : owntL i (l.map eB) = l.map eB := Zk3 (fun _ => rfl) l
@[simp] theorem ownt_BoS (i : Nat) (l : List Bool) : owntL i (l.map eBo) = l.map eBo := Zk3 (fun _ => rfl) l
@[simp] theorem ownt_NodeS (i : Nat) (l : List Node) : owntL i (l.map eNode) = l.map eNode := Zk3 (fun x => by simp) l
@[simp] theorem ownt_JobS (i : Nat) (l : List Job) : owntL i (l.map eJob) = l.map eJob := Zk3 (fun x => by simp) l
@[simp] theorem ownt_EndS (i : Nat) (l : List End) : owntL i (l.map eEnd) = l.map eEnd := Zk3 (fun x => by simp) l
@[simp] theorem ownt_BillS (i : Nat) (l : List Bill) : owntL i (l.map eBill) = l.map eBill := Zk3 (fun x => by simp) l
@[simp] theorem ownt_RunT (i : Nat) (g : Tag) (l : List Run) : owntL i (l.map (eRunT g)) = l.map (eRunT (.own i)) := by
 refine ZKj i _ _ (fun x => ?_) l
 simp
def Z91 (k : Int) (n : Nat) : List Bill := (List.range n).map fun i => ⟨k + 7 * (i : Nat) + 0, k + 7 * (i : Nat) + 1, k + 7 * (i : Nat) + 2, k + 7 * (i : Nat) + 3, ⟨k + 7 * (i : Nat) + 4, k + 7 * (i : Nat) + 5, k + 7 * (i : Nat) + 6⟩⟩
def ZI5 : L :=
 .seq (
 .reg [.mv 4 (.c (.int .i64 0))]) (
 .seq (
 .seq (
 .reg [.mv 5 (.c (.int .i64 0))]) (
 .blk 0 (
  .loop (
   .seq (
   .seq (
   .reg [.mv 6 (.t 5),.mv 7 (.t 0),.ln 8 (.t 7),.bi 9 .lss (.t 6) (.t 8)]) (
   .cond (.t 9) (
    .skip) (
    .exit 0))) (
   .seq (
   .blk 1 (
    .seq (
    .reg [.mv 12 (.t 0),.mv 13 (.t 5),.mv 14 (.t 1),.ia 15 (.t 12) (.t 13) 7,.fa 16 (.t 15) 0,.st (.t 16) (.t 14) 1]) (
    .seq (
    .reg [.mv 17 (.t 1),.bi 18 .add (.t 17) (.c (.int .i64 1)),.mv 1 (.t 18)]) (
    .seq (
    .reg [.mv 19 (.t 0),.mv 20 (.t 5),.mv 21 (.t 1),.ia 22 (.t 19) (.t 20) 7,.fa 23 (.t 22) 1,.st (.t 23) (.t 21) 1]) (
    .seq (
    .reg [.mv 24 (.t 1),.bi 25 .add (.t 24) (.c (.int .i64 1)),.mv 1 (.t 25)]) (
    .seq (
    .reg [.mv 26 (.t 0),.mv 27 (.t 5),.mv 28 (.t 1),.ia 29 (.t 26) (.t 27) 7,.fa 30 (.t 29) 2,.st (.t 30) (.t 28) 1]) (
    .seq (
    .reg [.mv 31 (.t 1),.bi 32 .add (.t 31) (.c (.int .i64 1)),.mv 1 (.t 32)]) (
    .seq (
    .reg [.mv 33 (.t 0),.mv 34 (.t 5),.mv 35 (.t 1),.ia 36 (.t 33) (.t 34) 7,.fa 37 (.t 36) 3,.st (.t 37) (.t 35) 1]) (
    .seq (
    .reg [.mv 38 (.t 1),.bi 39 .add (.t 38) (.c (.int .i64 1)),.mv 1 (.t 39)]) (
    .seq (
    .reg [.mv 40 (.t 0),.mv 41 (.t 5),.mv 42 (.t 1),.ia 43 (.t 40) (.t 41) 7,.fa 44 (.t 43) 4,.fa 45 (.t 44) 0,.st (.t 45) (.t 42) 1]) (
    .seq (
    .reg [.mv 46 (.t 1),.bi 47 .add (.t 46) (.c (.int .i64 1)),.mv 1 (.t 47)]) (
    .seq (
    .reg [.mv 48 (.t 0),.mv 49 (.t 5),.mv 50 (.t 1),.ia 51 (.t 48) (.t 49) 7,.fa 52 (.t 51) 4,.fa 53 (.t 52) 1,.st (.t 53) (.t 50) 1]) (
    .seq (
    .reg [.mv 54 (.t 1),.bi 55 .add (.t 54) (.c (.int .i64 1)),.mv 1 (.t 55)]) (
    .seq (
    .reg [.mv 56 (.t 0),.mv 57 (.t 5),.mv 58 (.t 1),.ia 59 (.t 56) (.t 57) 7,.fa 60 (.t 59) 4,.fa 61 (.t 60) 2,.st (.t 61) (.t 58) 1]) (
    .reg [.mv 62 (.t 1),.bi 63 .add (.t 62) (.c (.int .i64 1)),.mv 1 (.t 63)]))))))))))))))) (
   .reg [.mv 10 (.t 5),.bi 11 .add (.t 10) (.c (.int .i64 1)),.mv 5 (.t 11)])))))) (
 .seq (
 .reg [.mv 64 (.t 1),.mv 4 (.t 64)]) (
 .ret)))
def Zt5 : List Rv := [.t 4]
theorem ZF9 : chkFn Tryz.prog Zi4 2 ZI5 Zt5 = true := by kernel_rfl
set_option maxRecDepth 10000 in
theorem ZSj (l : List Bill) (k : Int) (h0 : 0 ≤ k) (h1 : k + 7 * l.length ≤ 4611686018427387904) :
  Con Tryz.prog Zi4 [.sref 0, .int .i64 k] [] [⟨7, l.map eBill, false⟩] (ret1 (.int .i64 (k + 7 * l.length)) ((Z91 k l.length).map eBill)) := by
 refine con_by [true] ZF9 rfl (by simp) fun _ _ => den_W ?_
 unfold ZI5 Zt5
 simp
 refine ZS8 (fun m s => ∃ i es, m = l.length - i ∧ i ≤ l.length ∧ s.e 0 = .sref 1000000000 ∧ s.e 1 = .int .i64 (k + 7 * i) ∧ s.e 5 = .int .i64 (i : Nat) ∧
   s.rw 1000000000 = some ⟨7, es, false⟩ ∧ es = ((Z91 k l.length).map eBill).take i ++ (l.map eBill).drop i) l.length ?_ ?_
 ·exact ⟨0, l.map eBill, by simp⟩
 ·rintro m s ⟨i, es, rfl, hi, h0', h1', h5, hr, he⟩
  by_cases h : i < l.length
  ·obtain ⟨f1, f2, f3, f4⟩ := Zgm _ _ (by simp [Z91]) i (by simpa using h) he
   simp at f1
   have w0 : IntKind.i64.wrap (k + 7 * (i : Int) + 1) = k + 7 * (i : Int) + 1 := by rw [ZY (by omega) (by omega)]
   have w1 : IntKind.i64.wrap (k + 7 * (i : Int) + 1 + 1) = k + 7 * (i : Int) + 2 := by rw [ZY (by omega) (by omega)]; omega
   have w2 : IntKind.i64.wrap (k + 7 * (i : Int) + 2 + 1) = k + 7 * (i : Int) + 3 := by rw [ZY (by omega) (by omega)]; omega
   have w3 : IntKind.i64.wrap (k + 7 * (i : Int) + 3 + 1) = k + 7 * (i : Int) + 4 := by rw [ZY (by omega) (by omega)]; omega
   have w4 : IntKind.i64.wrap (k + 7 * (i : Int) + 4 + 1) = k + 7 * (i : Int) + 5 := by rw [ZY (by omega) (by omega)]; omega
   have w5 : IntKind.i64.wrap (k + 7 * (i : Int) + 5 + 1) = k + 7 * (i : Int) + 6 := by rw [ZY (by omega) (by omega)]; omega
   have w6 : IntKind.i64.wrap (k + 7 * (i : Int) + 6 + 1) = k + 7 * (i : Int) + 7 := by rw [ZY (by omega) (by omega)]; omega
   simp [h0', h1', h5, hr, h, f1, f2]
   intro _
   refine ⟨l.length - (i + 1), by omega, i + 1, by simp, by omega, by simp [w0, w1, w2, w3, w4, w5, w6]; omega, by simp; rw [ZY (by omega) (by omega)], ?_⟩
   simpa [Z91, w0, w1, w2, w3, w4, w5, w6] using f4
  ·have : i = l.length := by omega
   subst this
   have hes : es = (Z91 k l.length).map eBill := by rw [he, List.take_of_length_le (by simp [Z91]), List.drop_of_length_le (by simp), List.append_nil]
   have hel : es.length = l.length := by rw [hes]; simp [Z91]
   simp [h0', h1', h5, hr, hel]
   intro _
   refine Z3m [] [some es] [] [] ?_
   simp [hr, hes, ret1]
def ZJ5 : L :=
 .seq (
 .reg [.mv 4 (.c (.int .i64 0))]) (
 .seq (
 .seq (
 .reg [.mv 5 (.c (.int .i64 0))]) (
 .blk 0 (
  .loop (
   .seq (
   .seq (
   .reg [.mv 6 (.t 5),.mv 7 (.t 0),.ln 8 (.t 7),.bi 9 .lss (.t 6) (.t 8)]) (
   .cond (.t 9) (
    .skip) (
    .exit 0))) (
   .seq (
   .blk 1 (
    .seq (
    .seq (
    .reg [.mv 12 (.t 0),.mv 13 (.t 5),.ia 14 (.t 12) (.t 13) 7,.fa 15 (.t 14) 0,.ld 16 (.t 15) 1 false,.mv 17 (.t 1),.bi 18 .neq (.t 16) (.t 17)]) (
    .cond (.t 18) (
     .seq (
     .reg [.mv 4 (.c (.int .i64 (-1)))]) (
     .ret)) (
     .skip))) (
    .seq (
    .reg [.mv 19 (.t 1),.bi 20 .add (.t 19) (.c (.int .i64 1)),.mv 1 (.t 20)]) (
    .seq (
    .seq (
    .reg [.mv 21 (.t 0),.mv 22 (.t 5),.ia 23 (.t 21) (.t 22) 7,.fa 24 (.t 23) 1,.ld 25 (.t 24) 1 false,.mv 26 (.t 1),.bi 27 .neq (.t 25) (.t 26)]) (
    .cond (.t 27) (
     .seq (
     .reg [.mv 4 (.c (.int .i64 (-1)))]) (
     .ret)) (
     .skip))) (
    .seq (
    .reg [.mv 28 (.t 1),.bi 29 .add (.t 28) (.c (.int .i64 1)),.mv 1 (.t 29)]) (
    .seq (
    .seq (
    .reg [.mv 30 (.t 0),.mv 31 (.t 5),.ia 32 (.t 30) (.t 31) 7,.fa 33 (.t 32) 2,.ld 34 (.t 33) 1 false,.mv 35 (.t 1),.bi 36 .neq (.t 34) (.t 35)]) (
    .cond (.t 36) (
     .seq (
     .reg [.mv 4 (.c (.int .i64 (-1)))]) (
     .ret)) (
     .skip))) (
    .seq (
    .reg [.mv 37 (.t 1),.bi 38 .add (.t 37) (.c (.int .i64 1)),.mv 1 (.t 38)]) (
    .seq (
    .seq (
    .reg [.mv 39 (.t 0),.mv 40 (.t 5),.ia 41 (.t 39) (.t 40) 7,.fa 42 (.t 41) 3,.ld 43 (.t 42) 1 false,.mv 44 (.t 1),.bi 45 .neq (.t 43) (.t 44)]) (
    .cond (.t 45) (
     .seq (
     .reg [.mv 4 (.c (.int .i64 (-1)))]) (
     .ret)) (
     .skip))) (
    .seq (
    .reg [.mv 46 (.t 1),.bi 47 .add (.t 46) (.c (.int .i64 1)),.mv 1 (.t 47)]) (
    .seq (
    .seq (
    .reg [.mv 48 (.t 0),.mv 49 (.t 5),.ia 50 (.t 48) (.t 49) 7,.fa 51 (.t 50) 4,.fa 52 (.t 51) 0,.ld 53 (.t 52) 1 false,.mv 54 (.t 1),.bi 55 .neq (.t 53) (.t 54)]) (
    .cond (.t 55) (
     .seq (
     .reg [.mv 4 (.c (.int .i64 (-1)))]) (
     .ret)) (
     .skip))) (
    .seq (
    .reg [.mv 56 (.t 1),.bi 57 .add (.t 56) (.c (.int .i64 1)),.mv 1 (.t 57)]) (
    .seq (
    .seq (
    .reg [.mv 58 (.t 0),.mv 59 (.t 5),.ia 60 (.t 58) (.t 59) 7,.fa 61 (.t 60) 4,.fa 62 (.t 61) 1,.ld 63 (.t 62) 1 false,.mv 64 (.t 1),.bi 65 .neq (.t 63) (.t 64)]) (
    .cond (.t 65) (
     .seq (
     .reg [.mv 4 (.c (.int .i64 (-1)))]) (
     .ret)) (
     .skip))) (
    .seq (
    .reg [.mv 66 (.t 1),.bi 67 .add (.t 66) (.c (.int .i64 1)),.mv 1 (.t 67)]) (
    .seq (
    .seq (
    .reg [.mv 68 (.t 0),.mv 69 (.t 5),.ia 70 (.t 68) (.t 69) 7,.fa 71 (.t 70) 4,.fa 72 (.t 71) 2,.ld 73 (.t 72) 1 false,.mv 74 (.t 1),.bi 75 .neq (.t 73) (.t 74)]) (
    .cond (.t 75) (
     .seq (
     .reg [.mv 4 (.c (.int .i64 (-1)))]) (
     .ret)) (
     .skip))) (
    .reg [.mv 76 (.t 1),.bi 77 .add (.t 76) (.c (.int .i64 1)),.mv 1 (.t 77)]))))))))))))))) (
   .reg [.mv 10 (.t 5),.bi 11 .add (.t 10) (.c (.int .i64 1)),.mv 5 (.t 11)])))))) (
 .seq (
 .reg [.mv 78 (.t 1),.mv 4 (.t 78)]) (
 .ret)))
def Zu5 : List Rv := [.t 4]
theorem ZG9 : chkFn Tryz.prog Zr2 2 ZJ5 Zu5 = true := by kernel_rfl
set_option maxRecDepth 10000 in
theorem ZFa (n : Nat) (k : Int) (h0 : 0 ≤ k) (h1 : k + 7 * n ≤ 4611686018427387904) :
  Snd Tryz.prog Zr2 [.sl .rd 7 ((Z91 k n).map eBill), .int .i64 k] (.int .i64 (k + 7 * n)) [] := by
 refine ZUl ZG9 rfl (by simp) (den_W ?_)
 unfold ZJ5 Zu5
 have hlen : (Z91 k n).length = n := by simp [Z91]
 have hget : ∀ i (h : i < (Z91 k n).length), (Z91 k n)[i] = ⟨k + 7 * (i : Nat) + 0, k + 7 * (i : Nat) + 1, k + 7 * (i : Nat) + 2, k + 7 * (i : Nat) + 3, ⟨k + 7 * (i : Nat) + 4, k + 7 * (i : Nat) + 5, k + 7 * (i : Nat) + 6⟩⟩ := by intro i h; simp [Z91]
 generalize Z91 k n = l at hlen hget
 simp
 refine ZS8 (fun m s => ∃ i, m = n - i ∧ i ≤ n ∧ s.e 0 = .sl .rd 7 (l.map eBill) ∧ s.e 1 = .int .i64 (k + 7 * i) ∧ s.e 5 = .int .i64 (i : Nat)) n ?_ ?_
 ·exact ⟨0, by simp⟩
 ·rintro m s ⟨i, rfl, hi, h0', h1', h5⟩
  by_cases h : i < n
  ·have hi' : i < l.length := by omega
   have w0 : IntKind.i64.wrap (k + 7 * (i : Int) + 1) = k + 7 * (i : Int) + 1 := by rw [ZY (by omega) (by omega)]
   have w1 : IntKind.i64.wrap (k + 7 * (i : Int) + 1 + 1) = k + 7 * (i : Int) + 2 := by rw [ZY (by omega) (by omega)]; omega
   have w2 : IntKind.i64.wrap (k + 7 * (i : Int) + 2 + 1) = k + 7 * (i : Int) + 3 := by rw [ZY (by omega) (by omega)]; omega
   have w3 : IntKind.i64.wrap (k + 7 * (i : Int) + 3 + 1) = k + 7 * (i : Int) + 4 := by rw [ZY (by omega) (by omega)]; omega
   have w4 : IntKind.i64.wrap (k + 7 * (i : Int) + 4 + 1) = k + 7 * (i : Int) + 5 := by rw [ZY (by omega) (by omega)]; omega
   have w5 : IntKind.i64.wrap (k + 7 * (i : Int) + 5 + 1) = k + 7 * (i : Int) + 6 := by rw [ZY (by omega) (by omega)]; omega
   have w6 : IntKind.i64.wrap (k + 7 * (i : Int) + 6 + 1) = k + 7 * (i : Int) + 7 := by rw [ZY (by omega) (by omega)]; omega
   simp [h0', h1', h5, h, hlen, hget, w0, w1, w2, w3, w4, w5, w6]
   intro _
   exact ⟨n - (i + 1), by omega, i + 1, rfl, by omega, by omega, by rw [ZY (by omega) (by omega)]; omega⟩
  ·have : i = n := by omega
   subst this
   simp [h0', h1', h5, hlen]
@[simp] theorem beq_10 : Nat.beq 1 0 = false := rfl
@[simp] theorem beq_01 : Nat.beq 0 1 = false := rfl
theorem ZL3 {s : State} (hS : SizedS s) : Snd Tryz.prog Zx [Zb .rd s] (Zb .nw s) [] := ZOc (ZPc hS)
theorem Zek {s : State} (hS : SizedS s) : Snd Tryz.prog Za2 [Zb .rd s, Zb .rd s] (.bool true) [] := Z0d (Z4a hS)
/-- A state, by its kinds. -/
def Znm (s : State) : AV := .agg [.od 0 [.i .i64] s.topo.parents.length, .od 0 [.i .i64, .i .i64, .i .i64, .i .i64] s.topo.nodes.length, .od 0 [.b] s.up.length, .int .i64 s.lic.a, .int .i64 s.lic.b, .int .i64 s.lic.c, .int .i64 s.depth, .int .i64 s.now,
 .od 0 [.i .i64, .i .i64, .i .i64, .i .i64, .i .i64, .i .i64, .i .i64, .i .i64, .i .i64, .i .i64, .i .i64] s.queue.length, .od 0 [.i .i64, .i .i64, .i .i64, .i .i64, .i .i64, .i .i64, .i .i64, .i .i64, .i .i64, .i .i64, .i .i64, .i .i64, .l [.i .i64]] s.runs.length, .od 0 [.i .i64, .i .i64, .i .i64] s.ends.length]
theorem ZMc {s : State} (hS : SizedS s) (k : Int) (h0 : 0 ≤ k) (h1 : k ≤ 562949953421312) : Hav Tryz.prog Zz1 [Znm s, .int .i64 k] (kB k 1099545182208) :=
 have := hS.jobs
 Zai s.topo.parents.length s.topo.nodes.length s.up.length s.queue.length s.runs.length s.ends.length s.lic.a s.lic.b s.lic.c s.depth s.now hS.parents hS.nodes hS.up (by omega) (by omega) hS.ends k h0 h1
theorem Zsm {s : State} (hS : SizedS s) (i : Nat) (k : Int) : hvLs i [Zb (.own i) s, .int .i64 k] [Znm s, .int .i64 k] := by
  have := hS.jobs
  simp [Znm]
  exact ⟨⟨_, _, _, ⟨rfl, rfl, rfl⟩, by simp, .inr hS.parents⟩, ⟨_, _, _, ⟨rfl, rfl, rfl⟩, by simp, .inr hS.nodes⟩, ⟨_, _, _, ⟨rfl, rfl, rfl⟩, by simp, .inr hS.up⟩, ⟨_, _, _, ⟨rfl, rfl, rfl⟩, by simp, .inr (by omega)⟩,
    ⟨_, _, _, ⟨rfl, rfl, rfl⟩, by simp, .inr ⟨by omega, fun x hx => .inr (hS.run x hx)⟩⟩, ⟨_, _, _, ⟨rfl, rfl, rfl⟩, by simp, .inr hS.ends⟩⟩
theorem Zuk {a : AV} (h : ZM9.okV a) : ∃ s, AE a (Zb .rd s) ∧ Zx9 s := EncOf.okV_st ofState h
def Zd3 : L :=
 .seq (
 .reg [.bx 2 (.t 0),.bx 3 (.t 1),.mv 4 (.c (.bool false))]) (
 .seq (
 .reg [.mv 5 (.c (.int .i64 1048576))]) (
 .seq (
 .reg [.ld 14 (.t 2) 11 true,.mv 15 (.t 5),.cq 16 ZG3 [(.t 14), (.t 15)],.mv 5 (.t 16)]) (
 .seq (
 .seq (
 .reg [.mv 17 (.t 5),.bi 18 .lss (.t 17) (.c (.int .i64 0))]) (
 .cond (.t 18) (
  .seq (
  .reg [.mv 4 (.c (.bool true))]) (
  .ret)) (
  .skip))) (
 .seq (
 .reg [.ld 19 (.t 3) 11 true,.mv 20 (.t 5),.cq 21 ZG3 [(.t 19), (.t 20)],.mv 5 (.t 21)]) (
 .seq (
 .seq (
 .reg [.mv 22 (.t 5),.bi 23 .lss (.t 22) (.c (.int .i64 0))]) (
 .cond (.t 23) (
  .seq (
  .reg [.mv 4 (.c (.bool true))]) (
  .ret)) (
  .skip))) (
 .seq (
 .rq 6 [.ld 24 (.t 2) 11 true,.cq 25 Zx [(.t 24)],.ld 26 (.t 3) 11 true,.cq 27 Zx [(.t 26)],.cq 28 Zi6 [(.t 25), (.t 27)],.mv 6 (.t 28)]) (
 .seq (
 .reg [.ld 29 (.t 2) 11 true,.co 30 Zx [(.t 29)],.al 7 [.nl, .nl, .nl, .int .i64 0, .int .i64 0, .int .i64 0, .int .i64 0, .int .i64 0, .nl, .nl, .nl],.st (.t 7) (.t 30) 11]) (
 .seq (
 .reg [.ld 31 (.t 3) 11 true,.co 32 Zx [(.t 31)],.al 8 [.nl, .nl, .nl, .int .i64 0, .int .i64 0, .int .i64 0, .int .i64 0, .int .i64 0, .nl, .nl, .nl],.st (.t 8) (.t 32) 11]) (
 .seq (
 .reg [.ld 33 (.t 7) 11 true,.ld 34 (.t 8) 11 true,.cl 35 ZK3 [(.t 33), (.t 34)],.mv 9 (.t 35)]) (
 .seq (
 .seq (
 .reg [.mv 36 (.t 9),.mv 37 (.t 6),.cq 38 Zb2 [(.t 36), (.t 37)],.un 39 (.t 38)]) (
 .cond (.t 39) (
  .seq (
  .reg [.mv 4 (.c (.bool false))]) (
  .ret)) (
  .skip))) (
 .seq (
 .seq (
 .rq 5 [.ld 40 (.t 7) 11 true,.ld 41 (.t 2) 11 true,.cq 42 Zx [(.t 41)],.cq 43 Za2 [(.t 40), (.t 42)],.un 44 (.t 43)]) (
 .cond (.t 44) (
  .seq (
  .reg [.mv 4 (.c (.bool false))]) (
  .ret)) (
  .skip))) (
 .seq (
 .seq (
 .rq 5 [.ld 45 (.t 8) 11 true,.ld 46 (.t 3) 11 true,.cq 47 Zx [(.t 46)],.cq 48 Za2 [(.t 45), (.t 47)],.un 49 (.t 48)]) (
 .cond (.t 49) (
  .seq (
  .reg [.mv 4 (.c (.bool false))]) (
  .ret)) (
  .skip))) (
 .seq (
 .reg [.mv 10 (.c (.int .i64 1))]) (
 .seq (
 .reg [.ld 50 (.t 7) 11 true,.mv 51 (.t 10),.cf 52 Zz1 0 [(.t 50), (.t 51)],.mv 10 (.t 52)]) (
 .seq (
 .reg [.ld 53 (.t 8) 11 true,.mv 54 (.t 10),.cf 55 Zz1 1 [(.t 53), (.t 54)],.mv 10 (.t 55)]) (
 .seq (
 .seq (
 .reg [.mv 56 (.t 10),.bi 57 .lss (.t 56) (.c (.int .i64 0)),.mv 58 (.t 57),.g 58 false (.mv 59 (.t 9)),.g 58 false (.mv 60 (.t 6)),.g 58 false (.cq 61 Zb2 [(.t 59), (.t 60)]),.g 58 false (.un 62 (.t 61)),.pk 63 (.t 58) (.c (.bool true)) (.t 62)]) (
 .cond (.t 63) (
  .seq (
  .reg [.mv 4 (.c (.bool false))]) (
  .ret)) (
  .skip))) (
 .seq (
 .reg [.mv 11 (.c (.int .i64 1))]) (
 .seq (
 .reg [.mv 64 (.t 9),.mv 65 (.t 11),.cm 66 Zi4 [(.t 64), (.t 65)],.mv 11 (.t 66)]) (
 .seq (
 .reg [.mv 12 (.c (.int .i64 1))]) (
 .seq (
 .reg [.mv 67 (.t 9),.mv 68 (.t 12),.cq 69 Zr2 [(.t 67), (.t 68)],.mv 12 (.t 69)]) (
 .seq (
 .seq (
 .reg [.mv 70 (.t 12),.bi 71 .lss (.t 70) (.c (.int .i64 0))]) (
 .cond (.t 71) (
  .seq (
  .reg [.mv 4 (.c (.bool false))]) (
  .ret)) (
  .skip))) (
 .seq (
 .seq (
 .reg [.mv 72 (.t 12),.mv 73 (.t 11),.bi 74 .neq (.t 72) (.t 73)]) (
 .cond (.t 74) (
  .seq (
  .reg [.mv 4 (.c (.bool false))]) (
  .ret)) (
  .skip))) (
 .seq (
 .rq 6 [.ld 75 (.t 2) 11 true,.cq 76 Zx [(.t 75)],.ld 77 (.t 3) 11 true,.cq 78 Zx [(.t 77)],.cq 79 ZK3 [(.t 76), (.t 78)],.mv 13 (.t 79)]) (
 .seq (
 .seq (
 .reg [.mv 80 (.t 13),.mv 81 (.t 6),.cq 82 Zb2 [(.t 80), (.t 81)],.un 83 (.t 82)]) (
 .cond (.t 83) (
  .seq (
  .reg [.mv 4 (.c (.bool false))]) (
  .ret)) (
  .skip))) (
 .seq (
 .reg [.mv 12 (.c (.int .i64 1))]) (
 .seq (
 .reg [.mv 84 (.t 9),.mv 85 (.t 12),.cq 86 Zr2 [(.t 84), (.t 85)],.mv 12 (.t 86)]) (
 .seq (
 .seq (
 .reg [.mv 87 (.t 12),.bi 88 .lss (.t 87) (.c (.int .i64 0))]) (
 .cond (.t 88) (
  .seq (
  .reg [.mv 4 (.c (.bool false))]) (
  .ret)) (
  .skip))) (
 .seq (
 .seq (
 .reg [.mv 89 (.t 12),.mv 90 (.t 11),.bi 91 .neq (.t 89) (.t 90)]) (
 .cond (.t 91) (
  .seq (
  .reg [.mv 4 (.c (.bool false))]) (
  .ret)) (
  .skip))) (
 .seq (
 .reg [.mv 4 (.c (.bool true))]) (
 .ret))))))))))))))))))))))))))))))
def Zc3 : List Rv := [.t 4]
theorem ZB7 : chkFn Tryz.prog Za1 2 Zd3 Zc3 = true := by kernel_rfl
set_option maxRecDepth 10000 in
set_option maxHeartbeats 1000000 in
theorem ZNb {s t : State} (hf : Zx9 s) (ht : Zx9 t) : Snd Tryz.prog Za1 [Zb .rd s, Zb .rd t] (.bool true) [] := by
 obtain ⟨r, h1, h2⟩ := ZK8 hf (n := 1048576) (by omega) (by omega)
 refine ZUl ZB7 rfl (by simp) (den_W ?_)
 unfold Zd3 Zc3
 simp
 refine do_cq (ZW7 h1) (by simp [St.args]) ?_
 simp
 intro hr
 obtain ⟨hS, hrn⟩ := h2.resolve_left (by omega)
 obtain ⟨r2, h3, h4⟩ := ZK8 ht (n := r) hr hrn
 refine do_cq (ZW7 h3) (by simp [St.args]) ?_
 simp
 intro hr2
 obtain ⟨hS2, _⟩ := h4.resolve_left (by omega)
 obtain ⟨ns, q2, q1, q4⟩ := ZKl hS.jobs hS2.jobs
 refine do_cq (ZL3 hS) (by simp [St.args]) ?_
 simp
 refine do_cq (ZL3 hS2) (by simp [St.args]) ?_
 simp
 refine do_cq (Zec q2) (by simp [St.args]) ?_
 simp
 refine do_co 0 (ZL3 hS) (by simp [St.args]) (by simp) (by simp) ?_
 simp
 refine do_co 1 (ZL3 hS2) (by simp [St.args]) (by simp) (by simp) ?_
 simp
 refine do_cl (Z58 q1) (by simp [St.args]) (by simp) ?_
 simp
 refine do_cq (Z15 (Zm3 (l := ns) q4)) (by simp [St.args]) ?_
 simp
 refine do_cq (ZL3 hS) (by simp [St.args]) ?_
 simp
 refine do_cq (Zek hS) (by simp [St.args]) ?_
 simp
 refine do_cq (ZL3 hS2) (by simp [St.args]) ?_
 simp
 refine do_cq (Zek hS2) (by simp [St.args]) ?_
 simp
 refine do_cf [36000] (ZMc hS 1 (by omega) (by omega)) (by simpa using Zsm hS 0 1) (by simp) (by simp) ?_
 rintro k ⟨hk0, hk1⟩
 simp
 refine do_cf [36000] (ZMc hS2 k (by omega) (by omega)) (by simpa using Zsm hS2 1 k) (by simp) (by simp) ?_
 rintro k2 ⟨hk2, hk3⟩
 have hkn : ¬ k2 < 0 := by omega
 simp [hkn]
 refine do_cq (Z15 (Zm3 (l := ns) q4)) (by simp [St.args]) ?_
 simp
 refine do_cm [] [36000] (ZSj ns 1 (by omega) (by omega)) rfl (by simp) (by simp) (by simp) ?_
 rintro _ _ _ _ _ _ _ ⟨rfl, rfl, rfl, rfl⟩
 have hkk : ¬ (1 + 7 * (ns.length : Int) < 0) := by omega
 simp
 refine do_cq (ZFa ns.length 1 (by omega) (by omega)) (by simp [St.args]) ?_
 simp [hkk]
 refine do_cq (ZL3 hS) (by simp [St.args]) ?_
 simp
 refine do_cq (ZL3 hS2) (by simp [St.args]) ?_
 simp
 refine do_cq (Z58 q1) (by simp [St.args]) ?_
 simp
 refine do_cq (Z15 (Zm3 (l := ns) q4)) (by simp [St.args]) ?_
 simp
 refine do_cq (ZFa ns.length 1 (by omega) (by omega)) (by simp [St.args]) ?_
 simp [hkk]
theorem Zwa (xs : List AV) (h : okVs [ZM9, ZM9] xs) : Snd Tryz.prog Za1 xs (.bool true) [] := by
 obtain ⟨a, _, rfl, ha, b, _, rfl, hb, rfl⟩ := h
 obtain ⟨s, ha, hf⟩ := Zuk ha
 obtain ⟨t, hb, ht⟩ := Zuk hb
 exact (ZNb hf ht).wkS (.cons ha (.cons hb .nil))
end Go.Proofs.YtndemhaoilhbbaaGreat
