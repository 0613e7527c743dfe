/-
  Lemmas, part 10: the engine that steps through the code, the walks of functions, and the laws of what they compute.
-/
import Derived.Test.YtpljbgcghpamjaaGreatRA9
namespace Go.Proofs.YtpljbgcghpamjaaGreat
open Go Go.RowKit Eng
def Z7k:L :=
sR [.bx 1 (.t 0),.al 2 [.int .i64 0,.int .i64 0,.int .i64 0]]
 (sR [.al 3 [.int .i64 0,.int .i64 0,.int .i64 0]]
 (sR [fA 4 1 0,lD 5 4 1 false,fA 6 3 0,.st (.t 6) (.t 5) 1]
 (sR [fA 7 1 1,lD 8 7 1 false,fA 9 3 1,.st (.t 9) (.t 8) 1]
 (sR [fA 10 1 2,lD 11 10 1 false,fA 12 3 2,.st (.t 12) (.t 11) 1]
 (sR [lD 13 3 3 true,.st (.t 2) (.t 13) 3]
 gR)))))
def Zg6 (a1:Vec):Option Vec :=
 some a1
theorem Z5f {a1:Vec} {r:Vec} (H:Zg6 a1 = some r):Snd Tryz.prog Zj2 [eVec a1] (eVec r) []:=by
 refine wS Z7k [.c 2 3 true] ?_
 unfold Zg6 at H
 refine wP ?_
 replace H:=sI H; subst H
 exact wN [(2,.d)] [(2,[])] [] [] [] []
def laws_toVec (a1:Vec):Vec :=
 a1
theorem Zrl (a1:Vec):Zg6 a1 = some (laws_toVec a1):=by
 unfold Zg6 laws_toVec
 first | rfl | simp only [Z7]
theorem Zu3 (a1:Vec):Snd Tryz.prog Zj2 [eVec a1] (eVec (laws_toVec a1)) []:=Z5f (Zrl a1)
def Zdk:L :=
sR [.bx 2 (.t 0),.bx 3 (.t 1),.mv 4 (cB false)]
 (.seq (sR [fA 5 2 0,lD 6 5 1 false,fA 7 3 0,lD 8 7 1 false,bI 9 .neq 6 8]
 (.cond (.t 9) (.seq (rE 4 (cB false))
 gR)
 .skip))
 (.seq (sR [fA 10 2 1,lD 11 10 1 false,fA 12 3 1,lD 13 12 1 false,bI 14 .neq 11 13]
 (.cond (.t 14) (.seq (rE 4 (cB false))
 gR)
 .skip))
 (.seq (sR [fA 15 2 2,lD 16 15 1 false,fA 17 3 2,lD 18 17 1 false,bI 19 .neq 16 18]
 (.cond (.t 19) (.seq (rE 4 (cB false))
 gR)
 .skip))
 (.seq (rE 4 (cB true))
 gR))))
def Zl6 (a1:Vec) (b2:Vec):Option Bool :=
 bif (a1.a != b2.a) then (some false) else (bif (a1.b != b2.b) then (some false) else (bif (a1.c != b2.c) then (some false) else (some true)))
theorem Znf {a1:Vec} {b2:Vec} {r:Bool} (H:Zl6 a1 b2 = some r):Snd Tryz.prog Zk2 [eVec a1,eVec b2] (.bool r) []:=by
 refine wS Zdk [.t 4] ?_
 unfold Zl6 at H
 refine wP ?_
 refine Wh_iH H (fun H=>?_) fun H=>?_
 .refine wP ?_
  replace H:=sI H; subst H
  exact wE [(4,.d)]
 .refine wP ?_
  refine Wh_iH H (fun H=>?_) fun H=>?_
  .refine wP ?_
   replace H:=sI H; subst H
   exact wE [(4,.d)]
  .refine wP ?_
   refine Wh_iH H (fun H=>?_) fun H=>?_
   .refine wP ?_
    replace H:=sI H; subst H
    exact wE [(4,.d)]
   .refine wP ?_
    replace H:=sI H; subst H
    exact wE [(4,.d)]
def laws_eqVec (a1:Vec) (b2:Vec):Bool :=
 bif (a1.a != b2.a) then (false) else (bif (a1.b != b2.b) then (false) else (bif (a1.c != b2.c) then (false) else (true)))
theorem Zwl (a1:Vec) (b2:Vec):Zl6 a1 b2 = some (laws_eqVec a1 b2):=by
 unfold Zl6 laws_eqVec
 first | rfl | simp only [Z7]
theorem ZB3 (a1:Vec) (b2:Vec):Snd Tryz.prog Zk2 [eVec a1,eVec b2] (.bool (laws_eqVec a1 b2)) []:=Znf (Zwl a1 b2)
def ZRh:L :=
sR [.mv 2 (.c (.nl))]
 (sR [mV 5 0,.ln 6 (.t 5),.ms 7 1 8 [.int .i64 0] (.t 6),mV 3 7]
 (.seq (.seq (rE 4 (kI 0))
 (.blk 0 (.loop (.gw (.seq (sR [mV 8 4,mV 9 0,.ln 10 (.t 9),bI 11 .lss 8 10]
 (.cond (.t 11) .skip
 (.exit 0)))
 (.seq (.blk 1 (.reg [mV 14 3,mV 15 4,mV 16 0,mV 17 4,iA 18 16 17 1,lD 19 18 1 false,iA 20 14 15 1,.st (.t 20) (.t 19) 1]))
 (.reg [mV 12 4,.bi 13 .add (.t 12) (kI 1),mV 4 13])))))))
 (sR [mV 21 3,mV 2 21]
 gR)))
def Zx3 (a1:List Int) (v4:Int × (List Int)) (k4:(Int × (List Int)) -> Option (List Int)):Option (List Int) :=
 bif (decide (v4.1 < (a1.length:Int))) then ((idx a1 v4.1).bind fun e6=>(idx v4.2 v4.1).bind fun _=>k4 ((w64 (v4.1 + 1)),(v4.2.set v4.1.toNat e6))) else (some v4.2)
def laws_toIntS (a1:List Int):Option (List Int) :=
 (mkL 8 (a1.length:Int) 0).bind fun xs2=>whl (Zx3 a1) 9223372036854775807 (0,xs2)
theorem Zha {a1:List Int} {r:(List Int)} (H:laws_toIntS a1 = some r):Snd Tryz.prog Zg8 [.sl .rd 1 (a1.map eI)] (.sl .nw 1 (r.map eI)) []:=by
 refine wS ZRh [.t 2] ?_
 unfold laws_toIntS at H
 obtain ⟨xs2,h2,H⟩:=bB H
 refine wG [.u 6 (.ln _ _ fun _=>lm a1 eI),.u 7 (.ms _ _ _ _ fun _=>ZV6 eI h2)] fun q3=>?_
 refine wW (fun (v4:Int × (List Int))=>⟨[(0,.sl .rd 1 (a1.map eI)),(3,.sref 7),(4,.int .i64 v4.1)],[],[],[(7,⟨1,v4.2.map eI,false⟩)]⟩) H (fun v4 I m k4 H N13=>?_)
 unfold Zx3 at H
 refine wG [.u 10 (.ln _ _ fun _=>lm a1 eI)] fun q5=>?_
 refine Wh_iH H (fun H=>?_) fun H=>?_
 .obtain ⟨e6,h6,H⟩:=bB H
  obtain ⟨e7,h7,H⟩:=bB H
  refine wG [.u 18 (.ix _ _ _ fun _=>Z0 eI h6),.u 20 (.ix _ _ _ fun _=>Z0 eI h7),.u 1000000 (.sto _ _ _ (eI e6) _ (fun _=>gm eI (Zw1 h7)) (fun _=>ZS4 ..))] fun _=>?_
  exact wT (N13 _ H)
 .refine wP ?_
  replace H:=sI H; subst H
  exact wN [(2,.f)] [] [] [7] [] [⟨_,nw_I v4.2⟩]
def ZPh:L :=
sR [.bx 1 (.t 0),.al 2 [.int .i64 0,.int .i64 0,.int .i64 0,.int .i64 0]]
 (sR [.al 3 [.int .i64 0,.int .i64 0,.int .i64 0,.int .i64 0]]
 (sR [fA 4 1 0,lD 5 4 1 false,fA 6 3 0,.st (.t 6) (.t 5) 1]
 (sR [fA 7 1 1,lD 8 7 3 true,cQ 9 Zj2 [8],fA 10 3 1,.st (.t 10) (.t 9) 3]
 (sR [lD 11 3 4 true,.st (.t 2) (.t 11) 4]
 gR))))
def Zb5 (a1:Node):Option Node :=
 some (Node.mk a1.leaf (laws_toVec a1.cap))
theorem ZAd {a1:Node} {r:Node} (H:Zb5 a1 = some r):Snd Tryz.prog Zf8 [eNode a1] (eNode r) []:=by
 refine wS ZPh [.c 2 4 true] ?_
 unfold Zb5 at H
 refine wG [.c 9 (Zu3 a1.cap)] fun _=>?_
 replace H:=sI H; subst H
 exact wN [(2,.d)] [(2,[])] [] [] [] []
def laws_toNode (a1:Node):Node :=
 (Node.mk a1.leaf (laws_toVec a1.cap))
theorem ZMj (a1:Node):Zb5 a1 = some (laws_toNode a1):=by
 unfold Zb5 laws_toNode
 first | rfl | simp only [Z7]
theorem Z4h (a1:Node):Snd Tryz.prog Zf8 [eNode a1] (eNode (laws_toNode a1)) []:=ZAd (ZMj a1)
def ZWf:L :=
sR [.mv 2 (.c (.nl))]
 (sR [mV 5 0,.ln 6 (.t 5),.ms 7 4 32 [.int .i64 0,.int .i64 0,.int .i64 0,.int .i64 0] (.t 6),mV 3 7]
 (.seq (.seq (rE 4 (kI 0))
 (.blk 0 (.loop (.gw (.seq (sR [mV 8 4,mV 9 0,.ln 10 (.t 9),bI 11 .lss 8 10]
 (.cond (.t 11) .skip
 (.exit 0)))
 (.seq (.blk 1 (.reg [mV 14 3,mV 15 4,mV 16 0,mV 17 4,iA 18 16 17 4,lD 19 18 4 true,cQ 20 Zf8 [19],iA 21 14 15 4,.st (.t 21) (.t 20) 4]))
 (.reg [mV 12 4,.bi 13 .add (.t 12) (kI 1),mV 4 13])))))))
 (sR [mV 22 3,mV 2 22]
 gR)))
def ZU2 (a1:List Node) (v4:Int × (List Node)) (k4:(Int × (List Node)) -> Option (List Node)):Option (List Node) :=
 bif (decide (v4.1 < (a1.length:Int))) then ((idx a1 v4.1).bind fun e6=>(idx v4.2 v4.1).bind fun _=>k4 ((w64 (v4.1 + 1)),(v4.2.set v4.1.toNat (Node.mk ((laws_toNode e6).leaf) ((laws_toNode e6).cap))))) else (some v4.2)
def laws_toNodeS (a1:List Node):Option (List Node) :=
 (mkL 32 (a1.length:Int) (Node.mk 0 (Vec.mk 0 0 0))).bind fun xs2=>whl (ZU2 a1) 9223372036854775807 (0,xs2)
theorem Zaf {a1:List Node} {r:(List Node)} (H:laws_toNodeS a1 = some r):Snd Tryz.prog Zwa [.sl .rd 4 (a1.map eNode)] (.sl .nw 4 (r.map eNode)) []:=by
 refine wS ZWf [.t 2] ?_
 unfold laws_toNodeS at H
 obtain ⟨xs2,h2,H⟩:=bB H
 refine wG [.u 6 (.ln _ _ fun _=>lm a1 eNode),.u 7 (.ms _ _ _ _ fun _=>ZV6 eNode h2)] fun q3=>?_
 refine wW (fun (v4:Int × (List Node))=>⟨[(0,.sl .rd 4 (a1.map eNode)),(3,.sref 7),(4,.int .i64 v4.1)],[],[],[(7,⟨4,v4.2.map eNode,false⟩)]⟩) H (fun v4 I m k4 H N13=>?_)
 unfold ZU2 at H
 refine wG [.u 10 (.ln _ _ fun _=>lm a1 eNode)] fun q5=>?_
 refine Wh_iH H (fun H=>?_) fun H=>?_
 .obtain ⟨e6,h6,H⟩:=bB H
  obtain ⟨e7,h7,H⟩:=bB H
  refine wG [.u 18 (.ix _ _ _ fun _=>Z0 eNode h6),.c 20 (Z4h e6),.u 21 (.ix _ _ _ fun _=>Z0 eNode h7),.u 1000000 (.sto _ _ _ (eNode (Node.mk ((laws_toNode e6).leaf) ((laws_toNode e6).cap))) _ (fun _=>gm eNode (Zw1 h7)) (fun _=>ZS4 ..))] fun _=>?_
  exact wT (N13 _ H)
 .refine wP ?_
  replace H:=sI H; subst H
  exact wN [(2,.f)] [] [] [7] [] [⟨_,ZQ v4.2⟩]
def ZNh:L :=
sR [.bx 1 (.t 0),.al 2 [.nl,.nl]]
 (sR [.al 3 [.nl,.nl]]
 (sR [fA 4 1 0,lD 5 4 1 false,cQ 6 Zg8 [5],fA 7 3 0,.st (.t 7) (.t 6) 1]
 (sR [fA 8 1 1,lD 9 8 1 false,cQ 10 Zwa [9],fA 11 3 1,.st (.t 11) (.t 10) 1]
 (sR [lD 12 3 2 true,.st (.t 2) (.t 12) 2]
 gR))))
def laws_toTopo (a1:Topo):Option Topo :=
 (laws_toIntS a1.parents).bind fun y2=>(laws_toNodeS a1.nodes).bind fun y3=>some (Topo.mk y2 y3)
theorem ZYg {a1:Topo} {r:Topo} (H:laws_toTopo a1 = some r):Snd Tryz.prog ZOb [ZF .rd a1] (ZF .nw r) []:=by
 refine wS ZNh [.c 2 2 true] ?_
 unfold laws_toTopo at H
 obtain ⟨y2,h2,H⟩:=bB H
 obtain ⟨y3,h3,H⟩:=bB H
 refine wG [.c 6 (Zha h2),.c 10 (Zaf h3)] fun _=>?_
 replace H:=sI H; subst H
 exact wN [(2,.d)] [(2,[])] [] [] [] [⟨_,nw_I y2⟩,⟨_,ZQ y3⟩]
def ZYh:L :=
.seq (rE 4 (kI 0))
 (sR [mV 5 1,mV 6 0,.ln 7 (.t 6),bI 8 .sub 5 7,mV 1 8]
 (.seq (sR [mV 9 1,.bi 10 .lss (.t 9) (kI 0)]
 (.cond (.t 10) (.seq (rE 4 (kI (-1)))
 gR)
 .skip))
 (sR [mV 11 1,mV 4 11]
 gR)))
def Ze5 (a1:List Int) (left2:Int):Option Int :=
 bif (decide ((w64 (left2 - (a1.length:Int))) < 0)) then (some (-1)) else (some (w64 (left2 - (a1.length:Int))))
theorem ZGd {a1:List Int} {left2:Int} {r:Int} (H:Ze5 a1 left2 = some r):Snd Tryz.prog Zs5 [.sl .rd 1 (a1.map eI),.int .i64 left2] (.int .i64 r) []:=by
 refine wS ZYh [.t 4] ?_
 unfold Ze5 at H
 refine wG [.u 7 (.ln _ _ fun _=>lm a1 eI)] fun q3=>?_
 refine Wh_iH H (fun H=>?_) fun H=>?_
 .refine wP ?_
  replace H:=sI H; subst H
  exact wE [(4,.d)]
 .refine wP ?_
  replace H:=sI H; subst H
  exact wE [(4,.d)]
def laws_szIntS (a1:List Int) (left2:Int):Int :=
 bif (decide ((w64 (left2 - (a1.length:Int))) < 0)) then ((-1)) else ((w64 (left2 - (a1.length:Int))))
theorem ZSj (a1:List Int) (left2:Int):Ze5 a1 left2 = some (laws_szIntS a1 left2):=by
 unfold Ze5 laws_szIntS
 first | rfl | simp only [Z7]
theorem Zja (a1:List Int) (left2:Int):Snd Tryz.prog Zs5 [.sl .rd 1 (a1.map eI),.int .i64 left2] (.int .i64 (laws_szIntS a1 left2)) []:=ZGd (ZSj a1 left2)
def Z1g:L :=
.seq (rE 4 (kI 0))
 (sR [mV 5 1,mV 6 0,.ln 7 (.t 6),bI 8 .sub 5 7,mV 1 8]
 (.seq (sR [mV 9 1,.bi 10 .lss (.t 9) (kI 0)]
 (.cond (.t 10) (.seq (rE 4 (kI (-1)))
 gR)
 .skip))
 (sR [mV 11 1,mV 4 11]
 gR)))
def Zo4 (a1:List Node) (left2:Int):Option Int :=
 bif (decide ((w64 (left2 - (a1.length:Int))) < 0)) then (some (-1)) else (some (w64 (left2 - (a1.length:Int))))
theorem Zrc {a1:List Node} {left2:Int} {r:Int} (H:Zo4 a1 left2 = some r):Snd Tryz.prog Zp7 [.sl .rd 4 (a1.map eNode),.int .i64 left2] (.int .i64 r) []:=by
 refine wS Z1g [.t 4] ?_
 unfold Zo4 at H
 refine wG [.u 7 (.ln _ _ fun _=>lm a1 eNode)] fun q3=>?_
 refine Wh_iH H (fun H=>?_) fun H=>?_
 .refine wP ?_
  replace H:=sI H; subst H
  exact wE [(4,.d)]
 .refine wP ?_
  replace H:=sI H; subst H
  exact wE [(4,.d)]
def laws_szNodeS (a1:List Node) (left2:Int):Int :=
 bif (decide ((w64 (left2 - (a1.length:Int))) < 0)) then ((-1)) else ((w64 (left2 - (a1.length:Int))))
theorem Zhh (a1:List Node) (left2:Int):Zo4 a1 left2 = some (laws_szNodeS a1 left2):=by
 unfold Zo4 laws_szNodeS
 first | rfl | simp only [Z7]
theorem Zlf (a1:List Node) (left2:Int):Snd Tryz.prog Zp7 [.sl .rd 4 (a1.map eNode),.int .i64 left2] (.int .i64 (laws_szNodeS a1 left2)) []:=Zrc (Zhh a1 left2)
def ZVh:L :=
sR [.bx 2 (.t 0),.mv 4 (kI 0)]
 (sR [fA 5 2 0,lD 6 5 1 false,mV 7 1,cQ 8 Zs5 [6,7],mV 1 8]
 (.seq (sR [mV 9 1,.bi 10 .lss (.t 9) (kI 0)]
 (.cond (.t 10) (.seq (rE 4 (kI (-1)))
 gR)
 .skip))
 (sR [fA 11 2 1,lD 12 11 1 false,mV 13 1,cQ 14 Zp7 [12,13],mV 1 14]
 (.seq (sR [mV 15 1,.bi 16 .lss (.t 15) (kI 0)]
 (.cond (.t 16) (.seq (rE 4 (kI (-1)))
 gR)
 .skip))
 (sR [mV 17 1,mV 4 17]
 gR)))))
def Zc5 (a1:Topo) (left2:Int):Option Int :=
 bif (decide ((laws_szIntS a1.parents left2) < 0)) then (some (-1)) else (bif (decide ((laws_szNodeS a1.nodes (laws_szIntS a1.parents left2)) < 0)) then (some (-1)) else (some (laws_szNodeS a1.nodes (laws_szIntS a1.parents left2))))
theorem ZCd {a1:Topo} {left2:Int} {r:Int} (H:Zc5 a1 left2 = some r):Snd Tryz.prog Zh8 [ZF .rd a1,.int .i64 left2] (.int .i64 r) []:=by
 refine wS ZVh [.t 4] ?_
 unfold Zc5 at H
 refine wG [.c 8 (Zja a1.parents left2)] fun _=>?_
 refine Wh_iH H (fun H=>?_) fun H=>?_
 .refine wP ?_
  replace H:=sI H; subst H
  exact wE [(4,.d)]
 .refine wG [.u 14 (.call _ _ _ _ _ (AEs.refl _) (fun _=>Zlf a1.nodes (laws_szIntS a1.parents left2)))] fun _=>?_
  refine Wh_iH H (fun H=>?_) fun H=>?_
  .refine wP ?_
   replace H:=sI H; subst H
   exact wE [(4,.d)]
  .refine wP ?_
   replace H:=sI H; subst H
   exact wE [(4,.d)]
def laws_szTopo (a1:Topo) (left2:Int):Int :=
 bif (decide ((laws_szIntS a1.parents left2) < 0)) then ((-1)) else (bif (decide ((laws_szNodeS a1.nodes (laws_szIntS a1.parents left2)) < 0)) then ((-1)) else ((laws_szNodeS a1.nodes (laws_szIntS a1.parents left2))))
theorem ZPj (a1:Topo) (left2:Int):Zc5 a1 left2 = some (laws_szTopo a1 left2):=by
 unfold Zc5 laws_szTopo
 first | rfl | simp only [Z7]
theorem Zch (a1:Topo) (left2:Int):Snd Tryz.prog Zh8 [ZF .rd a1,.int .i64 left2] (.int .i64 (laws_szTopo a1 left2)) []:=ZCd (ZPj a1 left2)
def Z6i:L :=
.seq (rE 4 (cB false))
 (.seq (sR [mV 6 0,.ln 7 (.t 6),mV 8 1,.ln 9 (.t 8),bI 10 .neq 7 9]
 (.cond (.t 10) (.seq (rE 4 (cB false))
 gR)
 .skip))
 (.seq (.seq (rE 5 (kI 0))
 (.blk 0 (.loop (.gw (.seq (sR [mV 11 5,mV 12 0,.ln 13 (.t 12),bI 14 .lss 11 13]
 (.cond (.t 14) .skip
 (.exit 0)))
 (.seq (.blk 1 (.seq (.rq 9 [mV 17 0,mV 18 5,iA 19 17 18 1,lD 20 19 1 false,mV 21 1,mV 22 5,iA 23 21 22 1,lD 24 23 1 false,bI 25 .neq 20 24])
 (.cond (.t 25) (.seq (rE 4 (cB false))
 gR)
 .skip)))
 (.reg [mV 15 5,.bi 16 .add (.t 15) (kI 1),mV 5 16])))))))
 (.seq (rE 4 (cB true))
 gR)))
def ZE3 (a1:List Int) (b2:List Int) (v4:Int) (k4:Int -> Option Bool):Option Bool :=
 bif (decide (v4 < (a1.length:Int))) then ((idx a1 v4).bind fun e6=>(idx b2 v4).bind fun e7=>bif (e6 != e7) then (some false) else (k4 (w64 (v4 + 1)))) else (some true)
def laws_eqIntS (a1:List Int) (b2:List Int):Option Bool :=
 bif ((a1.length:Int) != (b2.length:Int)) then (some false) else (whl (ZE3 a1 b2) 9223372036854775807 0)
theorem Zka {a1:List Int} {b2:List Int} {r:Bool} (H:laws_eqIntS a1 b2 = some r):Snd Tryz.prog Zm8 [.sl .rd 1 (a1.map eI),.sl .rd 1 (b2.map eI)] (.bool r) []:=by
 refine wS Z6i [.t 4] ?_
 unfold laws_eqIntS at H
 refine wG [.u 7 (.ln _ _ fun _=>lm a1 eI),.u 9 (.ln _ _ fun _=>lm b2 eI)] fun q3=>?_
 refine Wh_iH H (fun H=>?_) fun H=>?_
 .refine wP ?_
  replace H:=sI H; subst H
  exact wE [(4,.d)]
 .refine wP ?_
  refine wW (fun (v4:Int)=>⟨[(0,.sl .rd 1 (a1.map eI)),(1,.sl .rd 1 (b2.map eI)),(5,.int .i64 v4)],[],[],[]⟩) H (fun v4 I m k4 H N25=>?_)
  unfold ZE3 at H
  refine wG [.u 13 (.ln _ _ fun _=>lm a1 eI)] fun q5=>?_
  refine Wh_iH H (fun H=>?_) fun H=>?_
  .obtain ⟨e6,h6,H⟩:=bB H
   obtain ⟨e7,h7,H⟩:=bB H
   refine wG [.u 19 (.ix _ _ _ fun _=>Z0 eI h6),.u 23 (.ix _ _ _ fun _=>Z0 eI h7)] fun _=>?_
   refine Wh_iH H (fun H=>?_) fun H=>?_
   .refine wP ?_
    replace H:=sI H; subst H
    exact wE [(4,.d)]
   .refine wP ?_
    exact wT (N25 _ H)
  .refine wP ?_
   replace H:=sI H; subst H
   exact wE [(4,.d)]
def Z4i:L :=
sR [.bx 2 (.t 0),.bx 3 (.t 1),.mv 4 (cB false)]
 (.seq (sR [fA 5 2 0,lD 6 5 1 false,fA 7 3 0,lD 8 7 1 false,bI 9 .neq 6 8]
 (.cond (.t 9) (.seq (rE 4 (cB false))
 gR)
 .skip))
 (.seq (sR [fA 10 2 1,lD 11 10 3 true,fA 12 3 1,lD 13 12 3 true,cQ 14 Zk2 [11,13],.un 15 (.t 14)]
 (.cond (.t 15) (.seq (rE 4 (cB false))
 gR)
 .skip))
 (.seq (rE 4 (cB true))
 gR)))
def Zh5 (a1:Node) (b2:Node):Option Bool :=
 bif (a1.leaf != b2.leaf) then (some false) else (bif (!(laws_eqVec a1.cap b2.cap)) then (some false) else (some true))
theorem ZPd {a1:Node} {b2:Node} {r:Bool} (H:Zh5 a1 b2 = some r):Snd Tryz.prog Zl8 [eNode a1,eNode b2] (.bool r) []:=by
 refine wS Z4i [.t 4] ?_
 unfold Zh5 at H
 refine wP ?_
 refine Wh_iH H (fun H=>?_) fun H=>?_
 .refine wP ?_
  replace H:=sI H; subst H
  exact wE [(4,.d)]
 .refine wG [.c 14 (ZB3 a1.cap b2.cap)] fun _=>?_
  refine Wh_iH H (fun H=>?_) fun H=>?_
  .refine wP ?_
   replace H:=sI H; subst H
   exact wE [(4,.d)]
  .refine wP ?_
   replace H:=sI H; subst H
   exact wE [(4,.d)]
def laws_eqNode (a1:Node) (b2:Node):Bool :=
 bif (a1.leaf != b2.leaf) then (false) else (bif (!(laws_eqVec a1.cap b2.cap)) then (false) else (true))
theorem ZWj (a1:Node) (b2:Node):Zh5 a1 b2 = some (laws_eqNode a1 b2):=by
 unfold Zh5 laws_eqNode
 first | rfl | simp only [Z7]
theorem Zsh (a1:Node) (b2:Node):Snd Tryz.prog Zl8 [eNode a1,eNode b2] (.bool (laws_eqNode a1 b2)) []:=ZPd (ZWj a1 b2)
def Z6g:L :=
.seq (rE 4 (cB false))
 (.seq (sR [mV 6 0,.ln 7 (.t 6),mV 8 1,.ln 9 (.t 8),bI 10 .neq 7 9]
 (.cond (.t 10) (.seq (rE 4 (cB false))
 gR)
 .skip))
 (.seq (.seq (rE 5 (kI 0))
 (.blk 0 (.loop (.gw (.seq (sR [mV 11 5,mV 12 0,.ln 13 (.t 12),bI 14 .lss 11 13]
 (.cond (.t 14) .skip
 (.exit 0)))
 (.seq (.blk 1 (.seq (.rq 10 [mV 17 0,mV 18 5,iA 19 17 18 4,lD 20 19 4 true,mV 21 1,mV 22 5,iA 23 21 22 4,lD 24 23 4 true,cQ 25 Zl8 [20,24],.un 26 (.t 25)])
 (.cond (.t 26) (.seq (rE 4 (cB false))
 gR)
 .skip)))
 (.reg [mV 15 5,.bi 16 .add (.t 15) (kI 1),mV 5 16])))))))
 (.seq (rE 4 (cB true))
 gR)))
def ZY2 (a1:List Node) (b2:List Node) (v4:Int) (k4:Int -> Option Bool):Option Bool :=
 bif (decide (v4 < (a1.length:Int))) then ((idx a1 v4).bind fun e6=>(idx b2 v4).bind fun e7=>bif (!(laws_eqNode e6 e7)) then (some false) else (k4 (w64 (v4 + 1)))) else (some true)
def laws_eqNodeS (a1:List Node) (b2:List Node):Option Bool :=
 bif ((a1.length:Int) != (b2.length:Int)) then (some false) else (whl (ZY2 a1 b2) 9223372036854775807 0)
theorem Zsf {a1:List Node} {b2:List Node} {r:Bool} (H:laws_eqNodeS a1 b2 = some r):Snd Tryz.prog ZAa [.sl .rd 4 (a1.map eNode),.sl .rd 4 (b2.map eNode)] (.bool r) []:=by
 refine wS Z6g [.t 4] ?_
 unfold laws_eqNodeS at H
 refine wG [.u 7 (.ln _ _ fun _=>lm a1 eNode),.u 9 (.ln _ _ fun _=>lm b2 eNode)] fun q3=>?_
 refine Wh_iH H (fun H=>?_) fun H=>?_
 .refine wP ?_
  replace H:=sI H; subst H
  exact wE [(4,.d)]
 .refine wP ?_
  refine wW (fun (v4:Int)=>⟨[(0,.sl .rd 4 (a1.map eNode)),(1,.sl .rd 4 (b2.map eNode)),(5,.int .i64 v4)],[],[],[]⟩) H (fun v4 I m k4 H N25=>?_)
  unfold ZY2 at H
  refine wG [.u 13 (.ln _ _ fun _=>lm a1 eNode)] fun q5=>?_
  refine Wh_iH H (fun H=>?_) fun H=>?_
  .obtain ⟨e6,h6,H⟩:=bB H
   obtain ⟨e7,h7,H⟩:=bB H
   refine wG [.u 19 (.ix _ _ _ fun _=>Z0 eNode h6),.u 23 (.ix _ _ _ fun _=>Z0 eNode h7),.c 25 (Zsh e6 e7)] fun _=>?_
   refine Wh_iH H (fun H=>?_) fun H=>?_
   .refine wP ?_
    replace H:=sI H; subst H
    exact wE [(4,.d)]
   .refine wP ?_
    exact wT (N25 _ H)
  .refine wP ?_
   replace H:=sI H; subst H
   exact wE [(4,.d)]
def Z2i:L :=
sR [.bx 2 (.t 0),.bx 3 (.t 1),.mv 4 (cB false)]
 (.seq (sR [fA 5 2 0,lD 6 5 1 false,fA 7 3 0,lD 8 7 1 false,cQ 9 Zm8 [6,8],.un 10 (.t 9)]
 (.cond (.t 10) (.seq (rE 4 (cB false))
 gR)
 .skip))
 (.seq (sR [fA 11 2 1,lD 12 11 1 false,fA 13 3 1,lD 14 13 1 false,cQ 15 ZAa [12,14],.un 16 (.t 15)]
 (.cond (.t 16) (.seq (rE 4 (cB false))
 gR)
 .skip))
 (.seq (rE 4 (cB true))
 gR)))
def laws_eqTopo (a1:Topo) (b2:Topo):Option Bool :=
 (laws_eqIntS a1.parents b2.parents).bind fun b3=>bif (!b3) then (some false) else ((laws_eqNodeS a1.nodes b2.nodes).bind fun b4=>bif (!b4) then (some false) else (some true))
theorem Zoh {a1:Topo} {b2:Topo} {r:Bool} (H:laws_eqTopo a1 b2 = some r):Snd Tryz.prog ZVb [ZF .rd a1,ZF .rd b2] (.bool r) []:=by
 refine wS Z2i [.t 4] ?_
 unfold laws_eqTopo at H
 obtain ⟨b3,h3,H⟩:=bB H
 refine wG [.c 9 (Zka h3)] fun _=>?_
 refine Wh_iH H (fun H=>?_) fun H=>?_
 .refine wP ?_
  replace H:=sI H; subst H
  exact wE [(4,.d)]
 .obtain ⟨b4,h4,H⟩:=bB H
  refine wG [.c 15 (Zsf h4)] fun _=>?_
  refine Wh_iH H (fun H=>?_) fun H=>?_
  .refine wP ?_
   replace H:=sI H; subst H
   exact wE [(4,.d)]
  .refine wP ?_
   replace H:=sI H; subst H
   exact wE [(4,.d)]
def Z9k:L :=
sR [.bx 1 (.t 0),.al 2 [.int .i64 0,.int .i64 0,.int .i64 0,.int .i64 0,.int .i64 0,.int .i64 0,.int .i64 0,.int .i64 0,.int .i64 0,.int .i64 0,.int .i64 0]]
 (sR [.al 3 [.int .i64 0,.int .i64 0,.int .i64 0,.int .i64 0,.int .i64 0,.int .i64 0,.int .i64 0,.int .i64 0,.int .i64 0,.int .i64 0,.int .i64 0]]
 (sR [fA 4 1 0,lD 5 4 1 false,fA 6 3 0,.st (.t 6) (.t 5) 1]
 (sR [fA 7 1 1,lD 8 7 1 false,fA 9 3 1,.st (.t 9) (.t 8) 1]
 (sR [fA 10 1 2,lD 11 10 1 false,fA 12 3 2,.st (.t 12) (.t 11) 1]
 (sR [fA 13 1 3,lD 14 13 3 true,cQ 15 Zj2 [14],fA 16 3 3,.st (.t 16) (.t 15) 3]
 (sR [fA 17 1 6,lD 18 17 3 true,cQ 19 Zj2 [18],fA 20 3 6,.st (.t 20) (.t 19) 3]
 (sR [fA 21 1 9,lD 22 21 1 false,fA 23 3 9,.st (.t 23) (.t 22) 1]
 (sR [fA 24 1 10,lD 25 24 1 false,fA 26 3 10,.st (.t 26) (.t 25) 1]
 (sR [lD 27 3 11 true,.st (.t 2) (.t 27) 11]
 gR)))))))))
def Zh6 (a1:Job):Option Job :=
 some (Job.mk a1.id a1.prio a1.nodes (laws_toVec a1.need) (laws_toVec a1.lic) a1.wall a1.level)
theorem Zcf {a1:Job} {r:Job} (H:Zh6 a1 = some r):Snd Tryz.prog ZD6 [eJob a1] (eJob r) []:=by
 refine wS Z9k [.c 2 11 true] ?_
 unfold Zh6 at H
 refine wG [.c 15 (Zu3 a1.need),.c 19 (Zu3 a1.lic)] fun _=>?_
 replace H:=sI H; subst H
 exact wN [(2,.d)] [(2,[])] [] [] [] []
def laws_toJob (a1:Job):Job :=
 (Job.mk a1.id a1.prio a1.nodes (laws_toVec a1.need) (laws_toVec a1.lic) a1.wall a1.level)
theorem Zsl (a1:Job):Zh6 a1 = some (laws_toJob a1):=by
 unfold Zh6 laws_toJob
 first | rfl | simp only [Z7]
theorem Zdb (a1:Job):Snd Tryz.prog ZD6 [eJob a1] (eJob (laws_toJob a1)) []:=Zcf (Zsl a1)
def ZXf:L :=
sR [.mv 2 (.c (.nl))]
 (sR [mV 5 0,.ln 6 (.t 5),.ms 7 1 1 [.bool false] (.t 6),mV 3 7]
 (.seq (.seq (rE 4 (kI 0))
 (.blk 0 (.loop (.gw (.seq (sR [mV 8 4,mV 9 0,.ln 10 (.t 9),bI 11 .lss 8 10]
 (.cond (.t 11) .skip
 (.exit 0)))
 (.seq (.blk 1 (.reg [mV 14 3,mV 15 4,mV 16 0,mV 17 4,iA 18 16 17 1,lD 19 18 1 false,iA 20 14 15 1,.st (.t 20) (.t 19) 1]))
 (.reg [mV 12 4,.bi 13 .add (.t 12) (kI 1),mV 4 13])))))))
 (sR [mV 21 3,mV 2 21]
 gR)))
def ZV2 (a1:List Bool) (v4:Int × (List Bool)) (k4:(Int × (List Bool)) -> Option (List Bool)):Option (List Bool) :=
 bif (decide (v4.1 < (a1.length:Int))) then ((idx a1 v4.1).bind fun e6=>(idx v4.2 v4.1).bind fun _=>k4 ((w64 (v4.1 + 1)),(v4.2.set v4.1.toNat e6))) else (some v4.2)
def laws_toBoolS (a1:List Bool):Option (List Bool) :=
 (mkL 1 (a1.length:Int) false).bind fun xs2=>whl (ZV2 a1) 9223372036854775807 (0,xs2)
theorem Zff {a1:List Bool} {r:(List Bool)} (H:laws_toBoolS a1 = some r):Snd Tryz.prog Zxa [.sl .rd 1 (a1.map eBo)] (.sl .nw 1 (r.map eBo)) []:=by
 refine wS ZXf [.t 2] ?_
 unfold laws_toBoolS at H
 obtain ⟨xs2,h2,H⟩:=bB H
 refine wG [.u 6 (.ln _ _ fun _=>lm a1 eBo),.u 7 (.ms _ _ _ _ fun _=>ZV6 eBo h2)] fun q3=>?_
 refine wW (fun (v4:Int × (List Bool))=>⟨[(0,.sl .rd 1 (a1.map eBo)),(3,.sref 7),(4,.int .i64 v4.1)],[],[],[(7,⟨1,v4.2.map eBo,false⟩)]⟩) H (fun v4 I m k4 H N13=>?_)
 unfold ZV2 at H
 refine wG [.u 10 (.ln _ _ fun _=>lm a1 eBo)] fun q5=>?_
 refine Wh_iH H (fun H=>?_) fun H=>?_
 .obtain ⟨e6,h6,H⟩:=bB H
  obtain ⟨e7,h7,H⟩:=bB H
  refine wG [.u 18 (.ix _ _ _ fun _=>Z0 eBo h6),.u 20 (.ix _ _ _ fun _=>Z0 eBo h7),.u 1000000 (.sto _ _ _ (eBo e6) _ (fun _=>gm eBo (Zw1 h7)) (fun _=>ZS4 ..))] fun _=>?_
  exact wT (N13 _ H)
 .refine wP ?_
  replace H:=sI H; subst H
  exact wN [(2,.f)] [] [] [7] [] [⟨_,nw_Bo v4.2⟩]
def Z2g:L :=
.seq (rE 4 (kI 0))
 (sR [mV 5 1,mV 6 0,.ln 7 (.t 6),bI 8 .sub 5 7,mV 1 8]
 (.seq (sR [mV 9 1,.bi 10 .lss (.t 9) (kI 0)]
 (.cond (.t 10) (.seq (rE 4 (kI (-1)))
 gR)
 .skip))
 (sR [mV 11 1,mV 4 11]
 gR)))
def Zp4 (a1:List Bool) (left2:Int):Option Int :=
 bif (decide ((w64 (left2 - (a1.length:Int))) < 0)) then (some (-1)) else (some (w64 (left2 - (a1.length:Int))))
theorem Zsc {a1:List Bool} {left2:Int} {r:Int} (H:Zp4 a1 left2 = some r):Snd Tryz.prog Zq7 [.sl .rd 1 (a1.map eBo),.int .i64 left2] (.int .i64 r) []:=by
 refine wS Z2g [.t 4] ?_
 unfold Zp4 at H
 refine wG [.u 7 (.ln _ _ fun _=>lm a1 eBo)] fun q3=>?_
 refine Wh_iH H (fun H=>?_) fun H=>?_
 .refine wP ?_
  replace H:=sI H; subst H
  exact wE [(4,.d)]
 .refine wP ?_
  replace H:=sI H; subst H
  exact wE [(4,.d)]
def laws_szBoolS (a1:List Bool) (left2:Int):Int :=
 bif (decide ((w64 (left2 - (a1.length:Int))) < 0)) then ((-1)) else ((w64 (left2 - (a1.length:Int))))
theorem Znh (a1:List Bool) (left2:Int):Zp4 a1 left2 = some (laws_szBoolS a1 left2):=by
 unfold Zp4 laws_szBoolS
 first | rfl | simp only [Z7]
theorem Zmf (a1:List Bool) (left2:Int):Snd Tryz.prog Zq7 [.sl .rd 1 (a1.map eBo),.int .i64 left2] (.int .i64 (laws_szBoolS a1 left2)) []:=Zsc (Znh a1 left2)
def Z7g:L :=
.seq (rE 4 (cB false))
 (.seq (sR [mV 6 0,.ln 7 (.t 6),mV 8 1,.ln 9 (.t 8),bI 10 .neq 7 9]
 (.cond (.t 10) (.seq (rE 4 (cB false))
 gR)
 .skip))
 (.seq (.seq (rE 5 (kI 0))
 (.blk 0 (.loop (.gw (.seq (sR [mV 11 5,mV 12 0,.ln 13 (.t 12),bI 14 .lss 11 13]
 (.cond (.t 14) .skip
 (.exit 0)))
 (.seq (.blk 1 (.seq (.rq 9 [mV 17 0,mV 18 5,iA 19 17 18 1,lD 20 19 1 false,mV 21 1,mV 22 5,iA 23 21 22 1,lD 24 23 1 false,.eb 25 true (.t 20) (.t 24)])
 (.cond (.t 25) (.seq (rE 4 (cB false))
 gR)
 .skip)))
 (.reg [mV 15 5,.bi 16 .add (.t 15) (kI 1),mV 5 16])))))))
 (.seq (rE 4 (cB true))
 gR)))
def ZZ2 (a1:List Bool) (b2:List Bool) (v4:Int) (k4:Int -> Option Bool):Option Bool :=
 bif (decide (v4 < (a1.length:Int))) then ((idx a1 v4).bind fun e6=>(idx b2 v4).bind fun e7=>bif (!(e6 == e7)) then (some false) else (k4 (w64 (v4 + 1)))) else (some true)
def laws_eqBoolS (a1:List Bool) (b2:List Bool):Option Bool :=
 bif ((a1.length:Int) != (b2.length:Int)) then (some false) else (whl (ZZ2 a1 b2) 9223372036854775807 0)
theorem Zyf {a1:List Bool} {b2:List Bool} {r:Bool} (H:laws_eqBoolS a1 b2 = some r):Snd Tryz.prog ZBa [.sl .rd 1 (a1.map eBo),.sl .rd 1 (b2.map eBo)] (.bool r) []:=by
 refine wS Z7g [.t 4] ?_
 unfold laws_eqBoolS at H
 refine wG [.u 7 (.ln _ _ fun _=>lm a1 eBo),.u 9 (.ln _ _ fun _=>lm b2 eBo)] fun q3=>?_
 refine Wh_iH H (fun H=>?_) fun H=>?_
 .refine wP ?_
  replace H:=sI H; subst H
  exact wE [(4,.d)]
 .refine wP ?_
  refine wW (fun (v4:Int)=>⟨[(0,.sl .rd 1 (a1.map eBo)),(1,.sl .rd 1 (b2.map eBo)),(5,.int .i64 v4)],[],[],[]⟩) H (fun v4 I m k4 H N25=>?_)
  unfold ZZ2 at H
  refine wG [.u 13 (.ln _ _ fun _=>lm a1 eBo)] fun q5=>?_
  refine Wh_iH H (fun H=>?_) fun H=>?_
  .obtain ⟨e6,h6,H⟩:=bB H
   obtain ⟨e7,h7,H⟩:=bB H
   refine wG [.u 19 (.ix _ _ _ fun _=>Z0 eBo h6),.u 23 (.ix _ _ _ fun _=>Z0 eBo h7)] fun _=>?_
   refine Wh_iH H (fun H=>?_) fun H=>?_
   .refine wP ?_
    replace H:=sI H; subst H
    exact wE [(4,.d)]
   .refine wP ?_
    exact wT (N25 _ H)
  .refine wP ?_
   replace H:=sI H; subst H
   exact wE [(4,.d)]
def ZQh:L :=
sR [.mv 2 (.c (.nl))]
 (sR [mV 5 0,.ln 6 (.t 5),.ms 7 11 88 [.int .i64 0,.int .i64 0,.int .i64 0,.int .i64 0,.int .i64 0,.int .i64 0,.int .i64 0,.int .i64 0,.int .i64 0,.int .i64 0,.int .i64 0] (.t 6),mV 3 7]
 (.seq (.seq (rE 4 (kI 0))
 (.blk 0 (.loop (.gw (.seq (sR [mV 8 4,mV 9 0,.ln 10 (.t 9),bI 11 .lss 8 10]
 (.cond (.t 11) .skip
 (.exit 0)))
 (.seq (.blk 1 (.reg [mV 14 3,mV 15 4,mV 16 0,mV 17 4,iA 18 16 17 11,lD 19 18 11 true,cQ 20 ZD6 [19],iA 21 14 15 11,.st (.t 21) (.t 20) 11]))
 (.reg [mV 12 4,.bi 13 .add (.t 12) (kI 1),mV 4 13])))))))
 (sR [mV 22 3,mV 2 22]
 gR)))
def Zw3 (a1:List Job) (v4:Int × (List Job)) (k4:(Int × (List Job)) -> Option (List Job)):Option (List Job) :=
 bif (decide (v4.1 < (a1.length:Int))) then ((idx a1 v4.1).bind fun e6=>(idx v4.2 v4.1).bind fun _=>k4 ((w64 (v4.1 + 1)),(v4.2.set v4.1.toNat (Job.mk ((laws_toJob e6).id) ((laws_toJob e6).prio) ((laws_toJob e6).nodes) ((laws_toJob e6).need) ((laws_toJob e6).lic) ((laws_toJob e6).wall) ((laws_toJob e6).level))))) else (some v4.2)
def laws_toJobS (a1:List Job):Option (List Job) :=
 (mkL 88 (a1.length:Int) (Job.mk 0 0 0 (Vec.mk 0 0 0) (Vec.mk 0 0 0) 0 0)).bind fun xs2=>whl (Zw3 a1) 9223372036854775807 (0,xs2)
theorem Z5h {a1:List Job} {r:(List Job)} (H:laws_toJobS a1 = some r):Snd Tryz.prog ZQb [.sl .rd 11 (a1.map eJob)] (.sl .nw 11 (r.map eJob)) []:=by
 refine wS ZQh [.t 2] ?_
 unfold laws_toJobS at H
 obtain ⟨xs2,h2,H⟩:=bB H
 refine wG [.u 6 (.ln _ _ fun _=>lm a1 eJob),.u 7 (.ms _ _ _ _ fun _=>ZV6 eJob h2)] fun q3=>?_
 refine wW (fun (v4:Int × (List Job))=>⟨[(0,.sl .rd 11 (a1.map eJob)),(3,.sref 7),(4,.int .i64 v4.1)],[],[],[(7,⟨11,v4.2.map eJob,false⟩)]⟩) H (fun v4 I m k4 H N13=>?_)
 unfold Zw3 at H
 refine wG [.u 10 (.ln _ _ fun _=>lm a1 eJob)] fun q5=>?_
 refine Wh_iH H (fun H=>?_) fun H=>?_
 .obtain ⟨e6,h6,H⟩:=bB H
  obtain ⟨e7,h7,H⟩:=bB H
  refine wG [.u 18 (.ix _ _ _ fun _=>Z0 eJob h6),.c 20 (Zdb e6),.u 21 (.ix _ _ _ fun _=>Z0 eJob h7),.u 1000000 (.sto _ _ _ (eJob (Job.mk ((laws_toJob e6).id) ((laws_toJob e6).prio) ((laws_toJob e6).nodes) ((laws_toJob e6).need) ((laws_toJob e6).lic) ((laws_toJob e6).wall) ((laws_toJob e6).level))) _ (fun _=>gm eJob (Zw1 h7)) (fun _=>ZS4 ..))] fun _=>?_
  exact wT (N13 _ H)
 .refine wP ?_
  replace H:=sI H; subst H
  exact wN [(2,.f)] [] [] [7] [] [⟨_,Zjl v4.2⟩]
def ZXh:L :=
.seq (rE 4 (kI 0))
 (sR [mV 5 1,mV 6 0,.ln 7 (.t 6),bI 8 .sub 5 7,mV 1 8]
 (.seq (sR [mV 9 1,.bi 10 .lss (.t 9) (kI 0)]
 (.cond (.t 10) (.seq (rE 4 (kI (-1)))
 gR)
 .skip))
 (sR [mV 11 1,mV 4 11]
 gR)))
def Zd5 (a1:List Job) (left2:Int):Option Int :=
 bif (decide ((w64 (left2 - (a1.length:Int))) < 0)) then (some (-1)) else (some (w64 (left2 - (a1.length:Int))))
theorem ZFd {a1:List Job} {left2:Int} {r:Int} (H:Zd5 a1 left2 = some r):Snd Tryz.prog Zi8 [.sl .rd 11 (a1.map eJob),.int .i64 left2] (.int .i64 r) []:=by
 refine wS ZXh [.t 4] ?_
 unfold Zd5 at H
 refine wG [.u 7 (.ln _ _ fun _=>lm a1 eJob)] fun q3=>?_
 refine Wh_iH H (fun H=>?_) fun H=>?_
 .refine wP ?_
  replace H:=sI H; subst H
  exact wE [(4,.d)]
 .refine wP ?_
  replace H:=sI H; subst H
  exact wE [(4,.d)]
def laws_szJobS (a1:List Job) (left2:Int):Int :=
 bif (decide ((w64 (left2 - (a1.length:Int))) < 0)) then ((-1)) else ((w64 (left2 - (a1.length:Int))))
theorem ZRj (a1:List Job) (left2:Int):Zd5 a1 left2 = some (laws_szJobS a1 left2):=by
 unfold Zd5 laws_szJobS
 first | rfl | simp only [Z7]
theorem Zih (a1:List Job) (left2:Int):Snd Tryz.prog Zi8 [.sl .rd 11 (a1.map eJob),.int .i64 left2] (.int .i64 (laws_szJobS a1 left2)) []:=ZFd (ZRj a1 left2)
def Zfk:L :=
sR [.bx 2 (.t 0),.bx 3 (.t 1),.mv 4 (cB false)]
 (.seq (sR [fA 5 2 0,lD 6 5 1 false,fA 7 3 0,lD 8 7 1 false,bI 9 .neq 6 8]
 (.cond (.t 9) (.seq (rE 4 (cB false))
 gR)
 .skip))
 (.seq (sR [fA 10 2 1,lD 11 10 1 false,fA 12 3 1,lD 13 12 1 false,bI 14 .neq 11 13]
 (.cond (.t 14) (.seq (rE 4 (cB false))
 gR)
 .skip))
 (.seq (sR [fA 15 2 2,lD 16 15 1 false,fA 17 3 2,lD 18 17 1 false,bI 19 .neq 16 18]
 (.cond (.t 19) (.seq (rE 4 (cB false))
 gR)
 .skip))
 (.seq (sR [fA 20 2 3,lD 21 20 3 true,fA 22 3 3,lD 23 22 3 true,cQ 24 Zk2 [21,23],.un 25 (.t 24)]
 (.cond (.t 25) (.seq (rE 4 (cB false))
 gR)
 .skip))
 (.seq (sR [fA 26 2 6,lD 27 26 3 true,fA 28 3 6,lD 29 28 3 true,cQ 30 Zk2 [27,29],.un 31 (.t 30)]
 (.cond (.t 31) (.seq (rE 4 (cB false))
 gR)
 .skip))
 (.seq (sR [fA 32 2 9,lD 33 32 1 false,fA 34 3 9,lD 35 34 1 false,bI 36 .neq 33 35]
 (.cond (.t 36) (.seq (rE 4 (cB false))
 gR)
 .skip))
 (.seq (sR [fA 37 2 10,lD 38 37 1 false,fA 39 3 10,lD 40 39 1 false,bI 41 .neq 38 40]
 (.cond (.t 41) (.seq (rE 4 (cB false))
 gR)
 .skip))
 (.seq (rE 4 (cB true))
 gR))))))))
def Zm6 (a1:Job) (b2:Job):Option Bool :=
 bif (a1.id != b2.id) then (some false) else (bif (a1.prio != b2.prio) then (some false) else (bif (a1.nodes != b2.nodes) then (some false) else (bif (!(laws_eqVec a1.need b2.need)) then (some false) else (bif (!(laws_eqVec a1.lic b2.lic)) then (some false) else (bif (a1.wall != b2.wall) then (some false) else (bif (a1.level != b2.level) then (some false) else (some true)))))))
theorem Ztf {a1:Job} {b2:Job} {r:Bool} (H:Zm6 a1 b2 = some r):Snd Tryz.prog ZE6 [eJob a1,eJob b2] (.bool r) []:=by
 refine wS Zfk [.t 4] ?_
 unfold Zm6 at H
 refine wP ?_
 refine Wh_iH H (fun H=>?_) fun H=>?_
 .refine wP ?_
  replace H:=sI H; subst H
  exact wE [(4,.d)]
 .refine wP ?_
  refine Wh_iH H (fun H=>?_) fun H=>?_
  .refine wP ?_
   replace H:=sI H; subst H
   exact wE [(4,.d)]
  .refine wP ?_
   refine Wh_iH H (fun H=>?_) fun H=>?_
   .refine wP ?_
    replace H:=sI H; subst H
    exact wE [(4,.d)]
   .refine wG [.c 24 (ZB3 a1.need b2.need)] fun _=>?_
    refine Wh_iH H (fun H=>?_) fun H=>?_
    .refine wP ?_
     replace H:=sI H; subst H
     exact wE [(4,.d)]
    .refine wG [.c 30 (ZB3 a1.lic b2.lic)] fun _=>?_
     refine Wh_iH H (fun H=>?_) fun H=>?_
     .refine wP ?_
      replace H:=sI H; subst H
      exact wE [(4,.d)]
     .refine wP ?_
      refine Wh_iH H (fun H=>?_) fun H=>?_
      .refine wP ?_
       replace H:=sI H; subst H
       exact wE [(4,.d)]
      .refine wP ?_
       refine Wh_iH H (fun H=>?_) fun H=>?_
       .refine wP ?_
        replace H:=sI H; subst H
        exact wE [(4,.d)]
       .refine wP ?_
        replace H:=sI H; subst H
        exact wE [(4,.d)]
def laws_eqJob (a1:Job) (b2:Job):Bool :=
 bif (a1.id != b2.id) then (false) else (bif (a1.prio != b2.prio) then (false) else (bif (a1.nodes != b2.nodes) then (false) else (bif (!(laws_eqVec a1.need b2.need)) then (false) else (bif (!(laws_eqVec a1.lic b2.lic)) then (false) else (bif (a1.wall != b2.wall) then (false) else (bif (a1.level != b2.level) then (false) else (true)))))))
theorem Zxl (a1:Job) (b2:Job):Zm6 a1 b2 = some (laws_eqJob a1 b2):=by
 unfold Zm6 laws_eqJob
 first | rfl | simp only [Z7]
theorem Zjb (a1:Job) (b2:Job):Snd Tryz.prog ZE6 [eJob a1,eJob b2] (.bool (laws_eqJob a1 b2)) []:=Ztf (Zxl a1 b2)
def Z5i:L :=
.seq (rE 4 (cB false))
 (.seq (sR [mV 6 0,.ln 7 (.t 6),mV 8 1,.ln 9 (.t 8),bI 10 .neq 7 9]
 (.cond (.t 10) (.seq (rE 4 (cB false))
 gR)
 .skip))
 (.seq (.seq (rE 5 (kI 0))
 (.blk 0 (.loop (.gw (.seq (sR [mV 11 5,mV 12 0,.ln 13 (.t 12),bI 14 .lss 11 13]
 (.cond (.t 14) .skip
 (.exit 0)))
 (.seq (.blk 1 (.seq (.rq 10 [mV 17 0,mV 18 5,iA 19 17 18 11,lD 20 19 11 true,mV 21 1,mV 22 5,iA 23 21 22 11,lD 24 23 11 true,cQ 25 ZE6 [20,24],.un 26 (.t 25)])
 (.cond (.t 26) (.seq (rE 4 (cB false))
 gR)
 .skip)))
 (.reg [mV 15 5,.bi 16 .add (.t 15) (kI 1),mV 5 16])))))))
 (.seq (rE 4 (cB true))
 gR)))
def ZD3 (a1:List Job) (b2:List Job) (v4:Int) (k4:Int -> Option Bool):Option Bool :=
 bif (decide (v4 < (a1.length:Int))) then ((idx a1 v4).bind fun e6=>(idx b2 v4).bind fun e7=>bif (!(laws_eqJob e6 e7)) then (some false) else (k4 (w64 (v4 + 1)))) else (some true)
def laws_eqJobS (a1:List Job) (b2:List Job):Option Bool :=
 bif ((a1.length:Int) != (b2.length:Int)) then (some false) else (whl (ZD3 a1 b2) 9223372036854775807 0)
theorem Zth {a1:List Job} {b2:List Job} {r:Bool} (H:laws_eqJobS a1 b2 = some r):Snd Tryz.prog ZXb [.sl .rd 11 (a1.map eJob),.sl .rd 11 (b2.map eJob)] (.bool r) []:=by
 refine wS Z5i [.t 4] ?_
 unfold laws_eqJobS at H
 refine wG [.u 7 (.ln _ _ fun _=>lm a1 eJob),.u 9 (.ln _ _ fun _=>lm b2 eJob)] fun q3=>?_
 refine Wh_iH H (fun H=>?_) fun H=>?_
 .refine wP ?_
  replace H:=sI H; subst H
  exact wE [(4,.d)]
 .refine wP ?_
  refine wW (fun (v4:Int)=>⟨[(0,.sl .rd 11 (a1.map eJob)),(1,.sl .rd 11 (b2.map eJob)),(5,.int .i64 v4)],[],[],[]⟩) H (fun v4 I m k4 H N25=>?_)
  unfold ZD3 at H
  refine wG [.u 13 (.ln _ _ fun _=>lm a1 eJob)] fun q5=>?_
  refine Wh_iH H (fun H=>?_) fun H=>?_
  .obtain ⟨e6,h6,H⟩:=bB H
   obtain ⟨e7,h7,H⟩:=bB H
   refine wG [.u 19 (.ix _ _ _ fun _=>Z0 eJob h6),.u 23 (.ix _ _ _ fun _=>Z0 eJob h7),.c 25 (Zjb e6 e7)] fun _=>?_
   refine Wh_iH H (fun H=>?_) fun H=>?_
   .refine wP ?_
    replace H:=sI H; subst H
    exact wE [(4,.d)]
   .refine wP ?_
    exact wT (N25 _ H)
  .refine wP ?_
   replace H:=sI H; subst H
   exact wE [(4,.d)]
def Z8k:L :=
sR [.bx 1 (.t 0),.al 2 [.int .i64 0,.int .i64 0,.int .i64 0,.int .i64 0,.int .i64 0,.int .i64 0,.int .i64 0,.int .i64 0,.int .i64 0,.int .i64 0,.int .i64 0,.int .i64 0,.nl]]
 (sR [.al 3 [.int .i64 0,.int .i64 0,.int .i64 0,.int .i64 0,.int .i64 0,.int .i64 0,.int .i64 0,.int .i64 0,.int .i64 0,.int .i64 0,.int .i64 0,.int .i64 0,.nl]]
 (sR [fA 4 1 0,lD 5 4 11 true,cQ 6 ZD6 [5],fA 7 3 0,.st (.t 7) (.t 6) 11]
 (sR [fA 8 1 11,lD 9 8 1 false,fA 10 3 11,.st (.t 10) (.t 9) 1]
 (sR [fA 11 1 12,lD 12 11 1 false,cQ 13 Zg8 [12],fA 14 3 12,.st (.t 14) (.t 13) 1]
 (sR [lD 15 3 13 true,.st (.t 2) (.t 15) 13]
 gR)))))
def laws_toRun (a1:Run):Option Run :=
 (laws_toIntS a1.nodes).bind fun y2=>some (Run.mk (Job.mk ((laws_toJob a1.job).id) ((laws_toJob a1.job).prio) ((laws_toJob a1.job).nodes) ((laws_toJob a1.job).need) ((laws_toJob a1.job).lic) ((laws_toJob a1.job).wall) ((laws_toJob a1.job).level)) a1.t y2)
theorem ZKj {a1:Run} {r:Run} (H:laws_toRun a1 = some r):Snd Tryz.prog Zcd [eRunT .rd a1] (eRunT .nw r) []:=by
 refine wS Z8k [.c 2 13 true] ?_
 unfold laws_toRun at H
 obtain ⟨y2,h2,H⟩:=bB H
 refine wG [.c 6 (Zdb a1.job),.c 13 (Zha h2)] fun _=>?_
 replace H:=sI H; subst H
 exact wN [(2,.d)] [(2,[])] [] [] [] [⟨_,nw_I y2⟩]
def ZOh:L :=
sR [.mv 2 (.c (.nl))]
 (sR [mV 5 0,.ln 6 (.t 5),.ms 7 13 120 [.int .i64 0,.int .i64 0,.int .i64 0,.int .i64 0,.int .i64 0,.int .i64 0,.int .i64 0,.int .i64 0,.int .i64 0,.int .i64 0,.int .i64 0,.int .i64 0,.sl .nw 1 []] (.t 6),mV 3 7]
 (.seq (.seq (rE 4 (kI 0))
 (.blk 0 (.loop (.gw (.seq (sR [mV 8 4,mV 9 0,.ln 10 (.t 9),bI 11 .lss 8 10]
 (.cond (.t 11) .skip
 (.exit 0)))
 (.seq (.blk 1 (.reg [mV 14 3,mV 15 4,mV 16 0,mV 17 4,iA 18 16 17 13,lD 19 18 13 true,cQ 20 Zcd [19],iA 21 14 15 13,.st (.t 21) (.t 20) 13]))
 (.reg [mV 12 4,.bi 13 .add (.t 12) (kI 1),mV 4 13])))))))
 (sR [mV 22 3,mV 2 22]
 gR)))
def Zv3 (a1:List Run) (v4:Int × (List Run)) (k4:(Int × (List Run)) -> Option (List Run)):Option (List Run) :=
 bif (decide (v4.1 < (a1.length:Int))) then ((idx a1 v4.1).bind fun e6=>(laws_toRun e6).bind fun y7=>(idx v4.2 v4.1).bind fun _=>k4 ((w64 (v4.1 + 1)),(v4.2.set v4.1.toNat y7))) else (some v4.2)
def laws_toRunS (a1:List Run):Option (List Run) :=
 (mkL 120 (a1.length:Int) (Run.mk (Job.mk 0 0 0 (Vec.mk 0 0 0) (Vec.mk 0 0 0) 0 0) 0 [])).bind fun xs2=>whl (Zv3 a1) 9223372036854775807 (0,xs2)
theorem Z0h {a1:List Run} {r:(List Run)} (H:laws_toRunS a1 = some r):Snd Tryz.prog ZPb [.sl .rd 13 (a1.map (eRunT .rd))] (.sl .nw 13 (r.map (eRunT .nw))) []:=by
 refine wS ZOh [.t 2] ?_
 unfold laws_toRunS at H
 obtain ⟨xs2,h2,H⟩:=bB H
 refine wG [.u 6 (.ln _ _ fun _=>lm a1 (eRunT .rd)),.u 7 (.ms _ _ _ _ fun _=>ZV6 (eRunT .nw) h2)] fun q3=>?_
 refine wW (fun (v4:Int × (List Run))=>⟨[(0,.sl .rd 13 (a1.map (eRunT .rd))),(3,.sref 7),(4,.int .i64 v4.1)],[],[],[(7,⟨13,v4.2.map (eRunT .nw),false⟩)]⟩) H (fun v4 I m k4 H N13=>?_)
 unfold Zv3 at H
 refine wG [.u 10 (.ln _ _ fun _=>lm a1 (eRunT .rd))] fun q5=>?_
 refine Wh_iH H (fun H=>?_) fun H=>?_
 .obtain ⟨e6,h6,H⟩:=bB H
  obtain ⟨y7,h7,H⟩:=bB H
  obtain ⟨e8,h8,H⟩:=bB H
  refine wG [.u 18 (.ix _ _ _ fun _=>Z0 (eRunT .rd) h6),.c 20 (ZKj h7),.u 21 (.ix _ _ _ fun _=>Z0 (eRunT .nw) h8),.u 1000000 (.sto _ _ _ (eRunT .nw y7) _ (fun _=>gm (eRunT .nw) (Zw1 h8)) (fun _=>ZS4 ..))] fun _=>?_
  exact wT (N13 _ H)
 .refine wP ?_
  replace H:=sI H; subst H
  exact wN [(2,.f)] [] [] [7] [] [⟨_,Zbm v4.2⟩]
def Zak:L :=
sR [.bx 1 (.t 0),.al 2 [.int .i64 0,.int .i64 0,.int .i64 0]]
 (sR [.al 3 [.int .i64 0,.int .i64 0,.int .i64 0]]
 (sR [fA 4 1 0,lD 5 4 1 false,fA 6 3 0,.st (.t 6) (.t 5) 1]
 (sR [fA 7 1 1,lD 8 7 1 false,fA 9 3 1,.st (.t 9) (.t 8) 1]
 (sR [fA 10 1 2,lD 11 10 1 false,fA 12 3 2,.st (.t 12) (.t 11) 1]
 (sR [lD 13 3 3 true,.st (.t 2) (.t 13) 3]
 gR)))))
def Zi6 (a1:End):Option End :=
 some a1
theorem Zdf {a1:End} {r:End} (H:Zi6 a1 = some r):Snd Tryz.prog ZJ9 [eEnd a1] (eEnd r) []:=by
 refine wS Zak [.c 2 3 true] ?_
 unfold Zi6 at H
 refine wP ?_
 replace H:=sI H; subst H
 exact wN [(2,.d)] [(2,[])] [] [] [] []
def laws_toEnd (a1:End):End :=
 a1
theorem Ztl (a1:End):Zi6 a1 = some (laws_toEnd a1):=by
 unfold Zi6 laws_toEnd
 first | rfl | simp only [Z7]
theorem ZNj (a1:End):Snd Tryz.prog ZJ9 [eEnd a1] (eEnd (laws_toEnd a1)) []:=Zdf (Ztl a1)
def ZSh:L :=
sR [.mv 2 (.c (.nl))]
 (sR [mV 5 0,.ln 6 (.t 5),.ms 7 3 24 [.int .i64 0,.int .i64 0,.int .i64 0] (.t 6),mV 3 7]
 (.seq (.seq (rE 4 (kI 0))
 (.blk 0 (.loop (.gw (.seq (sR [mV 8 4,mV 9 0,.ln 10 (.t 9),bI 11 .lss 8 10]
 (.cond (.t 11) .skip
 (.exit 0)))
 (.seq (.blk 1 (.reg [mV 14 3,mV 15 4,mV 16 0,mV 17 4,iA 18 16 17 3,lD 19 18 3 true,cQ 20 ZJ9 [19],iA 21 14 15 3,.st (.t 21) (.t 20) 3]))
 (.reg [mV 12 4,.bi 13 .add (.t 12) (kI 1),mV 4 13])))))))
 (sR [mV 22 3,mV 2 22]
 gR)))
def Zy3 (a1:List End) (v4:Int × (List End)) (k4:(Int × (List End)) -> Option (List End)):Option (List End) :=
 bif (decide (v4.1 < (a1.length:Int))) then ((idx a1 v4.1).bind fun e6=>(idx v4.2 v4.1).bind fun _=>k4 ((w64 (v4.1 + 1)),(v4.2.set v4.1.toNat (laws_toEnd e6)))) else (some v4.2)
def laws_toEndS (a1:List End):Option (List End) :=
 (mkL 24 (a1.length:Int) (End.mk 0 0 0)).bind fun xs2=>whl (Zy3 a1) 9223372036854775807 (0,xs2)
theorem Z7h {a1:List End} {r:(List End)} (H:laws_toEndS a1 = some r):Snd Tryz.prog ZRb [.sl .rd 3 (a1.map eEnd)] (.sl .nw 3 (r.map eEnd)) []:=by
 refine wS ZSh [.t 2] ?_
 unfold laws_toEndS at H
 obtain ⟨xs2,h2,H⟩:=bB H
 refine wG [.u 6 (.ln _ _ fun _=>lm a1 eEnd),.u 7 (.ms _ _ _ _ fun _=>ZV6 eEnd h2)] fun q3=>?_
 refine wW (fun (v4:Int × (List End))=>⟨[(0,.sl .rd 3 (a1.map eEnd)),(3,.sref 7),(4,.int .i64 v4.1)],[],[],[(7,⟨3,v4.2.map eEnd,false⟩)]⟩) H (fun v4 I m k4 H N13=>?_)
 unfold Zy3 at H
 refine wG [.u 10 (.ln _ _ fun _=>lm a1 eEnd)] fun q5=>?_
 refine Wh_iH H (fun H=>?_) fun H=>?_
 .obtain ⟨e6,h6,H⟩:=bB H
  obtain ⟨e7,h7,H⟩:=bB H
  refine wG [.u 18 (.ix _ _ _ fun _=>Z0 eEnd h6),.c 20 (ZNj e6),.u 21 (.ix _ _ _ fun _=>Z0 eEnd h7),.u 1000000 (.sto _ _ _ (eEnd (laws_toEnd e6)) _ (fun _=>gm eEnd (Zw1 h7)) (fun _=>ZS4 ..))] fun _=>?_
  exact wT (N13 _ H)
 .refine wP ?_
  replace H:=sI H; subst H
  exact wN [(2,.f)] [] [] [7] [] [⟨_,Z3o v4.2⟩]
def ZTf:L :=
sR [.bx 1 (.t 0),.al 2 [.nl,.nl,.nl,.int .i64 0,.int .i64 0,.int .i64 0,.int .i64 0,.int .i64 0,.nl,.nl,.nl]]
 (sR [.al 3 [.nl,.nl,.nl,.int .i64 0,.int .i64 0,.int .i64 0,.int .i64 0,.int .i64 0,.nl,.nl,.nl]]
 (sR [fA 4 1 0,lD 5 4 2 true,cQ 6 ZOb [5],fA 7 3 0,.st (.t 7) (.t 6) 2]
 (sR [fA 8 1 2,lD 9 8 1 false,cQ 10 Zxa [9],fA 11 3 2,.st (.t 11) (.t 10) 1]
 (sR [fA 12 1 3,lD 13 12 3 true,cQ 14 Zj2 [13],fA 15 3 3,.st (.t 15) (.t 14) 3]
 (sR [fA 16 1 6,lD 17 16 1 false,fA 18 3 6,.st (.t 18) (.t 17) 1]
 (sR [fA 19 1 7,lD 20 19 1 false,fA 21 3 7,.st (.t 21) (.t 20) 1]
 (sR [fA 22 1 8,lD 23 22 1 false,cQ 24 ZQb [23],fA 25 3 8,.st (.t 25) (.t 24) 1]
 (sR [fA 26 1 9,lD 27 26 1 false,cQ 28 ZPb [27],fA 29 3 9,.st (.t 29) (.t 28) 1]
 (sR [fA 30 1 10,lD 31 30 1 false,cQ 32 ZRb [31],fA 33 3 10,.st (.t 33) (.t 32) 1]
 (sR [lD 34 3 11 true,.st (.t 2) (.t 34) 11]
 gR))))))))))
def laws_toState (a1:State):Option State :=
 (laws_toTopo a1.topo).bind fun y2=>(laws_toBoolS a1.up).bind fun y3=>(laws_toJobS a1.queue).bind fun y4=>(laws_toRunS a1.runs).bind fun y5=>(laws_toEndS a1.ends).bind fun y6=>some (State.mk y2 y3 (laws_toVec a1.lic) a1.depth a1.now y4 y5 y6)
theorem Z6f {a1:State} {r:State} (H:laws_toState a1 = some r):Snd Tryz.prog Zva [Z31 .rd a1] (Z31 .nw r) []:=by
 refine wS ZTf [.c 2 11 true] ?_
 unfold laws_toState at H
 obtain ⟨y2,h2,H⟩:=bB H
 obtain ⟨y3,h3,H⟩:=bB H
 obtain ⟨y4,h4,H⟩:=bB H
 obtain ⟨y5,h5,H⟩:=bB H
 obtain ⟨y6,h6,H⟩:=bB H
 refine wG [.c 6 (ZYg h2),.c 10 (Zff h3),.c 14 (Zu3 a1.lic),.c 24 (Z5h h4),.c 28 (Z0h h5),.c 32 (Z7h h6)] fun _=>?_
 replace H:=sI H; subst H
 exact wN [(2,.d)] [(2,[])] [] [] [] [⟨_,nw_I y2.parents⟩,⟨_,ZQ y2.nodes⟩,⟨_,nw_Bo y3⟩,⟨_,Zjl y4⟩,⟨_,Zbm y5⟩,⟨_,Z3o y6⟩]
def Zck:L :=
sR [.bx 2 (.t 0),.mv 4 (kI 0)]
 (sR [fA 5 2 12,lD 6 5 1 false,mV 7 1,cQ 8 Zs5 [6,7],mV 1 8]
 (.seq (sR [mV 9 1,.bi 10 .lss (.t 9) (kI 0)]
 (.cond (.t 10) (.seq (rE 4 (kI (-1)))
 gR)
 .skip))
 (sR [mV 11 1,mV 4 11]
 gR)))
def Zk6 (a1:Run) (left2:Int):Option Int :=
 bif (decide ((laws_szIntS a1.nodes left2) < 0)) then (some (-1)) else (some (laws_szIntS a1.nodes left2))
theorem Zif {a1:Run} {left2:Int} {r:Int} (H:Zk6 a1 left2 = some r):Snd Tryz.prog ZL9 [eRunT .rd a1,.int .i64 left2] (.int .i64 r) []:=by
 refine wS Zck [.t 4] ?_
 unfold Zk6 at H
 refine wG [.c 8 (Zja a1.nodes left2)] fun _=>?_
 refine Wh_iH H (fun H=>?_) fun H=>?_
 .refine wP ?_
  replace H:=sI H; subst H
  exact wE [(4,.d)]
 .refine wP ?_
  replace H:=sI H; subst H
  exact wE [(4,.d)]
def laws_szRun (a1:Run) (left2:Int):Int :=
 bif (decide ((laws_szIntS a1.nodes left2) < 0)) then ((-1)) else ((laws_szIntS a1.nodes left2))
theorem Zvl (a1:Run) (left2:Int):Zk6 a1 left2 = some (laws_szRun a1 left2):=by
 unfold Zk6 laws_szRun
 first | rfl | simp only [Z7]
theorem ZQj (a1:Run) (left2:Int):Snd Tryz.prog ZL9 [eRunT .rd a1,.int .i64 left2] (.int .i64 (laws_szRun a1 left2)) []:=Zif (Zvl a1 left2)
def ZWh:L :=
.seq (rE 4 (kI 0))
 (sR [mV 6 1,mV 7 0,.ln 8 (.t 7),bI 9 .sub 6 8,mV 1 9]
 (.seq (sR [mV 10 1,.bi 11 .lss (.t 10) (kI 0)]
 (.cond (.t 11) (.seq (rE 4 (kI (-1)))
 gR)
 .skip))
 (.seq (.seq (rE 5 (kI 0))
 (.blk 0 (.loop (.gw (.seq (sR [mV 12 5,mV 13 0,.ln 14 (.t 13),bI 15 .lss 12 14]
 (.cond (.t 15) .skip
 (.exit 0)))
 (.seq (.blk 1 (sR [mV 18 0,mV 19 5,iA 20 18 19 13,lD 21 20 13 true,mV 22 1,cQ 23 ZL9 [21,22],mV 1 23]
 (sR [mV 24 1,.bi 25 .lss (.t 24) (kI 0)]
 (.cond (.t 25) (.seq (rE 4 (kI (-1)))
 gR)
 .skip))))
 (.reg [mV 16 5,.bi 17 .add (.t 16) (kI 1),mV 5 17])))))))
 (sR [mV 26 1,mV 4 26]
 gR))))
def ZI5 (a1:List Run) (v4:Int × Int) (k4:(Int × Int) -> Option Int):Option Int :=
 bif (decide (v4.2 < (a1.length:Int))) then ((idx a1 v4.2).bind fun e6=>bif (decide ((laws_szRun e6 v4.1) < 0)) then (some (-1)) else (k4 ((laws_szRun e6 v4.1),(w64 (v4.2 + 1))))) else (some v4.1)
def laws_szRunS (a1:List Run) (left2:Int):Option Int :=
 bif (decide ((w64 (left2 - (a1.length:Int))) < 0)) then (some (-1)) else (whl (ZI5 a1) 9223372036854775807 ((w64 (left2 - (a1.length:Int))),0))
theorem Zeh {a1:List Run} {left2:Int} {r:Int} (H:laws_szRunS a1 left2 = some r):Snd Tryz.prog ZTb [.sl .rd 13 (a1.map (eRunT .rd)),.int .i64 left2] (.int .i64 r) []:=by
 refine wS ZWh [.t 4] ?_
 unfold laws_szRunS at H
 refine wG [.u 8 (.ln _ _ fun _=>lm a1 (eRunT .rd))] fun q3=>?_
 refine Wh_iH H (fun H=>?_) fun H=>?_
 .refine wP ?_
  replace H:=sI H; subst H
  exact wE [(4,.d)]
 .refine wP ?_
  refine wW (fun (v4:Int × Int)=>⟨[(0,.sl .rd 13 (a1.map (eRunT .rd))),(1,.int .i64 v4.1),(5,.int .i64 v4.2)],[],[],[]⟩) H (fun v4 I m k4 H N28=>?_)
  unfold ZI5 at H
  refine wG [.u 14 (.ln _ _ fun _=>lm a1 (eRunT .rd))] fun q5=>?_
  refine Wh_iH H (fun H=>?_) fun H=>?_
  .obtain ⟨e6,h6,H⟩:=bB H
   refine wG [.u 20 (.ix _ _ _ fun _=>Z0 (eRunT .rd) h6),.c 23 (ZQj e6 v4.1)] fun _=>?_
   refine Wh_iH H (fun H=>?_) fun H=>?_
   .refine wP ?_
    replace H:=sI H; subst H
    exact wE [(4,.d)]
   .refine wP ?_
    exact wT (N28 _ H)
  .refine wP ?_
   replace H:=sI H; subst H
   exact wE [(4,.d)]
def ZZh:L :=
.seq (rE 4 (kI 0))
 (sR [mV 5 1,mV 6 0,.ln 7 (.t 6),bI 8 .sub 5 7,mV 1 8]
 (.seq (sR [mV 9 1,.bi 10 .lss (.t 9) (kI 0)]
 (.cond (.t 10) (.seq (rE 4 (kI (-1)))
 gR)
 .skip))
 (sR [mV 11 1,mV 4 11]
 gR)))
def Zf5 (a1:List End) (left2:Int):Option Int :=
 bif (decide ((w64 (left2 - (a1.length:Int))) < 0)) then (some (-1)) else (some (w64 (left2 - (a1.length:Int))))
theorem ZHd {a1:List End} {left2:Int} {r:Int} (H:Zf5 a1 left2 = some r):Snd Tryz.prog Zj8 [.sl .rd 3 (a1.map eEnd),.int .i64 left2] (.int .i64 r) []:=by
 refine wS ZZh [.t 4] ?_
 unfold Zf5 at H
 refine wG [.u 7 (.ln _ _ fun _=>lm a1 eEnd)] fun q3=>?_
 refine Wh_iH H (fun H=>?_) fun H=>?_
 .refine wP ?_
  replace H:=sI H; subst H
  exact wE [(4,.d)]
 .refine wP ?_
  replace H:=sI H; subst H
  exact wE [(4,.d)]
def laws_szEndS (a1:List End) (left2:Int):Int :=
 bif (decide ((w64 (left2 - (a1.length:Int))) < 0)) then ((-1)) else ((w64 (left2 - (a1.length:Int))))
theorem ZTj (a1:List End) (left2:Int):Zf5 a1 left2 = some (laws_szEndS a1 left2):=by
 unfold Zf5 laws_szEndS
 first | rfl | simp only [Z7]
theorem Zjh (a1:List End) (left2:Int):Snd Tryz.prog Zj8 [.sl .rd 3 (a1.map eEnd),.int .i64 left2] (.int .i64 (laws_szEndS a1 left2)) []:=ZHd (ZTj a1 left2)
def ZYf:L :=
sR [.bx 2 (.t 0),.mv 4 (kI 0)]
 (sR [fA 5 2 0,lD 6 5 2 true,mV 7 1,cQ 8 Zh8 [6,7],mV 1 8]
 (.seq (sR [mV 9 1,.bi 10 .lss (.t 9) (kI 0)]
 (.cond (.t 10) (.seq (rE 4 (kI (-1)))
 gR)
 .skip))
 (sR [fA 11 2 2,lD 12 11 1 false,mV 13 1,cQ 14 Zq7 [12,13],mV 1 14]
 (.seq (sR [mV 15 1,.bi 16 .lss (.t 15) (kI 0)]
 (.cond (.t 16) (.seq (rE 4 (kI (-1)))
 gR)
 .skip))
 (sR [fA 17 2 8,lD 18 17 1 false,mV 19 1,cQ 20 Zi8 [18,19],mV 1 20]
 (.seq (sR [mV 21 1,.bi 22 .lss (.t 21) (kI 0)]
 (.cond (.t 22) (.seq (rE 4 (kI (-1)))
 gR)
 .skip))
 (sR [fA 23 2 9,lD 24 23 1 false,mV 25 1,cQ 26 ZTb [24,25],mV 1 26]
 (.seq (sR [mV 27 1,.bi 28 .lss (.t 27) (kI 0)]
 (.cond (.t 28) (.seq (rE 4 (kI (-1)))
 gR)
 .skip))
 (sR [fA 29 2 10,lD 30 29 1 false,mV 31 1,cQ 32 Zj8 [30,31],mV 1 32]
 (.seq (sR [mV 33 1,.bi 34 .lss (.t 33) (kI 0)]
 (.cond (.t 34) (.seq (rE 4 (kI (-1)))
 gR)
 .skip))
 (sR [mV 35 1,mV 4 35]
 gR)))))))))))
def laws_szState (a1:State) (left2:Int):Option Int :=
 bif (decide ((laws_szTopo a1.topo left2) < 0)) then (some (-1)) else (bif (decide ((laws_szBoolS a1.up (laws_szTopo a1.topo left2)) < 0)) then (some (-1)) else (bif (decide ((laws_szJobS a1.queue (laws_szBoolS a1.up (laws_szTopo a1.topo left2))) < 0)) then (some (-1)) else ((laws_szRunS a1.runs (laws_szJobS a1.queue (laws_szBoolS a1.up (laws_szTopo a1.topo left2)))).bind fun n3=>bif (decide (n3 < 0)) then (some (-1)) else (bif (decide ((laws_szEndS a1.ends n3) < 0)) then (some (-1)) else (some (laws_szEndS a1.ends n3))))))
theorem Zhf {a1:State} {left2:Int} {r:Int} (H:laws_szState a1 left2 = some r):Snd Tryz.prog Zya [Z31 .rd a1,.int .i64 left2] (.int .i64 r) []:=by
 refine wS ZYf [.t 4] ?_
 unfold laws_szState at H
 refine wG [.c 8 (Zch a1.topo left2)] fun _=>?_
 refine Wh_iH H (fun H=>?_) fun H=>?_
 .refine wP ?_
  replace H:=sI H; subst H
  exact wE [(4,.d)]
 .refine wG [.u 14 (.call _ _ _ _ _ (AEs.refl _) (fun _=>Zmf a1.up (laws_szTopo a1.topo left2)))] fun _=>?_
  refine Wh_iH H (fun H=>?_) fun H=>?_
  .refine wP ?_
   replace H:=sI H; subst H
   exact wE [(4,.d)]
  .refine wG [.u 20 (.call _ _ _ _ _ (AEs.refl _) (fun _=>Zih a1.queue (laws_szBoolS a1.up (laws_szTopo a1.topo left2))))] fun _=>?_
   refine Wh_iH H (fun H=>?_) fun H=>?_
   .refine wP ?_
    replace H:=sI H; subst H
    exact wE [(4,.d)]
   .obtain ⟨n3,h3,H⟩:=bB H
    refine wG [.c 26 (Zeh h3)] fun _=>?_
    refine Wh_iH H (fun H=>?_) fun H=>?_
    .refine wP ?_
     replace H:=sI H; subst H
     exact wE [(4,.d)]
    .refine wG [.c 32 (Zjh a1.ends n3)] fun _=>?_
     refine Wh_iH H (fun H=>?_) fun H=>?_
     .refine wP ?_
      replace H:=sI H; subst H
      exact wE [(4,.d)]
     .refine wP ?_
      replace H:=sI H; subst H
      exact wE [(4,.d)]
def Zek:L :=
sR [.bx 2 (.t 0),.bx 3 (.t 1),.mv 4 (cB false)]
 (.seq (sR [fA 5 2 0,lD 6 5 11 true,fA 7 3 0,lD 8 7 11 true,cQ 9 ZE6 [6,8],.un 10 (.t 9)]
 (.cond (.t 10) (.seq (rE 4 (cB false))
 gR)
 .skip))
 (.seq (sR [fA 11 2 11,lD 12 11 1 false,fA 13 3 11,lD 14 13 1 false,bI 15 .neq 12 14]
 (.cond (.t 15) (.seq (rE 4 (cB false))
 gR)
 .skip))
 (.seq (sR [fA 16 2 12,lD 17 16 1 false,fA 18 3 12,lD 19 18 1 false,cQ 20 Zm8 [17,19],.un 21 (.t 20)]
 (.cond (.t 21) (.seq (rE 4 (cB false))
 gR)
 .skip))
 (.seq (rE 4 (cB true))
 gR))))
def laws_eqRun (a1:Run) (b2:Run):Option Bool :=
 bif (!(laws_eqJob a1.job b2.job)) then (some false) else (bif (a1.t != b2.t) then (some false) else ((laws_eqIntS a1.nodes b2.nodes).bind fun b3=>bif (!b3) then (some false) else (some true)))
theorem ZVj {a1:Run} {b2:Run} {r:Bool} (H:laws_eqRun a1 b2 = some r):Snd Tryz.prog Zdd [eRunT .rd a1,eRunT .rd b2] (.bool r) []:=by
 refine wS Zek [.t 4] ?_
 unfold laws_eqRun at H
 refine wG [.c 9 (Zjb a1.job b2.job)] fun _=>?_
 refine Wh_iH H (fun H=>?_) fun H=>?_
 .refine wP ?_
  replace H:=sI H; subst H
  exact wE [(4,.d)]
 .refine wP ?_
  refine Wh_iH H (fun H=>?_) fun H=>?_
  .refine wP ?_
   replace H:=sI H; subst H
   exact wE [(4,.d)]
  .obtain ⟨b3,h3,H⟩:=bB H
   refine wG [.c 20 (Zka h3)] fun _=>?_
   refine Wh_iH H (fun H=>?_) fun H=>?_
   .refine wP ?_
    replace H:=sI H; subst H
    exact wE [(4,.d)]
   .refine wP ?_
    replace H:=sI H; subst H
    exact wE [(4,.d)]
def Z3i:L :=
.seq (rE 4 (cB false))
 (.seq (sR [mV 6 0,.ln 7 (.t 6),mV 8 1,.ln 9 (.t 8),bI 10 .neq 7 9]
 (.cond (.t 10) (.seq (rE 4 (cB false))
 gR)
 .skip))
 (.seq (.seq (rE 5 (kI 0))
 (.blk 0 (.loop (.gw (.seq (sR [mV 11 5,mV 12 0,.ln 13 (.t 12),bI 14 .lss 11 13]
 (.cond (.t 14) .skip
 (.exit 0)))
 (.seq (.blk 1 (.seq (.rq 10 [mV 17 0,mV 18 5,iA 19 17 18 13,lD 20 19 13 true,mV 21 1,mV 22 5,iA 23 21 22 13,lD 24 23 13 true,cQ 25 Zdd [20,24],.un 26 (.t 25)])
 (.cond (.t 26) (.seq (rE 4 (cB false))
 gR)
 .skip)))
 (.reg [mV 15 5,.bi 16 .add (.t 15) (kI 1),mV 5 16])))))))
 (.seq (rE 4 (cB true))
 gR)))
def ZC3 (a1:List Run) (b2:List Run) (v4:Int) (k4:Int -> Option Bool):Option Bool :=
 bif (decide (v4 < (a1.length:Int))) then ((idx a1 v4).bind fun e6=>(idx b2 v4).bind fun e7=>(laws_eqRun e6 e7).bind fun b8=>bif (!b8) then (some false) else (k4 (w64 (v4 + 1)))) else (some true)
def laws_eqRunS (a1:List Run) (b2:List Run):Option Bool :=
 bif ((a1.length:Int) != (b2.length:Int)) then (some false) else (whl (ZC3 a1 b2) 9223372036854775807 0)
theorem Zph {a1:List Run} {b2:List Run} {r:Bool} (H:laws_eqRunS a1 b2 = some r):Snd Tryz.prog ZWb [.sl .rd 13 (a1.map (eRunT .rd)),.sl .rd 13 (b2.map (eRunT .rd))] (.bool r) []:=by
 refine wS Z3i [.t 4] ?_
 unfold laws_eqRunS at H
 refine wG [.u 7 (.ln _ _ fun _=>lm a1 (eRunT .rd)),.u 9 (.ln _ _ fun _=>lm b2 (eRunT .rd))] fun q3=>?_
 refine Wh_iH H (fun H=>?_) fun H=>?_
 .refine wP ?_
  replace H:=sI H; subst H
  exact wE [(4,.d)]
 .refine wP ?_
  refine wW (fun (v4:Int)=>⟨[(0,.sl .rd 13 (a1.map (eRunT .rd))),(1,.sl .rd 13 (b2.map (eRunT .rd))),(5,.int .i64 v4)],[],[],[]⟩) H (fun v4 I m k4 H N25=>?_)
  unfold ZC3 at H
  refine wG [.u 13 (.ln _ _ fun _=>lm a1 (eRunT .rd))] fun q5=>?_
  refine Wh_iH H (fun H=>?_) fun H=>?_
  .obtain ⟨e6,h6,H⟩:=bB H
   obtain ⟨e7,h7,H⟩:=bB H
   obtain ⟨b8,h8,H⟩:=bB H
   refine wG [.u 19 (.ix _ _ _ fun _=>Z0 (eRunT .rd) h6),.u 23 (.ix _ _ _ fun _=>Z0 (eRunT .rd) h7),.c 25 (ZVj h8)] fun _=>?_
   refine Wh_iH H (fun H=>?_) fun H=>?_
   .refine wP ?_
    replace H:=sI H; subst H
    exact wE [(4,.d)]
   .refine wP ?_
    exact wT (N25 _ H)
  .refine wP ?_
   replace H:=sI H; subst H
   exact wE [(4,.d)]
def Zgk:L :=
sR [.bx 2 (.t 0),.bx 3 (.t 1),.mv 4 (cB false)]
 (.seq (sR [fA 5 2 0,lD 6 5 1 false,fA 7 3 0,lD 8 7 1 false,bI 9 .neq 6 8]
 (.cond (.t 9) (.seq (rE 4 (cB false))
 gR)
 .skip))
 (.seq (sR [fA 10 2 1,lD 11 10 1 false,fA 12 3 1,lD 13 12 1 false,bI 14 .neq 11 13]
 (.cond (.t 14) (.seq (rE 4 (cB false))
 gR)
 .skip))
 (.seq (sR [fA 15 2 2,lD 16 15 1 false,fA 17 3 2,lD 18 17 1 false,bI 19 .neq 16 18]
 (.cond (.t 19) (.seq (rE 4 (cB false))
 gR)
 .skip))
 (.seq (rE 4 (cB true))
 gR))))
def Zn6 (a1:End) (b2:End):Option Bool :=
 bif (a1.id != b2.id) then (some false) else (bif (a1.t != b2.t) then (some false) else (bif (a1.why != b2.why) then (some false) else (some true)))
theorem Zvf {a1:End} {b2:End} {r:Bool} (H:Zn6 a1 b2 = some r):Snd Tryz.prog ZQ9 [eEnd a1,eEnd b2] (.bool r) []:=by
 refine wS Zgk [.t 4] ?_
 unfold Zn6 at H
 refine wP ?_
 refine Wh_iH H (fun H=>?_) fun H=>?_
 .refine wP ?_
  replace H:=sI H; subst H
  exact wE [(4,.d)]
 .refine wP ?_
  refine Wh_iH H (fun H=>?_) fun H=>?_
  .refine wP ?_
   replace H:=sI H; subst H
   exact wE [(4,.d)]
  .refine wP ?_
   refine Wh_iH H (fun H=>?_) fun H=>?_
   .refine wP ?_
    replace H:=sI H; subst H
    exact wE [(4,.d)]
   .refine wP ?_
    replace H:=sI H; subst H
    exact wE [(4,.d)]
def laws_eqEnd (a1:End) (b2:End):Bool :=
 bif (a1.id != b2.id) then (false) else (bif (a1.t != b2.t) then (false) else (bif (a1.why != b2.why) then (false) else (true)))
theorem Zyl (a1:End) (b2:End):Zn6 a1 b2 = some (laws_eqEnd a1 b2):=by
 unfold Zn6 laws_eqEnd
 first | rfl | simp only [Z7]
theorem ZXj (a1:End) (b2:End):Snd Tryz.prog ZQ9 [eEnd a1,eEnd b2] (.bool (laws_eqEnd a1 b2)) []:=Zvf (Zyl a1 b2)
def Z7i:L :=
.seq (rE 4 (cB false))
 (.seq (sR [mV 6 0,.ln 7 (.t 6),mV 8 1,.ln 9 (.t 8),bI 10 .neq 7 9]
 (.cond (.t 10) (.seq (rE 4 (cB false))
 gR)
 .skip))
 (.seq (.seq (rE 5 (kI 0))
 (.blk 0 (.loop (.gw (.seq (sR [mV 11 5,mV 12 0,.ln 13 (.t 12),bI 14 .lss 11 13]
 (.cond (.t 14) .skip
 (.exit 0)))
 (.seq (.blk 1 (.seq (.rq 10 [mV 17 0,mV 18 5,iA 19 17 18 3,lD 20 19 3 true,mV 21 1,mV 22 5,iA 23 21 22 3,lD 24 23 3 true,cQ 25 ZQ9 [20,24],.un 26 (.t 25)])
 (.cond (.t 26) (.seq (rE 4 (cB false))
 gR)
 .skip)))
 (.reg [mV 15 5,.bi 16 .add (.t 15) (kI 1),mV 5 16])))))))
 (.seq (rE 4 (cB true))
 gR)))
def ZF3 (a1:List End) (b2:List End) (v4:Int) (k4:Int -> Option Bool):Option Bool :=
 bif (decide (v4 < (a1.length:Int))) then ((idx a1 v4).bind fun e6=>(idx b2 v4).bind fun e7=>bif (!(laws_eqEnd e6 e7)) then (some false) else (k4 (w64 (v4 + 1)))) else (some true)
def laws_eqEndS (a1:List End) (b2:List End):Option Bool :=
 bif ((a1.length:Int) != (b2.length:Int)) then (some false) else (whl (ZF3 a1 b2) 9223372036854775807 0)
theorem Zuh {a1:List End} {b2:List End} {r:Bool} (H:laws_eqEndS a1 b2 = some r):Snd Tryz.prog ZYb [.sl .rd 3 (a1.map eEnd),.sl .rd 3 (b2.map eEnd)] (.bool r) []:=by
 refine wS Z7i [.t 4] ?_
 unfold laws_eqEndS at H
 refine wG [.u 7 (.ln _ _ fun _=>lm a1 eEnd),.u 9 (.ln _ _ fun _=>lm b2 eEnd)] fun q3=>?_
 refine Wh_iH H (fun H=>?_) fun H=>?_
 .refine wP ?_
  replace H:=sI H; subst H
  exact wE [(4,.d)]
 .refine wP ?_
  refine wW (fun (v4:Int)=>⟨[(0,.sl .rd 3 (a1.map eEnd)),(1,.sl .rd 3 (b2.map eEnd)),(5,.int .i64 v4)],[],[],[]⟩) H (fun v4 I m k4 H N25=>?_)
  unfold ZF3 at H
  refine wG [.u 13 (.ln _ _ fun _=>lm a1 eEnd)] fun q5=>?_
  refine Wh_iH H (fun H=>?_) fun H=>?_
  .obtain ⟨e6,h6,H⟩:=bB H
   obtain ⟨e7,h7,H⟩:=bB H
   refine wG [.u 19 (.ix _ _ _ fun _=>Z0 eEnd h6),.u 23 (.ix _ _ _ fun _=>Z0 eEnd h7),.c 25 (ZXj e6 e7)] fun _=>?_
   refine Wh_iH H (fun H=>?_) fun H=>?_
   .refine wP ?_
    replace H:=sI H; subst H
    exact wE [(4,.d)]
   .refine wP ?_
    exact wT (N25 _ H)
  .refine wP ?_
   replace H:=sI H; subst H
   exact wE [(4,.d)]
def Z3g:L :=
sR [.bx 2 (.t 0),.bx 3 (.t 1),.mv 4 (cB false)]
 (.seq (sR [fA 5 2 0,lD 6 5 2 true,fA 7 3 0,lD 8 7 2 true,cQ 9 ZVb [6,8],.un 10 (.t 9)]
 (.cond (.t 10) (.seq (rE 4 (cB false))
 gR)
 .skip))
 (.seq (sR [fA 11 2 2,lD 12 11 1 false,fA 13 3 2,lD 14 13 1 false,cQ 15 ZBa [12,14],.un 16 (.t 15)]
 (.cond (.t 16) (.seq (rE 4 (cB false))
 gR)
 .skip))
 (.seq (sR [fA 17 2 3,lD 18 17 3 true,fA 19 3 3,lD 20 19 3 true,cQ 21 Zk2 [18,20],.un 22 (.t 21)]
 (.cond (.t 22) (.seq (rE 4 (cB false))
 gR)
 .skip))
 (.seq (sR [fA 23 2 6,lD 24 23 1 false,fA 25 3 6,lD 26 25 1 false,bI 27 .neq 24 26]
 (.cond (.t 27) (.seq (rE 4 (cB false))
 gR)
 .skip))
 (.seq (sR [fA 28 2 7,lD 29 28 1 false,fA 30 3 7,lD 31 30 1 false,bI 32 .neq 29 31]
 (.cond (.t 32) (.seq (rE 4 (cB false))
 gR)
 .skip))
 (.seq (sR [fA 33 2 8,lD 34 33 1 false,fA 35 3 8,lD 36 35 1 false,cQ 37 ZXb [34,36],.un 38 (.t 37)]
 (.cond (.t 38) (.seq (rE 4 (cB false))
 gR)
 .skip))
 (.seq (sR [fA 39 2 9,lD 40 39 1 false,fA 41 3 9,lD 42 41 1 false,cQ 43 ZWb [40,42],.un 44 (.t 43)]
 (.cond (.t 44) (.seq (rE 4 (cB false))
 gR)
 .skip))
 (.seq (sR [fA 45 2 10,lD 46 45 1 false,fA 47 3 10,lD 48 47 1 false,cQ 49 ZYb [46,48],.un 50 (.t 49)]
 (.cond (.t 50) (.seq (rE 4 (cB false))
 gR)
 .skip))
 (.seq (rE 4 (cB true))
 gR)))))))))
def laws_eqState (a1:State) (b2:State):Option Bool :=
 (laws_eqTopo a1.topo b2.topo).bind fun b3=>bif (!b3) then (some false) else ((laws_eqBoolS a1.up b2.up).bind fun b4=>bif (!b4) then (some false) else (bif (!(laws_eqVec a1.lic b2.lic)) then (some false) else (bif (a1.depth != b2.depth) then (some false) else (bif (a1.now != b2.now) then (some false) else ((laws_eqJobS a1.queue b2.queue).bind fun b5=>bif (!b5) then (some false) else ((laws_eqRunS a1.runs b2.runs).bind fun b6=>bif (!b6) then (some false) else ((laws_eqEndS a1.ends b2.ends).bind fun b7=>bif (!b7) then (some false) else (some true))))))))
theorem Zof {a1:State} {b2:State} {r:Bool} (H:laws_eqState a1 b2 = some r):Snd Tryz.prog Zza [Z31 .rd a1,Z31 .rd b2] (.bool r) []:=by
 refine wS Z3g [.t 4] ?_
 unfold laws_eqState at H
 obtain ⟨b3,h3,H⟩:=bB H
 refine wG [.c 9 (Zoh h3)] fun _=>?_
 refine Wh_iH H (fun H=>?_) fun H=>?_
 .refine wP ?_
  replace H:=sI H; subst H
  exact wE [(4,.d)]
 .obtain ⟨b4,h4,H⟩:=bB H
  refine wG [.c 15 (Zyf h4)] fun _=>?_
  refine Wh_iH H (fun H=>?_) fun H=>?_
  .refine wP ?_
   replace H:=sI H; subst H
   exact wE [(4,.d)]
  .refine wG [.c 21 (ZB3 a1.lic b2.lic)] fun _=>?_
   refine Wh_iH H (fun H=>?_) fun H=>?_
   .refine wP ?_
    replace H:=sI H; subst H
    exact wE [(4,.d)]
   .refine wP ?_
    refine Wh_iH H (fun H=>?_) fun H=>?_
    .refine wP ?_
     replace H:=sI H; subst H
     exact wE [(4,.d)]
    .refine wP ?_
     refine Wh_iH H (fun H=>?_) fun H=>?_
     .refine wP ?_
      replace H:=sI H; subst H
      exact wE [(4,.d)]
     .obtain ⟨b5,h5,H⟩:=bB H
      refine wG [.c 37 (Zth h5)] fun _=>?_
      refine Wh_iH H (fun H=>?_) fun H=>?_
      .refine wP ?_
       replace H:=sI H; subst H
       exact wE [(4,.d)]
      .obtain ⟨b6,h6,H⟩:=bB H
       refine wG [.c 43 (Zph h6)] fun _=>?_
       refine Wh_iH H (fun H=>?_) fun H=>?_
       .refine wP ?_
        replace H:=sI H; subst H
        exact wE [(4,.d)]
       .obtain ⟨b7,h7,H⟩:=bB H
        refine wG [.c 49 (Zuh h7)] fun _=>?_
        refine Wh_iH H (fun H=>?_) fun H=>?_
        .refine wP ?_
         replace H:=sI H; subst H
         exact wE [(4,.d)]
        .refine wP ?_
         replace H:=sI H; subst H
         exact wE [(4,.d)]
def ZEc:L :=
sR [.bx 1 (.t 0),.al 2 [.str [],.int .i64 0,.int .i64 0]]
 (sR [.al 3 [.str [],.int .i64 0,.int .i64 0]]
 (sR [fA 4 1 0,lD 5 4 1 false,fA 6 3 0,.st (.t 6) (.t 5) 1]
 (sR [fA 7 1 1,lD 8 7 1 false,fA 9 3 1,.st (.t 9) (.t 8) 1]
 (sR [fA 10 1 2,lD 11 10 1 false,fA 12 3 2,.st (.t 12) (.t 11) 1]
 (sR [lD 13 3 3 true,.st (.t 2) (.t 13) 3]
 gR)))))
def ZW2 (a1:Account):Option Account :=
 some a1
theorem ZIa {a1:Account} {r:Account} (H:ZW2 a1 = some r):Snd Tryz.prog Z35 [Z1 a1] (Z1 r) []:=by
 refine wS ZEc [.c 2 3 true] ?_
 unfold ZW2 at H
 refine wP ?_
 replace H:=sI H; subst H
 exact wN [(2,.d)] [(2,[])] [] [] [] []
def laws_toAccount (a1:Account):Account :=
 a1
theorem ZBd (a1:Account):ZW2 a1 = some (laws_toAccount a1):=by
 unfold ZW2 laws_toAccount
 first | rfl | simp only [Z7]
theorem Zoc (a1:Account):Snd Tryz.prog Z35 [Z1 a1] (Z1 (laws_toAccount a1)) []:=ZIa (ZBd a1)
def Zrb:L :=
sR [.mv 2 (.c (.nl))]
 (sR [mV 5 0,.ln 6 (.t 5),.ms 7 3 32 [.str [],.int .i64 0,.int .i64 0] (.t 6),mV 3 7]
 (.seq (.seq (rE 4 (kI 0))
 (.blk 0 (.loop (.gw (.seq (sR [mV 8 4,mV 9 0,.ln 10 (.t 9),bI 11 .lss 8 10]
 (.cond (.t 11) .skip
 (.exit 0)))
 (.seq (.blk 1 (.reg [mV 14 3,mV 15 4,mV 16 0,mV 17 4,iA 18 16 17 3,lD 19 18 3 true,cQ 20 Z35 [19],iA 21 14 15 3,.st (.t 21) (.t 20) 3]))
 (.reg [mV 12 4,.bi 13 .add (.t 12) (kI 1),mV 4 13])))))))
 (sR [mV 22 3,mV 2 22]
 gR)))
def ZY1 (a1:List Account) (v4:Int × (List Account)) (k4:(Int × (List Account)) -> Option (List Account)):Option (List Account) :=
 bif (decide (v4.1 < (a1.length:Int))) then ((idx a1 v4.1).bind fun e6=>(idx v4.2 v4.1).bind fun _=>k4 ((w64 (v4.1 + 1)),(v4.2.set v4.1.toNat (laws_toAccount e6)))) else (some v4.2)
def laws_toAccountS (a1:List Account):Option (List Account) :=
 (mkL 32 (a1.length:Int) (Account.mk ([]:Str) 0 0)).bind fun xs2=>whl (ZY1 a1) 9223372036854775807 (0,xs2)
theorem Zeb {a1:List Account} {r:(List Account)} (H:laws_toAccountS a1 = some r):Snd Tryz.prog ZQ7 [.sl .rd 3 (a1.map Z1)] (.sl .nw 3 (r.map Z1)) []:=by
 refine wS Zrb [.t 2] ?_
 unfold laws_toAccountS at H
 obtain ⟨xs2,h2,H⟩:=bB H
 refine wG [.u 6 (.ln _ _ fun _=>lm a1 Z1),.u 7 (.ms _ _ _ _ fun _=>ZV6 Z1 h2)] fun q3=>?_
 refine wW (fun (v4:Int × (List Account))=>⟨[(0,.sl .rd 3 (a1.map Z1)),(3,.sref 7),(4,.int .i64 v4.1)],[],[],[(7,⟨3,v4.2.map Z1,false⟩)]⟩) H (fun v4 I m k4 H N13=>?_)
 unfold ZY1 at H
 refine wG [.u 10 (.ln _ _ fun _=>lm a1 Z1)] fun q5=>?_
 refine Wh_iH H (fun H=>?_) fun H=>?_
 .obtain ⟨e6,h6,H⟩:=bB H
  obtain ⟨e7,h7,H⟩:=bB H
  refine wG [.u 18 (.ix _ _ _ fun _=>Z0 Z1 h6),.c 20 (Zoc e6),.u 21 (.ix _ _ _ fun _=>Z0 Z1 h7),.u 1000000 (.sto _ _ _ (Z1 (laws_toAccount e6)) _ (fun _=>gm Z1 (Zw1 h7)) (fun _=>ZS4 ..))] fun _=>?_
  exact wT (N13 _ H)
 .refine wP ?_
  replace H:=sI H; subst H
  exact wN [(2,.f)] [] [] [7] [] [⟨_,ZPi v4.2⟩]
def ZFc:L :=
sR [.bx 2 (.t 0),.mv 4 (kI 0)]
 (sR [mV 5 1,fA 6 2 0,lD 7 6 1 false,.ls 8 (.t 7),bI 9 .sub 5 8,mV 1 9]
 (.seq (sR [mV 10 1,.bi 11 .lss (.t 10) (kI 0)]
 (.cond (.t 11) (.seq (rE 4 (kI (-1)))
 gR)
 .skip))
 (sR [mV 12 1,mV 4 12]
 gR)))
def ZX2 (a1:Account) (left2:Int):Option Int :=
 bif (decide ((w64 (left2 - (a1.name.length:Int))) < 0)) then (some (-1)) else (some (w64 (left2 - (a1.name.length:Int))))
theorem ZJa {a1:Account} {left2:Int} {r:Int} (H:ZX2 a1 left2 = some r):Snd Tryz.prog Z45 [Z1 a1,.int .i64 left2] (.int .i64 r) []:=by
 refine wS ZFc [.t 4] ?_
 unfold ZX2 at H
 refine wP ?_
 refine Wh_iH H (fun H=>?_) fun H=>?_
 .refine wP ?_
  replace H:=sI H; subst H
  exact wE [(4,.d)]
 .refine wP ?_
  replace H:=sI H; subst H
  exact wE [(4,.d)]
def laws_szAccount (a1:Account) (left2:Int):Int :=
 bif (decide ((w64 (left2 - (a1.name.length:Int))) < 0)) then ((-1)) else ((w64 (left2 - (a1.name.length:Int))))
theorem ZJd (a1:Account) (left2:Int):ZX2 a1 left2 = some (laws_szAccount a1 left2):=by
 unfold ZX2 laws_szAccount
 first | rfl | simp only [Z7]
theorem Ztc (a1:Account) (left2:Int):Snd Tryz.prog Z45 [Z1 a1,.int .i64 left2] (.int .i64 (laws_szAccount a1 left2)) []:=ZJa (ZJd a1 left2)
def Zsb:L :=
.seq (rE 4 (kI 0))
 (sR [mV 6 1,mV 7 0,.ln 8 (.t 7),bI 9 .sub 6 8,mV 1 9]
 (.seq (sR [mV 10 1,.bi 11 .lss (.t 10) (kI 0)]
 (.cond (.t 11) (.seq (rE 4 (kI (-1)))
 gR)
 .skip))
 (.seq (.seq (rE 5 (kI 0))
 (.blk 0 (.loop (.gw (.seq (sR [mV 12 5,mV 13 0,.ln 14 (.t 13),bI 15 .lss 12 14]
 (.cond (.t 15) .skip
 (.exit 0)))
 (.seq (.blk 1 (sR [mV 18 0,mV 19 5,iA 20 18 19 3,lD 21 20 3 true,mV 22 1,cQ 23 Z45 [21,22],mV 1 23]
 (sR [mV 24 1,.bi 25 .lss (.t 24) (kI 0)]
 (.cond (.t 25) (.seq (rE 4 (kI (-1)))
 gR)
 .skip))))
 (.reg [mV 16 5,.bi 17 .add (.t 16) (kI 1),mV 5 17])))))))
 (sR [mV 26 1,mV 4 26]
 gR))))
def Zl1 (a1:List Account) (v4:Int × Int) (k4:(Int × Int) -> Option Int):Option Int :=
 bif (decide (v4.2 < (a1.length:Int))) then ((idx a1 v4.2).bind fun e6=>bif (decide ((laws_szAccount e6 v4.1) < 0)) then (some (-1)) else (k4 ((laws_szAccount e6 v4.1),(w64 (v4.2 + 1))))) else (some v4.1)
def laws_szAccountS (a1:List Account) (left2:Int):Option Int :=
 bif (decide ((w64 (left2 - (a1.length:Int))) < 0)) then (some (-1)) else (whl (Zl1 a1) 9223372036854775807 ((w64 (left2 - (a1.length:Int))),0))
theorem Zgb {a1:List Account} {left2:Int} {r:Int} (H:laws_szAccountS a1 left2 = some r):Snd Tryz.prog ZR7 [.sl .rd 3 (a1.map Z1),.int .i64 left2] (.int .i64 r) []:=by
 refine wS Zsb [.t 4] ?_
 unfold laws_szAccountS at H
 refine wG [.u 8 (.ln _ _ fun _=>lm a1 Z1)] fun q3=>?_
 refine Wh_iH H (fun H=>?_) fun H=>?_
 .refine wP ?_
  replace H:=sI H; subst H
  exact wE [(4,.d)]
 .refine wP ?_
  refine wW (fun (v4:Int × Int)=>⟨[(0,.sl .rd 3 (a1.map Z1)),(1,.int .i64 v4.1),(5,.int .i64 v4.2)],[],[],[]⟩) H (fun v4 I m k4 H N28=>?_)
  unfold Zl1 at H
  refine wG [.u 14 (.ln _ _ fun _=>lm a1 Z1)] fun q5=>?_
  refine Wh_iH H (fun H=>?_) fun H=>?_
  .obtain ⟨e6,h6,H⟩:=bB H
   refine wG [.u 20 (.ix _ _ _ fun _=>Z0 Z1 h6),.c 23 (Ztc e6 v4.1)] fun _=>?_
   refine Wh_iH H (fun H=>?_) fun H=>?_
   .refine wP ?_
    replace H:=sI H; subst H
    exact wE [(4,.d)]
   .refine wP ?_
    exact wT (N28 _ H)
  .refine wP ?_
   replace H:=sI H; subst H
   exact wE [(4,.d)]
def ZGc:L :=
sR [.bx 2 (.t 0),.bx 3 (.t 1),.mv 4 (cB false)]
 (.seq (sR [fA 5 2 0,lD 6 5 1 false,fA 7 3 0,lD 8 7 1 false,bI 9 .neq 6 8]
 (.cond (.t 9) (.seq (rE 4 (cB false))
 gR)
 .skip))
 (.seq (sR [fA 10 2 1,lD 11 10 1 false,fA 12 3 1,lD 13 12 1 false,bI 14 .neq 11 13]
 (.cond (.t 14) (.seq (rE 4 (cB false))
 gR)
 .skip))
 (.seq (sR [fA 15 2 2,lD 16 15 1 false,fA 17 3 2,lD 18 17 1 false,bI 19 .neq 16 18]
 (.cond (.t 19) (.seq (rE 4 (cB false))
 gR)
 .skip))
 (.seq (rE 4 (cB true))
 gR))))
def Z03 (a1:Account) (b2:Account):Option Bool :=
 bif (a1.name != b2.name) then (some false) else (bif (a1.share != b2.share) then (some false) else (bif (a1.used != b2.used) then (some false) else (some true)))
theorem ZLa {a1:Account} {b2:Account} {r:Bool} (H:Z03 a1 b2 = some r):Snd Tryz.prog Z55 [Z1 a1,Z1 b2] (.bool r) []:=by
 refine wS ZGc [.t 4] ?_
 unfold Z03 at H
 refine wP ?_
 refine Wh_iH H (fun H=>?_) fun H=>?_
 .refine wP ?_
  replace H:=sI H; subst H
  exact wE [(4,.d)]
 .refine wP ?_
  refine Wh_iH H (fun H=>?_) fun H=>?_
  .refine wP ?_
   replace H:=sI H; subst H
   exact wE [(4,.d)]
  .refine wP ?_
   refine Wh_iH H (fun H=>?_) fun H=>?_
   .refine wP ?_
    replace H:=sI H; subst H
    exact wE [(4,.d)]
   .refine wP ?_
    replace H:=sI H; subst H
    exact wE [(4,.d)]
def laws_eqAccount (a1:Account) (b2:Account):Bool :=
 bif (a1.name != b2.name) then (false) else (bif (a1.share != b2.share) then (false) else (bif (a1.used != b2.used) then (false) else (true)))
theorem ZUd (a1:Account) (b2:Account):Z03 a1 b2 = some (laws_eqAccount a1 b2):=by
 unfold Z03 laws_eqAccount
 first | rfl | simp only [Z7]
theorem ZBc (a1:Account) (b2:Account):Snd Tryz.prog Z55 [Z1 a1,Z1 b2] (.bool (laws_eqAccount a1 b2)) []:=ZLa (ZUd a1 b2)
def Ztb:L :=
.seq (rE 4 (cB false))
 (.seq (sR [mV 6 0,.ln 7 (.t 6),mV 8 1,.ln 9 (.t 8),bI 10 .neq 7 9]
 (.cond (.t 10) (.seq (rE 4 (cB false))
 gR)
 .skip))
 (.seq (.seq (rE 5 (kI 0))
 (.blk 0 (.loop (.gw (.seq (sR [mV 11 5,mV 12 0,.ln 13 (.t 12),bI 14 .lss 11 13]
 (.cond (.t 14) .skip
 (.exit 0)))
 (.seq (.blk 1 (.seq (.rq 10 [mV 17 0,mV 18 5,iA 19 17 18 3,lD 20 19 3 true,mV 21 1,mV 22 5,iA 23 21 22 3,lD 24 23 3 true,cQ 25 Z55 [20,24],.un 26 (.t 25)])
 (.cond (.t 26) (.seq (rE 4 (cB false))
 gR)
 .skip)))
 (.reg [mV 15 5,.bi 16 .add (.t 15) (kI 1),mV 5 16])))))))
 (.seq (rE 4 (cB true))
 gR)))
def ZZ1 (a1:List Account) (b2:List Account) (v4:Int) (k4:Int -> Option Bool):Option Bool :=
 bif (decide (v4 < (a1.length:Int))) then ((idx a1 v4).bind fun e6=>(idx b2 v4).bind fun e7=>bif (!(laws_eqAccount e6 e7)) then (some false) else (k4 (w64 (v4 + 1)))) else (some true)
def laws_eqAccountS (a1:List Account) (b2:List Account):Option Bool :=
 bif ((a1.length:Int) != (b2.length:Int)) then (some false) else (whl (ZZ1 a1 b2) 9223372036854775807 0)
theorem Zkb {a1:List Account} {b2:List Account} {r:Bool} (H:laws_eqAccountS a1 b2 = some r):Snd Tryz.prog ZS7 [.sl .rd 3 (a1.map Z1),.sl .rd 3 (b2.map Z1)] (.bool r) []:=by
 refine wS Ztb [.t 4] ?_
 unfold laws_eqAccountS at H
 refine wG [.u 7 (.ln _ _ fun _=>lm a1 Z1),.u 9 (.ln _ _ fun _=>lm b2 Z1)] fun q3=>?_
 refine Wh_iH H (fun H=>?_) fun H=>?_
 .refine wP ?_
  replace H:=sI H; subst H
  exact wE [(4,.d)]
 .refine wP ?_
  refine wW (fun (v4:Int)=>⟨[(0,.sl .rd 3 (a1.map Z1)),(1,.sl .rd 3 (b2.map Z1)),(5,.int .i64 v4)],[],[],[]⟩) H (fun v4 I m k4 H N25=>?_)
  unfold ZZ1 at H
  refine wG [.u 13 (.ln _ _ fun _=>lm a1 Z1)] fun q5=>?_
  refine Wh_iH H (fun H=>?_) fun H=>?_
  .obtain ⟨e6,h6,H⟩:=bB H
   obtain ⟨e7,h7,H⟩:=bB H
   refine wG [.u 19 (.ix _ _ _ fun _=>Z0 Z1 h6),.u 23 (.ix _ _ _ fun _=>Z0 Z1 h7),.c 25 (ZBc e6 e7)] fun _=>?_
   refine Wh_iH H (fun H=>?_) fun H=>?_
   .refine wP ?_
    replace H:=sI H; subst H
    exact wE [(4,.d)]
   .refine wP ?_
    exact wT (N25 _ H)
  .refine wP ?_
   replace H:=sI H; subst H
   exact wE [(4,.d)]
def Zbk:L :=
sR [.bx 1 (.t 0),.al 2 [.int .i64 0,.int .i64 0]]
 (sR [.al 3 [.int .i64 0,.int .i64 0]]
 (sR [fA 4 1 0,lD 5 4 1 false,fA 6 3 0,.st (.t 6) (.t 5) 1]
 (sR [fA 7 1 1,lD 8 7 1 false,fA 9 3 1,.st (.t 9) (.t 8) 1]
 (sR [lD 10 3 2 true,.st (.t 2) (.t 10) 2]
 gR))))
def Zj6 (a1:Dep):Option Dep :=
 some a1
theorem Zef {a1:Dep} {r:Dep} (H:Zj6 a1 = some r):Snd Tryz.prog ZK9 [eDep a1] (eDep r) []:=by
 refine wS Zbk [.c 2 2 true] ?_
 unfold Zj6 at H
 refine wP ?_
 replace H:=sI H; subst H
 exact wN [(2,.d)] [(2,[])] [] [] [] []
def laws_toDep (a1:Dep):Dep :=
 a1
theorem Zul (a1:Dep):Zj6 a1 = some (laws_toDep a1):=by
 unfold Zj6 laws_toDep
 first | rfl | simp only [Z7]
theorem ZOj (a1:Dep):Snd Tryz.prog ZK9 [eDep a1] (eDep (laws_toDep a1)) []:=Zef (Zul a1)
def ZUh:L :=
sR [.mv 2 (.c (.nl))]
 (sR [mV 5 0,.ln 6 (.t 5),.ms 7 2 16 [.int .i64 0,.int .i64 0] (.t 6),mV 3 7]
 (.seq (.seq (rE 4 (kI 0))
 (.blk 0 (.loop (.gw (.seq (sR [mV 8 4,mV 9 0,.ln 10 (.t 9),bI 11 .lss 8 10]
 (.cond (.t 11) .skip
 (.exit 0)))
 (.seq (.blk 1 (.reg [mV 14 3,mV 15 4,mV 16 0,mV 17 4,iA 18 16 17 2,lD 19 18 2 true,cQ 20 ZK9 [19],iA 21 14 15 2,.st (.t 21) (.t 20) 2]))
 (.reg [mV 12 4,.bi 13 .add (.t 12) (kI 1),mV 4 13])))))))
 (sR [mV 22 3,mV 2 22]
 gR)))
def Zz3 (a1:List Dep) (v4:Int × (List Dep)) (k4:(Int × (List Dep)) -> Option (List Dep)):Option (List Dep) :=
 bif (decide (v4.1 < (a1.length:Int))) then ((idx a1 v4.1).bind fun e6=>(idx v4.2 v4.1).bind fun _=>k4 ((w64 (v4.1 + 1)),(v4.2.set v4.1.toNat (laws_toDep e6)))) else (some v4.2)
def laws_toDepS (a1:List Dep):Option (List Dep) :=
 (mkL 16 (a1.length:Int) (Dep.mk 0 0)).bind fun xs2=>whl (Zz3 a1) 9223372036854775807 (0,xs2)
theorem Zah {a1:List Dep} {r:(List Dep)} (H:laws_toDepS a1 = some r):Snd Tryz.prog ZSb [.sl .rd 2 (a1.map eDep)] (.sl .nw 2 (r.map eDep)) []:=by
 refine wS ZUh [.t 2] ?_
 unfold laws_toDepS at H
 obtain ⟨xs2,h2,H⟩:=bB H
 refine wG [.u 6 (.ln _ _ fun _=>lm a1 eDep),.u 7 (.ms _ _ _ _ fun _=>ZV6 eDep h2)] fun q3=>?_
 refine wW (fun (v4:Int × (List Dep))=>⟨[(0,.sl .rd 2 (a1.map eDep)),(3,.sref 7),(4,.int .i64 v4.1)],[],[],[(7,⟨2,v4.2.map eDep,false⟩)]⟩) H (fun v4 I m k4 H N13=>?_)
 unfold Zz3 at H
 refine wG [.u 10 (.ln _ _ fun _=>lm a1 eDep)] fun q5=>?_
 refine Wh_iH H (fun H=>?_) fun H=>?_
 .obtain ⟨e6,h6,H⟩:=bB H
  obtain ⟨e7,h7,H⟩:=bB H
  refine wG [.u 18 (.ix _ _ _ fun _=>Z0 eDep h6),.c 20 (ZOj e6),.u 21 (.ix _ _ _ fun _=>Z0 eDep h7),.u 1000000 (.sto _ _ _ (eDep (laws_toDep e6)) _ (fun _=>gm eDep (Zw1 h7)) (fun _=>ZS4 ..))] fun _=>?_
  exact wT (N13 _ H)
 .refine wP ?_
  replace H:=sI H; subst H
  exact wN [(2,.f)] [] [] [7] [] [⟨_,nw_Dep v4.2⟩]
def Z1i:L :=
.seq (rE 4 (kI 0))
 (sR [mV 5 1,mV 6 0,.ln 7 (.t 6),bI 8 .sub 5 7,mV 1 8]
 (.seq (sR [mV 9 1,.bi 10 .lss (.t 9) (kI 0)]
 (.cond (.t 10) (.seq (rE 4 (kI (-1)))
 gR)
 .skip))
 (sR [mV 11 1,mV 4 11]
 gR)))
def Zg5 (a1:List Dep) (left2:Int):Option Int :=
 bif (decide ((w64 (left2 - (a1.length:Int))) < 0)) then (some (-1)) else (some (w64 (left2 - (a1.length:Int))))
theorem ZId {a1:List Dep} {left2:Int} {r:Int} (H:Zg5 a1 left2 = some r):Snd Tryz.prog Zk8 [.sl .rd 2 (a1.map eDep),.int .i64 left2] (.int .i64 r) []:=by
 refine wS Z1i [.t 4] ?_
 unfold Zg5 at H
 refine wG [.u 7 (.ln _ _ fun _=>lm a1 eDep)] fun q3=>?_
 refine Wh_iH H (fun H=>?_) fun H=>?_
 .refine wP ?_
  replace H:=sI H; subst H
  exact wE [(4,.d)]
 .refine wP ?_
  replace H:=sI H; subst H
  exact wE [(4,.d)]
def laws_szDepS (a1:List Dep) (left2:Int):Int :=
 bif (decide ((w64 (left2 - (a1.length:Int))) < 0)) then ((-1)) else ((w64 (left2 - (a1.length:Int))))
theorem ZUj (a1:List Dep) (left2:Int):Zg5 a1 left2 = some (laws_szDepS a1 left2):=by
 unfold Zg5 laws_szDepS
 first | rfl | simp only [Z7]
theorem Zmh (a1:List Dep) (left2:Int):Snd Tryz.prog Zk8 [.sl .rd 2 (a1.map eDep),.int .i64 left2] (.int .i64 (laws_szDepS a1 left2)) []:=ZId (ZUj a1 left2)
def Zhk:L :=
sR [.bx 2 (.t 0),.bx 3 (.t 1),.mv 4 (cB false)]
 (.seq (sR [fA 5 2 0,lD 6 5 1 false,fA 7 3 0,lD 8 7 1 false,bI 9 .neq 6 8]
 (.cond (.t 9) (.seq (rE 4 (cB false))
 gR)
 .skip))
 (.seq (sR [fA 10 2 1,lD 11 10 1 false,fA 12 3 1,lD 13 12 1 false,bI 14 .neq 11 13]
 (.cond (.t 14) (.seq (rE 4 (cB false))
 gR)
 .skip))
 (.seq (rE 4 (cB true))
 gR)))
def Zo6 (a1:Dep) (b2:Dep):Option Bool :=
 bif (a1.id != b2.id) then (some false) else (bif (a1.for_ != b2.for_) then (some false) else (some true))
theorem Zxf {a1:Dep} {b2:Dep} {r:Bool} (H:Zo6 a1 b2 = some r):Snd Tryz.prog ZR9 [eDep a1,eDep b2] (.bool r) []:=by
 refine wS Zhk [.t 4] ?_
 unfold Zo6 at H
 refine wP ?_
 refine Wh_iH H (fun H=>?_) fun H=>?_
 .refine wP ?_
  replace H:=sI H; subst H
  exact wE [(4,.d)]
 .refine wP ?_
  refine Wh_iH H (fun H=>?_) fun H=>?_
  .refine wP ?_
   replace H:=sI H; subst H
   exact wE [(4,.d)]
  .refine wP ?_
   replace H:=sI H; subst H
   exact wE [(4,.d)]
def laws_eqDep (a1:Dep) (b2:Dep):Bool :=
 bif (a1.id != b2.id) then (false) else (bif (a1.for_ != b2.for_) then (false) else (true))
theorem Zzl (a1:Dep) (b2:Dep):Zo6 a1 b2 = some (laws_eqDep a1 b2):=by
 unfold Zo6 laws_eqDep
 first | rfl | simp only [Z7]
theorem ZYj (a1:Dep) (b2:Dep):Snd Tryz.prog ZR9 [eDep a1,eDep b2] (.bool (laws_eqDep a1 b2)) []:=Zxf (Zzl a1 b2)
def Z9i:L :=
.seq (rE 4 (cB false))
 (.seq (sR [mV 6 0,.ln 7 (.t 6),mV 8 1,.ln 9 (.t 8),bI 10 .neq 7 9]
 (.cond (.t 10) (.seq (rE 4 (cB false))
 gR)
 .skip))
 (.seq (.seq (rE 5 (kI 0))
 (.blk 0 (.loop (.gw (.seq (sR [mV 11 5,mV 12 0,.ln 13 (.t 12),bI 14 .lss 11 13]
 (.cond (.t 14) .skip
 (.exit 0)))
 (.seq (.blk 1 (.seq (.rq 10 [mV 17 0,mV 18 5,iA 19 17 18 2,lD 20 19 2 true,mV 21 1,mV 22 5,iA 23 21 22 2,lD 24 23 2 true,cQ 25 ZR9 [20,24],.un 26 (.t 25)])
 (.cond (.t 26) (.seq (rE 4 (cB false))
 gR)
 .skip)))
 (.reg [mV 15 5,.bi 16 .add (.t 15) (kI 1),mV 5 16])))))))
 (.seq (rE 4 (cB true))
 gR)))
def ZG3 (a1:List Dep) (b2:List Dep) (v4:Int) (k4:Int -> Option Bool):Option Bool :=
 bif (decide (v4 < (a1.length:Int))) then ((idx a1 v4).bind fun e6=>(idx b2 v4).bind fun e7=>bif (!(laws_eqDep e6 e7)) then (some false) else (k4 (w64 (v4 + 1)))) else (some true)
def laws_eqDepS (a1:List Dep) (b2:List Dep):Option Bool :=
 bif ((a1.length:Int) != (b2.length:Int)) then (some false) else (whl (ZG3 a1 b2) 9223372036854775807 0)
theorem Zwh {a1:List Dep} {b2:List Dep} {r:Bool} (H:laws_eqDepS a1 b2 = some r):Snd Tryz.prog Z0c [.sl .rd 2 (a1.map eDep),.sl .rd 2 (b2.map eDep)] (.bool r) []:=by
 refine wS Z9i [.t 4] ?_
 unfold laws_eqDepS at H
 refine wG [.u 7 (.ln _ _ fun _=>lm a1 eDep),.u 9 (.ln _ _ fun _=>lm b2 eDep)] fun q3=>?_
 refine Wh_iH H (fun H=>?_) fun H=>?_
 .refine wP ?_
  replace H:=sI H; subst H
  exact wE [(4,.d)]
 .refine wP ?_
  refine wW (fun (v4:Int)=>⟨[(0,.sl .rd 2 (a1.map eDep)),(1,.sl .rd 2 (b2.map eDep)),(5,.int .i64 v4)],[],[],[]⟩) H (fun v4 I m k4 H N25=>?_)
  unfold ZG3 at H
  refine wG [.u 13 (.ln _ _ fun _=>lm a1 eDep)] fun q5=>?_
  refine Wh_iH H (fun H=>?_) fun H=>?_
  .obtain ⟨e6,h6,H⟩:=bB H
   obtain ⟨e7,h7,H⟩:=bB H
   refine wG [.u 19 (.ix _ _ _ fun _=>Z0 eDep h6),.u 23 (.ix _ _ _ fun _=>Z0 eDep h7),.c 25 (ZYj e6 e7)] fun _=>?_
   refine Wh_iH H (fun H=>?_) fun H=>?_
   .refine wP ?_
    replace H:=sI H; subst H
    exact wE [(4,.d)]
   .refine wP ?_
    exact wT (N25 _ H)
  .refine wP ?_
   replace H:=sI H; subst H
   exact wE [(4,.d)]
def ZUf:L :=
sR [.bx 1 (.t 0),.al 2 [.str [],.int .i64 0,.int .i64 0,.int .i64 0,.int .i64 0,.int .i64 0]]
 (sR [.al 3 [.str [],.int .i64 0,.int .i64 0,.int .i64 0,.int .i64 0,.int .i64 0]]
 (sR [fA 4 1 0,lD 5 4 1 false,fA 6 3 0,.st (.t 6) (.t 5) 1]
 (sR [fA 7 1 1,lD 8 7 1 false,fA 9 3 1,.st (.t 9) (.t 8) 1]
 (sR [fA 10 1 2,lD 11 10 1 false,fA 12 3 2,.st (.t 12) (.t 11) 1]
 (sR [fA 13 1 3,lD 14 13 3 true,cQ 15 Zj2 [14],fA 16 3 3,.st (.t 16) (.t 15) 3]
 (sR [lD 17 3 6 true,.st (.t 2) (.t 17) 6]
 gR))))))
def Zk4 (a1:Quota):Option Quota :=
 some (Quota.mk a1.name a1.jobs a1.nodes (laws_toVec a1.res))
theorem Zmc {a1:Quota} {r:Quota} (H:Zk4 a1 = some r):Snd Tryz.prog Zl7 [Zj a1] (Zj r) []:=by
 refine wS ZUf [.c 2 6 true] ?_
 unfold Zk4 at H
 refine wG [.c 15 (Zu3 a1.res)] fun _=>?_
 replace H:=sI H; subst H
 exact wN [(2,.d)] [(2,[])] [] [] [] []
def laws_toQuota (a1:Quota):Quota :=
 (Quota.mk a1.name a1.jobs a1.nodes (laws_toVec a1.res))
theorem Z2h (a1:Quota):Zk4 a1 = some (laws_toQuota a1):=by
 unfold Zk4 laws_toQuota
 first | rfl | simp only [Z7]
theorem Z8f (a1:Quota):Snd Tryz.prog Zl7 [Zj a1] (Zj (laws_toQuota a1)) []:=Zmc (Z2h a1)
def Z3e:L :=
sR [.mv 2 (.c (.nl))]
 (sR [mV 5 0,.ln 6 (.t 5),.ms 7 6 56 [.str [],.int .i64 0,.int .i64 0,.int .i64 0,.int .i64 0,.int .i64 0] (.t 6),mV 3 7]
 (.seq (.seq (rE 4 (kI 0))
 (.blk 0 (.loop (.gw (.seq (sR [mV 8 4,mV 9 0,.ln 10 (.t 9),bI 11 .lss 8 10]
 (.cond (.t 11) .skip
 (.exit 0)))
 (.seq (.blk 1 (.reg [mV 14 3,mV 15 4,mV 16 0,mV 17 4,iA 18 16 17 6,lD 19 18 6 true,cQ 20 Zl7 [19],iA 21 14 15 6,.st (.t 21) (.t 20) 6]))
 (.reg [mV 12 4,.bi 13 .add (.t 12) (kI 1),mV 4 13])))))))
 (sR [mV 22 3,mV 2 22]
 gR)))
def Zs2 (a1:List Quota) (v4:Int × (List Quota)) (k4:(Int × (List Quota)) -> Option (List Quota)):Option (List Quota) :=
 bif (decide (v4.1 < (a1.length:Int))) then ((idx a1 v4.1).bind fun e6=>(idx v4.2 v4.1).bind fun _=>k4 ((w64 (v4.1 + 1)),(v4.2.set v4.1.toNat (Quota.mk ((laws_toQuota e6).name) ((laws_toQuota e6).jobs) ((laws_toQuota e6).nodes) ((laws_toQuota e6).res))))) else (some v4.2)
def laws_toQuotaS (a1:List Quota):Option (List Quota) :=
 (mkL 56 (a1.length:Int) (Quota.mk ([]:Str) 0 0 (Vec.mk 0 0 0))).bind fun xs2=>whl (Zs2 a1) 9223372036854775807 (0,xs2)
theorem Zwd {a1:List Quota} {r:(List Quota)} (H:laws_toQuotaS a1 = some r):Snd Tryz.prog ZH9 [.sl .rd 6 (a1.map Zj)] (.sl .nw 6 (r.map Zj)) []:=by
 refine wS Z3e [.t 2] ?_
 unfold laws_toQuotaS at H
 obtain ⟨xs2,h2,H⟩:=bB H
 refine wG [.u 6 (.ln _ _ fun _=>lm a1 Zj),.u 7 (.ms _ _ _ _ fun _=>ZV6 Zj h2)] fun q3=>?_
 refine wW (fun (v4:Int × (List Quota))=>⟨[(0,.sl .rd 6 (a1.map Zj)),(3,.sref 7),(4,.int .i64 v4.1)],[],[],[(7,⟨6,v4.2.map Zj,false⟩)]⟩) H (fun v4 I m k4 H N13=>?_)
 unfold Zs2 at H
 refine wG [.u 10 (.ln _ _ fun _=>lm a1 Zj)] fun q5=>?_
 refine Wh_iH H (fun H=>?_) fun H=>?_
 .obtain ⟨e6,h6,H⟩:=bB H
  obtain ⟨e7,h7,H⟩:=bB H
  refine wG [.u 18 (.ix _ _ _ fun _=>Z0 Zj h6),.c 20 (Z8f e6),.u 21 (.ix _ _ _ fun _=>Z0 Zj h7),.u 1000000 (.sto _ _ _ (Zj (Quota.mk ((laws_toQuota e6).name) ((laws_toQuota e6).jobs) ((laws_toQuota e6).nodes) ((laws_toQuota e6).res))) _ (fun _=>gm Zj (Zw1 h7)) (fun _=>ZS4 ..))] fun _=>?_
  exact wT (N13 _ H)
 .refine wP ?_
  replace H:=sI H; subst H
  exact wN [(2,.f)] [] [] [7] [] [⟨_,ZJm v4.2⟩]
def ZZf:L :=
sR [.bx 2 (.t 0),.mv 4 (kI 0)]
 (sR [mV 5 1,fA 6 2 0,lD 7 6 1 false,.ls 8 (.t 7),bI 9 .sub 5 8,mV 1 9]
 (.seq (sR [mV 10 1,.bi 11 .lss (.t 10) (kI 0)]
 (.cond (.t 11) (.seq (rE 4 (kI (-1)))
 gR)
 .skip))
 (sR [mV 12 1,mV 4 12]
 gR)))
def Zm4 (a1:Quota) (left2:Int):Option Int :=
 bif (decide ((w64 (left2 - (a1.name.length:Int))) < 0)) then (some (-1)) else (some (w64 (left2 - (a1.name.length:Int))))
theorem Zpc {a1:Quota} {left2:Int} {r:Int} (H:Zm4 a1 left2 = some r):Snd Tryz.prog Zn7 [Zj a1,.int .i64 left2] (.int .i64 r) []:=by
 refine wS ZZf [.t 4] ?_
 unfold Zm4 at H
 refine wP ?_
 refine Wh_iH H (fun H=>?_) fun H=>?_
 .refine wP ?_
  replace H:=sI H; subst H
  exact wE [(4,.d)]
 .refine wP ?_
  replace H:=sI H; subst H
  exact wE [(4,.d)]
def laws_szQuota (a1:Quota) (left2:Int):Int :=
 bif (decide ((w64 (left2 - (a1.name.length:Int))) < 0)) then ((-1)) else ((w64 (left2 - (a1.name.length:Int))))
theorem Zfh (a1:Quota) (left2:Int):Zm4 a1 left2 = some (laws_szQuota a1 left2):=by
 unfold Zm4 laws_szQuota
 first | rfl | simp only [Z7]
theorem Zjf (a1:Quota) (left2:Int):Snd Tryz.prog Zn7 [Zj a1,.int .i64 left2] (.int .i64 (laws_szQuota a1 left2)) []:=Zpc (Zfh a1 left2)
def Z5e:L :=
.seq (rE 4 (kI 0))
 (sR [mV 6 1,mV 7 0,.ln 8 (.t 7),bI 9 .sub 6 8,mV 1 9]
 (.seq (sR [mV 10 1,.bi 11 .lss (.t 10) (kI 0)]
 (.cond (.t 11) (.seq (rE 4 (kI (-1)))
 gR)
 .skip))
 (.seq (.seq (rE 5 (kI 0))
 (.blk 0 (.loop (.gw (.seq (sR [mV 12 5,mV 13 0,.ln 14 (.t 13),bI 15 .lss 12 14]
 (.cond (.t 15) .skip
 (.exit 0)))
 (.seq (.blk 1 (sR [mV 18 0,mV 19 5,iA 20 18 19 6,lD 21 20 6 true,mV 22 1,cQ 23 Zn7 [21,22],mV 1 23]
 (sR [mV 24 1,.bi 25 .lss (.t 24) (kI 0)]
 (.cond (.t 25) (.seq (rE 4 (kI (-1)))
 gR)
 .skip))))
 (.reg [mV 16 5,.bi 17 .add (.t 16) (kI 1),mV 5 17])))))))
 (sR [mV 26 1,mV 4 26]
 gR))))
def ZJ1 (a1:List Quota) (v4:Int × Int) (k4:(Int × Int) -> Option Int):Option Int :=
 bif (decide (v4.2 < (a1.length:Int))) then ((idx a1 v4.2).bind fun e6=>bif (decide ((laws_szQuota e6 v4.1) < 0)) then (some (-1)) else (k4 ((laws_szQuota e6 v4.1),(w64 (v4.2 + 1))))) else (some v4.1)
def laws_szQuotaS (a1:List Quota) (left2:Int):Option Int :=
 bif (decide ((w64 (left2 - (a1.length:Int))) < 0)) then (some (-1)) else (whl (ZJ1 a1) 9223372036854775807 ((w64 (left2 - (a1.length:Int))),0))
theorem ZDd {a1:List Quota} {left2:Int} {r:Int} (H:laws_szQuotaS a1 left2 = some r):Snd Tryz.prog ZM9 [.sl .rd 6 (a1.map Zj),.int .i64 left2] (.int .i64 r) []:=by
 refine wS Z5e [.t 4] ?_
 unfold laws_szQuotaS at H
 refine wG [.u 8 (.ln _ _ fun _=>lm a1 Zj)] fun q3=>?_
 refine Wh_iH H (fun H=>?_) fun H=>?_
 .refine wP ?_
  replace H:=sI H; subst H
  exact wE [(4,.d)]
 .refine wP ?_
  refine wW (fun (v4:Int × Int)=>⟨[(0,.sl .rd 6 (a1.map Zj)),(1,.int .i64 v4.1),(5,.int .i64 v4.2)],[],[],[]⟩) H (fun v4 I m k4 H N28=>?_)
  unfold ZJ1 at H
  refine wG [.u 14 (.ln _ _ fun _=>lm a1 Zj)] fun q5=>?_
  refine Wh_iH H (fun H=>?_) fun H=>?_
  .obtain ⟨e6,h6,H⟩:=bB H
   refine wG [.u 20 (.ix _ _ _ fun _=>Z0 Zj h6),.c 23 (Zjf e6 v4.1)] fun _=>?_
   refine Wh_iH H (fun H=>?_) fun H=>?_
   .refine wP ?_
    replace H:=sI H; subst H
    exact wE [(4,.d)]
   .refine wP ?_
    exact wT (N28 _ H)
  .refine wP ?_
   replace H:=sI H; subst H
   exact wE [(4,.d)]
def Z4g:L :=
sR [.bx 2 (.t 0),.bx 3 (.t 1),.mv 4 (cB false)]
 (.seq (sR [fA 5 2 0,lD 6 5 1 false,fA 7 3 0,lD 8 7 1 false,bI 9 .neq 6 8]
 (.cond (.t 9) (.seq (rE 4 (cB false))
 gR)
 .skip))
 (.seq (sR [fA 10 2 1,lD 11 10 1 false,fA 12 3 1,lD 13 12 1 false,bI 14 .neq 11 13]
 (.cond (.t 14) (.seq (rE 4 (cB false))
 gR)
 .skip))
 (.seq (sR [fA 15 2 2,lD 16 15 1 false,fA 17 3 2,lD 18 17 1 false,bI 19 .neq 16 18]
 (.cond (.t 19) (.seq (rE 4 (cB false))
 gR)
 .skip))
 (.seq (sR [fA 20 2 3,lD 21 20 3 true,fA 22 3 3,lD 23 22 3 true,cQ 24 Zk2 [21,23],.un 25 (.t 24)]
 (.cond (.t 25) (.seq (rE 4 (cB false))
 gR)
 .skip))
 (.seq (rE 4 (cB true))
 gR)))))
def Zq4 (a1:Quota) (b2:Quota):Option Bool :=
 bif (a1.name != b2.name) then (some false) else (bif (a1.jobs != b2.jobs) then (some false) else (bif (a1.nodes != b2.nodes) then (some false) else (bif (!(laws_eqVec a1.res b2.res)) then (some false) else (some true))))
theorem Zwc {a1:Quota} {b2:Quota} {r:Bool} (H:Zq4 a1 b2 = some r):Snd Tryz.prog Zr7 [Zj a1,Zj b2] (.bool r) []:=by
 refine wS Z4g [.t 4] ?_
 unfold Zq4 at H
 refine wP ?_
 refine Wh_iH H (fun H=>?_) fun H=>?_
 .refine wP ?_
  replace H:=sI H; subst H
  exact wE [(4,.d)]
 .refine wP ?_
  refine Wh_iH H (fun H=>?_) fun H=>?_
  .refine wP ?_
   replace H:=sI H; subst H
   exact wE [(4,.d)]
  .refine wP ?_
   refine Wh_iH H (fun H=>?_) fun H=>?_
   .refine wP ?_
    replace H:=sI H; subst H
    exact wE [(4,.d)]
   .refine wG [.c 24 (ZB3 a1.res b2.res)] fun _=>?_
    refine Wh_iH H (fun H=>?_) fun H=>?_
    .refine wP ?_
     replace H:=sI H; subst H
     exact wE [(4,.d)]
    .refine wP ?_
     replace H:=sI H; subst H
     exact wE [(4,.d)]
def laws_eqQuota (a1:Quota) (b2:Quota):Bool :=
 bif (a1.name != b2.name) then (false) else (bif (a1.jobs != b2.jobs) then (false) else (bif (a1.nodes != b2.nodes) then (false) else (bif (!(laws_eqVec a1.res b2.res)) then (false) else (true))))
theorem Zqh (a1:Quota) (b2:Quota):Zq4 a1 b2 = some (laws_eqQuota a1 b2):=by
 unfold Zq4 laws_eqQuota
 first | rfl | simp only [Z7]
theorem Zqf (a1:Quota) (b2:Quota):Snd Tryz.prog Zr7 [Zj a1,Zj b2] (.bool (laws_eqQuota a1 b2)) []:=Zwc (Zqh a1 b2)
def Z7e:L :=
.seq (rE 4 (cB false))
 (.seq (sR [mV 6 0,.ln 7 (.t 6),mV 8 1,.ln 9 (.t 8),bI 10 .neq 7 9]
 (.cond (.t 10) (.seq (rE 4 (cB false))
 gR)
 .skip))
 (.seq (.seq (rE 5 (kI 0))
 (.blk 0 (.loop (.gw (.seq (sR [mV 11 5,mV 12 0,.ln 13 (.t 12),bI 14 .lss 11 13]
 (.cond (.t 14) .skip
 (.exit 0)))
 (.seq (.blk 1 (.seq (.rq 10 [mV 17 0,mV 18 5,iA 19 17 18 6,lD 20 19 6 true,mV 21 1,mV 22 5,iA 23 21 22 6,lD 24 23 6 true,cQ 25 Zr7 [20,24],.un 26 (.t 25)])
 (.cond (.t 26) (.seq (rE 4 (cB false))
 gR)
 .skip)))
 (.reg [mV 15 5,.bi 16 .add (.t 15) (kI 1),mV 5 16])))))))
 (.seq (rE 4 (cB true))
 gR)))
def Zu2 (a1:List Quota) (b2:List Quota) (v4:Int) (k4:Int -> Option Bool):Option Bool :=
 bif (decide (v4 < (a1.length:Int))) then ((idx a1 v4).bind fun e6=>(idx b2 v4).bind fun e7=>bif (!(laws_eqQuota e6 e7)) then (some false) else (k4 (w64 (v4 + 1)))) else (some true)
def laws_eqQuotaS (a1:List Quota) (b2:List Quota):Option Bool :=
 bif ((a1.length:Int) != (b2.length:Int)) then (some false) else (whl (Zu2 a1 b2) 9223372036854775807 0)
theorem ZMd {a1:List Quota} {b2:List Quota} {r:Bool} (H:laws_eqQuotaS a1 b2 = some r):Snd Tryz.prog ZO9 [.sl .rd 6 (a1.map Zj),.sl .rd 6 (b2.map Zj)] (.bool r) []:=by
 refine wS Z7e [.t 4] ?_
 unfold laws_eqQuotaS at H
 refine wG [.u 7 (.ln _ _ fun _=>lm a1 Zj),.u 9 (.ln _ _ fun _=>lm b2 Zj)] fun q3=>?_
 refine Wh_iH H (fun H=>?_) fun H=>?_
 .refine wP ?_
  replace H:=sI H; subst H
  exact wE [(4,.d)]
 .refine wP ?_
  refine wW (fun (v4:Int)=>⟨[(0,.sl .rd 6 (a1.map Zj)),(1,.sl .rd 6 (b2.map Zj)),(5,.int .i64 v4)],[],[],[]⟩) H (fun v4 I m k4 H N25=>?_)
  unfold Zu2 at H
  refine wG [.u 13 (.ln _ _ fun _=>lm a1 Zj)] fun q5=>?_
  refine Wh_iH H (fun H=>?_) fun H=>?_
  .obtain ⟨e6,h6,H⟩:=bB H
   obtain ⟨e7,h7,H⟩:=bB H
   refine wG [.u 19 (.ix _ _ _ fun _=>Z0 Zj h6),.u 23 (.ix _ _ _ fun _=>Z0 Zj h7),.c 25 (Zqf e6 e7)] fun _=>?_
   refine Wh_iH H (fun H=>?_) fun H=>?_
   .refine wP ?_
    replace H:=sI H; subst H
    exact wE [(4,.d)]
   .refine wP ?_
    exact wT (N25 _ H)
  .refine wP ?_
   replace H:=sI H; subst H
   exact wE [(4,.d)]
def ZVf:L :=
sR [.bx 1 (.t 0),.al 2 [.int .i64 0,.str []]]
 (sR [.al 3 [.int .i64 0,.str []]]
 (sR [fA 4 1 0,lD 5 4 1 false,fA 6 3 0,.st (.t 6) (.t 5) 1]
 (sR [fA 7 1 1,lD 8 7 1 false,fA 9 3 1,.st (.t 9) (.t 8) 1]
 (sR [lD 10 3 2 true,.st (.t 2) (.t 10) 2]
 gR))))
def Zl4 (a1:Owner):Option Owner :=
 some a1
theorem Znc {a1:Owner} {r:Owner} (H:Zl4 a1 = some r):Snd Tryz.prog Zm7 [Zp a1] (Zp r) []:=by
 refine wS ZVf [.c 2 2 true] ?_
 unfold Zl4 at H
 refine wP ?_
 replace H:=sI H; subst H
 exact wN [(2,.d)] [(2,[])] [] [] [] []
def laws_toOwner (a1:Owner):Owner :=
 a1
theorem Z3h (a1:Owner):Zl4 a1 = some (laws_toOwner a1):=by
 unfold Zl4 laws_toOwner
 first | rfl | simp only [Z7]
theorem Z9f (a1:Owner):Snd Tryz.prog Zm7 [Zp a1] (Zp (laws_toOwner a1)) []:=Znc (Z3h a1)
def Z4e:L :=
sR [.mv 2 (.c (.nl))]
 (sR [mV 5 0,.ln 6 (.t 5),.ms 7 2 24 [.int .i64 0,.str []] (.t 6),mV 3 7]
 (.seq (.seq (rE 4 (kI 0))
 (.blk 0 (.loop (.gw (.seq (sR [mV 8 4,mV 9 0,.ln 10 (.t 9),bI 11 .lss 8 10]
 (.cond (.t 11) .skip
 (.exit 0)))
 (.seq (.blk 1 (.reg [mV 14 3,mV 15 4,mV 16 0,mV 17 4,iA 18 16 17 2,lD 19 18 2 true,cQ 20 Zm7 [19],iA 21 14 15 2,.st (.t 21) (.t 20) 2]))
 (.reg [mV 12 4,.bi 13 .add (.t 12) (kI 1),mV 4 13])))))))
 (sR [mV 22 3,mV 2 22]
 gR)))
def Zt2 (a1:List Owner) (v4:Int × (List Owner)) (k4:(Int × (List Owner)) -> Option (List Owner)):Option (List Owner) :=
 bif (decide (v4.1 < (a1.length:Int))) then ((idx a1 v4.1).bind fun e6=>(idx v4.2 v4.1).bind fun _=>k4 ((w64 (v4.1 + 1)),(v4.2.set v4.1.toNat (laws_toOwner e6)))) else (some v4.2)
def laws_toOwnerS (a1:List Owner):Option (List Owner) :=
 (mkL 24 (a1.length:Int) (Owner.mk 0 ([]:Str))).bind fun xs2=>whl (Zt2 a1) 9223372036854775807 (0,xs2)
theorem Zyd {a1:List Owner} {r:(List Owner)} (H:laws_toOwnerS a1 = some r):Snd Tryz.prog ZI9 [.sl .rd 2 (a1.map Zp)] (.sl .nw 2 (r.map Zp)) []:=by
 refine wS Z4e [.t 2] ?_
 unfold laws_toOwnerS at H
 obtain ⟨xs2,h2,H⟩:=bB H
 refine wG [.u 6 (.ln _ _ fun _=>lm a1 Zp),.u 7 (.ms _ _ _ _ fun _=>ZV6 Zp h2)] fun q3=>?_
 refine wW (fun (v4:Int × (List Owner))=>⟨[(0,.sl .rd 2 (a1.map Zp)),(3,.sref 7),(4,.int .i64 v4.1)],[],[],[(7,⟨2,v4.2.map Zp,false⟩)]⟩) H (fun v4 I m k4 H N13=>?_)
 unfold Zt2 at H
 refine wG [.u 10 (.ln _ _ fun _=>lm a1 Zp)] fun q5=>?_
 refine Wh_iH H (fun H=>?_) fun H=>?_
 .obtain ⟨e6,h6,H⟩:=bB H
  obtain ⟨e7,h7,H⟩:=bB H
  refine wG [.u 18 (.ix _ _ _ fun _=>Z0 Zp h6),.c 20 (Z9f e6),.u 21 (.ix _ _ _ fun _=>Z0 Zp h7),.u 1000000 (.sto _ _ _ (Zp (laws_toOwner e6)) _ (fun _=>gm Zp (Zw1 h7)) (fun _=>ZS4 ..))] fun _=>?_
  exact wT (N13 _ H)
 .refine wP ?_
  replace H:=sI H; subst H
  exact wN [(2,.f)] [] [] [7] [] [⟨_,ZKm v4.2⟩]
def Z0g:L :=
sR [.bx 2 (.t 0),.mv 4 (kI 0)]
 (sR [mV 5 1,fA 6 2 1,lD 7 6 1 false,.ls 8 (.t 7),bI 9 .sub 5 8,mV 1 9]
 (.seq (sR [mV 10 1,.bi 11 .lss (.t 10) (kI 0)]
 (.cond (.t 11) (.seq (rE 4 (kI (-1)))
 gR)
 .skip))
 (sR [mV 12 1,mV 4 12]
 gR)))
def Zn4 (a1:Owner) (left2:Int):Option Int :=
 bif (decide ((w64 (left2 - (a1.name.length:Int))) < 0)) then (some (-1)) else (some (w64 (left2 - (a1.name.length:Int))))
theorem Zqc {a1:Owner} {left2:Int} {r:Int} (H:Zn4 a1 left2 = some r):Snd Tryz.prog Zo7 [Zp a1,.int .i64 left2] (.int .i64 r) []:=by
 refine wS Z0g [.t 4] ?_
 unfold Zn4 at H
 refine wP ?_
 refine Wh_iH H (fun H=>?_) fun H=>?_
 .refine wP ?_
  replace H:=sI H; subst H
  exact wE [(4,.d)]
 .refine wP ?_
  replace H:=sI H; subst H
  exact wE [(4,.d)]
def laws_szOwner (a1:Owner) (left2:Int):Int :=
 bif (decide ((w64 (left2 - (a1.name.length:Int))) < 0)) then ((-1)) else ((w64 (left2 - (a1.name.length:Int))))
theorem Zgh (a1:Owner) (left2:Int):Zn4 a1 left2 = some (laws_szOwner a1 left2):=by
 unfold Zn4 laws_szOwner
 first | rfl | simp only [Z7]
theorem Zkf (a1:Owner) (left2:Int):Snd Tryz.prog Zo7 [Zp a1,.int .i64 left2] (.int .i64 (laws_szOwner a1 left2)) []:=Zqc (Zgh a1 left2)
def Z6e:L :=
.seq (rE 4 (kI 0))
 (sR [mV 6 1,mV 7 0,.ln 8 (.t 7),bI 9 .sub 6 8,mV 1 9]
 (.seq (sR [mV 10 1,.bi 11 .lss (.t 10) (kI 0)]
 (.cond (.t 11) (.seq (rE 4 (kI (-1)))
 gR)
 .skip))
 (.seq (.seq (rE 5 (kI 0))
 (.blk 0 (.loop (.gw (.seq (sR [mV 12 5,mV 13 0,.ln 14 (.t 13),bI 15 .lss 12 14]
 (.cond (.t 15) .skip
 (.exit 0)))
 (.seq (.blk 1 (sR [mV 18 0,mV 19 5,iA 20 18 19 2,lD 21 20 2 true,mV 22 1,cQ 23 Zo7 [21,22],mV 1 23]
 (sR [mV 24 1,.bi 25 .lss (.t 24) (kI 0)]
 (.cond (.t 25) (.seq (rE 4 (kI (-1)))
 gR)
 .skip))))
 (.reg [mV 16 5,.bi 17 .add (.t 16) (kI 1),mV 5 17])))))))
 (sR [mV 26 1,mV 4 26]
 gR))))
def ZK1 (a1:List Owner) (v4:Int × Int) (k4:(Int × Int) -> Option Int):Option Int :=
 bif (decide (v4.2 < (a1.length:Int))) then ((idx a1 v4.2).bind fun e6=>bif (decide ((laws_szOwner e6 v4.1) < 0)) then (some (-1)) else (k4 ((laws_szOwner e6 v4.1),(w64 (v4.2 + 1))))) else (some v4.1)
def laws_szOwnerS (a1:List Owner) (left2:Int):Option Int :=
 bif (decide ((w64 (left2 - (a1.length:Int))) < 0)) then (some (-1)) else (whl (ZK1 a1) 9223372036854775807 ((w64 (left2 - (a1.length:Int))),0))
theorem ZEd {a1:List Owner} {left2:Int} {r:Int} (H:laws_szOwnerS a1 left2 = some r):Snd Tryz.prog ZN9 [.sl .rd 2 (a1.map Zp),.int .i64 left2] (.int .i64 r) []:=by
 refine wS Z6e [.t 4] ?_
 unfold laws_szOwnerS at H
 refine wG [.u 8 (.ln _ _ fun _=>lm a1 Zp)] fun q3=>?_
 refine Wh_iH H (fun H=>?_) fun H=>?_
 .refine wP ?_
  replace H:=sI H; subst H
  exact wE [(4,.d)]
 .refine wP ?_
  refine wW (fun (v4:Int × Int)=>⟨[(0,.sl .rd 2 (a1.map Zp)),(1,.int .i64 v4.1),(5,.int .i64 v4.2)],[],[],[]⟩) H (fun v4 I m k4 H N28=>?_)
  unfold ZK1 at H
  refine wG [.u 14 (.ln _ _ fun _=>lm a1 Zp)] fun q5=>?_
  refine Wh_iH H (fun H=>?_) fun H=>?_
  .obtain ⟨e6,h6,H⟩:=bB H
   refine wG [.u 20 (.ix _ _ _ fun _=>Z0 Zp h6),.c 23 (Zkf e6 v4.1)] fun _=>?_
   refine Wh_iH H (fun H=>?_) fun H=>?_
   .refine wP ?_
    replace H:=sI H; subst H
    exact wE [(4,.d)]
   .refine wP ?_
    exact wT (N28 _ H)
  .refine wP ?_
   replace H:=sI H; subst H
   exact wE [(4,.d)]
def Z5g:L :=
sR [.bx 2 (.t 0),.bx 3 (.t 1),.mv 4 (cB false)]
 (.seq (sR [fA 5 2 0,lD 6 5 1 false,fA 7 3 0,lD 8 7 1 false,bI 9 .neq 6 8]
 (.cond (.t 9) (.seq (rE 4 (cB false))
 gR)
 .skip))
 (.seq (sR [fA 10 2 1,lD 11 10 1 false,fA 12 3 1,lD 13 12 1 false,bI 14 .neq 11 13]
 (.cond (.t 14) (.seq (rE 4 (cB false))
 gR)
 .skip))
 (.seq (rE 4 (cB true))
 gR)))
def Zr4 (a1:Owner) (b2:Owner):Option Bool :=
 bif (a1.id != b2.id) then (some false) else (bif (a1.name != b2.name) then (some false) else (some true))
theorem Zyc {a1:Owner} {b2:Owner} {r:Bool} (H:Zr4 a1 b2 = some r):Snd Tryz.prog Zs7 [Zp a1,Zp b2] (.bool r) []:=by
 refine wS Z5g [.t 4] ?_
 unfold Zr4 at H
 refine wP ?_
 refine Wh_iH H (fun H=>?_) fun H=>?_
 .refine wP ?_
  replace H:=sI H; subst H
  exact wE [(4,.d)]
 .refine wP ?_
  refine Wh_iH H (fun H=>?_) fun H=>?_
  .refine wP ?_
   replace H:=sI H; subst H
   exact wE [(4,.d)]
  .refine wP ?_
   replace H:=sI H; subst H
   exact wE [(4,.d)]
def laws_eqOwner (a1:Owner) (b2:Owner):Bool :=
 bif (a1.id != b2.id) then (false) else (bif (a1.name != b2.name) then (false) else (true))
theorem Zrh (a1:Owner) (b2:Owner):Zr4 a1 b2 = some (laws_eqOwner a1 b2):=by
 unfold Zr4 laws_eqOwner
 first | rfl | simp only [Z7]
theorem Zrf (a1:Owner) (b2:Owner):Snd Tryz.prog Zs7 [Zp a1,Zp b2] (.bool (laws_eqOwner a1 b2)) []:=Zyc (Zrh a1 b2)
def Z8e:L :=
.seq (rE 4 (cB false))
 (.seq (sR [mV 6 0,.ln 7 (.t 6),mV 8 1,.ln 9 (.t 8),bI 10 .neq 7 9]
 (.cond (.t 10) (.seq (rE 4 (cB false))
 gR)
 .skip))
 (.seq (.seq (rE 5 (kI 0))
 (.blk 0 (.loop (.gw (.seq (sR [mV 11 5,mV 12 0,.ln 13 (.t 12),bI 14 .lss 11 13]
 (.cond (.t 14) .skip
 (.exit 0)))
 (.seq (.blk 1 (.seq (.rq 10 [mV 17 0,mV 18 5,iA 19 17 18 2,lD 20 19 2 true,mV 21 1,mV 22 5,iA 23 21 22 2,lD 24 23 2 true,cQ 25 Zs7 [20,24],.un 26 (.t 25)])
 (.cond (.t 26) (.seq (rE 4 (cB false))
 gR)
 .skip)))
 (.reg [mV 15 5,.bi 16 .add (.t 15) (kI 1),mV 5 16])))))))
 (.seq (rE 4 (cB true))
 gR)))
def Zv2 (a1:List Owner) (b2:List Owner) (v4:Int) (k4:Int -> Option Bool):Option Bool :=
 bif (decide (v4 < (a1.length:Int))) then ((idx a1 v4).bind fun e6=>(idx b2 v4).bind fun e7=>bif (!(laws_eqOwner e6 e7)) then (some false) else (k4 (w64 (v4 + 1)))) else (some true)
def laws_eqOwnerS (a1:List Owner) (b2:List Owner):Option Bool :=
 bif ((a1.length:Int) != (b2.length:Int)) then (some false) else (whl (Zv2 a1 b2) 9223372036854775807 0)
theorem ZNd {a1:List Owner} {b2:List Owner} {r:Bool} (H:laws_eqOwnerS a1 b2 = some r):Snd Tryz.prog ZP9 [.sl .rd 2 (a1.map Zp),.sl .rd 2 (b2.map Zp)] (.bool r) []:=by
 refine wS Z8e [.t 4] ?_
 unfold laws_eqOwnerS at H
 refine wG [.u 7 (.ln _ _ fun _=>lm a1 Zp),.u 9 (.ln _ _ fun _=>lm b2 Zp)] fun q3=>?_
 refine Wh_iH H (fun H=>?_) fun H=>?_
 .refine wP ?_
  replace H:=sI H; subst H
  exact wE [(4,.d)]
 .refine wP ?_
  refine wW (fun (v4:Int)=>⟨[(0,.sl .rd 2 (a1.map Zp)),(1,.sl .rd 2 (b2.map Zp)),(5,.int .i64 v4)],[],[],[]⟩) H (fun v4 I m k4 H N25=>?_)
  unfold Zv2 at H
  refine wG [.u 13 (.ln _ _ fun _=>lm a1 Zp)] fun q5=>?_
  refine Wh_iH H (fun H=>?_) fun H=>?_
  .obtain ⟨e6,h6,H⟩:=bB H
   obtain ⟨e7,h7,H⟩:=bB H
   refine wG [.u 19 (.ix _ _ _ fun _=>Z0 Zp h6),.u 23 (.ix _ _ _ fun _=>Z0 Zp h7),.c 25 (Zrf e6 e7)] fun _=>?_
   refine Wh_iH H (fun H=>?_) fun H=>?_
   .refine wP ?_
    replace H:=sI H; subst H
    exact wE [(4,.d)]
   .refine wP ?_
    exact wT (N25 _ H)
  .refine wP ?_
   replace H:=sI H; subst H
   exact wE [(4,.d)]
def ZTh:L :=
sR [.bx 1 (.t 0),.al 2 [.nl,.nl,.nl,.int .i64 0,.int .i64 0,.int .i64 0,.int .i64 0,.int .i64 0,.nl,.nl,.nl,.nl,.nl,.nl,.nl]]
 (sR [.al 3 [.nl,.nl,.nl,.int .i64 0,.int .i64 0,.int .i64 0,.int .i64 0,.int .i64 0,.nl,.nl,.nl,.nl,.nl,.nl,.nl]]
 (sR [fA 4 1 0,lD 5 4 11 true,cQ 6 Zva [5],fA 7 3 0,.st (.t 7) (.t 6) 11]
 (sR [fA 8 1 11,lD 9 8 1 false,cQ 10 ZQ7 [9],fA 11 3 11,.st (.t 11) (.t 10) 1]
 (sR [fA 12 1 12,lD 13 12 1 false,cQ 14 ZH9 [13],fA 15 3 12,.st (.t 15) (.t 14) 1]
 (sR [fA 16 1 13,lD 17 16 1 false,cQ 18 ZSb [17],fA 19 3 13,.st (.t 19) (.t 18) 1]
 (sR [fA 20 1 14,lD 21 20 1 false,cQ 22 ZI9 [21],fA 23 3 14,.st (.t 23) (.t 22) 1]
 (sR [lD 24 3 15 true,.st (.t 2) (.t 24) 15]
 gR)))))))
def laws_toDesk (a1:Desk):Option Desk :=
 (laws_toState a1.state).bind fun y2=>(laws_toAccountS a1.accounts).bind fun y3=>(laws_toQuotaS a1.quotas).bind fun y4=>(laws_toDepS a1.deps).bind fun y5=>(laws_toOwnerS a1.owners).bind fun y6=>some (Desk.mk y2 y3 y4 y5 y6)
theorem ZX6 {a1:Desk} {r:Desk} (H:laws_toDesk a1 = some r):Snd Tryz.prog Zr5 [Zh2 .rd a1] (Zh2 .nw r) []:=by
 refine wS ZTh [.c 2 15 true] ?_
 unfold laws_toDesk at H
 obtain ⟨y2,h2,H⟩:=bB H
 obtain ⟨y3,h3,H⟩:=bB H
 obtain ⟨y4,h4,H⟩:=bB H
 obtain ⟨y5,h5,H⟩:=bB H
 obtain ⟨y6,h6,H⟩:=bB H
 refine wG [.c 6 (Z6f h2),.c 10 (Zeb h3),.c 14 (Zwd h4),.c 18 (Zah h5),.c 22 (Zyd h6)] fun _=>?_
 replace H:=sI H; subst H
 exact wN [(2,.d)] [(2,[])] [] [] [] [⟨_,nw_I y2.topo.parents⟩,⟨_,ZQ y2.topo.nodes⟩,⟨_,nw_Bo y2.up⟩,⟨_,Zjl y2.queue⟩,⟨_,Zbm y2.runs⟩,⟨_,Z3o y2.ends⟩,⟨_,ZPi y3⟩,⟨_,ZJm y4⟩,⟨_,nw_Dep y5⟩,⟨_,ZKm y6⟩]
def Z0i:L :=
sR [.bx 2 (.t 0),.mv 4 (kI 0)]
 (sR [fA 5 2 0,lD 6 5 11 true,mV 7 1,cQ 8 Zya [6,7],mV 1 8]
 (.seq (sR [mV 9 1,.bi 10 .lss (.t 9) (kI 0)]
 (.cond (.t 10) (.seq (rE 4 (kI (-1)))
 gR)
 .skip))
 (sR [fA 11 2 11,lD 12 11 1 false,mV 13 1,cQ 14 ZR7 [12,13],mV 1 14]
 (.seq (sR [mV 15 1,.bi 16 .lss (.t 15) (kI 0)]
 (.cond (.t 16) (.seq (rE 4 (kI (-1)))
 gR)
 .skip))
 (sR [fA 17 2 12,lD 18 17 1 false,mV 19 1,cQ 20 ZM9 [18,19],mV 1 20]
 (.seq (sR [mV 21 1,.bi 22 .lss (.t 21) (kI 0)]
 (.cond (.t 22) (.seq (rE 4 (kI (-1)))
 gR)
 .skip))
 (sR [fA 23 2 13,lD 24 23 1 false,mV 25 1,cQ 26 Zk8 [24,25],mV 1 26]
 (.seq (sR [mV 27 1,.bi 28 .lss (.t 27) (kI 0)]
 (.cond (.t 28) (.seq (rE 4 (kI (-1)))
 gR)
 .skip))
 (sR [fA 29 2 14,lD 30 29 1 false,mV 31 1,cQ 32 ZN9 [30,31],mV 1 32]
 (.seq (sR [mV 33 1,.bi 34 .lss (.t 33) (kI 0)]
 (.cond (.t 34) (.seq (rE 4 (kI (-1)))
 gR)
 .skip))
 (sR [mV 35 1,mV 4 35]
 gR)))))))))))
def laws_szDesk (a1:Desk) (left2:Int):Option Int :=
 (laws_szState a1.state left2).bind fun n3=>bif (decide (n3 < 0)) then (some (-1)) else ((laws_szAccountS a1.accounts n3).bind fun n4=>bif (decide (n4 < 0)) then (some (-1)) else ((laws_szQuotaS a1.quotas n4).bind fun n5=>bif (decide (n5 < 0)) then (some (-1)) else (bif (decide ((laws_szDepS a1.deps n5) < 0)) then (some (-1)) else ((laws_szOwnerS a1.owners (laws_szDepS a1.deps n5)).bind fun n6=>bif (decide (n6 < 0)) then (some (-1)) else (some n6)))))
theorem Zkh {a1:Desk} {left2:Int} {r:Int} (H:laws_szDesk a1 left2 = some r):Snd Tryz.prog ZUb [Zh2 .rd a1,.int .i64 left2] (.int .i64 r) []:=by
 refine wS Z0i [.t 4] ?_
 unfold laws_szDesk at H
 obtain ⟨n3,h3,H⟩:=bB H
 refine wG [.c 8 (Zhf h3)] fun _=>?_
 refine Wh_iH H (fun H=>?_) fun H=>?_
 .refine wP ?_
  replace H:=sI H; subst H
  exact wE [(4,.d)]
 .obtain ⟨n4,h4,H⟩:=bB H
  refine wG [.c 14 (Zgb h4)] fun _=>?_
  refine Wh_iH H (fun H=>?_) fun H=>?_
  .refine wP ?_
   replace H:=sI H; subst H
   exact wE [(4,.d)]
  .obtain ⟨n5,h5,H⟩:=bB H
   refine wG [.c 20 (ZDd h5)] fun _=>?_
   refine Wh_iH H (fun H=>?_) fun H=>?_
   .refine wP ?_
    replace H:=sI H; subst H
    exact wE [(4,.d)]
   .refine wG [.c 26 (Zmh a1.deps n5)] fun _=>?_
    refine Wh_iH H (fun H=>?_) fun H=>?_
    .refine wP ?_
     replace H:=sI H; subst H
     exact wE [(4,.d)]
    .obtain ⟨n6,h6,H⟩:=bB H
     refine wG [.c 32 (ZEd h6)] fun _=>?_
     refine Wh_iH H (fun H=>?_) fun H=>?_
     .refine wP ?_
      replace H:=sI H; subst H
      exact wE [(4,.d)]
     .refine wP ?_
      replace H:=sI H; subst H
      exact wE [(4,.d)]
def Z8i:L :=
sR [.bx 2 (.t 0),.bx 3 (.t 1),.mv 4 (cB false)]
 (.seq (sR [fA 5 2 0,lD 6 5 11 true,fA 7 3 0,lD 8 7 11 true,cQ 9 Zza [6,8],.un 10 (.t 9)]
 (.cond (.t 10) (.seq (rE 4 (cB false))
 gR)
 .skip))
 (.seq (sR [fA 11 2 11,lD 12 11 1 false,fA 13 3 11,lD 14 13 1 false,cQ 15 ZS7 [12,14],.un 16 (.t 15)]
 (.cond (.t 16) (.seq (rE 4 (cB false))
 gR)
 .skip))
 (.seq (sR [fA 17 2 12,lD 18 17 1 false,fA 19 3 12,lD 20 19 1 false,cQ 21 ZO9 [18,20],.un 22 (.t 21)]
 (.cond (.t 22) (.seq (rE 4 (cB false))
 gR)
 .skip))
 (.seq (sR [fA 23 2 13,lD 24 23 1 false,fA 25 3 13,lD 26 25 1 false,cQ 27 Z0c [24,26],.un 28 (.t 27)]
 (.cond (.t 28) (.seq (rE 4 (cB false))
 gR)
 .skip))
 (.seq (sR [fA 29 2 14,lD 30 29 1 false,fA 31 3 14,lD 32 31 1 false,cQ 33 ZP9 [30,32],.un 34 (.t 33)]
 (.cond (.t 34) (.seq (rE 4 (cB false))
 gR)
 .skip))
 (.seq (rE 4 (cB true))
 gR))))))
def laws_eqDesk (a1:Desk) (b2:Desk):Option Bool :=
 (laws_eqState a1.state b2.state).bind fun b3=>bif (!b3) then (some false) else ((laws_eqAccountS a1.accounts b2.accounts).bind fun b4=>bif (!b4) then (some false) else ((laws_eqQuotaS a1.quotas b2.quotas).bind fun b5=>bif (!b5) then (some false) else ((laws_eqDepS a1.deps b2.deps).bind fun b6=>bif (!b6) then (some false) else ((laws_eqOwnerS a1.owners b2.owners).bind fun b7=>bif (!b7) then (some false) else (some true)))))
theorem Zvh {a1:Desk} {b2:Desk} {r:Bool} (H:laws_eqDesk a1 b2 = some r):Snd Tryz.prog ZZb [Zh2 .rd a1,Zh2 .rd b2] (.bool r) []:=by
 refine wS Z8i [.t 4] ?_
 unfold laws_eqDesk at H
 obtain ⟨b3,h3,H⟩:=bB H
 refine wG [.c 9 (Zof h3)] fun _=>?_
 refine Wh_iH H (fun H=>?_) fun H=>?_
 .refine wP ?_
  replace H:=sI H; subst H
  exact wE [(4,.d)]
 .obtain ⟨b4,h4,H⟩:=bB H
  refine wG [.c 15 (Zkb h4)] fun _=>?_
  refine Wh_iH H (fun H=>?_) fun H=>?_
  .refine wP ?_
   replace H:=sI H; subst H
   exact wE [(4,.d)]
  .obtain ⟨b5,h5,H⟩:=bB H
   refine wG [.c 21 (ZMd h5)] fun _=>?_
   refine Wh_iH H (fun H=>?_) fun H=>?_
   .refine wP ?_
    replace H:=sI H; subst H
    exact wE [(4,.d)]
   .obtain ⟨b6,h6,H⟩:=bB H
    refine wG [.c 27 (Zwh h6)] fun _=>?_
    refine Wh_iH H (fun H=>?_) fun H=>?_
    .refine wP ?_
     replace H:=sI H; subst H
     exact wE [(4,.d)]
    .obtain ⟨b7,h7,H⟩:=bB H
     refine wG [.c 33 (ZNd h7)] fun _=>?_
     refine Wh_iH H (fun H=>?_) fun H=>?_
     .refine wP ?_
      replace H:=sI H; subst H
      exact wE [(4,.d)]
     .refine wP ?_
      replace H:=sI H; subst H
      exact wE [(4,.d)]
end Go.Proofs.YtpljbgcghpamjaaGreat
namespace Go.Proofs.YtpljbgcghpamjaaGreat.Eng
open Go Go.RowKit
def CE (a b:AV):Prop:=AE a b /\ (a.one = true -> b.one = true)
def CEs (l m:List AV):Prop:=l.length = m.length /\ ∀ (i:Nat) (a b:AV),l[i]? = some a -> m[i]? = some b -> CE a b
theorem CE.refl (a:AV):CE a a:=⟨AE.refl a,id⟩
theorem CEs.refl (l:List AV):CEs l l:=⟨rfl,fun i a b h h'=>by rw [h] at h'; cases h'; exact .refl a⟩
theorem CEs.one {a b:AV} (h:CE a b):CEs [a] [b]:=⟨rfl,fun i x y hx hy=>by
 cases i with
 | zero=>simp at hx hy; subst hx; subst hy; exact h
 | succ i=>simp at hx⟩
theorem CEs.append {l1 l2 m1 m2:List AV} (h1:CEs l1 m1) (h2:CEs l2 m2):CEs (l1 ++ l2) (m1 ++ m2):=by
 refine ⟨by rw [List.length_append,List.length_append,h1.1,h2.1],fun i a b ha hb=>?_⟩
 by_cases hi:i < l1.length
 .rw [List.getElem?_append_left hi] at ha
  rw [List.getElem?_append_left (by rw [← h1.1]; exact hi)] at hb
  exact h1.2 i a b ha hb
 .rw [List.getElem?_append_right (by omega)] at ha
  rw [List.getElem?_append_right (by rw [← h1.1]; omega),← h1.1] at hb
  exact h2.2 _ a b ha hb
theorem CEs.flat {α:Type} {E:α -> AV}:∀ {es:List AV} {ys:List α},es.length = ys.length -> (∀ (i:Nat) (x:AV) (y:α),es[i]? = some x -> ys[i]? = some y -> CEs x.cells (E y).cells) -> CEs (Eng.flat es) (Eng.flat (ys.map E))
 | [],[],_,_=>CEs.refl []
 | x :: es,y :: ys,hl,h=>by
  have h0:=h 0 x y rfl rfl
  have h1:=CEs.flat (es:=es) (ys:=ys) (by simpa using hl) fun i x y hx hy=>h (i + 1) x y (by simpa using hx) (by simpa using hy)
  simpa [Eng.flat] using h0.append h1
 | [],_ :: _,hl,_=>by simp at hl
 | _ :: _,[],hl,_=>by simp at hl
theorem AE.agg {cs ds:List AV} (h:CEs cs ds):AE (.agg cs) (.agg ds):=by
 intro w S v hr
 cases hr with
 | agg _ vs hl h1 h2 =>
  refine .agg ds vs (by rw [← h.1,hl]) (fun b hb=>?_) fun i b u hb hu=>?_
  .obtain ⟨i,hi⟩:=List.getElem?_of_mem hb
   have hlt:i < cs.length:=by rw [h.1]; exact (yB hi).1
   exact (h.2 i cs[i] b (yA hlt) hi).2 (h1 _ (List.getElem_mem hlt))
  .have hlt:i < cs.length:=by rw [h.1]; exact (yB hb).1
   exact (h.2 i cs[i] b (yA hlt) hb).1 w S u (h2 i _ u (yA hlt) hu)
theorem AE.nl {sz:Nat}:AE .nl (.sl .rd sz []):=by
 intro w S v hr
 cases hr
 exact .sl0 _ _ _ _ fun _ _=>trivial
theorem AE.sl {g:Tag} {sz:Nat} {es ds:List AV} (hl:es.length = ds.length) (hs:∀ e ∈ ds,e.cells.length = sz) (h:CEs (Eng.flat es) (Eng.flat ds)):AE (.sl g sz es) (.sl g sz ds):=by
 intro w S v hr
 cases hr with
 | sl0 _ _ a c ho =>
  cases ds with
  | nil=>exact .sl0 _ _ _ _ ho
  | cons _ _=>simp at hl
 | sl _ _ _ b o c cv hc hm _ hw ho h2 =>
  rw [hl]
  have hx:∀ (j:Nat) (d:AV),(Eng.flat ds)[j]? = some d -> ∃ e,(Eng.flat es)[j]? = some e /\ CE e d:=fun j d hj=>by
   have hlt:j < (Eng.flat es).length:=by rw [h.1]; exact (yB hj).1
   exact ⟨_,yA hlt,h.2 j _ d (yA hlt) hj⟩
  refine .sl g sz ds b o c cv (by rw [← hl]; exact hc) hm hs (fun j d hj=>?_) ho fun j d hj=>?_
  .obtain ⟨e,he,hce⟩:=hx j d hj
   obtain ⟨q1,q2,q3,_⟩:=hw j e he
   exact ⟨q1,q2,hce.2 q3,trivial⟩
  .obtain ⟨e,he,hce⟩:=hx j d hj
   exact hce.1 w S _ (h2 j e he)
theorem Snd.wkS {P:Program} {f:FuncId} {xs1 xs2:List AV} {res:AV} {rows:List Row} (h:Snd P f xs2 res rows) (hae:AEs xs1 xs2):Snd P f xs1 res rows:=by
 intro w S N vs hS hl hr
 have hal:=hae.1
 refine h w S TT vs hS (by omega) fun i b v hb hv=>?_
 have hi:i < xs1.length:=by have:=(yB hb).1; omega
 exact hae.2 w S i _ b v (yA hi) hb ((hr i _ v (yA hi) hv).mono (fun _ _ h=>h) ⟨fun _ _ _ _ _ _ _ _=>trivial,fun _ _ _ _=>trivial⟩ fun _ _ _=>rfl)
def EncOf {α:Type} (τ:Ty) (e:α -> List AV) (W:α -> Prop):Prop:=∀ l,τ.ok l -> ∃ y,CEs l (e y) /\ W y
def Zf {α:Type} (τs:List Ty) (e:α -> List AV) (W:α -> Prop):Prop:=∀ l,okL τs l -> ∃ y,CEs l (e y) /\ W y
def FitL {α:Type} (W:α -> Prop) (l:List α):Prop:=l.length <= maxLen /\ ∀ x ∈ l,W x
def FitT {α:Type} (_:α):Prop:=True
section
variable {α β:Type}
theorem EncOf.int (k:IntKind):EncOf (.int k) (fun n:Int=>[.int k n]) FitT:=by
 intro l h
 obtain ⟨n,rfl,_⟩:=h
 exact ⟨n,.refl _,trivial⟩
theorem EncOf.bool:EncOf .bool (fun n:Bool=>[.bool n]) FitT:=by
 intro l h
 obtain ⟨n,rfl⟩:=h
 exact ⟨n,.refl _,trivial⟩
theorem EncOf.str:EncOf .str (fun s:List UInt8=>[.str s]) (fun s=>s.length <= maxLen):=by
 intro l h
 obtain ⟨s,rfl,hs⟩:=h
 exact ⟨s,.refl _,hs⟩
theorem Zf.nil:Zf [] (fun _:Unit=>[]) FitT:=by
 intro l h
 simp only [okL] at h
 subst h
 exact ⟨(),.refl _,trivial⟩
theorem Zf.cons {f:Ty} {fs:List Ty} {e1:α -> List AV} {e2:β -> List AV} {W1:α -> Prop} {W2:β -> Prop} (h1:EncOf f e1 W1) (h2:Zf fs e2 W2):Zf (f :: fs) (fun p:α × β=>e1 p.1 ++ e2 p.2) (fun p=>W1 p.1 /\ W2 p.2):=by
 intro l h
 simp only [okL] at h
 obtain ⟨l1,l2,rfl,q1,q2⟩:=h
 obtain ⟨y1,c1,w1⟩:=h1 l1 q1
 obtain ⟨y2,c2,w2⟩:=h2 l2 q2
 exact ⟨(y1,y2),c1.append c2,w1,w2⟩
theorem Zf.st {fs:List Ty} {e:α -> List AV} {W:α -> Prop} (h:Zf fs e W) (g:α -> β) {e':β -> List AV} {W':β -> Prop} (he:∀ x,e x = e' (g x)) (hW:∀ x,W x -> W' (g x)):EncOf (.st fs) e' W':=by
 intro l hl
 simp only [Ty.ok] at hl
 obtain ⟨y,c,w⟩:=h l hl
 exact ⟨g y,he y ▸ c,hW y w⟩
theorem exL {R:AV -> α -> Prop}:∀ {es:List AV},(∀ x ∈ es,∃ y,R x y) -> ∃ ys:List α,es.length = ys.length /\ ∀ (i:Nat) (x:AV) (y:α),es[i]? = some x -> ys[i]? = some y -> R x y
 | [],_=>⟨[],rfl,fun i x y h=>by simp at h⟩
 | x :: es,h=>by
  obtain ⟨y,hy⟩:=h x (List.mem_cons_self ..)
  obtain ⟨ys,hl,hys⟩:=exL (es:=es) fun z hz=>h z (List.mem_cons_of_mem _ hz)
  refine ⟨y :: ys,by simp [hl],fun i a b ha hb=>?_⟩
  cases i with
  | zero=>simp at ha hb; subst ha; subst hb; exact hy
  | succ i=>exact hys i a b (by simpa using ha) (by simpa using hb)
theorem EncOf.sl {τ:Ty} {e:α -> List AV} {W:α -> Prop} (h:EncOf τ e W) (E:α -> AV) (hE:∀ y,(E y).cells = e y) {n:Nat} (hn:τ.size = n):EncOf (.sl τ) (fun l:List α=>[.sl .rd n (l.map E)]) (FitL W):=by
 intro l hl
 simp only [Ty.ok] at hl
 rcases hl with rfl | ⟨es,rfl,hm,h2⟩
 .exact ⟨[],.one ⟨AE.nl,fun _=>rfl⟩,Nat.zero_le _,fun x hx=>by simp at hx⟩
 .obtain ⟨ys,hys,hR⟩:=exL (α:=α) (R:=fun x y=>CEs x.cells (E y).cells /\ W y /\ x.cells.length = τ.size) (es:=es) fun x hx=>by
   obtain ⟨a1,_,a3⟩:=h2 x hx
   obtain ⟨y,c,w⟩:=h _ a3
   exact ⟨y,(hE y).symm ▸ c,w,a1⟩
  have get:∀ y ∈ ys,∃ (i:Nat) (x:AV),es[i]? = some x /\ ys[i]? = some y:=fun y hy=>by
   obtain ⟨i,hi⟩:=List.getElem?_of_mem hy
   exact ⟨i,_,yA (by rw [hys]; exact (yB hi).1),hi⟩
  refine ⟨ys,.one ⟨?_,fun _=>rfl⟩,by rw [← hys]; exact hm,fun y hy=>?_⟩
  .rw [hn]
   refine AE.sl (by simpa using hys) (fun d hd=>?_) (CEs.flat hys fun i x y hx hy=>(hR i x y hx hy).1)
   obtain ⟨y,hy,rfl⟩:=List.mem_map.1 hd
   obtain ⟨i,x,hx,hy'⟩:=get y hy
   have:=hR i x y hx hy'
   rw [← this.1.1,this.2.2,hn]
  .obtain ⟨i,x,hx,hy'⟩:=get y hy
   exact (hR i x y hx hy').2.1
theorem EncOf.okV_st {fs:List Ty} {e:α -> List AV} {W:α -> Prop} (h:EncOf (.st fs) e W) {a:AV} (ha:(Ty.st fs).okV a):∃ y,AE a (.agg (e y)) /\ W y:=by
 obtain ⟨cs,rfl,hc⟩:=ha
 obtain ⟨y,c,w⟩:=h cs (by simpa only [Ty.ok] using hc)
 exact ⟨y,.agg c,w⟩
end
end Go.Proofs.YtpljbgcghpamjaaGreat.Eng
namespace Go.Proofs.YtpljbgcghpamjaaGreat
open Go Go.RowKit Eng
def tyVec:Ty:=.st [.int .i64,.int .i64,.int .i64]
def ZYi (x:Vec):Prop:=FitT x.a /\ FitT x.b /\ FitT x.c /\ True
theorem ofVec:EncOf tyVec (fun x:Vec=>(eVec x).cells) ZYi:=Zf.st (Zf.cons (EncOf.int .i64) (Zf.cons (EncOf.int .i64) (Zf.cons (EncOf.int .i64) Zf.nil))) (fun p=>⟨p.1,p.2.1,p.2.2.1⟩) (fun _=>by rfl) (fun _ h=>by exact h)
def tyNode:Ty:=.st [.int .i64,tyVec]
def Zxo (x:Node):Prop:=FitT x.leaf /\ ZYi x.cap /\ True
theorem ofNode:EncOf tyNode (fun x:Node=>(eNode x).cells) Zxo:=Zf.st (Zf.cons (EncOf.int .i64) (Zf.cons ofVec Zf.nil)) (fun p=>⟨p.1,p.2.1⟩) (fun _=>by rfl) (fun _ h=>by exact h)
def tyTopo:Ty:=.st [.sl (.int .i64),.sl tyNode]
def Zvo (x:Topo):Prop:=(FitL FitT) x.parents /\ (FitL Zxo) x.nodes /\ True
theorem ofTopo:EncOf tyTopo (fun x:Topo=>(ZF .rd x).cells) Zvo:=Zf.st (Zf.cons (EncOf.sl (EncOf.int .i64) eI (fun _=>rfl) rfl) (Zf.cons (EncOf.sl ofNode eNode (fun _=>rfl) rfl) Zf.nil)) (fun p=>⟨p.1,p.2.1⟩) (fun _=>by rfl) (fun _ h=>by exact h)
def tyJob:Ty:=.st [.int .i64,.int .i64,.int .i64,tyVec,tyVec,.int .i64,.int .i64]
def Zyo (x:Job):Prop:=FitT x.id /\ FitT x.prio /\ FitT x.nodes /\ ZYi x.need /\ ZYi x.lic /\ FitT x.wall /\ FitT x.level /\ True
theorem ofJob:EncOf tyJob (fun x:Job=>(eJob x).cells) Zyo:=Zf.st (Zf.cons (EncOf.int .i64) (Zf.cons (EncOf.int .i64) (Zf.cons (EncOf.int .i64) (Zf.cons ofVec (Zf.cons ofVec (Zf.cons (EncOf.int .i64) (Zf.cons (EncOf.int .i64) Zf.nil))))))) (fun p=>⟨p.1,p.2.1,p.2.2.1,p.2.2.2.1,p.2.2.2.2.1,p.2.2.2.2.2.1,p.2.2.2.2.2.2.1⟩) (fun _=>by rfl) (fun _ h=>by exact h)
def tyRun:Ty:=.st [tyJob,.int .i64,.sl (.int .i64)]
def Zwo (x:Run):Prop:=Zyo x.job /\ FitT x.t /\ (FitL FitT) x.nodes /\ True
theorem ofRun:EncOf tyRun (fun x:Run=>(eRunT .rd x).cells) Zwo:=Zf.st (Zf.cons ofJob (Zf.cons (EncOf.int .i64) (Zf.cons (EncOf.sl (EncOf.int .i64) eI (fun _=>rfl) rfl) Zf.nil))) (fun p=>⟨p.1,p.2.1,p.2.2.1⟩) (fun _=>by rfl) (fun _ h=>by exact h)
def tyEnd:Ty:=.st [.int .i64,.int .i64,.int .i64]
def fitEnd (x:End):Prop:=FitT x.id /\ FitT x.t /\ FitT x.why /\ True
theorem ofEnd:EncOf tyEnd (fun x:End=>(eEnd x).cells) fitEnd:=Zf.st (Zf.cons (EncOf.int .i64) (Zf.cons (EncOf.int .i64) (Zf.cons (EncOf.int .i64) Zf.nil))) (fun p=>⟨p.1,p.2.1,p.2.2.1⟩) (fun _=>by rfl) (fun _ h=>by exact h)
def ZEn:Ty:=.st [tyTopo,.sl .bool,tyVec,.int .i64,.int .i64,.sl tyJob,.sl tyRun,.sl tyEnd]
def ZTk (x:State):Prop:=Zvo x.topo /\ (FitL FitT) x.up /\ ZYi x.lic /\ FitT x.depth /\ FitT x.now /\ (FitL Zyo) x.queue /\ (FitL Zwo) x.runs /\ (FitL fitEnd) x.ends /\ True
theorem ofState:EncOf ZEn (fun x:State=>(Z31 .rd x).cells) ZTk:=Zf.st (Zf.cons ofTopo (Zf.cons (EncOf.sl EncOf.bool eBo (fun _=>rfl) rfl) (Zf.cons ofVec (Zf.cons (EncOf.int .i64) (Zf.cons (EncOf.int .i64) (Zf.cons (EncOf.sl ofJob eJob (fun _=>rfl) rfl) (Zf.cons (EncOf.sl ofRun (eRunT .rd) (fun _=>rfl) rfl) (Zf.cons (EncOf.sl ofEnd eEnd (fun _=>rfl) rfl) Zf.nil)))))))) (fun p=>⟨p.1,p.2.1,p.2.2.1,p.2.2.2.1,p.2.2.2.2.1,p.2.2.2.2.2.1,p.2.2.2.2.2.2.1,p.2.2.2.2.2.2.2.1⟩) (fun _=>by rfl) (fun _ h=>by exact h)
def Z5l:Ty:=.st [.str,.int .i64,.int .i64]
def ZZi (x:Account):Prop:=(fun s:Str=>s.length <= maxLen) x.name /\ FitT x.share /\ FitT x.used /\ True
theorem ZZn:EncOf Z5l (fun x:Account=>(Z1 x).cells) ZZi:=Zf.st (Zf.cons EncOf.str (Zf.cons (EncOf.int .i64) (Zf.cons (EncOf.int .i64) Zf.nil))) (fun p=>⟨p.1,p.2.1,p.2.2.1⟩) (fun _=>by rfl) (fun _ h=>by exact h)
def ZFn:Ty:=.st [.str,.int .i64,.int .i64,tyVec]
def Z4n (x:Quota):Prop:=(fun s:Str=>s.length <= maxLen) x.name /\ FitT x.jobs /\ FitT x.nodes /\ ZYi x.res /\ True
theorem ofQuota:EncOf ZFn (fun x:Quota=>(Zj x).cells) Z4n:=Zf.st (Zf.cons EncOf.str (Zf.cons (EncOf.int .i64) (Zf.cons (EncOf.int .i64) (Zf.cons ofVec Zf.nil)))) (fun p=>⟨p.1,p.2.1,p.2.2.1,p.2.2.2.1⟩) (fun _=>by rfl) (fun _ h=>by exact h)
def tyDep:Ty:=.st [.int .i64,.int .i64]
def fitDep (x:Dep):Prop:=FitT x.id /\ FitT x.for_ /\ True
theorem ofDep:EncOf tyDep (fun x:Dep=>(eDep x).cells) fitDep:=Zf.st (Zf.cons (EncOf.int .i64) (Zf.cons (EncOf.int .i64) Zf.nil)) (fun p=>⟨p.1,p.2.1⟩) (fun _=>by rfl) (fun _ h=>by exact h)
def ZGn:Ty:=.st [.int .i64,.str]
def Z5n (x:Owner):Prop:=FitT x.id /\ (fun s:Str=>s.length <= maxLen) x.name /\ True
theorem ofOwner:EncOf ZGn (fun x:Owner=>(Zp x).cells) Z5n:=Zf.st (Zf.cons (EncOf.int .i64) (Zf.cons EncOf.str Zf.nil)) (fun p=>⟨p.1,p.2.1⟩) (fun _=>by rfl) (fun _ h=>by exact h)
def Ztm:Ty:=.st [ZEn,.sl Z5l,.sl ZFn,.sl tyDep,.sl ZGn]
def ZUk (x:Desk):Prop:=ZTk x.state /\ (FitL ZZi) x.accounts /\ (FitL Z4n) x.quotas /\ (FitL fitDep) x.deps /\ (FitL Z5n) x.owners /\ True
theorem ofDesk:EncOf Ztm (fun x:Desk=>(Zh2 .rd x).cells) ZUk:=Zf.st (Zf.cons ofState (Zf.cons (EncOf.sl ZZn Z1 (fun _=>rfl) rfl) (Zf.cons (EncOf.sl ofQuota Zj (fun _=>rfl) rfl) (Zf.cons (EncOf.sl ofDep eDep (fun _=>rfl) rfl) (Zf.cons (EncOf.sl ofOwner Zp (fun _=>rfl) rfl) Zf.nil))))) (fun p=>⟨p.1,p.2.1,p.2.2.1,p.2.2.2.1,p.2.2.2.2.1⟩) (fun _=>by rfl) (fun _ h=>by exact h)
section
variable {α:Type}
theorem set_take {a ys:List α} {i:Nat} {x:α} (hx:a[i]? = some x) (hl:ys.length = a.length) (h:ys.take i = a.take i):(ys.set i x).take (i + 1) = a.take (i + 1):=by
 have hi:=(yB hx).1
 apply List.ext_getElem?
 intro j
 by_cases hj:j < i + 1
 .rw [List.getElem?_take_of_lt hj,List.getElem?_take_of_lt hj,List.getElem?_set]
  by_cases e:i = j
  .subst e; rw [if_pos rfl,if_pos (by omega),hx]
  .rw [if_neg e]
   have:=congrArg (fun l:List α=>l[j]?) h
   rwa [List.getElem?_take_of_lt (by omega),List.getElem?_take_of_lt (by omega)] at this
 .rw [List.getElem?_eq_none (by simp; omega),List.getElem?_eq_none (by simp; omega)]
theorem Zw4 {bd:Int × List α -> (Int × List α -> Option (List α)) -> Option (List α)} {a:List α} (hm:a.length < 9223372036854775807)
  (h1:∀ (i:Nat) ys k x,a[i]? = some x -> ys.length = a.length -> bd ((i:Int),ys) k = k (((i + 1:Nat):Int),ys.set i x)) (h2:∀ ys k,bd ((a.length:Int),ys) k = some ys) {ys:List α} (hy:ys.length = a.length):whl bd 9223372036854775807 (0,ys) = some a:=by
 refine ZU3 (fun _ o=>o = some a) (fun b=>a.length - b.1.toNat) (fun b=>∃ i:Nat,b.1 = (i:Int) /\ i <= a.length /\ b.2.length = a.length /\ b.2.take i = a.take i) ?_ 9223372036854775807 (0,ys) ⟨0,rfl,Nat.zero_le _,hy,rfl⟩ (by simp only; omega)
 rintro ⟨n,zs⟩ k ⟨i,hi,hle,hz,ht⟩ hk
 simp only at hi hz ht hk
 subst hi
 by_cases h:i < a.length
 .rw [h1 i zs k a[i] (yA h) hz]
  exact hk _ ⟨i + 1,rfl,h,by simp [hz],set_take (yA h) hz ht⟩ (by simp only; omega)
 .have:i = a.length:=by omega
  subst this
  rw [h2]
  rw [List.take_length,← hz,List.take_length] at ht
  rw [ht]
theorem ZU6 {bs:Nat} {n:Nat} {z:α} (h:bs * n <= 140737488355328) (h':n <= 9223372036854775807):mkL bs (n:Int) z = some (List.replicate n z):=by
 unfold mkL
 have e:(bs:Int) * (n:Int) = ((bs * n:Nat):Int):=by rw [Int.natCast_mul]
 rw [if_pos ⟨by omega,by omega,by omega⟩]
 simp
theorem Zpa {bd:Int -> (Int -> Option Bool) -> Option Bool} {n:Nat} (hm:n < 9223372036854775807) (h1:∀ (i:Nat) k,i < n -> bd (i:Int) k = k ((i + 1:Nat):Int)) (h2:∀ k,bd (n:Int) k = some true):whl bd 9223372036854775807 0 = some true:=by
 refine ZU3 (fun _ o=>o = some true) (fun b=>n - b.toNat) (fun b=>∃ i:Nat,b = (i:Int) /\ i <= n) ?_ 9223372036854775807 0 ⟨0,rfl,Nat.zero_le _⟩ (by omega)
 rintro _ k ⟨i,rfl,hle⟩ hk
 by_cases h:i < n
 .rw [h1 i k h]
  exact hk _ ⟨i + 1,rfl,h⟩ (by omega)
 .have:i = n:=by omega
  subst this
  exact h2 k
theorem Z92 {n:Nat}:¬ ((n:Int) < (n:Int)):=by omega
end
theorem Zia {l:List Int} (h:l.length <= 1048576):laws_toIntS l = some l:=by
 unfold laws_toIntS
 rw [ZU6 (by omega) (by omega),bS]
 refine Zw4 (by omega) (fun i ys k x hx hl=>?_) (fun ys k=>?_) (by simp)
 .have hi:=(yB hx).1
  have hlt:(i:Int) < (l.length:Int):=by omega
  obtain ⟨y,hy⟩:∃ y,ys[i]? = some y:=⟨_,yA (by omega)⟩
  simp only [Zx3,hlt,decide_true,cond_true,Za,hx,hy,bS,Zz (n:=i) (by omega),Int.toNat_natCast]
 .simp only [Zx3,Z92,decide_false,cond_false]
theorem Zbf {l:List Node} (h:l.length <= 1048576):laws_toNodeS l = some l:=by
 unfold laws_toNodeS
 rw [ZU6 (by omega) (by omega),bS]
 refine Zw4 (by omega) (fun i ys k x hx hl=>?_) (fun ys k=>?_) (by simp)
 .have hi:=(yB hx).1
  have hlt:(i:Int) < (l.length:Int):=by omega
  obtain ⟨y,hy⟩:∃ y,ys[i]? = some y:=⟨_,yA (by omega)⟩
  simp only [ZU2,hlt,decide_true,cond_true,Za,hx,hy,bS,Zz (n:=i) (by omega),Int.toNat_natCast]
  rfl
 .simp only [ZU2,Z92,decide_false,cond_false]
theorem Zgf {l:List Bool} (h:l.length <= 1048576):laws_toBoolS l = some l:=by
 unfold laws_toBoolS
 rw [ZU6 (by omega) (by omega),bS]
 refine Zw4 (by omega) (fun i ys k x hx hl=>?_) (fun ys k=>?_) (by simp)
 .have hi:=(yB hx).1
  have hlt:(i:Int) < (l.length:Int):=by omega
  obtain ⟨y,hy⟩:∃ y,ys[i]? = some y:=⟨_,yA (by omega)⟩
  simp only [ZV2,hlt,decide_true,cond_true,Za,hx,hy,bS,Zz (n:=i) (by omega),Int.toNat_natCast]
 .simp only [ZV2,Z92,decide_false,cond_false]
theorem Z6h {l:List Job} (h:l.length <= 1048576):laws_toJobS l = some l:=by
 unfold laws_toJobS
 rw [ZU6 (by omega) (by omega),bS]
 refine Zw4 (by omega) (fun i ys k x hx hl=>?_) (fun ys k=>?_) (by simp)
 .have hi:=(yB hx).1
  have hlt:(i:Int) < (l.length:Int):=by omega
  obtain ⟨y,hy⟩:∃ y,ys[i]? = some y:=⟨_,yA (by omega)⟩
  simp only [Zw3,hlt,decide_true,cond_true,Za,hx,hy,bS,Zz (n:=i) (by omega),Int.toNat_natCast]
  rfl
 .simp only [Zw3,Z92,decide_false,cond_false]
theorem Z8h {l:List End} (h:l.length <= 1048576):laws_toEndS l = some l:=by
 unfold laws_toEndS
 rw [ZU6 (by omega) (by omega),bS]
 refine Zw4 (by omega) (fun i ys k x hx hl=>?_) (fun ys k=>?_) (by simp)
 .have hi:=(yB hx).1
  have hlt:(i:Int) < (l.length:Int):=by omega
  obtain ⟨y,hy⟩:∃ y,ys[i]? = some y:=⟨_,yA (by omega)⟩
  simp only [Zy3,hlt,decide_true,cond_true,Za,hx,hy,bS,Zz (n:=i) (by omega),Int.toNat_natCast]
  rfl
 .simp only [Zy3,Z92,decide_false,cond_false]
theorem ZZg {t:Topo} (h1:t.parents.length <= 1048576) (h2:t.nodes.length <= 1048576):laws_toTopo t = some t:=by
 unfold laws_toTopo
 rw [Zia h1,bS,Zbf h2,bS]
theorem ZLj {x:Run} (h:x.nodes.length <= 1048576):laws_toRun x = some x:=by
 unfold laws_toRun
 rw [Zia h,bS]
 rfl
theorem Z1h {l:List Run} (h:l.length <= 1048576) (hn:∀ x ∈ l,x.nodes.length <= 1048576):laws_toRunS l = some l:=by
 unfold laws_toRunS
 rw [ZU6 (by omega) (by omega),bS]
 refine Zw4 (by omega) (fun i ys k x hx hl=>?_) (fun ys k=>?_) (by simp)
 .have hi:=(yB hx).1
  have hlt:(i:Int) < (l.length:Int):=by omega
  obtain ⟨y,hy⟩:∃ y,ys[i]? = some y:=⟨_,yA (by omega)⟩
  simp only [Zv3,hlt,decide_true,cond_true,Za,hx,hy,bS,Zz (n:=i) (by omega),Int.toNat_natCast,ZLj (hn x (yE hx))]
 .simp only [Zv3,Z92,decide_false,cond_false]
structure SizedS (s:State):Prop where
 parents:s.topo.parents.length <= 1048576
 nodes:s.topo.nodes.length <= 1048576
 up:s.up.length <= 1048576
 jobs:s.queue.length + s.runs.length <= 1048576
 run:∀ x ∈ s.runs,x.nodes.length <= 1048576
 ends:s.ends.length <= 1048576
theorem Z7f {s:State} (h:SizedS s):laws_toState s = some s:=by
 have:=h.jobs
 unfold laws_toState
 rw [ZZg h.parents h.nodes,bS,Zgf h.up,bS,Z6h (by omega),bS,Z1h (by omega) h.run,bS,Z8h h.ends,bS]
 rfl
theorem Z02 {α:Type} [BEq α] [LawfulBEq α] (a:α):(a != a) = false:=by simp
theorem ZA3 (v:Vec):laws_eqVec v v = true:=by simp [laws_eqVec]
theorem ZOd (v:Node):laws_eqNode v v = true:=by simp [laws_eqNode,ZA3]
theorem Zh9 (v:Job):laws_eqJob v v = true:=by simp [laws_eqJob,ZA3]
theorem Zuf (v:End):laws_eqEnd v v = true:=by simp [laws_eqEnd]
theorem ZD8 {l:List Int} (h:l.length <= 1048576):laws_eqIntS l l = some true:=by
 unfold laws_eqIntS
 rw [Z02,cond_false]
 refine Zpa (n:=l.length) (by omega) (fun i k hi=>?_) (fun k=>?_)
 .have hlt:(i:Int) < (l.length:Int):=by omega
  obtain ⟨x,hx⟩:∃ x,l[i]? = some x:=⟨_,yA hi⟩
  simp only [ZE3,hlt,decide_true,cond_true,Za,hx,bS,Zz (n:=i) (by omega),Z02,cond_false]
 .simp only [ZE3,Z92,decide_false,cond_false]
theorem Zzc {l:List Node} (h:l.length <= 1048576):laws_eqNodeS l l = some true:=by
 unfold laws_eqNodeS
 rw [Z02,cond_false]
 refine Zpa (n:=l.length) (by omega) (fun i k hi=>?_) (fun k=>?_)
 .have hlt:(i:Int) < (l.length:Int):=by omega
  obtain ⟨x,hx⟩:∃ x,l[i]? = some x:=⟨_,yA hi⟩
  simp only [ZY2,hlt,decide_true,cond_true,Za,hx,bS,Zz (n:=i) (by omega),ZOd,Bool.not_true,cond_false]
 .simp only [ZY2,Z92,decide_false,cond_false]
theorem ZAc {l:List Bool} (h:l.length <= 1048576):laws_eqBoolS l l = some true:=by
 unfold laws_eqBoolS
 rw [Z02,cond_false]
 refine Zpa (n:=l.length) (by omega) (fun i k hi=>?_) (fun k=>?_)
 .have hlt:(i:Int) < (l.length:Int):=by omega
  obtain ⟨x,hx⟩:∃ x,l[i]? = some x:=⟨_,yA hi⟩
  simp only [ZZ2,hlt,decide_true,cond_true,Za,hx,bS,Zz (n:=i) (by omega),beq_self_eq_true,Bool.not_true,cond_false]
 .simp only [ZZ2,Z92,decide_false,cond_false]
theorem ZQd {l:List Job} (h:l.length <= 1048576):laws_eqJobS l l = some true:=by
 unfold laws_eqJobS
 rw [Z02,cond_false]
 refine Zpa (n:=l.length) (by omega) (fun i k hi=>?_) (fun k=>?_)
 .have hlt:(i:Int) < (l.length:Int):=by omega
  obtain ⟨x,hx⟩:∃ x,l[i]? = some x:=⟨_,yA hi⟩
  simp only [ZD3,hlt,decide_true,cond_true,Za,hx,bS,Zz (n:=i) (by omega),Zh9,Bool.not_true,cond_false]
 .simp only [ZD3,Z92,decide_false,cond_false]
theorem ZRd {l:List End} (h:l.length <= 1048576):laws_eqEndS l l = some true:=by
 unfold laws_eqEndS
 rw [Z02,cond_false]
 refine Zpa (n:=l.length) (by omega) (fun i k hi=>?_) (fun k=>?_)
 .have hlt:(i:Int) < (l.length:Int):=by omega
  obtain ⟨x,hx⟩:∃ x,l[i]? = some x:=⟨_,yA hi⟩
  simp only [ZF3,hlt,decide_true,cond_true,Za,hx,bS,Zz (n:=i) (by omega),Zuf,Bool.not_true,cond_false]
 .simp only [ZF3,Z92,decide_false,cond_false]
theorem ZKd {t:Topo} (h1:t.parents.length <= 1048576) (h2:t.nodes.length <= 1048576):laws_eqTopo t t = some true:=by
 unfold laws_eqTopo
 rw [ZD8 h1,bS,Zzc h2]
 rfl
theorem Zpf {x:Run} (h:x.nodes.length <= 1048576):laws_eqRun x x = some true:=by
 unfold laws_eqRun
 rw [Zh9,ZD8 h,Z02]
 rfl
theorem ZLd {l:List Run} (h:l.length <= 1048576) (hn:∀ x ∈ l,x.nodes.length <= 1048576):laws_eqRunS l l = some true:=by
 unfold laws_eqRunS
 rw [Z02,cond_false]
 refine Zpa (n:=l.length) (by omega) (fun i k hi=>?_) (fun k=>?_)
 .have hlt:(i:Int) < (l.length:Int):=by omega
  obtain ⟨x,hx⟩:∃ x,l[i]? = some x:=⟨_,yA hi⟩
  simp only [ZC3,hlt,decide_true,cond_true,Za,hx,bS,Zz (n:=i) (by omega),Zpf (hn x (yE hx)),Bool.not_true,cond_false]
 .simp only [ZC3,Z92,decide_false,cond_false]
theorem Zuc {s:State} (h:SizedS s):laws_eqState s s = some true:=by
 have:=h.jobs
 unfold laws_eqState
 rw [ZKd h.parents h.nodes,ZAc h.up,ZA3,Z02,Z02,ZQd (by omega),ZLd (by omega) h.run,ZRd h.ends]
 rfl
theorem sz_eq {n:Int} {c:Nat} (h0:0 <= n) (h:n <= 1048576) (hc:c <= maxLen):(bif decide (w64 (n - (c:Int)) < 0) then (-1:Int) else w64 (n - (c:Int))) = szr n c:=by
 have hm:maxLen = 9223372036854775807:=rfl
 rw [ZM (by omega)]
 unfold szr
 by_cases q:n < c
 .rw [if_pos q,show decide (n - (c:Int) < 0) = true by rw [decide_eq_true_eq]; omega]; rfl
 .rw [if_neg q,show decide (n - (c:Int) < 0) = false by rw [decide_eq_false_iff_not]; omega]; rfl
theorem Zx5 {n:Int} {c:Nat}:(szr n c < 0) \/ (0 <= szr n c /\ (c:Int) <= n /\ szr n c = n - c):=by
 unfold szr; split
 .exact .inl (by omega)
 .exact .inr (by omega)
theorem szRun_eq {x:Run} {n:Int} (h0:0 <= n) (h:n <= 1048576) (hc:x.nodes.length <= maxLen):laws_szRun x n = szr n x.nodes.length:=by
 unfold laws_szRun laws_szIntS
 rw [sz_eq h0 h hc]
 rcases Zx5 (n:=n) (c:=x.nodes.length) with q | q
 .have:szr n x.nodes.length = -1:=by unfold szr at q ⊢; split <;> omega
  rw [this]; rfl
 .have:decide (szr n x.nodes.length < 0) = false:=by simp; omega
  rw [this]; rfl
theorem ZMn {l:List Run} {n:Int} (h0:0 <= n) (h:n <= 1048576) (hc:FitL Zwo l):∃ r,laws_szRunS l n = some r /\ r <= n /\ (0 <= r -> (l.length:Int) + r <= n /\ ∀ x ∈ l,x.nodes.length <= 1048576):=by
 have hm:maxLen = 9223372036854775807:=rfl
 obtain ⟨c1,c2⟩:=hc
 unfold laws_szRunS
 rw [ZM (by omega)]
 by_cases q:n - (l.length:Int) < 0
 .exact ⟨-1,by simp [q],by omega,fun h=>by omega⟩
 .simp only [q,decide_false,cond_false]
  refine ZU3 (fun _ o=>∃ r,o = some r /\ r <= n /\ (0 <= r -> (l.length:Int) + r <= n /\ ∀ x ∈ l,x.nodes.length <= 1048576)) (fun b=>l.length - b.2.toNat) (fun b=>∃ i:Nat,b.2 = (i:Int) /\ i <= l.length /\ 0 <= b.1 /\ (l.length:Int) + b.1 <= n /\ ∀ j x,j < i -> l[j]? = some x -> x.nodes.length <= 1048576) ?_ 9223372036854775807 (n - (l.length:Int),0) ⟨0,rfl,Nat.zero_le _,by simp only; omega,by simp only; omega,fun j x hj=>by omega⟩ (by simp only; omega)
  rintro ⟨m,_⟩ k ⟨i,rfl,hi,hm0,hmn,hall⟩ hk
  simp only at hm0 hmn hk
  unfold ZI5
  by_cases hlt:i < l.length
  .have hlt':(i:Int) < (l.length:Int):=by omega
   have hx:l[i]? = some l[i]:=yA hlt
   simp only [hlt',decide_true,cond_true,Za,hx,bS,Zz (n:=i) (by omega)]
   rw [szRun_eq hm0 (by omega) (c2 _ (List.getElem_mem hlt)).2.2.1.1]
   rcases Zx5 (n:=m) (c:=l[i].nodes.length) with q | q
   .simp only [q,decide_true,cond_true]
    exact ⟨-1,rfl,by omega,fun h=>by omega⟩
   .have:¬ szr m l[i].nodes.length < 0:=by omega
    simp only [this,decide_false,cond_false]
    refine hk _ ⟨i + 1,rfl,hlt,q.1,by simp only; omega,fun j x hj hx'=>?_⟩ (by simp only; omega)
    by_cases e:j = i
    .subst e; rw [hx] at hx'; cases hx'; omega
    .exact hall j x (by omega) hx'
  .have:i = l.length:=by omega
   subst this
   simp only [Z92,decide_false,cond_false]
   exact ⟨m,rfl,by omega,fun _=>⟨hmn,fun x hx=>by
    obtain ⟨j,hj⟩:=List.getElem?_of_mem hx
    exact hall j x (yB hj).1 hj⟩⟩
theorem Zdh {s:State} (hf:ZTk s) {n:Int} (hn0:0 <= n) (hn:n <= 1048576):∃ r,laws_szState s n = some r /\ (r < 0 \/ (SizedS s /\ r <= n)):=by
 obtain ⟨⟨p1,p2,_⟩,p3,_,_,_,p4,p5,p6,_⟩:=hf
 have no:∀ {c:Prop} [Decidable c],c -> (decide c) = true:=fun h=>by simp [h]
 have nn:∀ {c:Prop} [Decidable c],¬ c -> (decide c) = false:=fun h=>by simp [h]
 have bad:∃ r,(some (-1):Option Int) = some r /\ (r < 0 \/ (SizedS s /\ r <= n)):=⟨-1,rfl,.inl (by omega)⟩
 unfold laws_szState
 have e1:laws_szIntS s.topo.parents n = szr n s.topo.parents.length:=sz_eq hn0 hn p1.1
 have et:laws_szTopo s.topo n < 0 \/ (s.topo.parents.length <= 1048576 /\ s.topo.nodes.length <= 1048576 /\ 0 <= laws_szTopo s.topo n /\ laws_szTopo s.topo n <= n):=by
  unfold laws_szTopo
  rw [e1]
  rcases Zx5 (n:=n) (c:=s.topo.parents.length) with q | q
  .rw [no q,cond_true]; exact .inl (by omega)
  .rw [nn (by omega),cond_false]
   have e2:laws_szNodeS s.topo.nodes (szr n s.topo.parents.length) = szr (szr n s.topo.parents.length) s.topo.nodes.length:=sz_eq q.1 (by omega) p2.1
   rw [e2]
   rcases Zx5 (n:=szr n s.topo.parents.length) (c:=s.topo.nodes.length) with q' | q'
   .rw [no q',cond_true]; exact .inl (by omega)
   .rw [nn (by omega),cond_false]
    exact .inr (by omega)
 generalize laws_szTopo s.topo n = m0 at et ⊢
 rcases et with q | q
 .rw [no q,cond_true]; exact bad
 rw [nn (by omega),cond_false]
 have e3:laws_szBoolS s.up m0 = szr m0 s.up.length:=sz_eq (by omega) (by omega) p3.1
 rw [e3]
 rcases Zx5 (n:=m0) (c:=s.up.length) with r | r
 .rw [no r,cond_true]; exact bad
 rw [nn (by omega),cond_false]
 generalize szr m0 s.up.length = m1 at r ⊢
 have e4:laws_szJobS s.queue m1 = szr m1 s.queue.length:=sz_eq (by omega) (by omega) p4.1
 rw [e4]
 rcases Zx5 (n:=m1) (c:=s.queue.length) with t | t
 .rw [no t,cond_true]; exact bad
 rw [nn (by omega),cond_false]
 generalize szr m1 s.queue.length = m2 at t ⊢
 obtain ⟨m3,e5,u1,u2⟩:=ZMn (n:=m2) (by omega) (by omega) p5
 rw [e5,bS]
 by_cases u:m3 < 0
 .rw [no u,cond_true]; exact bad
 rw [nn u,cond_false]
 have u':=u2 (by omega)
 have e6:laws_szEndS s.ends m3 = szr m3 s.ends.length:=sz_eq (by omega) (by omega) p6.1
 rw [e6]
 rcases Zx5 (n:=m3) (c:=s.ends.length) with v | v
 .rw [no v,cond_true]; exact bad
 rw [nn (by omega),cond_false]
 exact ⟨_,rfl,.inr ⟨⟨q.1,q.2.1,by omega,by omega,u'.2,by omega⟩,by omega⟩⟩
end Go.Proofs.YtpljbgcghpamjaaGreat
namespace Go.Proofs.YtpljbgcghpamjaaGreat
open Go Go.RowKit Eng
theorem Zfb {l:List Account} (h:l.length <= 1048576):laws_toAccountS l = some l:=by
 unfold laws_toAccountS
 rw [ZU6 (by omega) (by omega),bS]
 refine Zw4 (by omega) (fun i ys k x hx hl=>?_) (fun ys k=>?_) (by simp)
 .have hi:=(yB hx).1
  have hlt:(i:Int) < (l.length:Int):=by omega
  obtain ⟨y,hy⟩:∃ y,ys[i]? = some y:=⟨_,yA (by omega)⟩
  simp only [ZY1,hlt,decide_true,cond_true,Za,hx,hy,bS,Zz (n:=i) (by omega),Int.toNat_natCast]
  rfl
 .simp only [ZY1,Z92,decide_false,cond_false]
theorem Zxd {l:List Quota} (h:l.length <= 1048576):laws_toQuotaS l = some l:=by
 unfold laws_toQuotaS
 rw [ZU6 (by omega) (by omega),bS]
 refine Zw4 (by omega) (fun i ys k x hx hl=>?_) (fun ys k=>?_) (by simp)
 .have hi:=(yB hx).1
  have hlt:(i:Int) < (l.length:Int):=by omega
  obtain ⟨y,hy⟩:∃ y,ys[i]? = some y:=⟨_,yA (by omega)⟩
  simp only [Zs2,hlt,decide_true,cond_true,Za,hx,hy,bS,Zz (n:=i) (by omega),Int.toNat_natCast]
  rfl
 .simp only [Zs2,Z92,decide_false,cond_false]
theorem Zbh {l:List Dep} (h:l.length <= 1048576):laws_toDepS l = some l:=by
 unfold laws_toDepS
 rw [ZU6 (by omega) (by omega),bS]
 refine Zw4 (by omega) (fun i ys k x hx hl=>?_) (fun ys k=>?_) (by simp)
 .have hi:=(yB hx).1
  have hlt:(i:Int) < (l.length:Int):=by omega
  obtain ⟨y,hy⟩:∃ y,ys[i]? = some y:=⟨_,yA (by omega)⟩
  simp only [Zz3,hlt,decide_true,cond_true,Za,hx,hy,bS,Zz (n:=i) (by omega),Int.toNat_natCast]
  rfl
 .simp only [Zz3,Z92,decide_false,cond_false]
theorem Zzd {l:List Owner} (h:l.length <= 1048576):laws_toOwnerS l = some l:=by
 unfold laws_toOwnerS
 rw [ZU6 (by omega) (by omega),bS]
 refine Zw4 (by omega) (fun i ys k x hx hl=>?_) (fun ys k=>?_) (by simp)
 .have hi:=(yB hx).1
  have hlt:(i:Int) < (l.length:Int):=by omega
  obtain ⟨y,hy⟩:∃ y,ys[i]? = some y:=⟨_,yA (by omega)⟩
  simp only [Zt2,hlt,decide_true,cond_true,Za,hx,hy,bS,Zz (n:=i) (by omega),Int.toNat_natCast]
  rfl
 .simp only [Zt2,Z92,decide_false,cond_false]
theorem ZKa (v:Account):laws_eqAccount v v = true:=by simp [laws_eqAccount]
theorem Zvc (v:Quota):laws_eqQuota v v = true:=by simp [laws_eqQuota,ZA3]
theorem Zwf (v:Dep):laws_eqDep v v = true:=by simp [laws_eqDep]
theorem Zxc (v:Owner):laws_eqOwner v v = true:=by simp [laws_eqOwner]
theorem Z6a {l:List Account} (h:l.length <= 1048576):laws_eqAccountS l l = some true:=by
 unfold laws_eqAccountS
 rw [Z02,cond_false]
 refine Zpa (n:=l.length) (by omega) (fun i k hi=>?_) (fun k=>?_)
 .have hlt:(i:Int) < (l.length:Int):=by omega
  obtain ⟨x,hx⟩:∃ x,l[i]? = some x:=⟨_,yA hi⟩
  simp only [ZZ1,hlt,decide_true,cond_true,Za,hx,bS,Zz (n:=i) (by omega),ZKa,Bool.not_true,cond_false]
 .simp only [ZZ1,Z92,decide_false,cond_false]
theorem Zhb {l:List Quota} (h:l.length <= 1048576):laws_eqQuotaS l l = some true:=by
 unfold laws_eqQuotaS
 rw [Z02,cond_false]
 refine Zpa (n:=l.length) (by omega) (fun i k hi=>?_) (fun k=>?_)
 .have hlt:(i:Int) < (l.length:Int):=by omega
  obtain ⟨x,hx⟩:∃ x,l[i]? = some x:=⟨_,yA hi⟩
  simp only [Zu2,hlt,decide_true,cond_true,Za,hx,bS,Zz (n:=i) (by omega),Zvc,Bool.not_true,cond_false]
 .simp only [Zu2,Z92,decide_false,cond_false]
theorem ZTd {l:List Dep} (h:l.length <= 1048576):laws_eqDepS l l = some true:=by
 unfold laws_eqDepS
 rw [Z02,cond_false]
 refine Zpa (n:=l.length) (by omega) (fun i k hi=>?_) (fun k=>?_)
 .have hlt:(i:Int) < (l.length:Int):=by omega
  obtain ⟨x,hx⟩:∃ x,l[i]? = some x:=⟨_,yA hi⟩
  simp only [ZG3,hlt,decide_true,cond_true,Za,hx,bS,Zz (n:=i) (by omega),Zwf,Bool.not_true,cond_false]
 .simp only [ZG3,Z92,decide_false,cond_false]
theorem Zib {l:List Owner} (h:l.length <= 1048576):laws_eqOwnerS l l = some true:=by
 unfold laws_eqOwnerS
 rw [Z02,cond_false]
 refine Zpa (n:=l.length) (by omega) (fun i k hi=>?_) (fun k=>?_)
 .have hlt:(i:Int) < (l.length:Int):=by omega
  obtain ⟨x,hx⟩:∃ x,l[i]? = some x:=⟨_,yA hi⟩
  simp only [Zv2,hlt,decide_true,cond_true,Za,hx,bS,Zz (n:=i) (by omega),Zxc,Bool.not_true,cond_false]
 .simp only [Zv2,Z92,decide_false,cond_false]
structure SizedD (d:Desk):Prop where
 state:SizedS d.state
 accounts:d.accounts.length <= 1048576
 quotas:d.quotas.length <= 1048576
 deps:d.deps.length <= 1048576
 owners:d.owners.length <= 1048576
 an:∀ x ∈ d.accounts,x.name.length <= 1048576
 qn:∀ x ∈ d.quotas,x.name.length <= 1048576
 ow:∀ x ∈ d.owners,x.name.length <= 1048576
theorem Z9h {d:Desk} (h:SizedD d):laws_toDesk d = some d:=by
 unfold laws_toDesk
 rw [Z7f h.state,bS,Zfb h.accounts,bS,Zxd h.quotas,bS,Zbh h.deps,bS,Zzd h.owners,bS]
theorem ZSd {d:Desk} (h:SizedD d):laws_eqDesk d d = some true:=by
 unfold laws_eqDesk
 rw [Zuc h.state,Z6a h.accounts,Zhb h.quotas,ZTd h.deps,Zib h.owners]
 rfl
theorem ZLn {α:Type} {f:α -> Int -> Int} {bd:Int × Int -> (Int × Int -> Option Int) -> Option Int} {l:List α} {n:Int} (h0:0 <= n) (h:n <= 1048576) (hm:l.length < 9223372036854775807)
  (hb:∀ (i:Nat) m x k,l[i]? = some x -> 0 <= m -> m <= 1048576 -> bd (m,(i:Int)) k = bif decide (f x m < 0) then some (-1) else k (f x m,((i + 1:Nat):Int)))
  (he:∀ m k,bd (m,(l.length:Int)) k = some m) {P:α -> Prop} (hf:∀ x ∈ l,∀ m,0 <= m -> m <= 1048576 -> f x m <= m /\ (0 <= f x m -> P x)):∃ r,whl bd 9223372036854775807 (n,0) = some r /\ (r < 0 \/ (r <= n /\ ∀ x ∈ l,P x)):=by
 refine ZU3 (fun _ o=>∃ r,o = some r /\ (r < 0 \/ (r <= n /\ ∀ x ∈ l,P x))) (fun b=>l.length - b.2.toNat) (fun b=>∃ i:Nat,b.2 = (i:Int) /\ i <= l.length /\ 0 <= b.1 /\ b.1 <= n /\ ∀ x ∈ l.take i,P x) ?_ 9223372036854775807 (n,0) ⟨0,rfl,Nat.zero_le _,by simp only; omega,by simp only; omega,by simp⟩ (by simp only; omega)
 rintro ⟨m,_⟩ k ⟨i,rfl,hi,hm0,hmn,hP⟩ hk
 simp only at hm0 hmn hk
 by_cases hlt:i < l.length
 .have hx:l[i]? = some l[i]:=yA hlt
  rw [hb i m _ k hx hm0 (by omega)]
  obtain ⟨hle,hPx⟩:=hf _ (List.getElem_mem hlt) m hm0 (by omega)
  by_cases q:f l[i] m < 0
  .simp only [q,decide_true,cond_true]
   exact ⟨-1,rfl,.inl (by omega)⟩
  .simp only [q,decide_false,cond_false]
   refine hk _ ⟨i + 1,rfl,hlt,by simp only; omega,by simp only; omega,fun y hy=>?_⟩ (by simp only; omega)
   rw [List.take_add_one,hx] at hy
   rcases List.mem_append.1 hy with hy | hy
   .exact hP y hy
   .simp at hy
    subst hy
    exact hPx (by omega)
 .have:i = l.length:=by omega
  subst this
  rw [he]
  rw [List.take_length] at hP
  exact ⟨m,rfl,.inr ⟨by omega,hP⟩⟩
theorem ZKn (n:Int) (c:Nat) (h:0 <= n):szr n c <= n:=by
 unfold szr; split <;> omega
theorem Z6l {x:Account} {n:Int} (h0:0 <= n) (h:n <= 1048576) (hc:x.name.length <= maxLen):laws_szAccount x n = szr n x.name.length:=by
 unfold laws_szAccount
 rw [sz_eq h0 h hc]
theorem Zcj {l:List Account} {n:Int} (h0:0 <= n) (h:n <= 1048576) (hc:l.length <= maxLen) (hl:∀ x ∈ l,x.name.length <= maxLen):∃ r,laws_szAccountS l n = some r /\ (r < 0 \/ (r <= n /\ l.length <= 1048576 /\ ∀ x ∈ l,x.name.length <= 1048576)):=by
 have hm:maxLen = 9223372036854775807:=rfl
 unfold laws_szAccountS
 rw [ZM (by omega)]
 by_cases q:n - (l.length:Int) < 0
 .exact ⟨-1,by simp [q],.inl (by omega)⟩
 .simp only [q,decide_false,cond_false]
  obtain ⟨r,e,hr⟩:=ZLn (l:=l) (f:=fun x m=>laws_szAccount x m) (bd:=Zl1 l) (n:=n - (l.length:Int)) (by omega) (by omega) (by omega) (fun i m x k hx _ _=>by
   have hi:=(yB hx).1
   have hlt:(i:Int) < (l.length:Int):=by omega
   simp only [Zl1,hlt,decide_true,cond_true,Za,hx,bS,Zz (n:=i) (by omega)])
   (fun m k=>by simp only [Zl1,Z92,decide_false,cond_false]) (P:=fun x=>x.name.length <= 1048576) (fun x hx m m0 m1=>by
    rw [Z6l m0 m1 (hl x hx)]
    refine ⟨ZKn _ _ m0,fun h=>?_⟩
    rcases Zx5 (n:=m) (c:=x.name.length) with v | v
    .omega
    .omega)
  exact ⟨r,e,hr.imp id fun hr=>⟨by omega,by omega,hr.2⟩⟩
theorem Zkn {x:Quota} {n:Int} (h0:0 <= n) (h:n <= 1048576) (hc:x.name.length <= maxLen):laws_szQuota x n = szr n x.name.length:=by
 unfold laws_szQuota
 rw [sz_eq h0 h hc]
theorem Z4m {l:List Quota} {n:Int} (h0:0 <= n) (h:n <= 1048576) (hc:l.length <= maxLen) (hl:∀ x ∈ l,x.name.length <= maxLen):∃ r,laws_szQuotaS l n = some r /\ (r < 0 \/ (r <= n /\ l.length <= 1048576 /\ ∀ x ∈ l,x.name.length <= 1048576)):=by
 have hm:maxLen = 9223372036854775807:=rfl
 unfold laws_szQuotaS
 rw [ZM (by omega)]
 by_cases q:n - (l.length:Int) < 0
 .exact ⟨-1,by simp [q],.inl (by omega)⟩
 .simp only [q,decide_false,cond_false]
  obtain ⟨r,e,hr⟩:=ZLn (l:=l) (f:=fun x m=>laws_szQuota x m) (bd:=ZJ1 l) (n:=n - (l.length:Int)) (by omega) (by omega) (by omega) (fun i m x k hx _ _=>by
   have hi:=(yB hx).1
   have hlt:(i:Int) < (l.length:Int):=by omega
   simp only [ZJ1,hlt,decide_true,cond_true,Za,hx,bS,Zz (n:=i) (by omega)])
   (fun m k=>by simp only [ZJ1,Z92,decide_false,cond_false]) (P:=fun x=>x.name.length <= 1048576) (fun x hx m m0 m1=>by
    rw [Zkn m0 m1 (hl x hx)]
    refine ⟨ZKn _ _ m0,fun h=>?_⟩
    rcases Zx5 (n:=m) (c:=x.name.length) with v | v
    .omega
    .omega)
  exact ⟨r,e,hr.imp id fun hr=>⟨by omega,by omega,hr.2⟩⟩
theorem Zln {x:Owner} {n:Int} (h0:0 <= n) (h:n <= 1048576) (hc:x.name.length <= maxLen):laws_szOwner x n = szr n x.name.length:=by
 unfold laws_szOwner
 rw [sz_eq h0 h hc]
theorem Z5m {l:List Owner} {n:Int} (h0:0 <= n) (h:n <= 1048576) (hc:l.length <= maxLen) (hl:∀ x ∈ l,x.name.length <= maxLen):∃ r,laws_szOwnerS l n = some r /\ (r < 0 \/ (r <= n /\ l.length <= 1048576 /\ ∀ x ∈ l,x.name.length <= 1048576)):=by
 have hm:maxLen = 9223372036854775807:=rfl
 unfold laws_szOwnerS
 rw [ZM (by omega)]
 by_cases q:n - (l.length:Int) < 0
 .exact ⟨-1,by simp [q],.inl (by omega)⟩
 .simp only [q,decide_false,cond_false]
  obtain ⟨r,e,hr⟩:=ZLn (l:=l) (f:=fun x m=>laws_szOwner x m) (bd:=ZK1 l) (n:=n - (l.length:Int)) (by omega) (by omega) (by omega) (fun i m x k hx _ _=>by
   have hi:=(yB hx).1
   have hlt:(i:Int) < (l.length:Int):=by omega
   simp only [ZK1,hlt,decide_true,cond_true,Za,hx,bS,Zz (n:=i) (by omega)])
   (fun m k=>by simp only [ZK1,Z92,decide_false,cond_false]) (P:=fun x=>x.name.length <= 1048576) (fun x hx m m0 m1=>by
    rw [Zln m0 m1 (hl x hx)]
    refine ⟨ZKn _ _ m0,fun h=>?_⟩
    rcases Zx5 (n:=m) (c:=x.name.length) with v | v
    .omega
    .omega)
  exact ⟨r,e,hr.imp id fun hr=>⟨by omega,by omega,hr.2⟩⟩
theorem Zlh {d:Desk} (hf:ZUk d):∃ r,laws_szDesk d 1048576 = some r /\ (r < 0 \/ SizedD d):=by
 obtain ⟨f1,f2,f3,f4,f5,_⟩:=hf
 have no:∀ {c:Prop} [Decidable c],c -> (decide c) = true:=fun h=>by simp [h]
 have nn:∀ {c:Prop} [Decidable c],¬ c -> (decide c) = false:=fun h=>by simp [h]
 have bad:∃ r,(some (-1):Option Int) = some r /\ (r < 0 \/ SizedD d):=⟨-1,rfl,.inl (by omega)⟩
 unfold laws_szDesk
 obtain ⟨m0,e0,h0⟩:=Zdh f1 (n:=1048576) (by omega) (by omega)
 rw [e0,bS]
 by_cases q0:m0 < 0
 .rw [no q0,cond_true]; exact bad
 rw [nn q0,cond_false]
 obtain ⟨s0,b0⟩:=h0.resolve_left q0
 obtain ⟨m1,e1,h1⟩:=Zcj (l:=d.accounts) (n:=m0) (by omega) (by omega) f2.1 (fun x hx=>(f2.2 x hx).1)
 rw [e1,bS]
 by_cases q1:m1 < 0
 .rw [no q1,cond_true]; exact bad
 rw [nn q1,cond_false]
 obtain ⟨b1,s1,t1⟩:=h1.resolve_left q1
 obtain ⟨m2,e2,h2⟩:=Z4m (l:=d.quotas) (n:=m1) (by omega) (by omega) f3.1 (fun x hx=>(f3.2 x hx).1)
 rw [e2,bS]
 by_cases q2:m2 < 0
 .rw [no q2,cond_true]; exact bad
 rw [nn q2,cond_false]
 obtain ⟨b2,s2,t2⟩:=h2.resolve_left q2
 have e3:laws_szDepS d.deps m2 = szr m2 d.deps.length:=sz_eq (by omega) (by omega) f4.1
 rw [e3]
 rcases Zx5 (n:=m2) (c:=d.deps.length) with v | v
 .rw [no v,cond_true]; exact bad
 rw [nn (by omega),cond_false]
 generalize szr m2 d.deps.length = m3 at v ⊢
 obtain ⟨m4,e4,h4⟩:=Z5m (l:=d.owners) (n:=m3) (by omega) (by omega) f5.1 (fun x hx=>(f5.2 x hx).2.1)
 rw [e4,bS]
 by_cases q4:m4 < 0
 .rw [no q4,cond_true]; exact bad
 rw [nn q4,cond_false]
 obtain ⟨b4,s4,t4⟩:=h4.resolve_left q4
 exact ⟨_,rfl,.inr ⟨s0,s1,s2,by omega,s4,t1,t2,t4⟩⟩
theorem Z0f {l:List Owner} (h:∀ x ∈ l,x.name.length <= 1048576) (n:Int):∃ y,spec_l17Owner l n = some y /\ impl_ownerOf l n = some y /\ y.1.length <= 1048576:=by
 obtain ⟨y,hy,hn⟩:∃ y,spec_l17Owner l n = some y /\ y.1.length <= 1048576:=by
  unfold spec_l17Owner
  refine ZG1 (l0:=l) (b:=()) (fun _ (_:Unit)=>True) (fun o=>∃ y:Str × Bool,o = some y /\ y.1.length <= 1048576) (fun i x b k hx _ hk=>?_) (fun _ _=>⟨([],false),rfl,by simp⟩) trivial
  unfold ZV3
  cases (x.id == n) with
  | true=>exact ⟨_,rfl,h x (yE hx)⟩
  | false=>exact hk () trivial
 exact ⟨y,hy,hy,hn⟩
theorem ZHb {d:Desk} (hd:d.state.queue.length + d.state.runs.length <= 1048576) (ho:∀ x ∈ d.owners,x.name.length <= 1048576):∃ l,spec_HoldsOf d = some l /\ impl_HoldsOf d = some l /\ l.length <= 1048576 /\ ∀ x ∈ l,x.name.length <= 1048576:=by
 obtain ⟨r,h1,h2⟩:∃ r,spec_HoldsOf d = some r /\ r.length <= 1048576 /\ ∀ x ∈ r,x.name.length <= 1048576:=by
  unfold spec_HoldsOf
  rw [Zz5 hd,bS]
  have hl:(allJobs d.state).length <= 1048576:=by simpa [allJobs] using hd
  refine ZG1 (l0:=allJobs d.state) (b:=([]:List Hold)) (fun i (v:List Hold)=>v.length <= i /\ ∀ x ∈ v,x.name.length <= 1048576) (fun o=>∃ l,o = some l /\ l.length <= 1048576 /\ ∀ x ∈ l,x.name.length <= 1048576) (fun i x v k hx hI hk=>?_) (fun v hI=>⟨v,rfl,by omega,hI.2⟩) ⟨Nat.le_refl 0,by simp⟩
  have hi:=(yB hx).1
  unfold ZR4
  obtain ⟨y,y1,_,y3⟩:=Z0f ho x.id
  rw [y1,bS]
  cases y.2 with
  | false=>exact hk v ⟨by omega,hI.2⟩
  | true =>
   rw [cond_true,Zt (by simp; omega),bS]
   refine hk _ ⟨by simp; omega,fun z hz=>?_⟩
   rcases List.mem_append.1 hz with hz | hz
   .exact hI.2 z hz
   .simp at hz; subst hz; exact y3
 exact ⟨r,h1,h1,h2⟩
theorem ZRo {d:Desk} (h:SizedD d):∃ b,spec_DeskOk d = some b /\ impl_DeskOk d = some b /\ (b = true -> (d.accounts.length:Int) <= 12 /\ ∀ x ∈ d.accounts,x.name.length <= 8):=by
 have hj:=h.state.jobs
 have hs:d.state.queue.length + d.state.runs.length <= 1048576:=hj
 have an:∀ x ∈ d.accounts,x.name.length < 9223372036854775807:=fun x hx=>by have:=h.an x hx; omega
 have qn:∀ x ∈ d.quotas,x.name.length < 9223372036854775807:=fun x hx=>by have:=h.qn x hx; omega
 obtain ⟨b1,a1,a2,a3⟩:=Z8c h.accounts an
 obtain ⟨b2,q1,q2,_⟩:=ZHg h.quotas qn
 obtain ⟨b3,p1,p2,_⟩:=ZYl h.deps
 obtain ⟨b4,r1,r2⟩:=Round_eq h.deps
 obtain ⟨hl,l1,l2,l3,l4⟩:=ZHb hs h.ow
 obtain ⟨b5,w1,w2⟩:=ZOo h.quotas qn l3 fun x hx=>by have:=l4 x hx; omega
 have es:=(Z2j hs).1
 have ei:=(Z2j hs).2
 have ek:∀ v,ZN1 d v = some b5 /\ Zk1 d v = some b5:=fun v=>by
  unfold ZN1 Zk1
  rw [l1,l2,bS,bS,w1,w2]
  exact ⟨rfl,rfl⟩
 have eb:∀ (x:Job) (i:Nat) (v:Unit) (k:Unit -> Option Bool),ZO1 d x i v k = ZH d x i v k /\ (ZH d x i v k = some false \/ ZH d x i v k = k ()):=fun x i v k=>by
  unfold ZO1 ZH
  obtain ⟨y,y1,y2,_⟩:=Z0f h.ow x.id
  obtain ⟨n,n1,n2⟩:=ZZl h.accounts an y.1
  rw [y1,y2,bS,bS,n1,n2]
  refine ⟨rfl,?_⟩
  cases y.2 with
  | false=>exact .inl rfl
  | true =>
   simp only [Bool.not_true,cond_false,bS,Bool.false_or]
   cases decide (n < 0) with
   | true=>exact .inl rfl
   | false=>exact .inr rfl
 have et:∃ b,rgl (ZH d) (Zk1 d) (allJobs d.state) 0 () = some b /\ rgl (ZO1 d) (ZN1 d) (allJobs d.state) 0 () = some b:=by
  have e:rgl (ZO1 d) (ZN1 d) (allJobs d.state) 0 () = rgl (ZH d) (Zk1 d) (allJobs d.state) 0 ():=ZE7 (fun i x v k _=>(eb x i v k).1) fun v=>by rw [(ek v).1,(ek v).2]
  rw [e]
  obtain ⟨b,hb⟩:∃ b,rgl (ZH d) (Zk1 d) (allJobs d.state) 0 () = some b:=by
   refine ZG1 (l0:=allJobs d.state) (b:=()) (fun _ (_:Unit)=>True) (fun o=>∃ b,o = some b) (fun i x v k _ _ hk=>?_) (fun v _=>⟨_,(ek v).2⟩) trivial
   rcases (eb x i v k).2 with e | e
   .rw [e]; exact ⟨_,rfl⟩
   .rw [e]; exact hk () trivial
  exact ⟨b,hb,hb⟩
 obtain ⟨b6,t1,t2⟩:=et
 unfold spec_DeskOk impl_DeskOk
 rw [es,ei,a1,a2,q1,q2,p1,p2,r1,r2,ZI7,Zz5 hs]
 simp only [bS]
 rw [t1,t2]
 cases b1 with
 | false=>cases stateOk d.state <;> exact ⟨false,rfl,rfl,fun h=>by cases h⟩
 | true=>cases stateOk d.state <;> cases b2 <;> cases b3 <;> cases b4 <;> exact ⟨_,rfl,rfl,fun _=>a3 rfl⟩
theorem d_cat {α γ:Type} {bd:α -> Nat -> Str -> (Str -> Option γ) -> Option γ} {kk:Str -> Option γ} {f:α -> Str} {c:Nat}:∀ {l:List α} {i:Nat} {s:Str},(∀ x ∈ l,(f x).length <= c) ->
  (∀ x ∈ l,∀ i s k,s.length + c <= 4611686018427387904 -> bd x i s k = k (s ++ f x)) -> s.length + l.length * c <= 4611686018427387904 -> rgl bd kk l i s = kk (s ++ l.flatMap f)
 | [],_,s,_,_,_=>by simp [rgl]
 | x :: l,i,s,h1,h2,h3=>by
  have h0:s.length + c + l.length * c <= 4611686018427387904:=by simp only [List.length_cons,Nat.add_mul,Nat.one_mul] at h3; omega
  have hx:=h1 x (List.mem_cons_self ..)
  rw [rgl,h2 x (List.mem_cons_self ..) i s _ (by omega),d_cat (c:=c) (fun y hy=>h1 y (List.mem_cons_of_mem _ hy)) (fun y hy=>h2 y (List.mem_cons_of_mem _ hy)) (by simp; omega)]
  simp
theorem d_cat2 {α γ:Type} {bd:α -> Nat -> Str -> (Str -> Option γ) -> Option γ} {kk:Str -> Option γ} {f:α -> Str} (c:Nat) {l:List α} {i:Nat} {s:Str} (h1:∀ x ∈ l,(f x).length <= c)
  (h2:∀ x ∈ l,∀ i s k,s.length + c <= 4611686018427387904 -> bd x i s k = k (s ++ f x)) (h3:s.length + l.length * c <= 4611686018427387904):rgl bd kk l i s = kk (s ++ l.flatMap f):=d_cat h1 h2 h3
def cntH (s:Str) (l:List Hold):Int:=l.foldl (fun v x=>bif (x.name == s) then w64 (v + 1) else v) 0
def ZHa (l:List Hold) (x:Account):Str:=x.name ++ [32] ++ ZS6 x.used ++ [32] ++ ZS6 (cntH x.name l) ++ [10]
theorem ZZe {l:List Hold} {x:Account} (h:x.name.length <= 8):(ZHa l x).length <= 64:=by
 have:=Zd2 x.used
 have:=Zd2 (cntH x.name l)
 simp [ZHa]; omega
theorem Z0l {d:Desk} (h:SizedD d):∃ t,spec_DeskReport d = some t /\ impl_DeskReport d = some t:=by
 obtain ⟨b,h1,h2,h3⟩:=ZRo h
 unfold spec_DeskReport impl_DeskReport
 rw [h1,h2,bS,bS]
 cases b with
 | false=>exact ⟨_,rfl,rfl⟩
 | true =>
  obtain ⟨h4,h5⟩:=h3 rfl
  obtain ⟨l,l1,l2,l3,_⟩:=ZHb h.state.jobs h.ow
  rw [Bool.not_true,cond_false,cond_false,l2,bS]
  refine ⟨d.accounts.flatMap (ZHa l),?_,?_⟩
  .rw [d_cat2 64 (f:=ZHa l) (fun x hx=>ZZe (h5 x hx)) (fun x hx i s k hs=>by
    have e1:=Zd2 x.used
    have e2:=Zd2 (cntH x.name l)
    have e3:=h5 x hx
    unfold Z93
    rw [l1,bS,ZH5 (f:=fun v (y:Hold)=>bif (y.name == x.name) then w64 (v + 1) else v) (fun y _ i v k=>by unfold Za3; cases (y.name == x.name) <;> rfl)]
    unfold Z83
    rw [show l.foldl (fun v (y:Hold)=>bif (y.name == x.name) then w64 (v + 1) else v) 0 = cntH x.name l from rfl]
    rw [Zv1 (by omega),bS,Zv1 (by simp; omega),bS,Z89,bS,Zv1 (by simp; omega),bS,Zv1 (by simp; omega),bS,Z89,bS,Zv1 (by simp; omega),bS,Zv1 (by simp; omega),bS]
    simp [ZHa]) (by simp; omega)]
   unfold Z73
   simp
  .rw [d_cat2 64 (f:=ZHa l) (fun x hx=>ZZe (h5 x hx)) (fun x hx i s k hs=>by
    have e1:=Zd2 x.used
    have e2:=Zd2 (cntH x.name l)
    have e3:=h5 x hx
    unfold Ze3
    rw [ZH5 (f:=fun v (y:Hold)=>bif (y.name == x.name) then w64 (v + 1) else v) (fun y _ i v k=>by unfold Zf3; cases (y.name == x.name) <;> rfl)]
    unfold Zd3
    rw [show l.foldl (fun v (y:Hold)=>bif (y.name == x.name) then w64 (v + 1) else v) 0 = cntH x.name l from rfl]
    rw [Zr9,bS,Zr9,bS,Zwk _ (by simp [joinW]; omega),bS,Zv1 (by simp [joinW]; omega),bS,Zv1 (by simp [joinW]; omega),bS]
    simp [ZHa,joinW]) (by simp; omega)]
   unfold Zc3
   simp
def ZZ6:L :=
sR [.bx 1 (.t 0),.mv 2 (cB false)]
 (.seq (rE 3 (kI 1048576))
 (sR [lD 7 1 15 true,mV 8 3,cQ 9 ZUb [7,8],mV 3 9]
 (.seq (sR [mV 10 3,.bi 11 .lss (.t 10) (kI 0)]
 (.cond (.t 11) (.seq (rE 2 (cB true))
 gR)
 .skip))
 (sR [lD 12 1 15 true,cQ 13 Zr5 [12],cQ 14 ZP7 [13],mV 4 14]
 (sR [lD 15 1 15 true,cQ 16 Zr5 [15],.al 5 [.nl,.nl,.nl,.int .i64 0,.int .i64 0,.int .i64 0,.int .i64 0,.int .i64 0,.nl,.nl,.nl,.nl,.nl,.nl,.nl],.st (.t 5) (.t 16) 15]
 (sR [lD 17 5 15 true,cQ 18 ZT7 [17],mV 6 18]
 (.seq (sR [mV 19 6,mV 20 4,bI 21 .neq 19 20]
 (.cond (.t 21) (.seq (rE 2 (cB false))
 gR)
 .skip))
 (.seq (.seq (.rq 5 [lD 22 5 15 true,lD 23 1 15 true,cQ 24 Zr5 [23],cQ 25 ZZb [22,24],.un 26 (.t 25)])
 (.cond (.t 26) (.seq (rE 2 (cB false))
 gR)
 .skip))
 (.seq (rE 2 (cB true))
 gR)))))))))
def laws_FnExactDeskReport (aD1:Desk):Option Bool :=
 (laws_szDesk aD1 1048576).bind fun n2=>bif (decide (n2 < 0)) then (some true) else ((laws_toDesk aD1).bind fun y3=>(spec_DeskReport y3).bind fun w4=>(laws_toDesk aD1).bind fun y5=>(impl_DeskReport y5).bind fun w6=>bif (w6 != w4) then (some false) else ((laws_toDesk aD1).bind fun y7=>(laws_eqDesk y5 y7).bind fun b8=>bif (!b8) then (some false) else (some true)))
theorem ZY6 {aD1:Desk} {r:Bool} (H:laws_FnExactDeskReport aD1 = some r):Snd Tryz.prog ZS1 [Zh2 .rd aD1] (.bool r) []:=by
 refine wS ZZ6 [.t 2] ?_
 unfold laws_FnExactDeskReport at H
 obtain ⟨n2,h2,H⟩:=bB H
 refine wG [.c 9 (Zkh h2)] fun _=>?_
 refine Wh_iH H (fun H=>?_) fun H=>?_
 .refine wP ?_
  replace H:=sI H; subst H
  exact wE [(2,.d)]
 .obtain ⟨y3,h3,H⟩:=bB H
  obtain ⟨w4,h4,H⟩:=bB H
  obtain ⟨y5,h5,H⟩:=bB H
  obtain ⟨w6,h6,H⟩:=bB H
  refine wG [.c 13 (ZX6 h3),.u 14 (.call _ _ _ _ _ (AEs.of (xs:=[.agg [.sl .rd 1 (y3.state.topo.parents.map eI),.sl .rd 4 (y3.state.topo.nodes.map eNode),.sl .rd 1 (y3.state.up.map eBo),.int .i64 y3.state.lic.a,.int .i64 y3.state.lic.b,.int .i64 y3.state.lic.c,.int .i64 y3.state.depth,.int .i64 y3.state.now,.sl .rd 11 (y3.state.queue.map eJob),.sl .rd 13 (y3.state.runs.map (eRunT .nw)),.sl .rd 3 (y3.state.ends.map eEnd),.sl .rd 3 (y3.accounts.map Z1),.sl .rd 6 (y3.quotas.map Zj),.sl .rd 2 (y3.deps.map eDep),.sl .rd 2 (y3.owners.map Zp)]]) (by simp)) (fun _=>Z6b h4)),.c 16 (ZX6 h5),.u 18 (.call _ _ _ _ _ (AEs.of (xs:=[.agg [.sl .rd 1 (y5.state.topo.parents.map eI),.sl .rd 4 (y5.state.topo.nodes.map eNode),.sl .rd 1 (y5.state.up.map eBo),.int .i64 y5.state.lic.a,.int .i64 y5.state.lic.b,.int .i64 y5.state.lic.c,.int .i64 y5.state.depth,.int .i64 y5.state.now,.sl .rd 11 (y5.state.queue.map eJob),.sl .rd 13 (y5.state.runs.map (eRunT .nw)),.sl .rd 3 (y5.state.ends.map eEnd),.sl .rd 3 (y5.accounts.map Z1),.sl .rd 6 (y5.quotas.map Zj),.sl .rd 2 (y5.deps.map eDep),.sl .rd 2 (y5.owners.map Zp)]]) (by simp)) (fun _=>ZAb h6))] fun _=>?_
  refine Wh_iH H (fun H=>?_) fun H=>?_
  .refine wP ?_
   replace H:=sI H; subst H
   exact wE [(2,.d)]
  .obtain ⟨y7,h7,H⟩:=bB H
   obtain ⟨b8,h8,H⟩:=bB H
   refine wG [.c 24 (ZX6 h7),.u 25 (.call _ _ _ _ _ (AEs.of (xs:=[.agg [.sl .rd 1 (y5.state.topo.parents.map eI),.sl .rd 4 (y5.state.topo.nodes.map eNode),.sl .rd 1 (y5.state.up.map eBo),.int .i64 y5.state.lic.a,.int .i64 y5.state.lic.b,.int .i64 y5.state.lic.c,.int .i64 y5.state.depth,.int .i64 y5.state.now,.sl .rd 11 (y5.state.queue.map eJob),.sl .rd 13 (y5.state.runs.map (eRunT .nw)),.sl .rd 3 (y5.state.ends.map eEnd),.sl .rd 3 (y5.accounts.map Z1),.sl .rd 6 (y5.quotas.map Zj),.sl .rd 2 (y5.deps.map eDep),.sl .rd 2 (y5.owners.map Zp)],.agg [.sl .rd 1 (y7.state.topo.parents.map eI),.sl .rd 4 (y7.state.topo.nodes.map eNode),.sl .rd 1 (y7.state.up.map eBo),.int .i64 y7.state.lic.a,.int .i64 y7.state.lic.b,.int .i64 y7.state.lic.c,.int .i64 y7.state.depth,.int .i64 y7.state.now,.sl .rd 11 (y7.state.queue.map eJob),.sl .rd 13 (y7.state.runs.map (eRunT .nw)),.sl .rd 3 (y7.state.ends.map eEnd),.sl .rd 3 (y7.accounts.map Z1),.sl .rd 6 (y7.quotas.map Zj),.sl .rd 2 (y7.deps.map eDep),.sl .rd 2 (y7.owners.map Zp)]]) (by simp)) (fun _=>Zvh h8))] fun _=>?_
   refine Wh_iH H (fun H=>?_) fun H=>?_
   .refine wP ?_
    replace H:=sI H; subst H
    exact wE [(2,.d)]
   .refine wP ?_
    replace H:=sI H; subst H
    exact wE [(2,.d)]
theorem Desk_of2 {a:AV} (h:Ztm.okV a):∃ s,AE a (Zh2 .rd s) /\ ZUk s:=EncOf.okV_st ofDesk h
theorem ZWa {s:Desk} (hf:ZUk s):laws_FnExactDeskReport s = some true:=by
 unfold laws_FnExactDeskReport
 obtain ⟨r,h1,h2⟩:=Zlh hf
 rw [h1,bS]
 by_cases hr:r < 0
 .simp [hr]
 have hS:SizedD s:=h2.resolve_left hr
 obtain ⟨q,q1,q2⟩:=Z0l hS
 simp only [hr,decide_false,cond_false,Z9h hS,bS,q1,q2,Z02,ZSd hS,Bool.not_true]
theorem Zba (xs:List AV) (h:okVs [Ztm] xs):Snd Tryz.prog ZS1 xs (.bool true) []:=by
 obtain ⟨a,_,rfl,ha,rfl⟩:=h
 obtain ⟨s,ha,hf⟩:=Desk_of2 ha
 exact (ZY6 (ZWa hf)).wkS (.cons ha .nil)
end Go.Proofs.YtpljbgcghpamjaaGreat
