/-
  Lemmas, part 13.
-/
import Derived.Test.YtodafdoninblmaaGreatV12
namespace Go.Proofs.YtodafdoninblmaaGreat
open Go Go.RowKit Eng
def Y12:L :=
sR [.bx 1 0,.al 2 [.int .i64 0,.int .i64 0,.int .i64 0]]
 (sR [.al 3 [.int .i64 0,.int .i64 0,.int .i64 0]]
 (sR [fA 4 1 0,lF 5 4 1,fA 6 3 0,.st 6 5 1]
 (sR [fA 7 1 1,lF 8 7 1,fA 9 3 1,.st 9 8 1]
 (sR [fA 10 1 2,lF 11 10 1,fA 12 3 2,.st 12 11 1]
 (sR [lT 13 3 3,.st 2 13 3]
 gR)))))
def MO(a1:Vec):Option Vec :=
 some a1
theorem O0C{a1 r:Vec}(H:MO a1=some r):Snd Tryz.prog Lp [eVec a1] (eVec r) []:=by
 refine wS Y12 [.c 2 3 true] ?_
 unfold MO at H
 refine wP ?_
 replace H:=sI H;subst H
 exact wN [(2,.d)] [(2,[])] [] [] [] []
def Jf(a1:Vec):Vec :=
 a1
theorem Y1a(a1:Vec):MO a1=some (Jf a1):=by
 unfold MO Jf
 first|rfl|simp only[Z2]
theorem LF(a1:Vec):Snd Tryz.prog Lp [eVec a1] (eVec (Jf a1)) []:=O0C (Y1a a1)
def W12:L :=
sR [.bx 2 0,.bx 3 1,.mv 4 (cB false)]
 (.seq (sR [fA 5 2 0,lF 6 5 1,fA 7 3 0,lF 8 7 1,bI 9 .neq 6 8]
 (.cond 9 (.seq (rE 4 (cB false))
 gR)
 .skip))
 (.seq (sR [fA 10 2 1,lF 11 10 1,fA 12 3 1,lF 13 12 1,bI 14 .neq 11 13]
 (.cond 14 (.seq (rE 4 (cB false))
 gR)
 .skip))
 (.seq (sR [fA 15 2 2,lF 16 15 1,fA 17 3 2,lF 18 17 1,bI 19 .neq 16 18]
 (.cond 19 (.seq (rE 4 (cB false))
 gR)
 .skip))
 (.seq (rE 4 (cB true))
 gR))))
def XP(a1 b2:Vec):Option Bool :=
 bif (a1.a != b2.a)then(some false)else(bif (a1.b != b2.b)then(some false)else(bif (a1.c != b2.c)then(some false)else(some true)))
theorem J0D{a1 b2:Vec}{r:Bool}(H:XP a1 b2=some r):Snd Tryz.prog Jp [eVec a1,eVec b2] (.bool r) []:=by
 refine wS W12 [.t 4] ?_
 unfold XP at H
 refine wP ?_
 refine V0 H (fun H=>?_) fun H=>?_
 .obtain rfl:=sI H
  exact wP (wE [(4,.d)])
 .refine wP ?_
  refine V0 H (fun H=>?_) fun H=>?_
  .obtain rfl:=sI H
   exact wP (wE [(4,.d)])
  .refine wP ?_
   refine V0 H (fun H=>?_) fun H=>?_
   .obtain rfl:=sI H
    exact wP (wE [(4,.d)])
   .obtain rfl:=sI H
    exact wP (wE [(4,.d)])
def Zb(a1 b2:Vec):Bool :=
 bif (a1.a != b2.a)then(false)else(bif (a1.b != b2.b)then(false)else(bif (a1.c != b2.c)then(false)else(true)))
theorem Q1a(a1 b2:Vec):XP a1 b2=some (Zb a1 b2):=by
 unfold XP Zb
 first|rfl|simp only[Z2]
theorem UG(a1 b2:Vec):Snd Tryz.prog Jp [eVec a1,eVec b2] (.bool (Zb a1 b2)) []:=J0D (Q1a a1 b2)
def W0P:L :=
sR [.mv 2 (.c (.nl))]
 (sR [mV 5 0,.ln 6 5,.ms 7 1 8 [.int .i64 0] 6,mV 3 7]
 (.seq (.seq (rE 4 (kI 0))
 (.blk 0 (.loop (.gw (.seq (sR [mV 8 4,mV 9 0,.ln 10 9,bI 11 .lss 8 10]
 (.cond 11 .skip
 (.exit 0)))
 (.seq (.blk 1 (.reg [mV 14 3,mV 15 4,mV 16 0,mV 17 4,iA 18 16 17 1,lF 19 18 1,iA 20 14 15 1,.st 20 19 1]))
 (.reg [mV 12 4,.bi 13 .add 12 (kI 1),mV 4 13])))))))
 (sR [mV 21 3,mV 2 21]
 gR)))
def Mr(a1:List Int)(v4:Int×(List Int))(k4:(Int×(List Int))->Option (List Int)):Option (List Int) :=
 bif (decide (v4.1<(a1.length:Int)))then((idx a1 v4.1).bind fun e6=>(idx v4.2 v4.1).bind fun _=>k4 ((w64 (v4.1+1)),(v4.2.set v4.1.toNat e6)))else(some v4.2)
def Mv(a1:List Int):Option (List Int) :=
 (mkL 8 (a1.length:Int) 0).bind fun xs2=>whl (Mr a1) 9223372036854775807 (0,xs2)
theorem Q0b{a1:List Int}{r:(List Int)}(H:Mv a1=some r):Snd Tryz.prog U00 [rV 1 (a1.map eI)] (nV 1 (r.map eI)) []:=by
 refine wS W0P [.t 2] ?_
 unfold Mv at H
 obtain⟨xs2,h2,H⟩:=bB H
 refine wG [.u 6 (.ln _ _ fun _=>lm a1 eI),.u 7 (.ms _ _ _ _ fun _=>O0e eI h2)] fun q3=>?_
 refine wW (fun(v4:Int×(List Int))=>⟨[(0,rV 1 (a1.map eI)),(3,.sref 7),(4,iV v4.1)],[],[],[(7,⟨1,v4.2.map eI,false⟩)]⟩) H (fun v4 I m k4 H N13=>?_)
 unfold Mr at H
 refine wG [.u 10 (.ln _ _ fun _=>lm a1 eI)] fun q5=>?_
 refine V0 H (fun H=>?_) fun H=>?_
 .obtain⟨e6,h6,H⟩:=bB H
  obtain⟨e7,h7,H⟩:=bB H
  refine wG [.u 18 (.ix _ _ _ fun _=>Y0 eI h6),.u 20 (.ix _ _ _ fun _=>Y0 eI h7),.u 1000000 (.sto _ _ _ (eI e6) _ (fun _=>gm eI (L7 h7)) (fun _=>JX ..))] fun _=>?_
  exact wT (N13 _ H)
 .refine wP ?_
  replace H:=sI H;subst H
  exact wN [(2,.f)] [] [] [7] [] [⟨_,nw_I v4.2⟩]
def U0P:L :=
sR [.bx 1 0,.al 2 [.int .i64 0,.int .i64 0,.int .i64 0,.int .i64 0]]
 (sR [.al 3 [.int .i64 0,.int .i64 0,.int .i64 0,.int .i64 0]]
 (sR [fA 4 1 0,lF 5 4 1,fA 6 3 0,.st 6 5 1]
 (sR [fA 7 1 1,lT 8 7 3,cQ 9 Lp [8],fA 10 3 1,.st 10 9 3]
 (sR [lT 11 3 4,.st 2 11 4]
 gR))))
def JF(a1:Node):Option Node :=
 some (Node.mk a1.leaf (Jf a1.cap))
theorem L0u{a1 r:Node}(H:JF a1=some r):Snd Tryz.prog V00 [L2 a1] (L2 r) []:=by
 refine wS U0P [.c 2 4 true] ?_
 unfold JF at H
 refine wG [.c 9 (LF a1.cap)] fun _=>?_
 replace H:=sI H;subst H
 exact wN [(2,.d)] [(2,[])] [] [] [] []
def Yo(a1:Node):Node :=
 (Node.mk a1.leaf (Jf a1.cap))
theorem W10(a1:Node):JF a1=some (Yo a1):=by
 unfold JF Yo
 first|rfl|simp only[Z2]
theorem Y0M(a1:Node):Snd Tryz.prog V00 [L2 a1] (L2 (Yo a1)) []:=L0u (W10 a1)
def Q0G:L :=
sR [.mv 2 (.c (.nl))]
 (sR [mV 5 0,.ln 6 5,.ms 7 4 32 [.int .i64 0,.int .i64 0,.int .i64 0,.int .i64 0] 6,mV 3 7]
 (.seq (.seq (rE 4 (kI 0))
 (.blk 0 (.loop (.gw (.seq (sR [mV 8 4,mV 9 0,.ln 10 9,bI 11 .lss 8 10]
 (.cond 11 .skip
 (.exit 0)))
 (.seq (.blk 1 (.reg [mV 14 3,mV 15 4,mV 16 0,mV 17 4,iA 18 16 17 4,lT 19 18 4,cQ 20 V00 [19],iA 21 14 15 4,.st 21 20 4]))
 (.reg [mV 12 4,.bi 13 .add 12 (kI 1),mV 4 13])))))))
 (sR [mV 22 3,mV 2 22]
 gR)))
def Zn(a1:List Node)(v4:Int×(List Node))(k4:(Int×(List Node))->Option (List Node)):Option (List Node) :=
 bif (decide (v4.1<(a1.length:Int)))then((idx a1 v4.1).bind fun e6=>(idx v4.2 v4.1).bind fun _=>k4 ((w64 (v4.1+1)),(v4.2.set v4.1.toNat (Node.mk ((Yo e6).leaf) ((Yo e6).cap)))))else(some v4.2)
def LA(a1:List Node):Option (List Node) :=
 (mkL 32 (a1.length:Int) (Node.mk 0 (Vec.mk 0 0 0))).bind fun xs2=>whl (Zn a1) 9223372036854775807 (0,xs2)
theorem J0C{a1:List Node}{r:(List Node)}(H:LA a1=some r):Snd Tryz.prog U0d [rV 4 (a1.map L2)] (nV 4 (r.map L2)) []:=by
 refine wS Q0G [.t 2] ?_
 unfold LA at H
 obtain⟨xs2,h2,H⟩:=bB H
 refine wG [.u 6 (.ln _ _ fun _=>lm a1 L2),.u 7 (.ms _ _ _ _ fun _=>O0e L2 h2)] fun q3=>?_
 refine wW (fun(v4:Int×(List Node))=>⟨[(0,rV 4 (a1.map L2)),(3,.sref 7),(4,iV v4.1)],[],[],[(7,⟨4,v4.2.map L2,false⟩)]⟩) H (fun v4 I m k4 H N13=>?_)
 unfold Zn at H
 refine wG [.u 10 (.ln _ _ fun _=>lm a1 L2)] fun q5=>?_
 refine V0 H (fun H=>?_) fun H=>?_
 .obtain⟨e6,h6,H⟩:=bB H
  obtain⟨e7,h7,H⟩:=bB H
  refine wG [.u 18 (.ix _ _ _ fun _=>Y0 L2 h6),.c 20 (Y0M e6),.u 21 (.ix _ _ _ fun _=>Y0 L2 h7),.u 1000000 (.sto _ _ _ (L2 (Node.mk ((Yo e6).leaf) ((Yo e6).cap))) _ (fun _=>gm L2 (L7 h7)) (fun _=>JX ..))] fun _=>?_
  exact wT (N13 _ H)
 .refine wP ?_
  replace H:=sI H;subst H
  exact wN [(2,.f)] [] [] [7] [] [⟨_,Y7 v4.2⟩]
def X0P:L :=
sR [.bx 1 0,.al 2 [.nl,.nl]]
 (sR [.al 3 [.nl,.nl]]
 (sR [fA 4 1 0,lF 5 4 1,cQ 6 U00 [5],fA 7 3 0,.st 7 6 1]
 (sR [fA 8 1 1,lF 9 8 1,cQ 10 U0d [9],fA 11 3 1,.st 11 10 1]
 (sR [lT 12 3 2,.st 2 12 2]
 gR))))
def XK(a1:Topo):Option Topo :=
 (Mv a1.parents).bind fun y2=>(LA a1.nodes).bind fun y3=>some (Topo.mk y2 y3)
theorem M0L{a1 r:Topo}(H:XK a1=some r):Snd Tryz.prog V0l [Y3 .rd a1] (Y3 .nw r) []:=by
 refine wS X0P [.c 2 2 true] ?_
 unfold XK at H
 obtain⟨y2,h2,H⟩:=bB H
 obtain⟨y3,h3,H⟩:=bB H
 refine wG [.c 6 (Q0b h2),.c 10 (J0C h3)] fun _=>?_
 replace H:=sI H;subst H
 exact wN [(2,.d)] [(2,[])] [] [] [] [⟨_,nw_I y2⟩,⟨_,Y7 y3⟩]
def Z0Q:L :=
.seq (rE 4 (kI 0))
 (sR [mV 5 1,mV 6 0,.ln 7 6,bI 8 .sub 5 7,mV 1 8]
 (.seq (sR [mV 9 1,.bi 10 .lss 9 (kI 0)]
 (.cond 10 (.seq (rE 4 (kI (-1)))
 gR)
 .skip))
 (sR [mV 11 1,mV 4 11]
 gR)))
def XG(a1:List Int)(left2:Int):Option Int :=
 bif (decide ((w64 (left2-(a1.length:Int)))<0))then(some (-1))else(some (w64 (left2-(a1.length:Int))))
theorem Y0v{a1:List Int}{left2 r:Int}(H:XG a1 left2=some r):Snd Tryz.prog QH [rV 1 (a1.map eI),iV left2] (iV r) []:=by
 refine wS Z0Q [.t 4] ?_
 unfold XG at H
 refine wG [.u 7 (.ln _ _ fun _=>lm a1 eI)] fun q3=>?_
 refine V0 H (fun H=>?_) fun H=>?_
 .obtain rfl:=sI H
  exact wP (wE [(4,.d)])
 .obtain rfl:=sI H
  exact wP (wE [(4,.d)])
def Z5(a1:List Int)(left2:Int):Int :=
 bif (decide ((w64 (left2-(a1.length:Int)))<0))then((-1))else((w64 (left2-(a1.length:Int))))
theorem Z11(a1:List Int)(left2:Int):XG a1 left2=some (Z5 a1 left2):=by
 unfold XG Z5
 first|rfl|simp only[Z2]
theorem O0b(a1:List Int)(left2:Int):Snd Tryz.prog QH [rV 1 (a1.map eI),iV left2] (iV (Z5 a1 left2)) []:=Y0v (Z11 a1 left2)
def M0G:L :=
.seq (rE 4 (kI 0))
 (sR [mV 5 1,mV 6 0,.ln 7 6,bI 8 .sub 5 7,mV 1 8]
 (.seq (sR [mV 9 1,.bi 10 .lss 9 (kI 0)]
 (.cond 10 (.seq (rE 4 (kI (-1)))
 gR)
 .skip))
 (sR [mV 11 1,mV 4 11]
 gR)))
def Oy(a1:List Node)(left2:Int):Option Int :=
 bif (decide ((w64 (left2-(a1.length:Int)))<0))then(some (-1))else(some (w64 (left2-(a1.length:Int))))
theorem L0n{a1:List Node}{left2 r:Int}(H:Oy a1 left2=some r):Snd Tryz.prog WT [rV 4 (a1.map L2),iV left2] (iV r) []:=by
 refine wS M0G [.t 4] ?_
 unfold Oy at H
 refine wG [.u 7 (.ln _ _ fun _=>lm a1 L2)] fun q3=>?_
 refine V0 H (fun H=>?_) fun H=>?_
 .obtain rfl:=sI H
  exact wP (wE [(4,.d)])
 .obtain rfl:=sI H
  exact wP (wE [(4,.d)])
def Ve(a1:List Node)(left2:Int):Int :=
 bif (decide ((w64 (left2-(a1.length:Int)))<0))then((-1))else((w64 (left2-(a1.length:Int))))
theorem L0M(a1:List Node)(left2:Int):Oy a1 left2=some (Ve a1 left2):=by
 unfold Oy Ve
 first|rfl|simp only[Z2]
theorem M0D(a1:List Node)(left2:Int):Snd Tryz.prog WT [rV 4 (a1.map L2),iV left2] (iV (Ve a1 left2)) []:=L0n (L0M a1 left2)
def M0P:L :=
sR [.bx 2 0,.mv 4 (kI 0)]
 (sR [fA 5 2 0,lF 6 5 1,mV 7 1,cQ 8 QH [6,7],mV 1 8]
 (.seq (sR [mV 9 1,.bi 10 .lss 9 (kI 0)]
 (.cond 10 (.seq (rE 4 (kI (-1)))
 gR)
 .skip))
 (sR [fA 11 2 1,lF 12 11 1,mV 13 1,cQ 14 WT [12,13],mV 1 14]
 (.seq (sR [mV 15 1,.bi 16 .lss 15 (kI 0)]
 (.cond 16 (.seq (rE 4 (kI (-1)))
 gR)
 .skip))
 (sR [mV 17 1,mV 4 17]
 gR)))))
def ZG(a1:Topo)(left2:Int):Option Int :=
 bif (decide ((Z5 a1.parents left2)<0))then(some (-1))else(bif (decide ((Ve a1.nodes (Z5 a1.parents left2))<0))then(some (-1))else(some (Ve a1.nodes (Z5 a1.parents left2))))
theorem J0u{a1:Topo}{left2 r:Int}(H:ZG a1 left2=some r):Snd Tryz.prog Q00 [Y3 .rd a1,iV left2] (iV r) []:=by
 refine wS M0P [.t 4] ?_
 unfold ZG at H
 refine wG [.c 8 (O0b a1.parents left2)] fun _=>?_
 refine V0 H (fun H=>?_) fun H=>?_
 .obtain rfl:=sI H
  exact wP (wE [(4,.d)])
 .refine wG [.u 14 (.call _ _ _ _ _ (AEs.refl _) (fun _=>M0D a1.nodes (Z5 a1.parents left2)))] fun _=>?_
  refine V0 H (fun H=>?_) fun H=>?_
  .obtain rfl:=sI H
   exact wP (wE [(4,.d)])
  .obtain rfl:=sI H
   exact wP (wE [(4,.d)])
def Q6(a1:Topo)(left2:Int):Int :=
 bif (decide ((Z5 a1.parents left2)<0))then((-1))else(bif (decide ((Ve a1.nodes (Z5 a1.parents left2))<0))then((-1))else((Ve a1.nodes (Z5 a1.parents left2))))
theorem M10(a1:Topo)(left2:Int):ZG a1 left2=some (Q6 a1 left2):=by
 unfold ZG Q6
 first|rfl|simp only[Z2]
theorem W0M(a1:Topo)(left2:Int):Snd Tryz.prog Q00 [Y3 .rd a1,iV left2] (iV (Q6 a1 left2)) []:=J0u (M10 a1 left2)
def W0Q:L :=
.seq (rE 4 (cB false))
 (.seq (sR [mV 6 0,.ln 7 6,mV 8 1,.ln 9 8,bI 10 .neq 7 9]
 (.cond 10 (.seq (rE 4 (cB false))
 gR)
 .skip))
 (.seq (.seq (rE 5 (kI 0))
 (.blk 0 (.loop (.gw (.seq (sR [mV 11 5,mV 12 0,.ln 13 12,bI 14 .lss 11 13]
 (.cond 14 .skip
 (.exit 0)))
 (.seq (.blk 1 (.seq (.rq 9 [mV 17 0,mV 18 5,iA 19 17 18 1,lF 20 19 1,mV 21 1,mV 22 5,iA 23 21 22 1,lF 24 23 1,bI 25 .neq 20 24])
 (.cond 25 (.seq (rE 4 (cB false))
 gR)
 .skip)))
 (.reg [mV 15 5,.bi 16 .add 15 (kI 1),mV 5 16])))))))
 (.seq (rE 4 (cB true))
 gR)))
def Ys(a1 b2:List Int)(v4:Int)(k4:Int->Option Bool):Option Bool :=
 bif (decide (v4<(a1.length:Int)))then((idx a1 v4).bind fun e6=>(idx b2 v4).bind fun e7=>bif (e6 != e7)then(some false)else(k4 (w64 (v4+1))))else(some true)
def Vw(a1 b2:List Int):Option Bool :=
 bif ((a1.length:Int)!=(b2.length:Int))then(some false)else(whl (Ys a1 b2) 9223372036854775807 0)
theorem Xl{a1 b2:List Int}{r:Bool}(H:Vw a1 b2=some r):Snd Tryz.prog Qk [rV 1 (a1.map eI),rV 1 (b2.map eI)] (.bool r) []:=by
 refine wS W0Q [.t 4] ?_
 unfold Vw at H
 refine wG [.u 7 (.ln _ _ fun _=>lm a1 eI),.u 9 (.ln _ _ fun _=>lm b2 eI)] fun q3=>?_
 refine V0 H (fun H=>?_) fun H=>?_
 .obtain rfl:=sI H
  exact wP (wE [(4,.d)])
 .refine wP ?_
  refine wW (fun(v4:Int)=>⟨[(0,rV 1 (a1.map eI)),(1,rV 1 (b2.map eI)),(5,iV v4)],[],[],[]⟩) H (fun v4 I m k4 H N25=>?_)
  unfold Ys at H
  refine wG [.u 13 (.ln _ _ fun _=>lm a1 eI)] fun q5=>?_
  refine V0 H (fun H=>?_) fun H=>?_
  .obtain⟨e6,h6,H⟩:=bB H
   obtain⟨e7,h7,H⟩:=bB H
   refine wG [.u 19 (.ix _ _ _ fun _=>Y0 eI h6),.u 23 (.ix _ _ _ fun _=>Y0 eI h7)] fun _=>?_
   refine V0 H (fun H=>?_) fun H=>?_
   .obtain rfl:=sI H
    exact wP (wE [(4,.d)])
   .refine wP ?_
    exact wT (N25 _ H)
  .obtain rfl:=sI H
   exact wP (wE [(4,.d)])
def U0Q:L :=
sR [.bx 2 0,.bx 3 1,.mv 4 (cB false)]
 (.seq (sR [fA 5 2 0,lF 6 5 1,fA 7 3 0,lF 8 7 1,bI 9 .neq 6 8]
 (.cond 9 (.seq (rE 4 (cB false))
 gR)
 .skip))
 (.seq (sR [fA 10 2 1,lT 11 10 3,fA 12 3 1,lT 13 12 3,cQ 14 Jp [11,13],.un 15 14]
 (.cond 15 (.seq (rE 4 (cB false))
 gR)
 .skip))
 (.seq (rE 4 (cB true))
 gR)))
def QG(a1 b2:Node):Option Bool :=
 bif (a1.leaf != b2.leaf)then(some false)else(bif (!(Zb a1.cap b2.cap))then(some false)else(some true))
theorem W0v{a1 b2:Node}{r:Bool}(H:QG a1 b2=some r):Snd Tryz.prog M00 [L2 a1,L2 b2] (.bool r) []:=by
 refine wS U0Q [.t 4] ?_
 unfold QG at H
 refine wP ?_
 refine V0 H (fun H=>?_) fun H=>?_
 .obtain rfl:=sI H
  exact wP (wE [(4,.d)])
 .refine wG [.c 14 (UG a1.cap b2.cap)] fun _=>?_
  refine V0 H (fun H=>?_) fun H=>?_
  .obtain rfl:=sI H
   exact wP (wE [(4,.d)])
  .obtain rfl:=sI H
   exact wP (wE [(4,.d)])
def Yw(a1 b2:Node):Bool :=
 bif (a1.leaf != b2.leaf)then(false)else(bif (!(Zb a1.cap b2.cap))then(false)else(true))
theorem V11(a1 b2:Node):QG a1 b2=some (Yw a1 b2):=by
 unfold QG Yw
 first|rfl|simp only[Z2]
theorem U0N(a1 b2:Node):Snd Tryz.prog M00 [L2 a1,L2 b2] (.bool (Yw a1 b2)) []:=W0v (V11 a1 b2)
def Z0H:L :=
.seq (rE 4 (cB false))
 (.seq (sR [mV 6 0,.ln 7 6,mV 8 1,.ln 9 8,bI 10 .neq 7 9]
 (.cond 10 (.seq (rE 4 (cB false))
 gR)
 .skip))
 (.seq (.seq (rE 5 (kI 0))
 (.blk 0 (.loop (.gw (.seq (sR [mV 11 5,mV 12 0,.ln 13 12,bI 14 .lss 11 13]
 (.cond 14 .skip
 (.exit 0)))
 (.seq (.blk 1 (.seq (.rq 10 [mV 17 0,mV 18 5,iA 19 17 18 4,lT 20 19 4,mV 21 1,mV 22 5,iA 23 21 22 4,lT 24 23 4,cQ 25 M00 [20,24],.un 26 25])
 (.cond 26 (.seq (rE 4 (cB false))
 gR)
 .skip)))
 (.reg [mV 15 5,.bi 16 .add 15 (kI 1),mV 5 16])))))))
 (.seq (rE 4 (cB true))
 gR)))
def Xn(a1 b2:List Node)(v4:Int)(k4:Int->Option Bool):Option Bool :=
 bif (decide (v4<(a1.length:Int)))then((idx a1 v4).bind fun e6=>(idx b2 v4).bind fun e7=>bif (!(Yw e6 e7))then(some false)else(k4 (w64 (v4+1))))else(some true)
def XB(a1 b2:List Node):Option Bool :=
 bif ((a1.length:Int)!=(b2.length:Int))then(some false)else(whl (Xn a1 b2) 9223372036854775807 0)
theorem X0E{a1 b2:List Node}{r:Bool}(H:XB a1 b2=some r):Snd Tryz.prog O0d [rV 4 (a1.map L2),rV 4 (b2.map L2)] (.bool r) []:=by
 refine wS Z0H [.t 4] ?_
 unfold XB at H
 refine wG [.u 7 (.ln _ _ fun _=>lm a1 L2),.u 9 (.ln _ _ fun _=>lm b2 L2)] fun q3=>?_
 refine V0 H (fun H=>?_) fun H=>?_
 .obtain rfl:=sI H
  exact wP (wE [(4,.d)])
 .refine wP ?_
  refine wW (fun(v4:Int)=>⟨[(0,rV 4 (a1.map L2)),(1,rV 4 (b2.map L2)),(5,iV v4)],[],[],[]⟩) H (fun v4 I m k4 H N25=>?_)
  unfold Xn at H
  refine wG [.u 13 (.ln _ _ fun _=>lm a1 L2)] fun q5=>?_
  refine V0 H (fun H=>?_) fun H=>?_
  .obtain⟨e6,h6,H⟩:=bB H
   obtain⟨e7,h7,H⟩:=bB H
   refine wG [.u 19 (.ix _ _ _ fun _=>Y0 L2 h6),.u 23 (.ix _ _ _ fun _=>Y0 L2 h7),.c 25 (U0N e6 e7)] fun _=>?_
   refine V0 H (fun H=>?_) fun H=>?_
   .obtain rfl:=sI H
    exact wP (wE [(4,.d)])
   .refine wP ?_
    exact wT (N25 _ H)
  .obtain rfl:=sI H
   exact wP (wE [(4,.d)])
def X0Q:L :=
sR [.bx 2 0,.bx 3 1,.mv 4 (cB false)]
 (.seq (sR [fA 5 2 0,lF 6 5 1,fA 7 3 0,lF 8 7 1,cQ 9 Qk [6,8],.un 10 9]
 (.cond 10 (.seq (rE 4 (cB false))
 gR)
 .skip))
 (.seq (sR [fA 11 2 1,lF 12 11 1,fA 13 3 1,lF 14 13 1,cQ 15 O0d [12,14],.un 16 15]
 (.cond 16 (.seq (rE 4 (cB false))
 gR)
 .skip))
 (.seq (rE 4 (cB true))
 gR)))
def LK(a1 b2:Topo):Option Bool :=
 (Vw a1.parents b2.parents).bind fun b3=>bif (!b3)then(some false)else((XB a1.nodes b2.nodes).bind fun b4=>bif (!b4)then(some false)else(some true))
theorem X0N{a1 b2:Topo}{r:Bool}(H:LK a1 b2=some r):Snd Tryz.prog M0l [Y3 .rd a1,Y3 .rd b2] (.bool r) []:=by
 refine wS X0Q [.t 4] ?_
 unfold LK at H
 obtain⟨b3,h3,H⟩:=bB H
 refine wG [.c 9 (Xl h3)] fun _=>?_
 refine V0 H (fun H=>?_) fun H=>?_
 .obtain rfl:=sI H
  exact wP (wE [(4,.d)])
 .obtain⟨b4,h4,H⟩:=bB H
  refine wG [.c 15 (X0E h4)] fun _=>?_
  refine V0 H (fun H=>?_) fun H=>?_
  .obtain rfl:=sI H
   exact wP (wE [(4,.d)])
  .obtain rfl:=sI H
   exact wP (wE [(4,.d)])
def V12:L :=
sR [.bx 1 0,.al 2 [.int .i64 0,.int .i64 0,.int .i64 0,.int .i64 0,.int .i64 0,.int .i64 0,.int .i64 0,.int .i64 0,.int .i64 0,.int .i64 0,.int .i64 0]]
 (sR [.al 3 [.int .i64 0,.int .i64 0,.int .i64 0,.int .i64 0,.int .i64 0,.int .i64 0,.int .i64 0,.int .i64 0,.int .i64 0,.int .i64 0,.int .i64 0]]
 (sR [fA 4 1 0,lF 5 4 1,fA 6 3 0,.st 6 5 1]
 (sR [fA 7 1 1,lF 8 7 1,fA 9 3 1,.st 9 8 1]
 (sR [fA 10 1 2,lF 11 10 1,fA 12 3 2,.st 12 11 1]
 (sR [fA 13 1 3,lT 14 13 3,cQ 15 Lp [14],fA 16 3 3,.st 16 15 3]
 (sR [fA 17 1 6,lT 18 17 3,cQ 19 Lp [18],fA 20 3 6,.st 20 19 3]
 (sR [fA 21 1 9,lF 22 21 1,fA 23 3 9,.st 23 22 1]
 (sR [fA 24 1 10,lF 25 24 1,fA 26 3 10,.st 26 25 1]
 (sR [lT 27 3 11,.st 2 27 11]
 gR)))))))))
def JO(a1:Job):Option Job :=
 some (Job.mk a1.id a1.prio a1.nodes (Jf a1.need) (Jf a1.lic) a1.wall a1.level)
theorem Y0D{a1 r:Job}(H:JO a1=some r):Snd Tryz.prog Oe [eJob a1] (eJob r) []:=by
 refine wS V12 [.c 2 11 true] ?_
 unfold JO at H
 refine wG [.c 15 (LF a1.need),.c 19 (LF a1.lic)] fun _=>?_
 replace H:=sI H;subst H
 exact wN [(2,.d)] [(2,[])] [] [] [] []
def Z3(a1:Job):Job :=
 (Job.mk a1.id a1.prio a1.nodes (Jf a1.need) (Jf a1.lic) a1.wall a1.level)
theorem X1a(a1:Job):JO a1=some (Z3 a1):=by
 unfold JO Z3
 first|rfl|simp only[Z2]
theorem VY(a1:Job):Snd Tryz.prog Oe [eJob a1] (eJob (Z3 a1)) []:=Y0D (X1a a1)
def W0G:L :=
sR [.mv 2 (.c (.nl))]
 (sR [mV 5 0,.ln 6 5,.ms 7 1 1 [.bool false] 6,mV 3 7]
 (.seq (.seq (rE 4 (kI 0))
 (.blk 0 (.loop (.gw (.seq (sR [mV 8 4,mV 9 0,.ln 10 9,bI 11 .lss 8 10]
 (.cond 11 .skip
 (.exit 0)))
 (.seq (.blk 1 (.reg [mV 14 3,mV 15 4,mV 16 0,mV 17 4,iA 18 16 17 1,lF 19 18 1,iA 20 14 15 1,.st 20 19 1]))
 (.reg [mV 12 4,.bi 13 .add 12 (kI 1),mV 4 13])))))))
 (sR [mV 21 3,mV 2 21]
 gR)))
def Yn(a1:List Bool)(v4:Int×(List Bool))(k4:(Int×(List Bool))->Option (List Bool)):Option (List Bool) :=
 bif (decide (v4.1<(a1.length:Int)))then((idx a1 v4.1).bind fun e6=>(idx v4.2 v4.1).bind fun _=>k4 ((w64 (v4.1+1)),(v4.2.set v4.1.toNat e6)))else(some v4.2)
def JA(a1:List Bool):Option (List Bool) :=
 (mkL 1 (a1.length:Int) false).bind fun xs2=>whl (Yn a1) 9223372036854775807 (0,xs2)
theorem V0D{a1:List Bool}{r:(List Bool)}(H:JA a1=some r):Snd Tryz.prog Q0d [rV 1 (a1.map eBo)] (nV 1 (r.map eBo)) []:=by
 refine wS W0G [.t 2] ?_
 unfold JA at H
 obtain⟨xs2,h2,H⟩:=bB H
 refine wG [.u 6 (.ln _ _ fun _=>lm a1 eBo),.u 7 (.ms _ _ _ _ fun _=>O0e eBo h2)] fun q3=>?_
 refine wW (fun(v4:Int×(List Bool))=>⟨[(0,rV 1 (a1.map eBo)),(3,.sref 7),(4,iV v4.1)],[],[],[(7,⟨1,v4.2.map eBo,false⟩)]⟩) H (fun v4 I m k4 H N13=>?_)
 unfold Yn at H
 refine wG [.u 10 (.ln _ _ fun _=>lm a1 eBo)] fun q5=>?_
 refine V0 H (fun H=>?_) fun H=>?_
 .obtain⟨e6,h6,H⟩:=bB H
  obtain⟨e7,h7,H⟩:=bB H
  refine wG [.u 18 (.ix _ _ _ fun _=>Y0 eBo h6),.u 20 (.ix _ _ _ fun _=>Y0 eBo h7),.u 1000000 (.sto _ _ _ (eBo e6) _ (fun _=>gm eBo (L7 h7)) (fun _=>JX ..))] fun _=>?_
  exact wT (N13 _ H)
 .refine wP ?_
  replace H:=sI H;subst H
  exact wN [(2,.f)] [] [] [7] [] [⟨_,OF v4.2⟩]
def L0G:L :=
.seq (rE 4 (kI 0))
 (sR [mV 5 1,mV 6 0,.ln 7 6,bI 8 .sub 5 7,mV 1 8]
 (.seq (sR [mV 9 1,.bi 10 .lss 9 (kI 0)]
 (.cond 10 (.seq (rE 4 (kI (-1)))
 gR)
 .skip))
 (sR [mV 11 1,mV 4 11]
 gR)))
def My(a1:List Bool)(left2:Int):Option Int :=
 bif (decide ((w64 (left2-(a1.length:Int)))<0))then(some (-1))else(some (w64 (left2-(a1.length:Int))))
theorem J0n{a1:List Bool}{left2 r:Int}(H:My a1 left2=some r):Snd Tryz.prog OT [rV 1 (a1.map eBo),iV left2] (iV r) []:=by
 refine wS L0G [.t 4] ?_
 unfold My at H
 refine wG [.u 7 (.ln _ _ fun _=>lm a1 eBo)] fun q3=>?_
 refine V0 H (fun H=>?_) fun H=>?_
 .obtain rfl:=sI H
  exact wP (wE [(4,.d)])
 .obtain rfl:=sI H
  exact wP (wE [(4,.d)])
def Ue(a1:List Bool)(left2:Int):Int :=
 bif (decide ((w64 (left2-(a1.length:Int)))<0))then((-1))else((w64 (left2-(a1.length:Int))))
theorem Y0N(a1:List Bool)(left2:Int):My a1 left2=some (Ue a1 left2):=by
 unfold My Ue
 first|rfl|simp only[Z2]
theorem L0D(a1:List Bool)(left2:Int):Snd Tryz.prog OT [rV 1 (a1.map eBo),iV left2] (iV (Ue a1 left2)) []:=J0n (Y0N a1 left2)
def Y0H:L :=
.seq (rE 4 (cB false))
 (.seq (sR [mV 6 0,.ln 7 6,mV 8 1,.ln 9 8,bI 10 .neq 7 9]
 (.cond 10 (.seq (rE 4 (cB false))
 gR)
 .skip))
 (.seq (.seq (rE 5 (kI 0))
 (.blk 0 (.loop (.gw (.seq (sR [mV 11 5,mV 12 0,.ln 13 12,bI 14 .lss 11 13]
 (.cond 14 .skip
 (.exit 0)))
 (.seq (.blk 1 (.seq (.rq 9 [mV 17 0,mV 18 5,iA 19 17 18 1,lF 20 19 1,mV 21 1,mV 22 5,iA 23 21 22 1,lF 24 23 1,.eb 25 true 20 24])
 (.cond 25 (.seq (rE 4 (cB false))
 gR)
 .skip)))
 (.reg [mV 15 5,.bi 16 .add 15 (kI 1),mV 5 16])))))))
 (.seq (rE 4 (cB true))
 gR)))
def Vn(a1 b2:List Bool)(v4:Int)(k4:Int->Option Bool):Option Bool :=
 bif (decide (v4<(a1.length:Int)))then((idx a1 v4).bind fun e6=>(idx b2 v4).bind fun e7=>bif (!(e6==e7))then(some false)else(k4 (w64 (v4+1))))else(some true)
def VB(a1 b2:List Bool):Option Bool :=
 bif ((a1.length:Int)!=(b2.length:Int))then(some false)else(whl (Vn a1 b2) 9223372036854775807 0)
theorem W0E{a1 b2:List Bool}{r:Bool}(H:VB a1 b2=some r):Snd Tryz.prog M0d [rV 1 (a1.map eBo),rV 1 (b2.map eBo)] (.bool r) []:=by
 refine wS Y0H [.t 4] ?_
 unfold VB at H
 refine wG [.u 7 (.ln _ _ fun _=>lm a1 eBo),.u 9 (.ln _ _ fun _=>lm b2 eBo)] fun q3=>?_
 refine V0 H (fun H=>?_) fun H=>?_
 .obtain rfl:=sI H
  exact wP (wE [(4,.d)])
 .refine wP ?_
  refine wW (fun(v4:Int)=>⟨[(0,rV 1 (a1.map eBo)),(1,rV 1 (b2.map eBo)),(5,iV v4)],[],[],[]⟩) H (fun v4 I m k4 H N25=>?_)
  unfold Vn at H
  refine wG [.u 13 (.ln _ _ fun _=>lm a1 eBo)] fun q5=>?_
  refine V0 H (fun H=>?_) fun H=>?_
  .obtain⟨e6,h6,H⟩:=bB H
   obtain⟨e7,h7,H⟩:=bB H
   refine wG [.u 19 (.ix _ _ _ fun _=>Y0 eBo h6),.u 23 (.ix _ _ _ fun _=>Y0 eBo h7)] fun _=>?_
   refine V0 H (fun H=>?_) fun H=>?_
   .obtain rfl:=sI H
    exact wP (wE [(4,.d)])
   .refine wP ?_
    exact wT (N25 _ H)
  .obtain rfl:=sI H
   exact wP (wE [(4,.d)])
def Q0P:L :=
sR [.mv 2 (.c (.nl))]
 (sR [mV 5 0,.ln 6 5,.ms 7 11 88 [.int .i64 0,.int .i64 0,.int .i64 0,.int .i64 0,.int .i64 0,.int .i64 0,.int .i64 0,.int .i64 0,.int .i64 0,.int .i64 0,.int .i64 0] 6,mV 3 7]
 (.seq (.seq (rE 4 (kI 0))
 (.blk 0 (.loop (.gw (.seq (sR [mV 8 4,mV 9 0,.ln 10 9,bI 11 .lss 8 10]
 (.cond 11 .skip
 (.exit 0)))
 (.seq (.blk 1 (.reg [mV 14 3,mV 15 4,mV 16 0,mV 17 4,iA 18 16 17 11,lT 19 18 11,cQ 20 Oe [19],iA 21 14 15 11,.st 21 20 11]))
 (.reg [mV 12 4,.bi 13 .add 12 (kI 1),mV 4 13])))))))
 (sR [mV 22 3,mV 2 22]
 gR)))
def Qr(a1:List Job)(v4:Int×(List Job))(k4:(Int×(List Job))->Option (List Job)):Option (List Job) :=
 bif (decide (v4.1<(a1.length:Int)))then((idx a1 v4.1).bind fun e6=>(idx v4.2 v4.1).bind fun _=>k4 ((w64 (v4.1+1)),(v4.2.set v4.1.toNat (Job.mk ((Z3 e6).id) ((Z3 e6).prio) ((Z3 e6).nodes) ((Z3 e6).need) ((Z3 e6).lic) ((Z3 e6).wall) ((Z3 e6).level)))))else(some v4.2)
def UK(a1:List Job):Option (List Job) :=
 (mkL 88 (a1.length:Int) (Job.mk 0 0 0 (Vec.mk 0 0 0) (Vec.mk 0 0 0) 0 0)).bind fun xs2=>whl (Qr a1) 9223372036854775807 (0,xs2)
theorem X0M{a1:List Job}{r:(List Job)}(H:UK a1=some r):Snd Tryz.prog Q0l [rV 11 (a1.map eJob)] (nV 11 (r.map eJob)) []:=by
 refine wS Q0P [.t 2] ?_
 unfold UK at H
 obtain⟨xs2,h2,H⟩:=bB H
 refine wG [.u 6 (.ln _ _ fun _=>lm a1 eJob),.u 7 (.ms _ _ _ _ fun _=>O0e eJob h2)] fun q3=>?_
 refine wW (fun(v4:Int×(List Job))=>⟨[(0,rV 11 (a1.map eJob)),(3,.sref 7),(4,iV v4.1)],[],[],[(7,⟨11,v4.2.map eJob,false⟩)]⟩) H (fun v4 I m k4 H N13=>?_)
 unfold Qr at H
 refine wG [.u 10 (.ln _ _ fun _=>lm a1 eJob)] fun q5=>?_
 refine V0 H (fun H=>?_) fun H=>?_
 .obtain⟨e6,h6,H⟩:=bB H
  obtain⟨e7,h7,H⟩:=bB H
  refine wG [.u 18 (.ix _ _ _ fun _=>Y0 eJob h6),.c 20 (VY e6),.u 21 (.ix _ _ _ fun _=>Y0 eJob h7),.u 1000000 (.sto _ _ _ (eJob (Job.mk ((Z3 e6).id) ((Z3 e6).prio) ((Z3 e6).nodes) ((Z3 e6).need) ((Z3 e6).lic) ((Z3 e6).wall) ((Z3 e6).level))) _ (fun _=>gm eJob (L7 h7)) (fun _=>JX ..))] fun _=>?_
  exact wT (N13 _ H)
 .refine wP ?_
  replace H:=sI H;subst H
  exact wN [(2,.f)] [] [] [7] [] [⟨_,Z0U v4.2⟩]
def J0P:L :=
.seq (rE 4 (kI 0))
 (sR [mV 5 1,mV 6 0,.ln 7 6,bI 8 .sub 5 7,mV 1 8]
 (.seq (sR [mV 9 1,.bi 10 .lss 9 (kI 0)]
 (.cond 10 (.seq (rE 4 (kI (-1)))
 gR)
 .skip))
 (sR [mV 11 1,mV 4 11]
 gR)))
def YG(a1:List Job)(left2:Int):Option Int :=
 bif (decide ((w64 (left2-(a1.length:Int)))<0))then(some (-1))else(some (w64 (left2-(a1.length:Int))))
theorem Z0v{a1:List Job}{left2 r:Int}(H:YG a1 left2=some r):Snd Tryz.prog W00 [rV 11 (a1.map eJob),iV left2] (iV r) []:=by
 refine wS J0P [.t 4] ?_
 unfold YG at H
 refine wG [.u 7 (.ln _ _ fun _=>lm a1 eJob)] fun q3=>?_
 refine V0 H (fun H=>?_) fun H=>?_
 .obtain rfl:=sI H
  exact wP (wE [(4,.d)])
 .obtain rfl:=sI H
  exact wP (wE [(4,.d)])
def Jv(a1:List Job)(left2:Int):Int :=
 bif (decide ((w64 (left2-(a1.length:Int)))<0))then((-1))else((w64 (left2-(a1.length:Int))))
theorem J10(a1:List Job)(left2:Int):YG a1 left2=some (Jv a1 left2):=by
 unfold YG Jv
 first|rfl|simp only[Z2]
theorem J0M(a1:List Job)(left2:Int):Snd Tryz.prog W00 [rV 11 (a1.map eJob),iV left2] (iV (Jv a1 left2)) []:=Z0v (J10 a1 left2)
def M12:L :=
sR [.bx 2 0,.bx 3 1,.mv 4 (cB false)]
 (.seq (sR [fA 5 2 0,lF 6 5 1,fA 7 3 0,lF 8 7 1,bI 9 .neq 6 8]
 (.cond 9 (.seq (rE 4 (cB false))
 gR)
 .skip))
 (.seq (sR [fA 10 2 1,lF 11 10 1,fA 12 3 1,lF 13 12 1,bI 14 .neq 11 13]
 (.cond 14 (.seq (rE 4 (cB false))
 gR)
 .skip))
 (.seq (sR [fA 15 2 2,lF 16 15 1,fA 17 3 2,lF 18 17 1,bI 19 .neq 16 18]
 (.cond 19 (.seq (rE 4 (cB false))
 gR)
 .skip))
 (.seq (sR [fA 20 2 3,lT 21 20 3,fA 22 3 3,lT 23 22 3,cQ 24 Jp [21,23],.un 25 24]
 (.cond 25 (.seq (rE 4 (cB false))
 gR)
 .skip))
 (.seq (sR [fA 26 2 6,lT 27 26 3,fA 28 3 6,lT 29 28 3,cQ 30 Jp [27,29],.un 31 30]
 (.cond 31 (.seq (rE 4 (cB false))
 gR)
 .skip))
 (.seq (sR [fA 32 2 9,lF 33 32 1,fA 34 3 9,lF 35 34 1,bI 36 .neq 33 35]
 (.cond 36 (.seq (rE 4 (cB false))
 gR)
 .skip))
 (.seq (sR [fA 37 2 10,lF 38 37 1,fA 39 3 10,lF 40 39 1,bI 41 .neq 38 40]
 (.cond 41 (.seq (rE 4 (cB false))
 gR)
 .skip))
 (.seq (rE 4 (cB true))
 gR))))))))
def UP(a1 b2:Job):Option Bool :=
 bif (a1.id != b2.id)then(some false)else(bif (a1.prio != b2.prio)then(some false)else(bif (a1.nodes != b2.nodes)then(some false)else(bif (!(Zb a1.need b2.need))then(some false)else(bif (!(Zb a1.lic b2.lic))then(some false)else(bif (a1.wall != b2.wall)then(some false)else(bif (a1.level != b2.level)then(some false)else(some true)))))))
theorem V0E{a1 b2:Job}{r:Bool}(H:UP a1 b2=some r):Snd Tryz.prog MQ [eJob a1,eJob b2] (.bool r) []:=by
 refine wS M12 [.t 4] ?_
 unfold UP at H
 refine wP ?_
 refine V0 H (fun H=>?_) fun H=>?_
 .obtain rfl:=sI H
  exact wP (wE [(4,.d)])
 .refine wP ?_
  refine V0 H (fun H=>?_) fun H=>?_
  .obtain rfl:=sI H
   exact wP (wE [(4,.d)])
  .refine wP ?_
   refine V0 H (fun H=>?_) fun H=>?_
   .obtain rfl:=sI H
    exact wP (wE [(4,.d)])
   .refine wG [.c 24 (UG a1.need b2.need)] fun _=>?_
    refine V0 H (fun H=>?_) fun H=>?_
    .obtain rfl:=sI H
     exact wP (wE [(4,.d)])
    .refine wG [.c 30 (UG a1.lic b2.lic)] fun _=>?_
     refine V0 H (fun H=>?_) fun H=>?_
     .obtain rfl:=sI H
      exact wP (wE [(4,.d)])
     .refine wP ?_
      refine V0 H (fun H=>?_) fun H=>?_
      .obtain rfl:=sI H
       exact wP (wE [(4,.d)])
      .refine wP ?_
       refine V0 H (fun H=>?_) fun H=>?_
       .obtain rfl:=sI H
        exact wP (wE [(4,.d)])
       .obtain rfl:=sI H
        exact wP (wE [(4,.d)])
def Xw(a1 b2:Job):Bool :=
 bif (a1.id != b2.id)then(false)else(bif (a1.prio != b2.prio)then(false)else(bif (a1.nodes != b2.nodes)then(false)else(bif (!(Zb a1.need b2.need))then(false)else(bif (!(Zb a1.lic b2.lic))then(false)else(bif (a1.wall != b2.wall)then(false)else(bif (a1.level != b2.level)then(false)else(true)))))))
theorem W1a(a1 b2:Job):UP a1 b2=some (Xw a1 b2):=by
 unfold UP Xw
 first|rfl|simp only[Z2]
theorem Q0i(a1 b2:Job):Snd Tryz.prog MQ [eJob a1,eJob b2] (.bool (Xw a1 b2)) []:=V0E (W1a a1 b2)
def Q0Q:L :=
.seq (rE 4 (cB false))
 (.seq (sR [mV 6 0,.ln 7 6,mV 8 1,.ln 9 8,bI 10 .neq 7 9]
 (.cond 10 (.seq (rE 4 (cB false))
 gR)
 .skip))
 (.seq (.seq (rE 5 (kI 0))
 (.blk 0 (.loop (.gw (.seq (sR [mV 11 5,mV 12 0,.ln 13 12,bI 14 .lss 11 13]
 (.cond 14 .skip
 (.exit 0)))
 (.seq (.blk 1 (.seq (.rq 10 [mV 17 0,mV 18 5,iA 19 17 18 11,lT 20 19 11,mV 21 1,mV 22 5,iA 23 21 22 11,lT 24 23 11,cQ 25 MQ [20,24],.un 26 25])
 (.cond 26 (.seq (rE 4 (cB false))
 gR)
 .skip)))
 (.reg [mV 15 5,.bi 16 .add 15 (kI 1),mV 5 16])))))))
 (.seq (rE 4 (cB true))
 gR)))
def Zs(a1 b2:List Job)(v4:Int)(k4:Int->Option Bool):Option Bool :=
 bif (decide (v4<(a1.length:Int)))then((idx a1 v4).bind fun e6=>(idx b2 v4).bind fun e7=>bif (!(Xw e6 e7))then(some false)else(k4 (w64 (v4+1))))else(some true)
def ZL(a1 b2:List Job):Option Bool :=
 bif ((a1.length:Int)!=(b2.length:Int))then(some false)else(whl (Zs a1 b2) 9223372036854775807 0)
theorem Q0N{a1 b2:List Job}{r:Bool}(H:ZL a1 b2=some r):Snd Tryz.prog J0l [rV 11 (a1.map eJob),rV 11 (b2.map eJob)] (.bool r) []:=by
 refine wS Q0Q [.t 4] ?_
 unfold ZL at H
 refine wG [.u 7 (.ln _ _ fun _=>lm a1 eJob),.u 9 (.ln _ _ fun _=>lm b2 eJob)] fun q3=>?_
 refine V0 H (fun H=>?_) fun H=>?_
 .obtain rfl:=sI H
  exact wP (wE [(4,.d)])
 .refine wP ?_
  refine wW (fun(v4:Int)=>⟨[(0,rV 11 (a1.map eJob)),(1,rV 11 (b2.map eJob)),(5,iV v4)],[],[],[]⟩) H (fun v4 I m k4 H N25=>?_)
  unfold Zs at H
  refine wG [.u 13 (.ln _ _ fun _=>lm a1 eJob)] fun q5=>?_
  refine V0 H (fun H=>?_) fun H=>?_
  .obtain⟨e6,h6,H⟩:=bB H
   obtain⟨e7,h7,H⟩:=bB H
   refine wG [.u 19 (.ix _ _ _ fun _=>Y0 eJob h6),.u 23 (.ix _ _ _ fun _=>Y0 eJob h7),.c 25 (Q0i e6 e7)] fun _=>?_
   refine V0 H (fun H=>?_) fun H=>?_
   .obtain rfl:=sI H
    exact wP (wE [(4,.d)])
   .refine wP ?_
    exact wT (N25 _ H)
  .obtain rfl:=sI H
   exact wP (wE [(4,.d)])
def X12:L :=
sR [.bx 1 0,.al 2 [.int .i64 0,.int .i64 0,.int .i64 0,.int .i64 0,.int .i64 0,.int .i64 0,.int .i64 0,.int .i64 0,.int .i64 0,.int .i64 0,.int .i64 0,.int .i64 0,.nl]]
 (sR [.al 3 [.int .i64 0,.int .i64 0,.int .i64 0,.int .i64 0,.int .i64 0,.int .i64 0,.int .i64 0,.int .i64 0,.int .i64 0,.int .i64 0,.int .i64 0,.int .i64 0,.nl]]
 (sR [fA 4 1 0,lT 5 4 11,cQ 6 Oe [5],fA 7 3 0,.st 7 6 11]
 (sR [fA 8 1 11,lF 9 8 1,fA 10 3 11,.st 10 9 1]
 (sR [fA 11 1 12,lF 12 11 1,cQ 13 U00 [12],fA 14 3 12,.st 14 13 1]
 (sR [lT 15 3 13,.st 2 15 13]
 gR)))))
def OV(a1:Run):Option Run :=
 (Mv a1.nodes).bind fun y2=>some (Run.mk (Job.mk ((Z3 a1.job).id) ((Z3 a1.job).prio) ((Z3 a1.job).nodes) ((Z3 a1.job).need) ((Z3 a1.job).lic) ((Z3 a1.job).wall) ((Z3 a1.job).level)) a1.t y2)
theorem U10{a1 r:Run}(H:OV a1=some r):Snd Tryz.prog J0s [L0 .rd a1] (L0 .nw r) []:=by
 refine wS X12 [.c 2 13 true] ?_
 unfold OV at H
 obtain⟨y2,h2,H⟩:=bB H
 refine wG [.c 6 (VY a1.job),.c 13 (Q0b h2)] fun _=>?_
 replace H:=sI H;subst H
 exact wN [(2,.d)] [(2,[])] [] [] [] [⟨_,nw_I y2⟩]
def V0P:L :=
sR [.mv 2 (.c (.nl))]
 (sR [mV 5 0,.ln 6 5,.ms 7 13 120 [.int .i64 0,.int .i64 0,.int .i64 0,.int .i64 0,.int .i64 0,.int .i64 0,.int .i64 0,.int .i64 0,.int .i64 0,.int .i64 0,.int .i64 0,.int .i64 0,.sl .nw 1 []] 6,mV 3 7]
 (.seq (.seq (rE 4 (kI 0))
 (.blk 0 (.loop (.gw (.seq (sR [mV 8 4,mV 9 0,.ln 10 9,bI 11 .lss 8 10]
 (.cond 11 .skip
 (.exit 0)))
 (.seq (.blk 1 (.reg [mV 14 3,mV 15 4,mV 16 0,mV 17 4,iA 18 16 17 13,lT 19 18 13,cQ 20 J0s [19],iA 21 14 15 13,.st 21 20 13]))
 (.reg [mV 12 4,.bi 13 .add 12 (kI 1),mV 4 13])))))))
 (sR [mV 22 3,mV 2 22]
 gR)))
def Ur(a1:List Run)(v4:Int×(List Run))(k4:(Int×(List Run))->Option (List Run)):Option (List Run) :=
 bif (decide (v4.1<(a1.length:Int)))then((idx a1 v4.1).bind fun e6=>(OV e6).bind fun y7=>(idx v4.2 v4.1).bind fun _=>k4 ((w64 (v4.1+1)),(v4.2.set v4.1.toNat y7)))else(some v4.2)
def VK(a1:List Run):Option (List Run) :=
 (mkL 120 (a1.length:Int) (Run.mk (Job.mk 0 0 0 (Vec.mk 0 0 0) (Vec.mk 0 0 0) 0 0) 0 [])).bind fun xs2=>whl (Ur a1) 9223372036854775807 (0,xs2)
theorem J0L{a1:List Run}{r:(List Run)}(H:VK a1=some r):Snd Tryz.prog U0l [rV 13 (a1.map (L0 .rd))] (nV 13 (r.map (L0 .nw))) []:=by
 refine wS V0P [.t 2] ?_
 unfold VK at H
 obtain⟨xs2,h2,H⟩:=bB H
 refine wG [.u 6 (.ln _ _ fun _=>lm a1 (L0 .rd)),.u 7 (.ms _ _ _ _ fun _=>O0e (L0 .nw) h2)] fun q3=>?_
 refine wW (fun(v4:Int×(List Run))=>⟨[(0,rV 13 (a1.map (L0 .rd))),(3,.sref 7),(4,iV v4.1)],[],[],[(7,⟨13,v4.2.map (L0 .nw),false⟩)]⟩) H (fun v4 I m k4 H N13=>?_)
 unfold Ur at H
 refine wG [.u 10 (.ln _ _ fun _=>lm a1 (L0 .rd))] fun q5=>?_
 refine V0 H (fun H=>?_) fun H=>?_
 .obtain⟨e6,h6,H⟩:=bB H
  obtain⟨y7,h7,H⟩:=bB H
  obtain⟨e8,h8,H⟩:=bB H
  refine wG [.u 18 (.ix _ _ _ fun _=>Y0 (L0 .rd) h6),.c 20 (U10 h7),.u 21 (.ix _ _ _ fun _=>Y0 (L0 .nw) h8),.u 1000000 (.sto _ _ _ (L0 .nw y7) _ (fun _=>gm (L0 .nw) (L7 h8)) (fun _=>JX ..))] fun _=>?_
  exact wT (N13 _ H)
 .refine wP ?_
  replace H:=sI H;subst H
  exact wN [(2,.f)] [] [] [7] [] [⟨_,Z0Z v4.2⟩]
def U12:L :=
sR [.bx 1 0,.al 2 [.int .i64 0,.int .i64 0,.int .i64 0]]
 (sR [.al 3 [.int .i64 0,.int .i64 0,.int .i64 0]]
 (sR [fA 4 1 0,lF 5 4 1,fA 6 3 0,.st 6 5 1]
 (sR [fA 7 1 1,lF 8 7 1,fA 9 3 1,.st 9 8 1]
 (sR [fA 10 1 2,lF 11 10 1,fA 12 3 2,.st 12 11 1]
 (sR [lT 13 3 3,.st 2 13 3]
 gR)))))
def ZP(a1:End):Option End :=
 some a1
theorem X0D{a1 r:End}(H:ZP a1=some r):Snd Tryz.prog X08 [eEnd a1] (eEnd r) []:=by
 refine wS U12 [.c 2 3 true] ?_
 unfold ZP at H
 refine wP ?_
 replace H:=sI H;subst H
 exact wN [(2,.d)] [(2,[])] [] [] [] []
def MV(a1:End):End :=
 a1
theorem V1a(a1:End):ZP a1=some (MV a1):=by
 unfold ZP MV
 first|rfl|simp only[Z2]
theorem O10(a1:End):Snd Tryz.prog X08 [eEnd a1] (eEnd (MV a1)) []:=X0D (V1a a1)
def O0P:L :=
sR [.mv 2 (.c (.nl))]
 (sR [mV 5 0,.ln 6 5,.ms 7 3 24 [.int .i64 0,.int .i64 0,.int .i64 0] 6,mV 3 7]
 (.seq (.seq (rE 4 (kI 0))
 (.blk 0 (.loop (.gw (.seq (sR [mV 8 4,mV 9 0,.ln 10 9,bI 11 .lss 8 10]
 (.cond 11 .skip
 (.exit 0)))
 (.seq (.blk 1 (.reg [mV 14 3,mV 15 4,mV 16 0,mV 17 4,iA 18 16 17 3,lT 19 18 3,cQ 20 X08 [19],iA 21 14 15 3,.st 21 20 3]))
 (.reg [mV 12 4,.bi 13 .add 12 (kI 1),mV 4 13])))))))
 (sR [mV 22 3,mV 2 22]
 gR)))
def Lr(a1:List End)(v4:Int×(List End))(k4:(Int×(List End))->Option (List End)):Option (List End) :=
 bif (decide (v4.1<(a1.length:Int)))then((idx a1 v4.1).bind fun e6=>(idx v4.2 v4.1).bind fun _=>k4 ((w64 (v4.1+1)),(v4.2.set v4.1.toNat (MV e6))))else(some v4.2)
def QK(a1:List End):Option (List End) :=
 (mkL 24 (a1.length:Int) (End.mk 0 0 0)).bind fun xs2=>whl (Lr a1) 9223372036854775807 (0,xs2)
theorem U0M{a1:List End}{r:(List End)}(H:QK a1=some r):Snd Tryz.prog W0l [rV 3 (a1.map eEnd)] (nV 3 (r.map eEnd)) []:=by
 refine wS O0P [.t 2] ?_
 unfold QK at H
 obtain⟨xs2,h2,H⟩:=bB H
 refine wG [.u 6 (.ln _ _ fun _=>lm a1 eEnd),.u 7 (.ms _ _ _ _ fun _=>O0e eEnd h2)] fun q3=>?_
 refine wW (fun(v4:Int×(List End))=>⟨[(0,rV 3 (a1.map eEnd)),(3,.sref 7),(4,iV v4.1)],[],[],[(7,⟨3,v4.2.map eEnd,false⟩)]⟩) H (fun v4 I m k4 H N13=>?_)
 unfold Lr at H
 refine wG [.u 10 (.ln _ _ fun _=>lm a1 eEnd)] fun q5=>?_
 refine V0 H (fun H=>?_) fun H=>?_
 .obtain⟨e6,h6,H⟩:=bB H
  obtain⟨e7,h7,H⟩:=bB H
  refine wG [.u 18 (.ix _ _ _ fun _=>Y0 eEnd h6),.c 20 (O10 e6),.u 21 (.ix _ _ _ fun _=>Y0 eEnd h7),.u 1000000 (.sto _ _ _ (eEnd (MV e6)) _ (fun _=>gm eEnd (L7 h7)) (fun _=>JX ..))] fun _=>?_
  exact wT (N13 _ H)
 .refine wP ?_
  replace H:=sI H;subst H
  exact wN [(2,.f)] [] [] [7] [] [⟨_,V1i v4.2⟩]
def U0G:L :=
sR [.bx 1 0,.al 2 [.nl,.nl,.nl,.int .i64 0,.int .i64 0,.int .i64 0,.int .i64 0,.int .i64 0,.nl,.nl,.nl]]
 (sR [.al 3 [.nl,.nl,.nl,.int .i64 0,.int .i64 0,.int .i64 0,.int .i64 0,.int .i64 0,.nl,.nl,.nl]]
 (sR [fA 4 1 0,lT 5 4 2,cQ 6 V0l [5],fA 7 3 0,.st 7 6 2]
 (sR [fA 8 1 2,lF 9 8 1,cQ 10 Q0d [9],fA 11 3 2,.st 11 10 1]
 (sR [fA 12 1 3,lT 13 12 3,cQ 14 Lp [13],fA 15 3 3,.st 15 14 3]
 (sR [fA 16 1 6,lF 17 16 1,fA 18 3 6,.st 18 17 1]
 (sR [fA 19 1 7,lF 20 19 1,fA 21 3 7,.st 21 20 1]
 (sR [fA 22 1 8,lF 23 22 1,cQ 24 Q0l [23],fA 25 3 8,.st 25 24 1]
 (sR [fA 26 1 9,lF 27 26 1,cQ 28 U0l [27],fA 29 3 9,.st 29 28 1]
 (sR [fA 30 1 10,lF 31 30 1,cQ 32 W0l [31],fA 33 3 10,.st 33 32 1]
 (sR [lT 34 3 11,.st 2 34 11]
 gR))))))))))
def LO(a1:State):Option State :=
 (XK a1.topo).bind fun y2=>(JA a1.up).bind fun y3=>(UK a1.queue).bind fun y4=>(VK a1.runs).bind fun y5=>(QK a1.ends).bind fun y6=>some (State.mk y2 y3 (Jf a1.lic) a1.depth a1.now y4 y5 y6)
theorem M0C{a1 r:State}(H:LO a1=some r):Snd Tryz.prog Yg [Q2 .rd a1] (Q2 .nw r) []:=by
 refine wS U0G [.c 2 11 true] ?_
 unfold LO at H
 obtain⟨y2,h2,H⟩:=bB H
 obtain⟨y3,h3,H⟩:=bB H
 obtain⟨y4,h4,H⟩:=bB H
 obtain⟨y5,h5,H⟩:=bB H
 obtain⟨y6,h6,H⟩:=bB H
 refine wG [.c 6 (M0L h2),.c 10 (V0D h3),.c 14 (LF a1.lic),.c 24 (X0M h4),.c 28 (J0L h5),.c 32 (U0M h6)] fun _=>?_
 replace H:=sI H;subst H
 exact wN [(2,.d)] [(2,[])] [] [] [] [⟨_,nw_I y2.parents⟩,⟨_,Y7 y2.nodes⟩,⟨_,OF y3⟩,⟨_,Z0U y4⟩,⟨_,Z0Z y5⟩,⟨_,V1i y6⟩]
def Q12:L :=
sR [.bx 2 0,.mv 4 (kI 0)]
 (sR [fA 5 2 12,lF 6 5 1,mV 7 1,cQ 8 QH [6,7],mV 1 8]
 (.seq (sR [mV 9 1,.bi 10 .lss 9 (kI 0)]
 (.cond 10 (.seq (rE 4 (kI (-1)))
 gR)
 .skip))
 (sR [mV 11 1,mV 4 11]
 gR)))
def YP(a1:Run)(left2:Int):Option Int :=
 bif (decide ((Z5 a1.nodes left2)<0))then(some (-1))else(some (Z5 a1.nodes left2))
theorem O0D{a1:Run}{left2 r:Int}(H:YP a1 left2=some r):Snd Tryz.prog V08 [L0 .rd a1,iV left2] (iV r) []:=by
 refine wS Q12 [.t 4] ?_
 unfold YP at H
 refine wG [.c 8 (O0b a1.nodes left2)] fun _=>?_
 refine V0 H (fun H=>?_) fun H=>?_
 .obtain rfl:=sI H
  exact wP (wE [(4,.d)])
 .obtain rfl:=sI H
  exact wP (wE [(4,.d)])
def Lv(a1:Run)(left2:Int):Int :=
 bif (decide ((Z5 a1.nodes left2)<0))then((-1))else((Z5 a1.nodes left2))
theorem U1a(a1:Run)(left2:Int):YP a1 left2=some (Lv a1 left2):=by
 unfold YP Lv
 first|rfl|simp only[Z2]
theorem L10(a1:Run)(left2:Int):Snd Tryz.prog V08 [L0 .rd a1,iV left2] (iV (Lv a1 left2)) []:=O0D (U1a a1 left2)
def L0P:L :=
.seq (rE 4 (kI 0))
 (sR [mV 6 1,mV 7 0,.ln 8 7,bI 9 .sub 6 8,mV 1 9]
 (.seq (sR [mV 10 1,.bi 11 .lss 10 (kI 0)]
 (.cond 11 (.seq (rE 4 (kI (-1)))
 gR)
 .skip))
 (.seq (.seq (rE 5 (kI 0))
 (.blk 0 (.loop (.gw (.seq (sR [mV 12 5,mV 13 0,.ln 14 13,bI 15 .lss 12 14]
 (.cond 15 .skip
 (.exit 0)))
 (.seq (.blk 1 (sR [mV 18 0,mV 19 5,iA 20 18 19 13,lT 21 20 13,mV 22 1,cQ 23 V08 [21,22],mV 1 23]
 (sR [mV 24 1,.bi 25 .lss 24 (kI 0)]
 (.cond 25 (.seq (rE 4 (kI (-1)))
 gR)
 .skip))))
 (.reg [mV 16 5,.bi 17 .add 16 (kI 1),mV 5 17])))))))
 (sR [mV 26 1,mV 4 26]
 gR))))
def WK(a1:List Run)(v4:Int×Int)(k4:(Int×Int)->Option Int):Option Int :=
 bif (decide (v4.2<(a1.length:Int)))then((idx a1 v4.2).bind fun e6=>bif (decide ((Lv e6 v4.1)<0))then(some (-1))else(k4 ((Lv e6 v4.1),(w64 (v4.2+1)))))else(some v4.1)
def OK(a1:List Run)(left2:Int):Option Int :=
 bif (decide ((w64 (left2-(a1.length:Int)))<0))then(some (-1))else(whl (WK a1) 9223372036854775807 ((w64 (left2-(a1.length:Int))),0))
theorem M0M{a1:List Run}{left2 r:Int}(H:OK a1 left2=some r):Snd Tryz.prog O0l [rV 13 (a1.map (L0 .rd)),iV left2] (iV r) []:=by
 refine wS L0P [.t 4] ?_
 unfold OK at H
 refine wG [.u 8 (.ln _ _ fun _=>lm a1 (L0 .rd))] fun q3=>?_
 refine V0 H (fun H=>?_) fun H=>?_
 .obtain rfl:=sI H
  exact wP (wE [(4,.d)])
 .refine wP ?_
  refine wW (fun(v4:Int×Int)=>⟨[(0,rV 13 (a1.map (L0 .rd))),(1,iV v4.1),(5,iV v4.2)],[],[],[]⟩) H (fun v4 I m k4 H N28=>?_)
  unfold WK at H
  refine wG [.u 14 (.ln _ _ fun _=>lm a1 (L0 .rd))] fun q5=>?_
  refine V0 H (fun H=>?_) fun H=>?_
  .obtain⟨e6,h6,H⟩:=bB H
   refine wG [.u 20 (.ix _ _ _ fun _=>Y0 (L0 .rd) h6),.c 23 (L10 e6 v4.1)] fun _=>?_
   refine V0 H (fun H=>?_) fun H=>?_
   .obtain rfl:=sI H
    exact wP (wE [(4,.d)])
   .refine wP ?_
    exact wT (N28 _ H)
  .obtain rfl:=sI H
   exact wP (wE [(4,.d)])
def Y0Q:L :=
.seq (rE 4 (kI 0))
 (sR [mV 5 1,mV 6 0,.ln 7 6,bI 8 .sub 5 7,mV 1 8]
 (.seq (sR [mV 9 1,.bi 10 .lss 9 (kI 0)]
 (.cond 10 (.seq (rE 4 (kI (-1)))
 gR)
 .skip))
 (sR [mV 11 1,mV 4 11]
 gR)))
def VG(a1:List End)(left2:Int):Option Int :=
 bif (decide ((w64 (left2-(a1.length:Int)))<0))then(some (-1))else(some (w64 (left2-(a1.length:Int))))
theorem X0v{a1:List End}{left2 r:Int}(H:VG a1 left2=some r):Snd Tryz.prog O00 [rV 3 (a1.map eEnd),iV left2] (iV r) []:=by
 refine wS Y0Q [.t 4] ?_
 unfold VG at H
 refine wG [.u 7 (.ln _ _ fun _=>lm a1 eEnd)] fun q3=>?_
 refine V0 H (fun H=>?_) fun H=>?_
 .obtain rfl:=sI H
  exact wP (wE [(4,.d)])
 .obtain rfl:=sI H
  exact wP (wE [(4,.d)])
def Zw(a1:List End)(left2:Int):Int :=
 bif (decide ((w64 (left2-(a1.length:Int)))<0))then((-1))else((w64 (left2-(a1.length:Int))))
theorem Y11(a1:List End)(left2:Int):VG a1 left2=some (Zw a1 left2):=by
 unfold VG Zw
 first|rfl|simp only[Z2]
theorem Z0N(a1:List End)(left2:Int):Snd Tryz.prog O00 [rV 3 (a1.map eEnd),iV left2] (iV (Zw a1 left2)) []:=X0v (Y11 a1 left2)
def O0G:L :=
sR [.bx 2 0,.mv 4 (kI 0)]
 (sR [fA 5 2 0,lT 6 5 2,mV 7 1,cQ 8 Q00 [6,7],mV 1 8]
 (.seq (sR [mV 9 1,.bi 10 .lss 9 (kI 0)]
 (.cond 10 (.seq (rE 4 (kI (-1)))
 gR)
 .skip))
 (sR [fA 11 2 2,lF 12 11 1,mV 13 1,cQ 14 OT [12,13],mV 1 14]
 (.seq (sR [mV 15 1,.bi 16 .lss 15 (kI 0)]
 (.cond 16 (.seq (rE 4 (kI (-1)))
 gR)
 .skip))
 (sR [fA 17 2 8,lF 18 17 1,mV 19 1,cQ 20 W00 [18,19],mV 1 20]
 (.seq (sR [mV 21 1,.bi 22 .lss 21 (kI 0)]
 (.cond 22 (.seq (rE 4 (kI (-1)))
 gR)
 .skip))
 (sR [fA 23 2 9,lF 24 23 1,mV 25 1,cQ 26 O0l [24,25],mV 1 26]
 (.seq (sR [mV 27 1,.bi 28 .lss 27 (kI 0)]
 (.cond 28 (.seq (rE 4 (kI (-1)))
 gR)
 .skip))
 (sR [fA 29 2 10,lF 30 29 1,mV 31 1,cQ 32 O00 [30,31],mV 1 32]
 (.seq (sR [mV 33 1,.bi 34 .lss 33 (kI 0)]
 (.cond 34 (.seq (rE 4 (kI (-1)))
 gR)
 .skip))
 (sR [mV 35 1,mV 4 35]
 gR)))))))))))
def YB(a1:State)(left2:Int):Option Int :=
 bif (decide ((Q6 a1.topo left2)<0))then(some (-1))else(bif (decide ((Ue a1.up (Q6 a1.topo left2))<0))then(some (-1))else(bif (decide ((Jv a1.queue (Ue a1.up (Q6 a1.topo left2)))<0))then(some (-1))else((OK a1.runs (Jv a1.queue (Ue a1.up (Q6 a1.topo left2)))).bind fun n3=>bif (decide (n3<0))then(some (-1))else(bif (decide ((Zw a1.ends n3)<0))then(some (-1))else(some (Zw a1.ends n3))))))
theorem Q0D{a1:State}{left2 r:Int}(H:YB a1 left2=some r):Snd Tryz.prog W0d [Q2 .rd a1,iV left2] (iV r) []:=by
 refine wS O0G [.t 4] ?_
 unfold YB at H
 refine wG [.c 8 (W0M a1.topo left2)] fun _=>?_
 refine V0 H (fun H=>?_) fun H=>?_
 .obtain rfl:=sI H
  exact wP (wE [(4,.d)])
 .refine wG [.u 14 (.call _ _ _ _ _ (AEs.refl _) (fun _=>L0D a1.up (Q6 a1.topo left2)))] fun _=>?_
  refine V0 H (fun H=>?_) fun H=>?_
  .obtain rfl:=sI H
   exact wP (wE [(4,.d)])
  .refine wG [.u 20 (.call _ _ _ _ _ (AEs.refl _) (fun _=>J0M a1.queue (Ue a1.up (Q6 a1.topo left2))))] fun _=>?_
   refine V0 H (fun H=>?_) fun H=>?_
   .obtain rfl:=sI H
    exact wP (wE [(4,.d)])
   .obtain⟨n3,h3,H⟩:=bB H
    refine wG [.c 26 (M0M h3)] fun _=>?_
    refine V0 H (fun H=>?_) fun H=>?_
    .obtain rfl:=sI H
     exact wP (wE [(4,.d)])
    .refine wG [.c 32 (Z0N a1.ends n3)] fun _=>?_
     refine V0 H (fun H=>?_) fun H=>?_
     .obtain rfl:=sI H
      exact wP (wE [(4,.d)])
     .obtain rfl:=sI H
      exact wP (wE [(4,.d)])
def O12:L :=
sR [.bx 2 0,.bx 3 1,.mv 4 (cB false)]
 (.seq (sR [fA 5 2 0,lT 6 5 11,fA 7 3 0,lT 8 7 11,cQ 9 MQ [6,8],.un 10 9]
 (.cond 10 (.seq (rE 4 (cB false))
 gR)
 .skip))
 (.seq (sR [fA 11 2 11,lF 12 11 1,fA 13 3 11,lF 14 13 1,bI 15 .neq 12 14]
 (.cond 15 (.seq (rE 4 (cB false))
 gR)
 .skip))
 (.seq (sR [fA 16 2 12,lF 17 16 1,fA 18 3 12,lF 19 18 1,cQ 20 Qk [17,19],.un 21 20]
 (.cond 21 (.seq (rE 4 (cB false))
 gR)
 .skip))
 (.seq (rE 4 (cB true))
 gR))))
def LV(a1 b2:Run):Option Bool :=
 bif (!(Xw a1.job b2.job))then(some false)else(bif (a1.t != b2.t)then(some false)else((Vw a1.nodes b2.nodes).bind fun b3=>bif (!b3)then(some false)else(some true)))
theorem X11{a1 b2:Run}{r:Bool}(H:LV a1 b2=some r):Snd Tryz.prog Z0t [L0 .rd a1,L0 .rd b2] (.bool r) []:=by
 refine wS O12 [.t 4] ?_
 unfold LV at H
 refine wG [.c 9 (Q0i a1.job b2.job)] fun _=>?_
 refine V0 H (fun H=>?_) fun H=>?_
 .obtain rfl:=sI H
  exact wP (wE [(4,.d)])
 .refine wP ?_
  refine V0 H (fun H=>?_) fun H=>?_
  .obtain rfl:=sI H
   exact wP (wE [(4,.d)])
  .obtain⟨b3,h3,H⟩:=bB H
   refine wG [.c 20 (Xl h3)] fun _=>?_
   refine V0 H (fun H=>?_) fun H=>?_
   .obtain rfl:=sI H
    exact wP (wE [(4,.d)])
   .obtain rfl:=sI H
    exact wP (wE [(4,.d)])
def V0Q:L :=
.seq (rE 4 (cB false))
 (.seq (sR [mV 6 0,.ln 7 6,mV 8 1,.ln 9 8,bI 10 .neq 7 9]
 (.cond 10 (.seq (rE 4 (cB false))
 gR)
 .skip))
 (.seq (.seq (rE 5 (kI 0))
 (.blk 0 (.loop (.gw (.seq (sR [mV 11 5,mV 12 0,.ln 13 12,bI 14 .lss 11 13]
 (.cond 14 .skip
 (.exit 0)))
 (.seq (.blk 1 (.seq (.rq 10 [mV 17 0,mV 18 5,iA 19 17 18 13,lT 20 19 13,mV 21 1,mV 22 5,iA 23 21 22 13,lT 24 23 13,cQ 25 Z0t [20,24],.un 26 25])
 (.cond 26 (.seq (rE 4 (cB false))
 gR)
 .skip)))
 (.reg [mV 15 5,.bi 16 .add 15 (kI 1),mV 5 16])))))))
 (.seq (rE 4 (cB true))
 gR)))
def Jr(a1 b2:List Run)(v4:Int)(k4:Int->Option Bool):Option Bool :=
 bif (decide (v4<(a1.length:Int)))then((idx a1 v4).bind fun e6=>(idx b2 v4).bind fun e7=>(LV e6 e7).bind fun b8=>bif (!b8)then(some false)else(k4 (w64 (v4+1))))else(some true)
def JK(a1 b2:List Run):Option Bool :=
 bif ((a1.length:Int)!=(b2.length:Int))then(some false)else(whl (Jr a1 b2) 9223372036854775807 0)
theorem V0N{a1 b2:List Run}{r:Bool}(H:JK a1 b2=some r):Snd Tryz.prog L0l [rV 13 (a1.map (L0 .rd)),rV 13 (b2.map (L0 .rd))] (.bool r) []:=by
 refine wS V0Q [.t 4] ?_
 unfold JK at H
 refine wG [.u 7 (.ln _ _ fun _=>lm a1 (L0 .rd)),.u 9 (.ln _ _ fun _=>lm b2 (L0 .rd))] fun q3=>?_
 refine V0 H (fun H=>?_) fun H=>?_
 .obtain rfl:=sI H
  exact wP (wE [(4,.d)])
 .refine wP ?_
  refine wW (fun(v4:Int)=>⟨[(0,rV 13 (a1.map (L0 .rd))),(1,rV 13 (b2.map (L0 .rd))),(5,iV v4)],[],[],[]⟩) H (fun v4 I m k4 H N25=>?_)
  unfold Jr at H
  refine wG [.u 13 (.ln _ _ fun _=>lm a1 (L0 .rd))] fun q5=>?_
  refine V0 H (fun H=>?_) fun H=>?_
  .obtain⟨e6,h6,H⟩:=bB H
   obtain⟨e7,h7,H⟩:=bB H
   obtain⟨b8,h8,H⟩:=bB H
   refine wG [.u 19 (.ix _ _ _ fun _=>Y0 (L0 .rd) h6),.u 23 (.ix _ _ _ fun _=>Y0 (L0 .rd) h7),.c 25 (X11 h8)] fun _=>?_
   refine V0 H (fun H=>?_) fun H=>?_
   .obtain rfl:=sI H
    exact wP (wE [(4,.d)])
   .refine wP ?_
    exact wT (N25 _ H)
  .obtain rfl:=sI H
   exact wP (wE [(4,.d)])
def L12:L :=
sR [.bx 2 0,.bx 3 1,.mv 4 (cB false)]
 (.seq (sR [fA 5 2 0,lF 6 5 1,fA 7 3 0,lF 8 7 1,bI 9 .neq 6 8]
 (.cond 9 (.seq (rE 4 (cB false))
 gR)
 .skip))
 (.seq (sR [fA 10 2 1,lF 11 10 1,fA 12 3 1,lF 13 12 1,bI 14 .neq 11 13]
 (.cond 14 (.seq (rE 4 (cB false))
 gR)
 .skip))
 (.seq (sR [fA 15 2 2,lF 16 15 1,fA 17 3 2,lF 18 17 1,bI 19 .neq 16 18]
 (.cond 19 (.seq (rE 4 (cB false))
 gR)
 .skip))
 (.seq (rE 4 (cB true))
 gR))))
def QP(a1 b2:End):Option Bool :=
 bif (a1.id != b2.id)then(some false)else(bif (a1.t != b2.t)then(some false)else(bif (a1.why != b2.why)then(some false)else(some true)))
theorem Q0E{a1 b2:End}{r:Bool}(H:QP a1 b2=some r):Snd Tryz.prog U08 [eEnd a1,eEnd b2] (.bool r) []:=by
 refine wS L12 [.t 4] ?_
 unfold QP at H
 refine wP ?_
 refine V0 H (fun H=>?_) fun H=>?_
 .obtain rfl:=sI H
  exact wP (wE [(4,.d)])
 .refine wP ?_
  refine V0 H (fun H=>?_) fun H=>?_
  .obtain rfl:=sI H
   exact wP (wE [(4,.d)])
  .refine wP ?_
   refine V0 H (fun H=>?_) fun H=>?_
   .obtain rfl:=sI H
    exact wP (wE [(4,.d)])
   .obtain rfl:=sI H
    exact wP (wE [(4,.d)])
def UI(a1 b2:End):Bool :=
 bif (a1.id != b2.id)then(false)else(bif (a1.t != b2.t)then(false)else(bif (a1.why != b2.why)then(false)else(true)))
theorem O1a(a1 b2:End):QP a1 b2=some (UI a1 b2):=by
 unfold QP UI
 first|rfl|simp only[Z2]
theorem U11(a1 b2:End):Snd Tryz.prog U08 [eEnd a1,eEnd b2] (.bool (UI a1 b2)) []:=Q0E (O1a a1 b2)
def O0Q:L :=
.seq (rE 4 (cB false))
 (.seq (sR [mV 6 0,.ln 7 6,mV 8 1,.ln 9 8,bI 10 .neq 7 9]
 (.cond 10 (.seq (rE 4 (cB false))
 gR)
 .skip))
 (.seq (.seq (rE 5 (kI 0))
 (.blk 0 (.loop (.gw (.seq (sR [mV 11 5,mV 12 0,.ln 13 12,bI 14 .lss 11 13]
 (.cond 14 .skip
 (.exit 0)))
 (.seq (.blk 1 (.seq (.rq 10 [mV 17 0,mV 18 5,iA 19 17 18 3,lT 20 19 3,mV 21 1,mV 22 5,iA 23 21 22 3,lT 24 23 3,cQ 25 U08 [20,24],.un 26 25])
 (.cond 26 (.seq (rE 4 (cB false))
 gR)
 .skip)))
 (.reg [mV 15 5,.bi 16 .add 15 (kI 1),mV 5 16])))))))
 (.seq (rE 4 (cB true))
 gR)))
def Xs(a1 b2:List End)(v4:Int)(k4:Int->Option Bool):Option Bool :=
 bif (decide (v4<(a1.length:Int)))then((idx a1 v4).bind fun e6=>(idx b2 v4).bind fun e7=>bif (!(UI e6 e7))then(some false)else(k4 (w64 (v4+1))))else(some true)
def YL(a1 b2:List End):Option Bool :=
 bif ((a1.length:Int)!=(b2.length:Int))then(some false)else(whl (Xs a1 b2) 9223372036854775807 0)
theorem W0N{a1 b2:List End}{r:Bool}(H:YL a1 b2=some r):Snd Tryz.prog Z0m [rV 3 (a1.map eEnd),rV 3 (b2.map eEnd)] (.bool r) []:=by
 refine wS O0Q [.t 4] ?_
 unfold YL at H
 refine wG [.u 7 (.ln _ _ fun _=>lm a1 eEnd),.u 9 (.ln _ _ fun _=>lm b2 eEnd)] fun q3=>?_
 refine V0 H (fun H=>?_) fun H=>?_
 .obtain rfl:=sI H
  exact wP (wE [(4,.d)])
 .refine wP ?_
  refine wW (fun(v4:Int)=>⟨[(0,rV 3 (a1.map eEnd)),(1,rV 3 (b2.map eEnd)),(5,iV v4)],[],[],[]⟩) H (fun v4 I m k4 H N25=>?_)
  unfold Xs at H
  refine wG [.u 13 (.ln _ _ fun _=>lm a1 eEnd)] fun q5=>?_
  refine V0 H (fun H=>?_) fun H=>?_
  .obtain⟨e6,h6,H⟩:=bB H
   obtain⟨e7,h7,H⟩:=bB H
   refine wG [.u 19 (.ix _ _ _ fun _=>Y0 eEnd h6),.u 23 (.ix _ _ _ fun _=>Y0 eEnd h7),.c 25 (U11 e6 e7)] fun _=>?_
   refine V0 H (fun H=>?_) fun H=>?_
   .obtain rfl:=sI H
    exact wP (wE [(4,.d)])
   .refine wP ?_
    exact wT (N25 _ H)
  .obtain rfl:=sI H
   exact wP (wE [(4,.d)])
def J0G:L :=
sR [.bx 2 0,.bx 3 1,.mv 4 (cB false)]
 (.seq (sR [fA 5 2 0,lT 6 5 2,fA 7 3 0,lT 8 7 2,cQ 9 M0l [6,8],.un 10 9]
 (.cond 10 (.seq (rE 4 (cB false))
 gR)
 .skip))
 (.seq (sR [fA 11 2 2,lF 12 11 1,fA 13 3 2,lF 14 13 1,cQ 15 M0d [12,14],.un 16 15]
 (.cond 16 (.seq (rE 4 (cB false))
 gR)
 .skip))
 (.seq (sR [fA 17 2 3,lT 18 17 3,fA 19 3 3,lT 20 19 3,cQ 21 Jp [18,20],.un 22 21]
 (.cond 22 (.seq (rE 4 (cB false))
 gR)
 .skip))
 (.seq (sR [fA 23 2 6,lF 24 23 1,fA 25 3 6,lF 26 25 1,bI 27 .neq 24 26]
 (.cond 27 (.seq (rE 4 (cB false))
 gR)
 .skip))
 (.seq (sR [fA 28 2 7,lF 29 28 1,fA 30 3 7,lF 31 30 1,bI 32 .neq 29 31]
 (.cond 32 (.seq (rE 4 (cB false))
 gR)
 .skip))
 (.seq (sR [fA 33 2 8,lF 34 33 1,fA 35 3 8,lF 36 35 1,cQ 37 J0l [34,36],.un 38 37]
 (.cond 38 (.seq (rE 4 (cB false))
 gR)
 .skip))
 (.seq (sR [fA 39 2 9,lF 40 39 1,fA 41 3 9,lF 42 41 1,cQ 43 L0l [40,42],.un 44 43]
 (.cond 44 (.seq (rE 4 (cB false))
 gR)
 .skip))
 (.seq (sR [fA 45 2 10,lF 46 45 1,fA 47 3 10,lF 48 47 1,cQ 49 Z0m [46,48],.un 50 49]
 (.cond 50 (.seq (rE 4 (cB false))
 gR)
 .skip))
 (.seq (rE 4 (cB true))
 gR)))))))))
def VP(a1 b2:State):Option Bool :=
 (LK a1.topo b2.topo).bind fun b3=>bif (!b3)then(some false)else((VB a1.up b2.up).bind fun b4=>bif (!b4)then(some false)else(bif (!(Zb a1.lic b2.lic))then(some false)else(bif (a1.depth != b2.depth)then(some false)else(bif (a1.now != b2.now)then(some false)else((ZL a1.queue b2.queue).bind fun b5=>bif (!b5)then(some false)else((JK a1.runs b2.runs).bind fun b6=>bif (!b6)then(some false)else((YL a1.ends b2.ends).bind fun b7=>bif (!b7)then(some false)else(some true))))))))
theorem Z0E{a1 b2:State}{r:Bool}(H:VP a1 b2=some r):Snd Tryz.prog MT [Q2 .rd a1,Q2 .rd b2] (.bool r) []:=by
 refine wS J0G [.t 4] ?_
 unfold VP at H
 obtain⟨b3,h3,H⟩:=bB H
 refine wG [.c 9 (X0N h3)] fun _=>?_
 refine V0 H (fun H=>?_) fun H=>?_
 .obtain rfl:=sI H
  exact wP (wE [(4,.d)])
 .obtain⟨b4,h4,H⟩:=bB H
  refine wG [.c 15 (W0E h4)] fun _=>?_
  refine V0 H (fun H=>?_) fun H=>?_
  .obtain rfl:=sI H
   exact wP (wE [(4,.d)])
  .refine wG [.c 21 (UG a1.lic b2.lic)] fun _=>?_
   refine V0 H (fun H=>?_) fun H=>?_
   .obtain rfl:=sI H
    exact wP (wE [(4,.d)])
   .refine wP ?_
    refine V0 H (fun H=>?_) fun H=>?_
    .obtain rfl:=sI H
     exact wP (wE [(4,.d)])
    .refine wP ?_
     refine V0 H (fun H=>?_) fun H=>?_
     .obtain rfl:=sI H
      exact wP (wE [(4,.d)])
     .obtain⟨b5,h5,H⟩:=bB H
      refine wG [.c 37 (Q0N h5)] fun _=>?_
      refine V0 H (fun H=>?_) fun H=>?_
      .obtain rfl:=sI H
       exact wP (wE [(4,.d)])
      .obtain⟨b6,h6,H⟩:=bB H
       refine wG [.c 43 (V0N h6)] fun _=>?_
       refine V0 H (fun H=>?_) fun H=>?_
       .obtain rfl:=sI H
        exact wP (wE [(4,.d)])
       .obtain⟨b7,h7,H⟩:=bB H
        refine wG [.c 49 (W0N h7)] fun _=>?_
        refine V0 H (fun H=>?_) fun H=>?_
        .obtain rfl:=sI H
         exact wP (wE [(4,.d)])
        .obtain rfl:=sI H
         exact wP (wE [(4,.d)])
end Go.Proofs.YtodafdoninblmaaGreat
namespace Go.Proofs.YtodafdoninblmaaGreat.Eng
open Go Go.RowKit
section
def CE(a b:AV):Prop:=AE a b/\(a.one=true->b.one=true)
def CEs(l m:List AV):Prop:=l.length=m.length/\∀(i:Nat) (a b:AV),l[i]?=some a->m[i]?=some b->CE a b
theorem CE.refl(a:AV):CE a a:=⟨AE.refl a,id⟩
theorem CEs.refl(l:List AV):CEs l l:=⟨rfl,fun i a b h h'=>by rw[h]at h';cases h';exact .refl a⟩
theorem CEs.one{a b:AV}(h:CE a b):CEs [a] [b]:=⟨rfl,fun i x y hx hy=>by
 cases i with
 |zero=>simp at hx hy;subst hx;subst hy;exact h
 |succ i=>simp at hx⟩
theorem CEs.append{l1 l2 m1 m2:List AV}(h1:CEs l1 m1)(h2:CEs l2 m2):CEs (l1++l2) (m1++m2):=by
 refine⟨by rw[yU,yU,h1.1,h2.1],fun i a b ha hb=>?_⟩
 by_cases hi:i<l1.length
 .rw[yK hi]at ha
  rw[yK (by rw[← h1.1];exact hi)]at hb
  exact h1.2 i a b ha hb
 .rw[yS (by omega)]at ha
  rw[yS (by rw[← h1.1];omega),← h1.1]at hb
  exact h2.2 _ a b ha hb
theorem CEs.flat{α:Type}{E:α->AV}:∀{es:List AV} {ys:List α},es.length=ys.length->(∀(i:Nat) (x:AV) (y:α),es[i]?=some x->ys[i]?=some y->CEs x.cells (E y).cells)->CEs (Eng.flat es) (Eng.flat (ys.map E))
 |[],[],_,_=>CEs.refl []
 |x::es,y::ys,hl,h=>by
  have h0:=h 0 x y rfl rfl
  have h1:=CEs.flat (es:=es) (ys:=ys) (by simpa using hl) fun i x y hx hy=>h (i+1) x y (by simpa using hx) (by simpa using hy)
  simpa[Eng.flat]using h0.append h1
 |[],_::_,hl,_=>by simp at hl
 |_::_,[],hl,_=>by simp at hl
theorem AE.agg{cs ds:List AV}(h:CEs cs ds):AE (.agg cs) (.agg ds):=by
 intro w S v hr
 cases hr with
 |agg _ vs hl h1 h2 =>
  refine .agg ds vs (by rw[← h.1,hl]) (fun b hb=>?_) fun i b u hb hu=>?_
  .obtain⟨i,hi⟩:=List.getElem?_of_mem hb
   have hlt:i<cs.length:=by rw[h.1];exact(yB hi).1
   exact(h.2 i cs[i] b (yA hlt) hi).2 (h1 _ (List.getElem_mem hlt))
  .have hlt:i<cs.length:=by rw[h.1];exact(yB hb).1
   exact(h.2 i cs[i] b (yA hlt) hb).1 w S u (h2 i _ u (yA hlt) hu)
theorem AE.nl{sz:Nat}:AE .nl (.sl .rd sz []):=by
 intro w S v hr
 cases hr
 exact .sl0 _ _ _ _ fun _ _=>trivial
theorem AE.sl{g:Tag}{sz:Nat}{es ds:List AV}(hl:es.length=ds.length)(hs:∀e∈ds,e.cells.length=sz)(h:CEs (Eng.flat es) (Eng.flat ds)):AE (.sl g sz es) (.sl g sz ds):=by
 intro w S v hr
 cases hr with
 |sl0 _ _ a c ho =>
  cases ds with
  |nil=>exact .sl0 _ _ _ _ ho
  |cons _ _=>simp at hl
 |sl _ _ _ b o c cv hc hm _ hw ho h2 =>
  rw[hl]
  have hx:∀(j:Nat) (d:AV),(Eng.flat ds)[j]?=some d->∃e,(Eng.flat es)[j]?=some e/\CE e d:=fun j d hj=>by
   have hlt:j<(Eng.flat es).length:=by rw[h.1];exact(yB hj).1
   exact⟨_,yA hlt,h.2 j _ d (yA hlt) hj⟩
  refine .sl g sz ds b o c cv (by rw[← hl];exact hc) hm hs (fun j d hj=>?_) ho fun j d hj=>?_
  .obtain⟨e,he,hce⟩:=hx j d hj
   obtain⟨q1,q2,q3,_⟩:=hw j e he
   exact⟨q1,q2,hce.2 q3,trivial⟩
  .obtain⟨e,he,hce⟩:=hx j d hj
   exact hce.1 w S _ (h2 j e he)
theorem Snd.wkS{P:Program}{f:FuncId}{xs1 xs2:List AV}{res:AV}{rows:List Row}(h:Snd P f xs2 res rows)(hae:AEs xs1 xs2):Snd P f xs1 res rows:=by
 intro w S N vs hS hl hr
 have hal:=hae.1
 refine h w S TT vs hS (by omega) fun i b v hb hv=>?_
 have hi:i<xs1.length:=by have:=(yB hb).1;omega
 exact hae.2 w S i _ b v (yA hi) hb ((hr i _ v (yA hi) hv).mono (fun _ _ h=>h) ⟨fun _ _ _ _ _ _ _ _=>trivial,fun _ _ _ _=>trivial⟩ fun _ _ _=>rfl)
def Ua{α:Type}(τ:Ty)(e:α->List AV)(W:α->Prop):Prop:=∀l,τ.ok l->∃y,CEs l (e y)/\W y
def U4{α:Type}(τs:List Ty)(e:α->List AV)(W:α->Prop):Prop:=∀l,okL τs l->∃y,CEs l (e y)/\W y
def FitL{α:Type}(W:α->Prop)(l:List α):Prop:=l.length<=maxLen/\∀x∈l,W x
def FitT{α:Type}(_:α):Prop:=True
section
variable{α β:Type}
theorem Ua.int(k:IntKind):Ua (.int k) (fun n:Int=>[.int k n]) FitT:=by
 intro l h
 obtain⟨n,rfl,_⟩:=h
 exact⟨n,.refl _,trivial⟩
theorem Ua.bool:Ua .bool (fun n:Bool=>[.bool n]) FitT:=by
 intro l h
 obtain⟨n,rfl⟩:=h
 exact⟨n,.refl _,trivial⟩
theorem U4.nil:U4 [] (fun _:Unit=>[]) FitT:=by
 intro l h
 simp only[okL]at h
 subst h
 exact⟨(),.refl _,trivial⟩
theorem U4.cons{f:Ty}{fs:List Ty}{e1:α->List AV}{e2:β->List AV}{W1:α->Prop}{W2:β->Prop}(h1:Ua f e1 W1)(h2:U4 fs e2 W2):U4 (f::fs) (fun p:α×β=>e1 p.1++e2 p.2) (fun p=>W1 p.1/\W2 p.2):=by
 intro l h
 simp only[okL]at h
 obtain⟨l1,l2,rfl,q1,q2⟩:=h
 obtain⟨y1,c1,w1⟩:=h1 l1 q1
 obtain⟨y2,c2,w2⟩:=h2 l2 q2
 exact⟨(y1,y2),c1.append c2,w1,w2⟩
theorem U4.st{fs:List Ty}{e:α->List AV}{W:α->Prop}(h:U4 fs e W)(g:α->β){e':β->List AV}{W':β->Prop}(he:∀x,e x=e' (g x))(hW:∀x,W x->W' (g x)):Ua (.st fs) e' W':=by
 intro l hl
 simp only[Ty.ok]at hl
 obtain⟨y,c,w⟩:=h l hl
 exact⟨g y,he y ▸ c,hW y w⟩
theorem exL{R:AV->α->Prop}:∀{es:List AV},(∀x∈es,∃y,R x y)->∃ys:List α,es.length=ys.length/\∀(i:Nat) (x:AV) (y:α),es[i]?=some x->ys[i]?=some y->R x y
 |[],_=>⟨[],rfl,fun i x y h=>by simp at h⟩
 |x::es,h=>by
  obtain⟨y,hy⟩:=h x (yJ ..)
  obtain⟨ys,hl,hys⟩:=exL (es:=es) fun z hz=>h z (yH _ hz)
  refine⟨y::ys,by simp[hl],fun i a b ha hb=>?_⟩
  cases i with
  |zero=>simp at ha hb;subst ha;subst hb;exact hy
  |succ i=>exact hys i a b (by simpa using ha) (by simpa using hb)
theorem Ua.sl{τ:Ty}{e:α->List AV}{W:α->Prop}(h:Ua τ e W)(E:α->AV)(hE:∀y,(E y).cells=e y){n:Nat}(hn:τ.size=n):Ua (.sl τ) (fun l:List α=>[.sl .rd n (l.map E)]) (FitL W):=by
 intro l hl
 simp only[Ty.ok]at hl
 rcases hl with rfl|⟨es,rfl,hm,h2⟩
 .exact⟨[],.one ⟨AE.nl,fun _=>rfl⟩,Nat.zero_le _,fun x hx=>by simp at hx⟩
 .obtain⟨ys,hys,hR⟩:=exL (α:=α) (R:=fun x y=>CEs x.cells (E y).cells/\W y/\x.cells.length=τ.size) (es:=es) fun x hx=>by
   obtain⟨a1,_,a3⟩:=h2 x hx
   obtain⟨y,c,w⟩:=h _ a3
   exact⟨y,(hE y).symm ▸ c,w,a1⟩
  have get:∀y∈ys,∃(i:Nat) (x:AV),es[i]?=some x/\ys[i]?=some y:=fun y hy=>by
   obtain⟨i,hi⟩:=List.getElem?_of_mem hy
   exact⟨i,_,yA (by rw[hys];exact(yB hi).1),hi⟩
  refine⟨ys,.one ⟨?_,fun _=>rfl⟩,by rw[← hys];exact hm,fun y hy=>?_⟩
  .rw[hn]
   refine AE.sl (by simpa using hys) (fun d hd=>?_) (CEs.flat hys fun i x y hx hy=>(hR i x y hx hy).1)
   obtain⟨y,hy,rfl⟩:=yY hd
   obtain⟨i,x,hx,hy'⟩:=get y hy
   have:=hR i x y hx hy'
   rw[← this.1.1,this.2.2,hn]
  .obtain⟨i,x,hx,hy'⟩:=get y hy
   exact(hR i x y hx hy').2.1
theorem Ua.okV_st{fs:List Ty}{e:α->List AV}{W:α->Prop}(h:Ua (.st fs) e W){a:AV}(ha:(Ty.st fs).okV a):∃y,AE a (.agg (e y))/\W y:=by
 obtain⟨cs,rfl,hc⟩:=ha
 obtain⟨y,c,w⟩:=h cs (by simpa only[Ty.ok]using hc)
 exact⟨y,.agg c,w⟩
end
end
end Go.Proofs.YtodafdoninblmaaGreat.Eng
namespace Go.Proofs.YtodafdoninblmaaGreat
open Go Go.RowKit Eng
section
def W1p:Ty:=.st [.int .i64,.int .i64,.int .i64]
def U1b(x:Vec):Prop:=FitT x.a/\FitT x.b/\FitT x.c/\True
theorem J1A:Ua W1p (fun x:Vec=>(eVec x).cells) U1b:=U4.st (U4.cons (Ua.int .i64) (U4.cons (Ua.int .i64) (U4.cons (Ua.int .i64) U4.nil))) (fun p=>⟨p.1,p.2.1,p.2.2.1⟩) (fun _=>by rfl) (fun _ h=>by exact h)
def L1D:Ty:=.st [.int .i64,W1p]
def L1w(x:Node):Prop:=FitT x.leaf/\U1b x.cap/\True
theorem Y1T:Ua L1D (fun x:Node=>(L2 x).cells) L1w:=U4.st (U4.cons (Ua.int .i64) (U4.cons J1A U4.nil)) (fun p=>⟨p.1,p.2.1⟩) (fun _=>by rfl) (fun _ h=>by exact h)
def M1D:Ty:=.st [.sl (.int .i64),.sl L1D]
def O1w(x:Topo):Prop:=(FitL FitT) x.parents/\(FitL L1w) x.nodes/\True
theorem Z1T:Ua M1D (fun x:Topo=>(Y3 .rd x).cells) O1w:=U4.st (U4.cons (Ua.sl (Ua.int .i64) eI (fun _=>rfl) rfl) (U4.cons (Ua.sl Y1T L2 (fun _=>rfl) rfl) U4.nil)) (fun p=>⟨p.1,p.2.1⟩) (fun _=>by rfl) (fun _ h=>by exact h)
def Q1l:Ty:=.st [.int .i64,.int .i64,.int .i64,W1p,W1p,.int .i64,.int .i64]
def Y1k(x:Job):Prop:=FitT x.id/\FitT x.prio/\FitT x.nodes/\U1b x.need/\U1b x.lic/\FitT x.wall/\FitT x.level/\True
theorem O1J:Ua Q1l (fun x:Job=>(eJob x).cells) Y1k:=U4.st (U4.cons (Ua.int .i64) (U4.cons (Ua.int .i64) (U4.cons (Ua.int .i64) (U4.cons J1A (U4.cons J1A (U4.cons (Ua.int .i64) (U4.cons (Ua.int .i64) U4.nil))))))) (fun p=>⟨p.1,p.2.1,p.2.2.1,p.2.2.2.1,p.2.2.2.2.1,p.2.2.2.2.2.1,p.2.2.2.2.2.2.1⟩) (fun _=>by rfl) (fun _ h=>by exact h)
def Q1O:Ty:=.st [Q1l,.int .i64,.sl (.int .i64)]
def M1w(x:Run):Prop:=Y1k x.job/\FitT x.t/\(FitL FitT) x.nodes/\True
theorem ofRun:Ua Q1O (fun x:Run=>(L0 .rd x).cells) M1w:=U4.st (U4.cons O1J (U4.cons (Ua.int .i64) (U4.cons (Ua.sl (Ua.int .i64) eI (fun _=>rfl) rfl) U4.nil))) (fun p=>⟨p.1,p.2.1,p.2.2.1⟩) (fun _=>by rfl) (fun _ h=>by exact h)
def W1O:Ty:=.st [.int .i64,.int .i64,.int .i64]
def M1F(x:End):Prop:=FitT x.id/\FitT x.t/\FitT x.why/\True
theorem ofEnd:Ua W1O (fun x:End=>(eEnd x).cells) M1F:=U4.st (U4.cons (Ua.int .i64) (U4.cons (Ua.int .i64) (U4.cons (Ua.int .i64) U4.nil))) (fun p=>⟨p.1,p.2.1,p.2.2.1⟩) (fun _=>by rfl) (fun _ h=>by exact h)
def U0W:Ty:=.st [M1D,.sl .bool,W1p,.int .i64,.int .i64,.sl Q1l,.sl Q1O,.sl W1O]
def Z0k(x:State):Prop:=O1w x.topo/\(FitL FitT) x.up/\U1b x.lic/\FitT x.depth/\FitT x.now/\(FitL Y1k) x.queue/\(FitL M1w) x.runs/\(FitL M1F) x.ends/\True
theorem W1J:Ua U0W (fun x:State=>(Q2 .rd x).cells) Z0k:=U4.st (U4.cons Z1T (U4.cons (Ua.sl Ua.bool eBo (fun _=>rfl) rfl) (U4.cons J1A (U4.cons (Ua.int .i64) (U4.cons (Ua.int .i64) (U4.cons (Ua.sl O1J eJob (fun _=>rfl) rfl) (U4.cons (Ua.sl ofRun (L0 .rd) (fun _=>rfl) rfl) (U4.cons (Ua.sl ofEnd eEnd (fun _=>rfl) rfl) U4.nil)))))))) (fun p=>⟨p.1,p.2.1,p.2.2.1,p.2.2.2.1,p.2.2.2.2.1,p.2.2.2.2.2.1,p.2.2.2.2.2.2.1,p.2.2.2.2.2.2.2.1⟩) (fun _=>by rfl) (fun _ h=>by exact h)
section
variable{α:Type}
theorem U1A{a ys:List α}{i:Nat}{x:α}(hx:a[i]?=some x)(hl:ys.length=a.length)(h:ys.take i=a.take i):(ys.set i x).take (i+1)=a.take (i+1):=by
 have hi:=(yB hx).1
 apply List.ext_getElem?
 intro j
 by_cases hj:j<i+1
 .rw[List.getElem?_take_of_lt hj,List.getElem?_take_of_lt hj,List.getElem?_set]
  by_cases e:i=j
  .subst e;rw[yd rfl,yd (by omega),hx]
  .rw[ye e]
   have:=congrArg (fun l:List α=>l[j]?) h
   rwa [List.getElem?_take_of_lt (by omega),List.getElem?_take_of_lt (by omega)]at this
 .rw[List.getElem?_eq_none (by simp;omega),List.getElem?_eq_none (by simp;omega)]
theorem Y0a{bd:Int×List α->(Int×List α->Option (List α))->Option (List α)}{a:List α}(hm:a.length<9223372036854775807)
  (h1:∀(i:Nat) ys k x,a[i]?=some x->ys.length=a.length->bd ((i:Int),ys) k=k (((i+1:Nat):Int),ys.set i x)) (h2:∀ys k,bd ((a.length:Int),ys) k=some ys) {ys:List α} (hy:ys.length=a.length):whl bd 9223372036854775807 (0,ys)=some a:=by
 refine Y0e (fun _ o=>o=some a) (fun b=>a.length-b.1.toNat) (fun b=>∃i:Nat,b.1=(i:Int)/\i<=a.length/\b.2.length=a.length/\b.2.take i=a.take i) ?_ 9223372036854775807 (0,ys) ⟨0,rfl,Nat.zero_le _,hy,rfl⟩ (by simp only;omega)
 rintro⟨n,zs⟩ k ⟨i,hi,hle,hz,ht⟩ hk
 simp only at hi hz ht hk
 subst hi
 by_cases h:i<a.length
 .rw[h1 i zs k a[i] (yA h) hz]
  exact hk _ ⟨i+1,rfl,h,by simp[hz],U1A (yA h) hz ht⟩ (by simp only;omega)
 .have:i=a.length:=by omega
  subst this
  rw[h2]
  rw[List.take_length,← hz,List.take_length]at ht
  rw[ht]
theorem M0n{bs n:Nat}{z:α}(h:bs*n<=140737488355328)(h':n<=9223372036854775807):mkL bs (n:Int) z=some (List.replicate n z):=by
 unfold mkL
 have e:(bs:Int)*(n:Int)=((bs*n:Nat):Int):=by rw[Int.natCast_mul]
 rw[yd ⟨by omega,by omega,by omega⟩]
 simp
theorem Y0V{bd:Int->(Int->Option Bool)->Option Bool}{n:Nat}(hm:n<9223372036854775807)(h1:∀(i:Nat) k,i<n->bd (i:Int) k=k ((i+1:Nat):Int))(h2:∀k,bd (n:Int) k=some true):whl bd 9223372036854775807 0=some true:=by
 refine Y0e (fun _ o=>o=some true) (fun b=>n-b.toNat) (fun b=>∃i:Nat,b=(i:Int)/\i<=n) ?_ 9223372036854775807 0 ⟨0,rfl,Nat.zero_le _⟩ (by omega)
 rintro _ k ⟨i,rfl,hle⟩ hk
 by_cases h:i<n
 .rw[h1 i k h]
  exact hk _ ⟨i+1,rfl,h⟩ (by omega)
 .have:i=n:=by omega
  subst this
  exact h2 k
theorem WX{n:Nat}:¬ ((n:Int)<(n:Int)):=by omega
end
theorem W0b{l:List Int}(h:l.length<=1048576):Mv l=some l:=by
 unfold Mv
 rw[M0n (by omega) (by omega),bS]
 refine Y0a (by omega) (fun i ys k x hx hl=>?_) (fun ys k=>?_) (by simp)
 .have hi:=(yB hx).1
  have hlt:(i:Int)<(l.length:Int):=by omega
  obtain⟨y,hy⟩:∃y,ys[i]?=some y:=⟨_,yA (by omega)⟩
  simp only[Mr,hlt,decide_true,yN,U2,hx,hy,bS,Zc (n:=i) (by omega),yZ]
 .simp only[Mr,WX,decide_false,yM]
theorem Z0D{l:List Node}(h:l.length<=1048576):LA l=some l:=by
 unfold LA
 rw[M0n (by omega) (by omega),bS]
 refine Y0a (by omega) (fun i ys k x hx hl=>?_) (fun ys k=>?_) (by simp)
 .have hi:=(yB hx).1
  have hlt:(i:Int)<(l.length:Int):=by omega
  obtain⟨y,hy⟩:∃y,ys[i]?=some y:=⟨_,yA (by omega)⟩
  simp only[Zn,hlt,decide_true,yN,U2,hx,hy,bS,Zc (n:=i) (by omega),yZ]
  rfl
 .simp only[Zn,WX,decide_false,yM]
theorem U0D{l:List Bool}(h:l.length<=1048576):JA l=some l:=by
 unfold JA
 rw[M0n (by omega) (by omega),bS]
 refine Y0a (by omega) (fun i ys k x hx hl=>?_) (fun ys k=>?_) (by simp)
 .have hi:=(yB hx).1
  have hlt:(i:Int)<(l.length:Int):=by omega
  obtain⟨y,hy⟩:∃y,ys[i]?=some y:=⟨_,yA (by omega)⟩
  simp only[Yn,hlt,decide_true,yN,U2,hx,hy,bS,Zc (n:=i) (by omega),yZ]
 .simp only[Yn,WX,decide_false,yM]
theorem V0M{l:List Job}(h:l.length<=1048576):UK l=some l:=by
 unfold UK
 rw[M0n (by omega) (by omega),bS]
 refine Y0a (by omega) (fun i ys k x hx hl=>?_) (fun ys k=>?_) (by simp)
 .have hi:=(yB hx).1
  have hlt:(i:Int)<(l.length:Int):=by omega
  obtain⟨y,hy⟩:∃y,ys[i]?=some y:=⟨_,yA (by omega)⟩
  simp only[Qr,hlt,decide_true,yN,U2,hx,hy,bS,Zc (n:=i) (by omega),yZ]
  rfl
 .simp only[Qr,WX,decide_false,yM]
theorem Q0M{l:List End}(h:l.length<=1048576):QK l=some l:=by
 unfold QK
 rw[M0n (by omega) (by omega),bS]
 refine Y0a (by omega) (fun i ys k x hx hl=>?_) (fun ys k=>?_) (by simp)
 .have hi:=(yB hx).1
  have hlt:(i:Int)<(l.length:Int):=by omega
  obtain⟨y,hy⟩:∃y,ys[i]?=some y:=⟨_,yA (by omega)⟩
  simp only[Lr,hlt,decide_true,yN,U2,hx,hy,bS,Zc (n:=i) (by omega),yZ]
  rfl
 .simp only[Lr,WX,decide_false,yM]
theorem L0L{t:Topo}(h1:t.parents.length<=1048576)(h2:t.nodes.length<=1048576):XK t=some t:=by
 unfold XK
 rw[W0b h1,bS,Z0D h2,bS]
theorem Q10{x:Run}(h:x.nodes.length<=1048576):OV x=some x:=by
 unfold OV
 rw[W0b h,bS]
 rfl
theorem Z0M{l:List Run}(h:l.length<=1048576)(hn:∀x∈l,x.nodes.length<=1048576):VK l=some l:=by
 unfold VK
 rw[M0n (by omega) (by omega),bS]
 refine Y0a (by omega) (fun i ys k x hx hl=>?_) (fun ys k=>?_) (by simp)
 .have hi:=(yB hx).1
  have hlt:(i:Int)<(l.length:Int):=by omega
  obtain⟨y,hy⟩:∃y,ys[i]?=some y:=⟨_,yA (by omega)⟩
  simp only[Ur,hlt,decide_true,yN,U2,hx,hy,bS,Zc (n:=i) (by omega),yZ,Q10 (hn x (yE hx))]
 .simp only[Ur,WX,decide_false,yM]
structure SizedS(s:State):Prop where
 parents:s.topo.parents.length<=1048576
 nodes:s.topo.nodes.length<=1048576
 up:s.up.length<=1048576
 jobs:s.queue.length+s.runs.length<=1048576
 run:∀x∈s.runs,x.nodes.length<=1048576
 ends:s.ends.length<=1048576
theorem L0C{s:State}(h:SizedS s):LO s=some s:=by
 have:=h.jobs
 unfold LO
 rw[L0L h.parents h.nodes,bS,U0D h.up,bS,V0M (by omega),bS,Z0M (by omega) h.run,bS,Q0M h.ends,bS]
 rfl
theorem Qz{α:Type}[BEq α][LawfulBEq α](a:α):(a != a)=false:=by simp
theorem MK(v:Vec):Zb v v=true:=by simp[Zb]
theorem Q0v(v:Node):Yw v v=true:=by simp[Yw,MK]
theorem U05(v:Job):Xw v v=true:=by simp[Xw,MK]
theorem U0E(v:End):UI v v=true:=by simp[UI]
theorem Qf{l:List Int}(h:l.length<=1048576):Vw l l=some true:=by
 unfold Vw
 rw[Qz,yM]
 refine Y0V (n:=l.length) (by omega) (fun i k hi=>?_) (fun k=>?_)
 .have hlt:(i:Int)<(l.length:Int):=by omega
  obtain⟨x,hx⟩:∃x,l[i]?=some x:=⟨_,yA hi⟩
  simp only[Ys,hlt,decide_true,yN,U2,hx,bS,Zc (n:=i) (by omega),Qz,yM]
 .simp only[Ys,WX,decide_false,yM]
theorem Y0o{l:List Node}(h:l.length<=1048576):XB l l=some true:=by
 unfold XB
 rw[Qz,yM]
 refine Y0V (n:=l.length) (by omega) (fun i k hi=>?_) (fun k=>?_)
 .have hlt:(i:Int)<(l.length:Int):=by omega
  obtain⟨x,hx⟩:∃x,l[i]?=some x:=⟨_,yA hi⟩
  simp only[Xn,hlt,decide_true,yN,U2,hx,bS,Zc (n:=i) (by omega),Q0v,yL,yM]
 .simp only[Xn,WX,decide_false,yM]
theorem X0o{l:List Bool}(h:l.length<=1048576):VB l l=some true:=by
 unfold VB
 rw[Qz,yM]
 refine Y0V (n:=l.length) (by omega) (fun i k hi=>?_) (fun k=>?_)
 .have hlt:(i:Int)<(l.length:Int):=by omega
  obtain⟨x,hx⟩:∃x,l[i]?=some x:=⟨_,yA hi⟩
  simp only[Vn,hlt,decide_true,yN,U2,hx,bS,Zc (n:=i) (by omega),beq_self_eq_true,yL,yM]
 .simp only[Vn,WX,decide_false,yM]
theorem O0v{l:List Job}(h:l.length<=1048576):ZL l l=some true:=by
 unfold ZL
 rw[Qz,yM]
 refine Y0V (n:=l.length) (by omega) (fun i k hi=>?_) (fun k=>?_)
 .have hlt:(i:Int)<(l.length:Int):=by omega
  obtain⟨x,hx⟩:∃x,l[i]?=some x:=⟨_,yA hi⟩
  simp only[Zs,hlt,decide_true,yN,U2,hx,bS,Zc (n:=i) (by omega),U05,yL,yM]
 .simp only[Zs,WX,decide_false,yM]
theorem M0v{l:List End}(h:l.length<=1048576):YL l l=some true:=by
 unfold YL
 rw[Qz,yM]
 refine Y0V (n:=l.length) (by omega) (fun i k hi=>?_) (fun k=>?_)
 .have hlt:(i:Int)<(l.length:Int):=by omega
  obtain⟨x,hx⟩:∃x,l[i]?=some x:=⟨_,yA hi⟩
  simp only[Xs,hlt,decide_true,yN,U2,hx,bS,Zc (n:=i) (by omega),U0E,yL,yM]
 .simp only[Xs,WX,decide_false,yM]
theorem V0v{t:Topo}(h1:t.parents.length<=1048576)(h2:t.nodes.length<=1048576):LK t t=some true:=by
 unfold LK
 rw[Qf h1,bS,Y0o h2]
 rfl
theorem Y0E{x:Run}(h:x.nodes.length<=1048576):LV x x=some true:=by
 unfold LV
 rw[U05,Qf h,Qz]
 rfl
theorem U0v{l:List Run}(h:l.length<=1048576)(hn:∀x∈l,x.nodes.length<=1048576):JK l l=some true:=by
 unfold JK
 rw[Qz,yM]
 refine Y0V (n:=l.length) (by omega) (fun i k hi=>?_) (fun k=>?_)
 .have hlt:(i:Int)<(l.length:Int):=by omega
  obtain⟨x,hx⟩:∃x,l[i]?=some x:=⟨_,yA hi⟩
  simp only[Jr,hlt,decide_true,yN,U2,hx,bS,Zc (n:=i) (by omega),Y0E (hn x (yE hx)),yL,yM]
 .simp only[Jr,WX,decide_false,yM]
theorem Z0o{s:State}(h:SizedS s):VP s s=some true:=by
 have:=h.jobs
 unfold VP
 rw[V0v h.parents h.nodes,X0o h.up,MK,Qz,Qz,O0v (by omega),U0v (by omega) h.run,M0v h.ends]
 rfl
theorem O1l{n:Int}{c:Nat}(h0:0<=n)(h:n<=1048576)(hc:c<=maxLen):(bif decide (w64 (n-(c:Int))<0)then(-1:Int)else w64 (n-(c:Int)))=szr n c:=by
 have hm:maxLen=9223372036854775807:=rfl
 rw[Wc (by omega)]
 unfold szr
 by_cases q:n<c
 .rw[yd q,show decide (n-(c:Int)<0)=true by rw[yO];omega];rfl
 .rw[ye q,show decide (n-(c:Int)<0)=false by rw[decide_eq_false_iff_not];omega];rfl
theorem X0e{n:Int}{c:Nat}:(szr n c<0)\/(0<=szr n c/\(c:Int)<=n/\szr n c=n-c):=by
 unfold szr;split
 .exact .inl (by omega)
 .exact .inr (by omega)
theorem X1A{x:Run}{n:Int}(h0:0<=n)(h:n<=1048576)(hc:x.nodes.length<=maxLen):Lv x n=szr n x.nodes.length:=by
 unfold Lv Z5
 rw[O1l h0 h hc]
 rcases X0e (n:=n) (c:=x.nodes.length)with q|q
 .have:szr n x.nodes.length = -1:=by unfold szr at q ⊢;split<;>omega
  rw[this];rfl
 .have:decide (szr n x.nodes.length<0)=false:=by simp;omega
  rw[this];rfl
theorem X1q{l:List Run}{n:Int}(h0:0<=n)(h:n<=1048576)(hc:FitL M1w l):∃r,OK l n=some r/\r<=n/\(0<=r->(l.length:Int)+r<=n/\∀x∈l,x.nodes.length<=1048576):=by
 have hm:maxLen=9223372036854775807:=rfl
 obtain⟨c1,c2⟩:=hc
 unfold OK
 rw[Wc (by omega)]
 by_cases q:n-(l.length:Int)<0
 .exact⟨-1,by simp[q],by omega,fun h=>by omega⟩
 .simp only[q,decide_false,yM]
  refine Y0e (fun _ o=>∃r,o=some r/\r<=n/\(0<=r->(l.length:Int)+r<=n/\∀x∈l,x.nodes.length<=1048576)) (fun b=>l.length-b.2.toNat) (fun b=>∃i:Nat,b.2=(i:Int)/\i<=l.length/\0<=b.1/\(l.length:Int)+b.1<=n/\∀j x,j<i->l[j]?=some x->x.nodes.length<=1048576) ?_ 9223372036854775807 (n-(l.length:Int),0) ⟨0,rfl,Nat.zero_le _,by simp only;omega,by simp only;omega,fun j x hj=>by omega⟩ (by simp only;omega)
  rintro⟨m,_⟩ k ⟨i,rfl,hi,hm0,hmn,hall⟩ hk
  simp only at hm0 hmn hk
  unfold WK
  by_cases hlt:i<l.length
  .have hlt':(i:Int)<(l.length:Int):=by omega
   have hx:l[i]?=some l[i]:=yA hlt
   simp only[hlt',decide_true,yN,U2,hx,bS,Zc (n:=i) (by omega)]
   rw[X1A hm0 (by omega) (c2 _ (List.getElem_mem hlt)).2.2.1.1]
   rcases X0e (n:=m) (c:=l[i].nodes.length)with q|q
   .simp only[q,decide_true,yN]
    exact⟨-1,rfl,by omega,fun h=>by omega⟩
   .have:¬ szr m l[i].nodes.length<0:=by omega
    simp only[this,decide_false,yM]
    refine hk _ ⟨i+1,rfl,hlt,q.1,by simp only;omega,fun j x hj hx'=>?_⟩ (by simp only;omega)
    by_cases e:j=i
    .subst e;rw[hx]at hx';cases hx';omega
    .exact hall j x (by omega) hx'
  .have:i=l.length:=by omega
   subst this
   simp only[WX,decide_false,yM]
   exact⟨m,rfl,by omega,fun _=>⟨hmn,fun x hx=>by
    obtain⟨j,hj⟩:=List.getElem?_of_mem hx
    exact hall j x (yB hj).1 hj⟩⟩
theorem O0M{s:State}(hf:Z0k s){n:Int}(hn0:0<=n)(hn:n<=1048576):∃r,YB s n=some r/\(r<0\/(SizedS s/\r<=n)):=by
 obtain⟨⟨p1,p2,_⟩,p3,_,_,_,p4,p5,p6,_⟩:=hf
 have no:∀{c:Prop} [Decidable c],c->(decide c)=true:=fun h=>by simp[h]
 have nn:∀{c:Prop} [Decidable c],¬ c->(decide c)=false:=fun h=>by simp[h]
 have bad:∃r,(some (-1):Option Int)=some r/\(r<0\/(SizedS s/\r<=n)):=⟨-1,rfl,.inl (by omega)⟩
 unfold YB
 have e1:Z5 s.topo.parents n=szr n s.topo.parents.length:=O1l hn0 hn p1.1
 have et:Q6 s.topo n<0\/(s.topo.parents.length<=1048576/\s.topo.nodes.length<=1048576/\0<=Q6 s.topo n/\Q6 s.topo n<=n):=by
  unfold Q6
  rw[e1]
  rcases X0e (n:=n) (c:=s.topo.parents.length)with q|q
  .rw[no q,yN];exact .inl (by omega)
  .rw[nn (by omega),yM]
   have e2:Ve s.topo.nodes (szr n s.topo.parents.length)=szr (szr n s.topo.parents.length) s.topo.nodes.length:=O1l q.1 (by omega) p2.1
   rw[e2]
   rcases X0e (n:=szr n s.topo.parents.length) (c:=s.topo.nodes.length)with q'|q'
   .rw[no q',yN];exact .inl (by omega)
   .rw[nn (by omega),yM]
    exact .inr (by omega)
 generalize Q6 s.topo n=m0 at et ⊢
 rcases et with q|q
 .rw[no q,yN];exact bad
 rw[nn (by omega),yM]
 have e3:Ue s.up m0=szr m0 s.up.length:=O1l (by omega) (by omega) p3.1
 rw[e3]
 rcases X0e (n:=m0) (c:=s.up.length)with r|r
 .rw[no r,yN];exact bad
 rw[nn (by omega),yM]
 generalize szr m0 s.up.length=m1 at r ⊢
 have e4:Jv s.queue m1=szr m1 s.queue.length:=O1l (by omega) (by omega) p4.1
 rw[e4]
 rcases X0e (n:=m1) (c:=s.queue.length)with t|t
 .rw[no t,yN];exact bad
 rw[nn (by omega),yM]
 generalize szr m1 s.queue.length=m2 at t ⊢
 obtain⟨m3,e5,u1,u2⟩:=X1q (n:=m2) (by omega) (by omega) p5
 rw[e5,bS]
 by_cases u:m3<0
 .rw[no u,yN];exact bad
 rw[nn u,yM]
 have u':=u2 (by omega)
 have e6:Zw s.ends m3=szr m3 s.ends.length:=O1l (by omega) (by omega) p6.1
 rw[e6]
 rcases X0e (n:=m3) (c:=s.ends.length)with v|v
 .rw[no v,yN];exact bad
 rw[nn (by omega),yM]
 exact⟨_,rfl,.inr ⟨⟨q.1,q.2.1,by omega,by omega,u'.2,by omega⟩,by omega⟩⟩
theorem W0D{s:State}(hf:Z0k s):∃r,YB s 1048576=some r/\(r<0\/SizedS s):=by
 obtain⟨r,h1,h2⟩:=O0M hf (n:=1048576) (by omega) (by omega)
 exact⟨r,h1,h2.imp id And.left⟩
end
end Go.Proofs.YtodafdoninblmaaGreat
namespace Go.Proofs.YtodafdoninblmaaGreat.Eng
open Go Go.RowKit
section
section
variable{P:Program}{s:St}{K:St->Prop}
@[simp] theorem wop_oln {d:Nat}{x:X}:wop P (.oln d x) K s=match s.get x with
  |.od _ _ n=>K (s.set d (.int .i64 n))
  |_=>False:=_root_.id rfl
@[simp] theorem wop_oia {d n:Nat}{x i:X}:wop P (.oia d x i n) K s=match s.get x with
  |.od m ks l=>match Q0o (s.get i) l with
   |some _=>ks.length=n/\K (s.set d (.op m ks 0))
   |none=>False
  |_=>False:=_root_.id rfl
@[simp] theorem wop_ofa {d off:Nat}{x:X}:wop P (.ofa d x off) K s=match s.get x with
  |.op m ks o=>K (s.set d (.op m ks (o+off)))
  |_=>False:=_root_.id rfl
@[simp] theorem wop_old {d:Nat}{p:X}:wop P (.old d p) K s=match s.get p with
  |.op m ks off=>match ks[off]? with
   |some (.l ks')=>∀n,n<=1048576->K (s.set d (.od m ks' n))
   |_=>False
  |_=>False:=_root_.id rfl
@[simp] theorem wop_ost {p x:X}:wop P (.ost p x) K s=match s.get p with
  |.op m ks off=>match ks[off]? with
   |some k=>s.my m/\s.kn m/\kindOk k (s.get x)=true/\K s
   |none=>False
  |_=>False:=_root_.id rfl
section
variable{m:Nat}{rks:List Nat}
@[simp] theorem W1Z {i:Nat}:(s.losing m rks).e i=(s.e i).lose m:=_root_.id rfl
@[simp] theorem U1U {k:Nat}:(s.losing m rks).bx k=(s.bx k).map fun cs=>cs.map (AV.lose1 m):=_root_.id rfl
@[simp] theorem Z1U {k:Nat}:(s.losing m rks).rw k=if k∈rks then s.rw k else none:=_root_.id rfl
@[simp] theorem Y1U:(s.losing m rks).nx=s.nx:=_root_.id rfl
@[simp] theorem X1U:(s.losing m rks).my=s.my:=_root_.id rfl
@[simp] theorem V1U:(s.losing m rks).kn=s.kn:=_root_.id rfl
end
theorem O15{d f m:Nat}{xs:List X}{az:List AV}{Φ:Int->Prop}(rks:List Nat)(hv:Hav P f az Φ)(ha:hvLs m (xs.map s.get) az)(hm:s.my m)(hr:∀k∈rks,∀r,s.rw k=some r->O06 m r.es=true)
  (h:∀k,Φ k->K (St.set (s.losing m rks) d (.int .i64 k))):wop P (.cf d f m xs) K s:=⟨hm,az,Φ,rks,hv,ha,hr,h⟩
theorem do_co(n:Nat){d f:Nat}{xs:List X}{az:List AV}{res:AV}{rows:List Row}(hs:Snd P f az res rows)(ha:O1o s xs az)(hp:(res.nwd rows).pl)(hn:s.nx=n)(h:K (St.set { s with nx:=n+1 } d ((res.nwd rows).ownt n))):wop P (.co d f xs) K s:=by
 subst hn
 obtain⟨l,e,hs⟩:=Z16 ha hs
 exact⟨l,e,res,rows,hs,hp,h⟩
attribute [simp] AV.lose AV.lose1 AV.free O06 AV.ownt Z03 AV.pl plL hv1 hvA hvL hvLs AV.fitX fitC kindOk
@[simp] theorem O1V {α:Type}(m:Nat)(e:α->AV)(l:List α):O06 m (l.map e)=true↔∀x∈l,(e x).free m=true:=by rw[Ut];simp
@[simp] theorem O1Z (m:Nat)(ks:List DK):fitE m ks []=True:=by simp[fitE]
@[simp] theorem M1V (m:Nat)(ks:List DK)(e:AV)(l:List AV):fitE m ks (e::l)=(AV.fitX m ks e/\fitE m ks l):=by simp[fitE]
@[simp] theorem W1C {α:Type}(m:Nat)(ks:List DK)(e:α->AV):∀l:List α,fitE m ks (l.map e)↔∀x∈l,AV.fitX m ks (e x)
 |[]=>by simp
 |a::l=>by simp[W1C m ks e l]
@[simp] theorem Z1J {α:Type}(e:α->AV):∀l:List α,plL (l.map e)↔∀x∈l,(e x).pl
 |[]=>by simp
 |a::l=>by simp[Z1J e l]
theorem Q18{α:Type}(i:Nat)(e e':α->AV)(h:∀x,(e x).ownt i=e' x)(l:List α):Z03 i (l.map e)=l.map e':=by rw[QV,List.map_map];exact List.map_congr_left fun x _=>h x
def O0L(rs:List Rv)(Φ:Int->Prop)(e:Ex)(s:St):Prop:=(match e with | .ext _=>False|_=>True)/\∃k,s.rvs rs=some [.int .i64 k]/\Φ k
theorem U1V{f:FuncId}{fn:Func}{l:L}{rs:List Rv}{args:List AV}{Φ:Int->Prop}(hf:P.funcs[f]?=some fn)(hc:chkF P args.length l rs fn=true)(h:den P l (O0L rs Φ) (stH args)):Hav P f args Φ:=by
  simp only[chkF,yD,yO]at hc
  obtain⟨⟨⟨⟨hc,hr⟩,hr4⟩,hn⟩,hnb⟩:=hc
  cases hb:fn.body with
  |none=>rw[hb]at hc;cases hc
  |some code =>
    rw[hb]at hc
    simp only at hc
    intro w D vs hD hvl hvs
    let c:Cx:={ nt:=fn.ntmps,X:=D,Y:=fun _=>True,S0:=fun _ _=>False,w0:=w,rv0:=fun _=>undef,bb0:=fun _=>0,ntb:=hnb,D:=D,s0:=fun _ _ h=>h.elim,sx:=fun _ _ h=>h.elim }
    have ov0:∀i E,(ghD D).ov i=some E->i=0/\E=D:=by
      intro i E h
      simp only[ghD]at h
      split at h
      · rename_i hi;cases h;exact⟨hi,rfl⟩
      · cases h
    have I:Inv c (ghD D) (stH args) { tmps:=vs.toArray++Array.replicate (fn.ntmps-vs.toArray.size) undef,defers:=[] } w:=by
      refine⟨rfl,by simp only[Array.size_append,List.size_toArray,Array.size_replicate,c];omega,⟨rfl,rfl,rfl,yV _,fun _ _ _=>rfl⟩,fun i=>?_,fun k cs h=>(by cases h),fun k cs h=>(by cases h),fun k r h=>(by cases h),fun k r h=>(by cases h),fun k k' cs cs' h=>(by cases h),fun k k' cs r h=>(by cases h),fun k k' r r' h=>(by cases h),fun b o h=>(show False from h).elim,fun b h=>trivial,fun b _ _=>trivial,fun _ _=>⟨rfl,rfl⟩,fun _ _ h=>h,fun _ _ h=>.inl h,
        ⟨⟨fun i E h=>?_,fun i E h b hb=>?_,fun i j E E' h1 h2 hne=>?_,fun k cs h=>(by cases h),fun k r h=>(by cases h),fun i E h b hb=>?_⟩,fun i E h _ b hb=>?_,rfl,Nat.zero_le _,fun i h=>absurd h (Nat.not_lt_zero i),fun b hb=>⟨0,D,rfl,hb⟩,fun i hi=>⟨?_,fun E h b hb=>?_⟩,fun b o v _ hv=>⟨v,hv,.refl v⟩⟩,fun b o h=>(show False from h).elim,fun b o h=>(show False from h).elim⟩
      · simp only[stH]
        rcases Nat.lt_or_ge i args.length with hi|hi
        · have hiv:i<vs.length:=by omega
          have e1:args.getD i .und=args[i]:=by simp[List.getD_eq_getElem?_getD,hi]
          have e2:(vs.toArray++Array.replicate (fn.ntmps-vs.toArray.size) undef).getD i undef=vs[i]:=by
            simp[Array.getD_eq_getD_getElem?,Array.getElem?_append_left,hiv]
          rw[e1,e2]
          exact Gv.turn (s:=stH []) (s':=stH args) (O16 rfl rfl (fun _ _ _=>rfl) O0N) (hvs i args[i] vs[i] (yA hi) (yA hiv))
        · have e1:args.getD i .und=.und:=by simp[List.getD_eq_getElem?_getD,List.getElem?_eq_none hi]
          have e2:(vs.toArray++Array.replicate (fn.ntmps-vs.toArray.size) undef).getD i undef=undef:=by
            rw[Array.getD_eq_getD_getElem?,Array.getElem?_append_right (by simp;omega),Array.getElem?_replicate]
            split<;>rfl
          rw[e1,e2]
          exact .und
      · obtain⟨rfl,_⟩:=ov0 i E h;exact Nat.one_pos
      · obtain⟨_,rfl⟩:=ov0 i E h;exact⟨(hD b hb).1,trivial⟩
      · obtain⟨rfl,_⟩:=ov0 i E h1;obtain⟨rfl,_⟩:=ov0 j E' h2;exact absurd rfl hne
      · obtain⟨_,rfl⟩:=ov0 i E h;exact(hD b hb).2
      · obtain⟨_,rfl⟩:=ov0 i E h;exact⟨trivial,fun _=>hb⟩
      · have hi':i=0:=hi
        subst hi';exact Nat.one_pos
      · obtain⟨_,rfl⟩:=ov0 i E h;exact hb
    refine calls_of_wp hf hb ?_
    refine V0q (c:=c) hc (fun e g' s' a' w' I' hp=>?_) I h
    have fin:(∃v,(results fn a'.tmps).run P w'=.ok v w'/\∃k,Ending.returned v=.returned (.int .i64 k)/\Φ k/\Kept D w w'/\(∀b,D b->UnfB w' b) /\
        ∀b o v,D b->w.cell? ⟨b,o,none⟩=some v->∃v',w'.cell? ⟨b,o,none⟩=some v'/\KRel v v'):=by
      obtain⟨_,k,h1,h2⟩:=hp
      obtain⟨u,q1,q2⟩:=U0e (P:=P) I' hr4 hr h1
      have hu:u=.int .i64 k:=(show Gv w' g' s' (.int .i64 k) u from q2).int_inv
      refine⟨u,q1,k,by rw[hu],h2,⟨I'.fr.os,I'.fr.tape,I'.fr.output,I'.fr.size,fun k hk hx=>I'.fr.block k hk hx⟩,fun b hb=>?_,fun b o v hb hv=>I'.ow.dk b o v hb hv⟩
      obtain⟨i,E,e1,e2⟩:=I'.ow.dd b hb
      exact I'.ow.uf i E e1 b e2
    cases e with
    |nrm=>exact⟨I'.defers,fin⟩
    |ret=>exact⟨I'.defers,fin⟩
    |ext id=>exact hp.1.elim
theorem U0s{f:FuncId}{l:L}{rs:List Rv}{args:List AV}{Φ:Int->Prop}{n:Nat}(hc:QM P f n l rs=true)(hn:args.length=n)(h:den P l (O0L rs Φ) (stH args)):Hav P f args Φ:=by
 unfold QM at hc
 split at hc
 .rename_i fn hf
  subst hn
  exact U1V hf hc h
 .cases hc
attribute [simp] stH
@[simp] theorem set_my {d:Nat}{v:AV}:(s.set d v).my=s.my:=_root_.id rfl
@[simp] theorem set_nx {d:Nat}{v:AV}:(s.set d v).nx=s.nx:=_root_.id rfl
@[simp] theorem kill_nx {k:Nat}:(s.kill k).nx=s.nx:=_root_.id rfl
@[simp] theorem st0_nx {args:List AV}:(st0 args).nx=0:=_root_.id rfl
@[simp] theorem st0_my {args:List AV}:(st0 args).my=fun _=>True:=_root_.id rfl
@[simp] theorem VI {α:Type}{i:Nat}{e:α->AV}(h:∀x,(e x).ownt i=e x)(l:List α):Z03 i (l.map e)=l.map e:=Q18 i e e h l
@[simp] theorem kill_my {k:Nat}:(s.kill k).my=s.my:=_root_.id rfl
@[simp] theorem kill_kn {k:Nat}:(s.kill k).kn=s.kn:=_root_.id rfl
@[simp] theorem set_kn {d:Nat}{v:AV}:(s.set d v).kn=s.kn:=_root_.id rfl
end
end
end Go.Proofs.YtodafdoninblmaaGreat.Eng
namespace Go.Proofs.YtodafdoninblmaaGreat
open Go Go.RowKit Eng
def kB(k b:Int):Int->Prop:=fun j=>k<=j/\j<=k+b
def UW:L :=
 .seq (
 .reg [.mv 4 (.c (.int .i64 0))]) (
 .seq (
 .seq (
 .reg [.mv 5 (.c (.int .i64 0))]) (
 .blk 0 (
  .loop (
   .seq (
   .seq (
   .reg [.mv 6 (.t 5),.mv 7 (.t 0),.oln 8 (.t 7),.bi 9 .lss (.t 6) (.t 8)]) (
   .cond (.t 9) (
    .skip) (
    .exit 0))) (
   .seq (
   .blk 1 (
    .seq (
    .reg [.mv 12 (.t 0),.mv 13 (.t 5),.mv 14 (.t 1),.oia 15 (.t 12) (.t 13) 1,.ost (.t 15) (.t 14)]) (
    .reg [.mv 16 (.t 1),.bi 17 .add (.t 16) (.c (.int .i64 1)),.mv 1 (.t 17)]))) (
   .reg [.mv 10 (.t 5),.bi 11 .add (.t 10) (.c (.int .i64 1)),.mv 5 (.t 11)])))))) (
 .seq (
 .reg [.mv 18 (.t 1),.mv 4 (.t 18)]) (
 .ret)))
def JU:List Rv:=[.t 4]
theorem M0q:QM Tryz.prog Za 2 UW JU=true:=by kernel_rfl
set_option maxRecDepth 10000 in
theorem Z0s(n:Nat)(hn:n<=1048576)(k:Int)(h0:0<=k)(h1:k<=2251799813685248) :
  Hav Tryz.prog Za [.od 0 [.i .i64] n,.int .i64 k] (kB k (1*n)):=by
 refine U0s M0q rfl (X0q ?_)
 unfold UW JU
 simp
 refine M0c (fun m s=>∃(i:Nat) (j:Int),m=n-i/\i<=n/\k<=j/\j<=k+1*i/\s.e 0=.od 0 [.i .i64] n/\s.e 1=.int .i64 j/\s.e 5=.int .i64 (i:Nat)/\s.my 0/\s.kn 0) n ?_ ?_
 .exact⟨0,k,by simp⟩
 .rintro m s ⟨i,j,rfl,hi,hj0,hj1,e0,e1,e5,hm,hk⟩
  by_cases h:i<n
  .have hw:∀q:Int,0<=q->q<=4611686018427387904->IntKind.i64.wrap q=q:=fun q h0 h1=>OB (by omega) (by omega)
   simp[e0,e1,e5,h,hm,hk,hw (j+1) (by omega) (by omega)]
   exact⟨n-(i+1),by omega,i+1,rfl,by omega,j+1,by omega,by simp;omega,rfl,by rw[hw _ (by omega) (by omega)];simp⟩
  .have:i=n:=by omega
   subst this
   simp[e0,e1,e5,kB,O0L]
   omega
def OP:L :=
 .seq (
 .reg [.mv 4 (.c (.int .i64 0))]) (
 .seq (
 .seq (
 .reg [.mv 5 (.c (.int .i64 0))]) (
 .blk 0 (
  .loop (
   .seq (
   .seq (
   .reg [.mv 6 (.t 5),.mv 7 (.t 0),.oln 8 (.t 7),.bi 9 .lss (.t 6) (.t 8)]) (
   .cond (.t 9) (
    .skip) (
    .exit 0))) (
   .seq (
   .blk 1 (
    .seq (
    .reg [.mv 12 (.t 0),.mv 13 (.t 5),.mv 14 (.t 1),.oia 15 (.t 12) (.t 13) 4,.ofa 16 (.t 15) 0,.ost (.t 16) (.t 14)]) (
    .seq (
    .reg [.mv 17 (.t 1),.bi 18 .add (.t 17) (.c (.int .i64 1)),.mv 1 (.t 18)]) (
    .seq (
    .reg [.mv 19 (.t 0),.mv 20 (.t 5),.mv 21 (.t 1),.oia 22 (.t 19) (.t 20) 4,.ofa 23 (.t 22) 1,.ofa 24 (.t 23) 0,.ost (.t 24) (.t 21)]) (
    .seq (
    .reg [.mv 25 (.t 1),.bi 26 .add (.t 25) (.c (.int .i64 1)),.mv 1 (.t 26)]) (
    .seq (
    .reg [.mv 27 (.t 0),.mv 28 (.t 5),.mv 29 (.t 1),.oia 30 (.t 27) (.t 28) 4,.ofa 31 (.t 30) 1,.ofa 32 (.t 31) 1,.ost (.t 32) (.t 29)]) (
    .seq (
    .reg [.mv 33 (.t 1),.bi 34 .add (.t 33) (.c (.int .i64 1)),.mv 1 (.t 34)]) (
    .seq (
    .reg [.mv 35 (.t 0),.mv 36 (.t 5),.mv 37 (.t 1),.oia 38 (.t 35) (.t 36) 4,.ofa 39 (.t 38) 1,.ofa 40 (.t 39) 2,.ost (.t 40) (.t 37)]) (
    .reg [.mv 41 (.t 1),.bi 42 .add (.t 41) (.c (.int .i64 1)),.mv 1 (.t 42)]))))))))) (
   .reg [.mv 10 (.t 5),.bi 11 .add (.t 10) (.c (.int .i64 1)),.mv 5 (.t 11)])))))) (
 .seq (
 .reg [.mv 43 (.t 1),.mv 4 (.t 43)]) (
 .ret)))
def UO:List Rv:=[.t 4]
theorem W0k:QM Tryz.prog XE 2 OP UO=true:=by kernel_rfl
set_option maxRecDepth 10000 in
theorem L0Z(n:Nat)(hn:n<=1048576)(k:Int)(h0:0<=k)(h1:k<=2251799813685248) :
  Hav Tryz.prog XE [.od 0 [.i .i64,.i .i64,.i .i64,.i .i64] n,.int .i64 k] (kB k (4*n)):=by
 refine U0s W0k rfl (X0q ?_)
 unfold OP UO
 simp
 refine M0c (fun m s=>∃(i:Nat) (j:Int),m=n-i/\i<=n/\k<=j/\j<=k+4*i/\s.e 0=.od 0 [.i .i64,.i .i64,.i .i64,.i .i64] n/\s.e 1=.int .i64 j/\s.e 5=.int .i64 (i:Nat)/\s.my 0/\s.kn 0) n ?_ ?_
 .exact⟨0,k,by simp⟩
 .rintro m s ⟨i,j,rfl,hi,hj0,hj1,e0,e1,e5,hm,hk⟩
  by_cases h:i<n
  .have hw:∀q:Int,0<=q->q<=4611686018427387904->IntKind.i64.wrap q=q:=fun q h0 h1=>OB (by omega) (by omega)
   simp[e0,e1,e5,h,hm,hk,hw (j+1) (by omega) (by omega),hw (j+1+1) (by omega) (by omega),hw (j+1+1+1) (by omega) (by omega),hw (j+1+1+1+1) (by omega) (by omega)]
   exact⟨n-(i+1),by omega,i+1,rfl,by omega,j+1+1+1+1,by omega,by simp;omega,rfl,by rw[hw _ (by omega) (by omega)];simp⟩
  .have:i=n:=by omega
   subst this
   simp[e0,e1,e5,kB,O0L]
   omega
def MP:L :=
 .seq (
 .reg [.mv 4 (.c (.int .i64 0))]) (
 .seq (
 .seq (
 .reg [.mv 5 (.c (.int .i64 0))]) (
 .blk 0 (
  .loop (
   .seq (
   .seq (
   .reg [.mv 6 (.t 5),.mv 7 (.t 0),.oln 8 (.t 7),.bi 9 .lss (.t 6) (.t 8)]) (
   .cond (.t 9) (
    .skip) (
    .exit 0))) (
   .seq (
   .blk 1 (
    .seq (
    .reg [.mv 12 (.t 0),.mv 13 (.t 5),.mv 14 (.t 1),.bi 15 .rem (.t 14) (.c (.int .i64 3)),.bi 16 .eql (.t 15) (.c (.int .i64 0)),.oia 17 (.t 12) (.t 13) 1,.ost (.t 17) (.t 16)]) (
    .reg [.mv 18 (.t 1),.bi 19 .add (.t 18) (.c (.int .i64 1)),.mv 1 (.t 19)]))) (
   .reg [.mv 10 (.t 5),.bi 11 .add (.t 10) (.c (.int .i64 1)),.mv 5 (.t 11)])))))) (
 .seq (
 .reg [.mv 20 (.t 1),.mv 4 (.t 20)]) (
 .ret)))
def QO:List Rv:=[.t 4]
theorem O0k:QM Tryz.prog VE 2 MP QO=true:=by kernel_rfl
set_option maxRecDepth 10000 in
theorem J0Z(n:Nat)(hn:n<=1048576)(k:Int)(h0:0<=k)(h1:k<=2251799813685248) :
  Hav Tryz.prog VE [.od 0 [.b] n,.int .i64 k] (kB k (1*n)):=by
 refine U0s O0k rfl (X0q ?_)
 unfold MP QO
 simp
 refine M0c (fun m s=>∃(i:Nat) (j:Int),m=n-i/\i<=n/\k<=j/\j<=k+1*i/\s.e 0=.od 0 [.b] n/\s.e 1=.int .i64 j/\s.e 5=.int .i64 (i:Nat)/\s.my 0/\s.kn 0) n ?_ ?_
 .exact⟨0,k,by simp⟩
 .rintro m s ⟨i,j,rfl,hi,hj0,hj1,e0,e1,e5,hm,hk⟩
  by_cases h:i<n
  .have hw:∀q:Int,0<=q->q<=4611686018427387904->IntKind.i64.wrap q=q:=fun q h0 h1=>OB (by omega) (by omega)
   simp[e0,e1,e5,h,hm,hk,hw (j+1) (by omega) (by omega)]
   exact⟨n-(i+1),by omega,i+1,rfl,by omega,j+1,by omega,by simp;omega,rfl,by rw[hw _ (by omega) (by omega)];simp⟩
  .have:i=n:=by omega
   subst this
   simp[e0,e1,e5,kB,O0L]
   omega
def XW:L :=
 .seq (
 .reg [.mv 4 (.c (.int .i64 0))]) (
 .seq (
 .seq (
 .reg [.mv 5 (.c (.int .i64 0))]) (
 .blk 0 (
  .loop (
   .seq (
   .seq (
   .reg [.mv 6 (.t 5),.mv 7 (.t 0),.oln 8 (.t 7),.bi 9 .lss (.t 6) (.t 8)]) (
   .cond (.t 9) (
    .skip) (
    .exit 0))) (
   .seq (
   .blk 1 (
    .seq (
    .reg [.mv 12 (.t 0),.mv 13 (.t 5),.mv 14 (.t 1),.oia 15 (.t 12) (.t 13) 11,.ofa 16 (.t 15) 0,.ost (.t 16) (.t 14)]) (
    .seq (
    .reg [.mv 17 (.t 1),.bi 18 .add (.t 17) (.c (.int .i64 1)),.mv 1 (.t 18)]) (
    .seq (
    .reg [.mv 19 (.t 0),.mv 20 (.t 5),.mv 21 (.t 1),.oia 22 (.t 19) (.t 20) 11,.ofa 23 (.t 22) 1,.ost (.t 23) (.t 21)]) (
    .seq (
    .reg [.mv 24 (.t 1),.bi 25 .add (.t 24) (.c (.int .i64 1)),.mv 1 (.t 25)]) (
    .seq (
    .reg [.mv 26 (.t 0),.mv 27 (.t 5),.mv 28 (.t 1),.oia 29 (.t 26) (.t 27) 11,.ofa 30 (.t 29) 2,.ost (.t 30) (.t 28)]) (
    .seq (
    .reg [.mv 31 (.t 1),.bi 32 .add (.t 31) (.c (.int .i64 1)),.mv 1 (.t 32)]) (
    .seq (
    .reg [.mv 33 (.t 0),.mv 34 (.t 5),.mv 35 (.t 1),.oia 36 (.t 33) (.t 34) 11,.ofa 37 (.t 36) 3,.ofa 38 (.t 37) 0,.ost (.t 38) (.t 35)]) (
    .seq (
    .reg [.mv 39 (.t 1),.bi 40 .add (.t 39) (.c (.int .i64 1)),.mv 1 (.t 40)]) (
    .seq (
    .reg [.mv 41 (.t 0),.mv 42 (.t 5),.mv 43 (.t 1),.oia 44 (.t 41) (.t 42) 11,.ofa 45 (.t 44) 3,.ofa 46 (.t 45) 1,.ost (.t 46) (.t 43)]) (
    .seq (
    .reg [.mv 47 (.t 1),.bi 48 .add (.t 47) (.c (.int .i64 1)),.mv 1 (.t 48)]) (
    .seq (
    .reg [.mv 49 (.t 0),.mv 50 (.t 5),.mv 51 (.t 1),.oia 52 (.t 49) (.t 50) 11,.ofa 53 (.t 52) 3,.ofa 54 (.t 53) 2,.ost (.t 54) (.t 51)]) (
    .seq (
    .reg [.mv 55 (.t 1),.bi 56 .add (.t 55) (.c (.int .i64 1)),.mv 1 (.t 56)]) (
    .seq (
    .reg [.mv 57 (.t 0),.mv 58 (.t 5),.mv 59 (.t 1),.oia 60 (.t 57) (.t 58) 11,.ofa 61 (.t 60) 6,.ofa 62 (.t 61) 0,.ost (.t 62) (.t 59)]) (
    .seq (
    .reg [.mv 63 (.t 1),.bi 64 .add (.t 63) (.c (.int .i64 1)),.mv 1 (.t 64)]) (
    .seq (
    .reg [.mv 65 (.t 0),.mv 66 (.t 5),.mv 67 (.t 1),.oia 68 (.t 65) (.t 66) 11,.ofa 69 (.t 68) 6,.ofa 70 (.t 69) 1,.ost (.t 70) (.t 67)]) (
    .seq (
    .reg [.mv 71 (.t 1),.bi 72 .add (.t 71) (.c (.int .i64 1)),.mv 1 (.t 72)]) (
    .seq (
    .reg [.mv 73 (.t 0),.mv 74 (.t 5),.mv 75 (.t 1),.oia 76 (.t 73) (.t 74) 11,.ofa 77 (.t 76) 6,.ofa 78 (.t 77) 2,.ost (.t 78) (.t 75)]) (
    .seq (
    .reg [.mv 79 (.t 1),.bi 80 .add (.t 79) (.c (.int .i64 1)),.mv 1 (.t 80)]) (
    .seq (
    .reg [.mv 81 (.t 0),.mv 82 (.t 5),.mv 83 (.t 1),.oia 84 (.t 81) (.t 82) 11,.ofa 85 (.t 84) 9,.ost (.t 85) (.t 83)]) (
    .seq (
    .reg [.mv 86 (.t 1),.bi 87 .add (.t 86) (.c (.int .i64 1)),.mv 1 (.t 87)]) (
    .seq (
    .reg [.mv 88 (.t 0),.mv 89 (.t 5),.mv 90 (.t 1),.oia 91 (.t 88) (.t 89) 11,.ofa 92 (.t 91) 10,.ost (.t 92) (.t 90)]) (
    .reg [.mv 93 (.t 1),.bi 94 .add (.t 93) (.c (.int .i64 1)),.mv 1 (.t 94)]))))))))))))))))))))))) (
   .reg [.mv 10 (.t 5),.bi 11 .add (.t 10) (.c (.int .i64 1)),.mv 5 (.t 11)])))))) (
 .seq (
 .reg [.mv 95 (.t 1),.mv 4 (.t 95)]) (
 .ret)))
def MU:List Rv:=[.t 4]
theorem W0q:QM Tryz.prog LM 2 XW MU=true:=by kernel_rfl
set_option maxRecDepth 10000 in
theorem W19(n:Nat)(hn:n<=1048576)(k:Int)(h0:0<=k)(h1:k<=2251799813685248) :
  Hav Tryz.prog LM [.od 0 [.i .i64,.i .i64,.i .i64,.i .i64,.i .i64,.i .i64,.i .i64,.i .i64,.i .i64,.i .i64,.i .i64] n,.int .i64 k] (kB k (11*n)):=by
 refine U0s W0q rfl (X0q ?_)
 unfold XW MU
 simp
 refine M0c (fun m s=>∃(i:Nat) (j:Int),m=n-i/\i<=n/\k<=j/\j<=k+11*i/\s.e 0=.od 0 [.i .i64,.i .i64,.i .i64,.i .i64,.i .i64,.i .i64,.i .i64,.i .i64,.i .i64,.i .i64,.i .i64] n/\s.e 1=.int .i64 j/\s.e 5=.int .i64 (i:Nat)/\s.my 0/\s.kn 0) n ?_ ?_
 .exact⟨0,k,by simp⟩
 .rintro m s ⟨i,j,rfl,hi,hj0,hj1,e0,e1,e5,hm,hk⟩
  by_cases h:i<n
  .have hw:∀q:Int,0<=q->q<=4611686018427387904->IntKind.i64.wrap q=q:=fun q h0 h1=>OB (by omega) (by omega)
   simp[e0,e1,e5,h,hm,hk,hw (j+1) (by omega) (by omega),hw (j+1+1) (by omega) (by omega),hw (j+1+1+1) (by omega) (by omega),hw (j+1+1+1+1) (by omega) (by omega),hw (j+1+1+1+1+1) (by omega) (by omega),hw (j+1+1+1+1+1+1) (by omega) (by omega),hw (j+1+1+1+1+1+1+1) (by omega) (by omega),hw (j+1+1+1+1+1+1+1+1) (by omega) (by omega),hw (j+1+1+1+1+1+1+1+1+1) (by omega) (by omega),hw (j+1+1+1+1+1+1+1+1+1+1) (by omega) (by omega),hw (j+1+1+1+1+1+1+1+1+1+1+1) (by omega) (by omega)]
   exact⟨n-(i+1),by omega,i+1,rfl,by omega,j+1+1+1+1+1+1+1+1+1+1+1,by omega,by simp;omega,rfl,by rw[hw _ (by omega) (by omega)];simp⟩
  .have:i=n:=by omega
   subst this
   simp[e0,e1,e5,kB,O0L]
   omega
def QW:L :=
 .seq (
 .reg [.mv 4 (.c (.int .i64 0))]) (
 .seq (
 .seq (
 .reg [.mv 5 (.c (.int .i64 0))]) (
 .blk 0 (
  .loop (
   .seq (
   .seq (
   .reg [.mv 6 (.t 5),.mv 7 (.t 0),.oln 8 (.t 7),.bi 9 .lss (.t 6) (.t 8)]) (
   .cond (.t 9) (
    .skip) (
    .exit 0))) (
   .seq (
   .blk 1 (
    .seq (
    .reg [.mv 12 (.t 0),.mv 13 (.t 5),.mv 14 (.t 1),.oia 15 (.t 12) (.t 13) 3,.ofa 16 (.t 15) 0,.ost (.t 16) (.t 14)]) (
    .seq (
    .reg [.mv 17 (.t 1),.bi 18 .add (.t 17) (.c (.int .i64 1)),.mv 1 (.t 18)]) (
    .seq (
    .reg [.mv 19 (.t 0),.mv 20 (.t 5),.mv 21 (.t 1),.oia 22 (.t 19) (.t 20) 3,.ofa 23 (.t 22) 1,.ost (.t 23) (.t 21)]) (
    .seq (
    .reg [.mv 24 (.t 1),.bi 25 .add (.t 24) (.c (.int .i64 1)),.mv 1 (.t 25)]) (
    .seq (
    .reg [.mv 26 (.t 0),.mv 27 (.t 5),.mv 28 (.t 1),.oia 29 (.t 26) (.t 27) 3,.ofa 30 (.t 29) 2,.ost (.t 30) (.t 28)]) (
    .reg [.mv 31 (.t 1),.bi 32 .add (.t 31) (.c (.int .i64 1)),.mv 1 (.t 32)]))))))) (
   .reg [.mv 10 (.t 5),.bi 11 .add (.t 10) (.c (.int .i64 1)),.mv 5 (.t 11)])))))) (
 .seq (
 .reg [.mv 33 (.t 1),.mv 4 (.t 33)]) (
 .ret)))
def ZV:List Rv:=[.t 4]
theorem L0q:QM Tryz.prog JM 2 QW ZV=true:=by kernel_rfl
set_option maxRecDepth 10000 in
theorem O19(n:Nat)(hn:n<=1048576)(k:Int)(h0:0<=k)(h1:k<=2251799813685248) :
  Hav Tryz.prog JM [.od 0 [.i .i64,.i .i64,.i .i64] n,.int .i64 k] (kB k (3*n)):=by
 refine U0s L0q rfl (X0q ?_)
 unfold QW ZV
 simp
 refine M0c (fun m s=>∃(i:Nat) (j:Int),m=n-i/\i<=n/\k<=j/\j<=k+3*i/\s.e 0=.od 0 [.i .i64,.i .i64,.i .i64] n/\s.e 1=.int .i64 j/\s.e 5=.int .i64 (i:Nat)/\s.my 0/\s.kn 0) n ?_ ?_
 .exact⟨0,k,by simp⟩
 .rintro m s ⟨i,j,rfl,hi,hj0,hj1,e0,e1,e5,hm,hk⟩
  by_cases h:i<n
  .have hw:∀q:Int,0<=q->q<=4611686018427387904->IntKind.i64.wrap q=q:=fun q h0 h1=>OB (by omega) (by omega)
   simp[e0,e1,e5,h,hm,hk,hw (j+1) (by omega) (by omega),hw (j+1+1) (by omega) (by omega),hw (j+1+1+1) (by omega) (by omega)]
   exact⟨n-(i+1),by omega,i+1,rfl,by omega,j+1+1+1,by omega,by simp;omega,rfl,by rw[hw _ (by omega) (by omega)];simp⟩
  .have:i=n:=by omega
   subst this
   simp[e0,e1,e5,kB,O0L]
   omega
def YW:L :=
 .seq (
 .reg [.mv 4 (.c (.int .i64 0))]) (
 .seq (
 .seq (
 .reg [.mv 5 (.c (.int .i64 0))]) (
 .blk 0 (
  .loop (
   .seq (
   .seq (
   .reg [.mv 6 (.t 5),.mv 7 (.t 0),.oln 8 (.t 7),.bi 9 .lss (.t 6) (.t 8)]) (
   .cond (.t 9) (
    .skip) (
    .exit 0))) (
   .seq (
   .blk 1 (
    .seq (
    .reg [.mv 12 (.t 0),.mv 13 (.t 5),.mv 14 (.t 1),.oia 15 (.t 12) (.t 13) 13,.ofa 16 (.t 15) 0,.ofa 17 (.t 16) 0,.ost (.t 17) (.t 14)]) (
    .seq (
    .reg [.mv 18 (.t 1),.bi 19 .add (.t 18) (.c (.int .i64 1)),.mv 1 (.t 19)]) (
    .seq (
    .reg [.mv 20 (.t 0),.mv 21 (.t 5),.mv 22 (.t 1),.oia 23 (.t 20) (.t 21) 13,.ofa 24 (.t 23) 0,.ofa 25 (.t 24) 1,.ost (.t 25) (.t 22)]) (
    .seq (
    .reg [.mv 26 (.t 1),.bi 27 .add (.t 26) (.c (.int .i64 1)),.mv 1 (.t 27)]) (
    .seq (
    .reg [.mv 28 (.t 0),.mv 29 (.t 5),.mv 30 (.t 1),.oia 31 (.t 28) (.t 29) 13,.ofa 32 (.t 31) 0,.ofa 33 (.t 32) 2,.ost (.t 33) (.t 30)]) (
    .seq (
    .reg [.mv 34 (.t 1),.bi 35 .add (.t 34) (.c (.int .i64 1)),.mv 1 (.t 35)]) (
    .seq (
    .reg [.mv 36 (.t 0),.mv 37 (.t 5),.mv 38 (.t 1),.oia 39 (.t 36) (.t 37) 13,.ofa 40 (.t 39) 0,.ofa 41 (.t 40) 3,.ofa 42 (.t 41) 0,.ost (.t 42) (.t 38)]) (
    .seq (
    .reg [.mv 43 (.t 1),.bi 44 .add (.t 43) (.c (.int .i64 1)),.mv 1 (.t 44)]) (
    .seq (
    .reg [.mv 45 (.t 0),.mv 46 (.t 5),.mv 47 (.t 1),.oia 48 (.t 45) (.t 46) 13,.ofa 49 (.t 48) 0,.ofa 50 (.t 49) 3,.ofa 51 (.t 50) 1,.ost (.t 51) (.t 47)]) (
    .seq (
    .reg [.mv 52 (.t 1),.bi 53 .add (.t 52) (.c (.int .i64 1)),.mv 1 (.t 53)]) (
    .seq (
    .reg [.mv 54 (.t 0),.mv 55 (.t 5),.mv 56 (.t 1),.oia 57 (.t 54) (.t 55) 13,.ofa 58 (.t 57) 0,.ofa 59 (.t 58) 3,.ofa 60 (.t 59) 2,.ost (.t 60) (.t 56)]) (
    .seq (
    .reg [.mv 61 (.t 1),.bi 62 .add (.t 61) (.c (.int .i64 1)),.mv 1 (.t 62)]) (
    .seq (
    .reg [.mv 63 (.t 0),.mv 64 (.t 5),.mv 65 (.t 1),.oia 66 (.t 63) (.t 64) 13,.ofa 67 (.t 66) 0,.ofa 68 (.t 67) 6,.ofa 69 (.t 68) 0,.ost (.t 69) (.t 65)]) (
    .seq (
    .reg [.mv 70 (.t 1),.bi 71 .add (.t 70) (.c (.int .i64 1)),.mv 1 (.t 71)]) (
    .seq (
    .reg [.mv 72 (.t 0),.mv 73 (.t 5),.mv 74 (.t 1),.oia 75 (.t 72) (.t 73) 13,.ofa 76 (.t 75) 0,.ofa 77 (.t 76) 6,.ofa 78 (.t 77) 1,.ost (.t 78) (.t 74)]) (
    .seq (
    .reg [.mv 79 (.t 1),.bi 80 .add (.t 79) (.c (.int .i64 1)),.mv 1 (.t 80)]) (
    .seq (
    .reg [.mv 81 (.t 0),.mv 82 (.t 5),.mv 83 (.t 1),.oia 84 (.t 81) (.t 82) 13,.ofa 85 (.t 84) 0,.ofa 86 (.t 85) 6,.ofa 87 (.t 86) 2,.ost (.t 87) (.t 83)]) (
    .seq (
    .reg [.mv 88 (.t 1),.bi 89 .add (.t 88) (.c (.int .i64 1)),.mv 1 (.t 89)]) (
    .seq (
    .reg [.mv 90 (.t 0),.mv 91 (.t 5),.mv 92 (.t 1),.oia 93 (.t 90) (.t 91) 13,.ofa 94 (.t 93) 0,.ofa 95 (.t 94) 9,.ost (.t 95) (.t 92)]) (
    .seq (
    .reg [.mv 96 (.t 1),.bi 97 .add (.t 96) (.c (.int .i64 1)),.mv 1 (.t 97)]) (
    .seq (
    .reg [.mv 98 (.t 0),.mv 99 (.t 5),.mv 100 (.t 1),.oia 101 (.t 98) (.t 99) 13,.ofa 102 (.t 101) 0,.ofa 103 (.t 102) 10,.ost (.t 103) (.t 100)]) (
    .seq (
    .reg [.mv 104 (.t 1),.bi 105 .add (.t 104) (.c (.int .i64 1)),.mv 1 (.t 105)]) (
    .seq (
    .reg [.mv 106 (.t 0),.mv 107 (.t 5),.mv 108 (.t 1),.oia 109 (.t 106) (.t 107) 13,.ofa 110 (.t 109) 11,.ost (.t 110) (.t 108)]) (
    .seq (
    .reg [.mv 111 (.t 1),.bi 112 .add (.t 111) (.c (.int .i64 1)),.mv 1 (.t 112)]) (
    .reg [.mv 113 (.t 0),.mv 114 (.t 5),.oia 115 (.t 113) (.t 114) 13,.ofa 116 (.t 115) 12,.old 117 (.t 116),.mv 118 (.t 1),.cf 119 Za 0 [(.t 117),(.t 118)],.mv 1 (.t 119)])))))))))))))))))))))))))) (
   .reg [.mv 10 (.t 5),.bi 11 .add (.t 10) (.c (.int .i64 1)),.mv 5 (.t 11)])))))) (
 .seq (
 .reg [.mv 120 (.t 1),.mv 4 (.t 120)]) (
 .ret)))
def OU:List Rv:=[.t 4]
theorem Q0q:QM Tryz.prog MM 2 YW OU=true:=by kernel_rfl
set_option maxRecDepth 10000 in
theorem Q19(n:Nat)(hn:n<=1048576)(k:Int)(h0:0<=k)(h1:k<=1125899906842624) :
  Hav Tryz.prog MM [.od 0 [.i .i64,.i .i64,.i .i64,.i .i64,.i .i64,.i .i64,.i .i64,.i .i64,.i .i64,.i .i64,.i .i64,.i .i64,.l [.i .i64]] n,.int .i64 k] (kB k (1048588*n)):=by
 refine U0s Q0q rfl (X0q ?_)
 unfold YW OU
 simp
 refine M0c (fun m s=>∃(i:Nat) (j:Int),m=n-i/\i<=n/\k<=j/\j<=k+1048588*i/\s.e 0=.od 0 [.i .i64,.i .i64,.i .i64,.i .i64,.i .i64,.i .i64,.i .i64,.i .i64,.i .i64,.i .i64,.i .i64,.i .i64,.l [.i .i64]] n/\s.e 1=.int .i64 j/\s.e 5=.int .i64 (i:Nat)/\s.my 0/\s.kn 0) n ?_ ?_
 .exact⟨0,k,by simp⟩
 .rintro m s ⟨i,j,rfl,hi,hj0,hj1,e0,e1,e5,hm,hk⟩
  by_cases h:i<n
  .have hw:∀q:Int,0<=q->q<=4611686018427387904->IntKind.i64.wrap q=q:=fun q h0 h1=>OB (by omega) (by omega)
   simp[e0,e1,e5,h,hm,hk,hw (j+1) (by omega) (by omega),hw (j+1+1) (by omega) (by omega),hw (j+1+1+1) (by omega) (by omega),hw (j+1+1+1+1) (by omega) (by omega),hw (j+1+1+1+1+1) (by omega) (by omega),hw (j+1+1+1+1+1+1) (by omega) (by omega),hw (j+1+1+1+1+1+1+1) (by omega) (by omega),hw (j+1+1+1+1+1+1+1+1) (by omega) (by omega),hw (j+1+1+1+1+1+1+1+1+1) (by omega) (by omega),hw (j+1+1+1+1+1+1+1+1+1+1) (by omega) (by omega),hw (j+1+1+1+1+1+1+1+1+1+1+1) (by omega) (by omega),hw (j+1+1+1+1+1+1+1+1+1+1+1+1) (by omega) (by omega)]
   intro n2 hn2
   refine O15 [] (Z0s n2 hn2 (j+1+1+1+1+1+1+1+1+1+1+1+1) (by omega) (by omega)) (by simp) (by simp[hm]) (by simp) ?_
   rintro q ⟨hq0,hq1⟩
   simp[e0,e5,hm,hk]
   exact⟨n-(i+1),by omega,i+1,rfl,by omega,q,by omega,by simp;omega,rfl,by rw[hw _ (by omega) (by omega)];simp⟩
  .have:i=n:=by omega
   subst this
   simp[e0,e1,e5,kB,O0L]
   omega
def ZW:L :=
 .seq (
 .reg [.bx 2 (.t 0),.mv 4 (.c (.int .i64 0))]) (
 .seq (
 .reg [.fa 5 (.t 2) 0,.ld 6 (.t 5) 1 false,.mv 7 (.t 1),.cf 8 Za 0 [(.t 6),(.t 7)],.mv 1 (.t 8)]) (
 .seq (
 .reg [.fa 9 (.t 2) 1,.ld 10 (.t 9) 1 false,.mv 11 (.t 1),.cf 12 XE 0 [(.t 10),(.t 11)],.mv 1 (.t 12)]) (
 .seq (
 .reg [.mv 13 (.t 1),.mv 4 (.t 13)]) (
 .ret))))
def WU:List Rv:=[.t 4]
theorem U0q:QM Tryz.prog OM 2 ZW WU=true:=by kernel_rfl
set_option maxRecDepth 10000 in
theorem U19(n1 n2:Nat)(hn1:n1<=1048576)(hn2:n2<=1048576)(k:Int)(h0:0<=k)(h1:k<=562949953421312) :
  Hav Tryz.prog OM [.agg [.od 0 [.i .i64] n1,.od 0 [.i .i64,.i .i64,.i .i64,.i .i64] n2],.int .i64 k] (kB k 5242880):=by
 refine U0s U0q rfl (X0q ?_)
 unfold ZW WU
 simp
 refine O15 [] (Z0s n1 hn1 k (by omega) (by omega)) (by simp) (by simp) (by simp) ?_
 rintro q0 ⟨hq0,hr0⟩
 simp
 refine O15 [] (L0Z n2 hn2 q0 (by omega) (by omega)) (by simp) (by simp) (by simp) ?_
 rintro q1 ⟨hq1,hr1⟩
 simp[kB,O0L]
 omega
def WP:L :=
 .seq (
 .reg [.bx 2 (.t 0),.mv 4 (.c (.int .i64 0))]) (
 .seq (
 .reg [.fa 5 (.t 2) 0,.ld 6 (.t 5) 2 true,.mv 7 (.t 1),.cf 8 OM 0 [(.t 6),(.t 7)],.mv 1 (.t 8)]) (
 .seq (
 .reg [.fa 9 (.t 2) 2,.ld 10 (.t 9) 1 false,.mv 11 (.t 1),.cf 12 VE 0 [(.t 10),(.t 11)],.mv 1 (.t 12)]) (
 .seq (
 .reg [.fa 13 (.t 2) 8,.ld 14 (.t 13) 1 false,.mv 15 (.t 1),.cf 16 LM 0 [(.t 14),(.t 15)],.mv 1 (.t 16)]) (
 .seq (
 .reg [.fa 17 (.t 2) 9,.ld 18 (.t 17) 1 false,.mv 19 (.t 1),.cf 20 MM 0 [(.t 18),(.t 19)],.mv 1 (.t 20)]) (
 .seq (
 .reg [.fa 21 (.t 2) 10,.ld 22 (.t 21) 1 false,.mv 23 (.t 1),.cf 24 JM 0 [(.t 22),(.t 23)],.mv 1 (.t 24)]) (
 .seq (
 .reg [.mv 25 (.t 1),.mv 4 (.t 25)]) (
 .ret)))))))
def VO:List Rv:=[.t 4]
theorem Q0k:QM Tryz.prog Mn 2 WP VO=true:=by kernel_rfl
set_option maxRecDepth 10000 in
theorem M0Z(n1 n2 n3 n4 n5 n6:Nat)(a b c d e:Int)(hn1:n1<=1048576)(hn2:n2<=1048576)(hn3:n3<=1048576)(hn4:n4<=1048576)(hn5:n5<=1048576)(hn6:n6<=1048576)(k:Int)(h0:0<=k)(h1:k<=562949953421312) :
  Hav Tryz.prog Mn [.agg [.od 0 [.i .i64] n1,.od 0 [.i .i64,.i .i64,.i .i64,.i .i64] n2,.od 0 [.b] n3,.int .i64 a,.int .i64 b,.int .i64 c,.int .i64 d,.int .i64 e,.od 0 [.i .i64,.i .i64,.i .i64,.i .i64,.i .i64,.i .i64,.i .i64,.i .i64,.i .i64,.i .i64,.i .i64] n4,.od 0 [.i .i64,.i .i64,.i .i64,.i .i64,.i .i64,.i .i64,.i .i64,.i .i64,.i .i64,.i .i64,.i .i64,.i .i64,.l [.i .i64]] n5,.od 0 [.i .i64,.i .i64,.i .i64] n6],.int .i64 k] (kB k 1099545182208):=by
 refine U0s Q0k rfl (X0q ?_)
 unfold WP VO
 simp
 refine O15 [] (U19 n1 n2 hn1 hn2 k (by omega) (by omega)) (by simp) (by simp) (by simp) ?_
 rintro q0 ⟨hq0,hr0⟩
 simp
 refine O15 [] (J0Z n3 hn3 q0 (by omega) (by omega)) (by simp) (by simp) (by simp) ?_
 rintro q1 ⟨hq1,hr1⟩
 simp
 refine O15 [] (W19 n4 hn4 q1 (by omega) (by omega)) (by simp) (by simp) (by simp) ?_
 rintro q2 ⟨hq2,hr2⟩
 simp
 refine O15 [] (Q19 n5 hn5 q2 (by omega) (by omega)) (by simp) (by simp) (by simp) ?_
 rintro q3 ⟨hq3,hr3⟩
 simp
 refine O15 [] (O19 n6 hn6 q3 (by omega) (by omega)) (by simp) (by simp) (by simp) ?_
 rintro q4 ⟨hq4,hr4⟩
 simp[kB,O0L]
 omega
@[simp] theorem ownt_IS (i:Nat)(l:List Int):Z03 i (l.map eI)=l.map eI:=VI (fun _=>rfl) l
@[simp] theorem ownt_BS (i:Nat)(l:List Int):Z03 i (l.map eB)=l.map eB:=VI (fun _=>rfl) l
@[simp] theorem V1Z (i:Nat)(l:List Bool):Z03 i (l.map eBo)=l.map eBo:=VI (fun _=>rfl) l
@[simp] theorem J1M (i:Nat)(l:List Node):Z03 i (l.map L2)=l.map L2:=VI (fun x=>by simp) l
@[simp] theorem M1S (i:Nat)(l:List Job):Z03 i (l.map eJob)=l.map eJob:=VI (fun x=>by simp) l
@[simp] theorem L1S (i:Nat)(l:List End):Z03 i (l.map eEnd)=l.map eEnd:=VI (fun x=>by simp) l
@[simp] theorem O1S (i:Nat)(g:Tag)(l:List Run):Z03 i (l.map (L0 g))=l.map (L0 (.own i)):=by
 refine Q18 i _ _ (fun x=>?_) l
 simp
def Qg(k:Int)(n:Nat):List Int:=(List.range n).map fun i=>k+(i:Nat)
def VW:L :=
 .seq (
 .reg [.mv 4 (.c (.int .i64 0))]) (
 .seq (
 .seq (
 .reg [.mv 5 (.c (.int .i64 0))]) (
 .blk 0 (
  .loop (
   .seq (
   .seq (
   .reg [.mv 6 (.t 5),.mv 7 (.t 0),.ln 8 (.t 7),.bi 9 .lss (.t 6) (.t 8)]) (
   .cond (.t 9) (
    .skip) (
    .exit 0))) (
   .seq (
   .blk 1 (
    .seq (
    .reg [.mv 12 (.t 0),.mv 13 (.t 5),.mv 14 (.t 1),.ia 15 (.t 12) (.t 13) 1,.st (.t 15) (.t 14) 1]) (
    .reg [.mv 16 (.t 1),.bi 17 .add (.t 16) (.c (.int .i64 1)),.mv 1 (.t 17)]))) (
   .reg [.mv 10 (.t 5),.bi 11 .add (.t 10) (.c (.int .i64 1)),.mv 5 (.t 11)])))))) (
 .seq (
 .reg [.mv 18 (.t 1),.mv 4 (.t 18)]) (
 .ret)))
def LU:List Rv:=[.t 4]
theorem O0q:QM Tryz.prog Za 2 VW LU=true:=by kernel_rfl
set_option maxRecDepth 10000 in
theorem Q1e(l:List Int)(k:Int)(h0:0<=k)(h1:k+l.length<=4611686018427387904) :
  Con Tryz.prog Za [.sref 0,.int .i64 k] [] [⟨1,l.map eI,false⟩] (ret1 (.int .i64 (k+l.length)) ((Qg k l.length).map eI)):=by
 refine Y1G [true] O0q rfl (by simp) fun _ _=>X0q ?_
 unfold VW LU
 simp
 refine M0c (fun m s=>∃i es,m=l.length-i/\i<=l.length/\s.e 0=.sref 1000000000/\s.e 1=.int .i64 (k+i)/\s.e 5=.int .i64 (i:Nat) /\
   s.rw 1000000000=some ⟨1,es,false⟩/\es=((Qg k l.length).map eI).take i++(l.map eI).drop i) l.length ?_ ?_
 .exact⟨0,l.map eI,by simp⟩
 .rintro m s ⟨i,es,rfl,hi,h0',h1',h5,hr,he⟩
  by_cases h:i<l.length
  .obtain⟨f1,f2,f3,f4⟩:=M1t _ _ (by simp[Qg]) i (by simpa using h) he
   simp at f1
   have w0:IntKind.i64.wrap (k+(i:Int)+1)=k+(i:Int)+1:=by rw[OB (by omega) (by omega)]
   simp[h0',h1',h5,hr,h,f1,f2]
   intro _
   refine⟨l.length-(i+1),by omega,i+1,by simp,by omega,by simp[w0];omega,by simp;rw[OB (by omega) (by omega)],?_⟩
   simpa[Qg,w0]using f4
  .have:i=l.length:=by omega
   subst this
   have hes:es=(Qg k l.length).map eI:=by rw[he,List.take_of_length_le (by simp[Qg]),List.drop_of_length_le (by simp),List.append_nil]
   have hel:es.length=l.length:=by rw[hes];simp[Qg]
   simp[h0',h1',h5,hr,hel]
   intro _
   refine L1r [] [some es] [] [] ?_
   simp[hr,hes,ret1]
def WW:L :=
 .seq (
 .reg [.mv 4 (.c (.int .i64 0))]) (
 .seq (
 .seq (
 .reg [.mv 5 (.c (.int .i64 0))]) (
 .blk 0 (
  .loop (
   .seq (
   .seq (
   .reg [.mv 6 (.t 5),.mv 7 (.t 0),.ln 8 (.t 7),.bi 9 .lss (.t 6) (.t 8)]) (
   .cond (.t 9) (
    .skip) (
    .exit 0))) (
   .seq (
   .blk 1 (
    .seq (
    .seq (
    .reg [.mv 12 (.t 0),.mv 13 (.t 5),.ia 14 (.t 12) (.t 13) 1,.ld 15 (.t 14) 1 false,.mv 16 (.t 1),.bi 17 .neq (.t 15) (.t 16)]) (
    .cond (.t 17) (
     .seq (
     .reg [.mv 4 (.c (.int .i64 (-1)))]) (
     .ret)) (
     .skip))) (
    .reg [.mv 18 (.t 1),.bi 19 .add (.t 18) (.c (.int .i64 1)),.mv 1 (.t 19)]))) (
   .reg [.mv 10 (.t 5),.bi 11 .add (.t 10) (.c (.int .i64 1)),.mv 5 (.t 11)])))))) (
 .seq (
 .reg [.mv 20 (.t 1),.mv 4 (.t 20)]) (
 .ret)))
def YV:List Rv:=[.t 4]
theorem J0q:QM Tryz.prog Zu 2 WW YV=true:=by kernel_rfl
set_option maxRecDepth 10000 in
theorem L0I(n:Nat)(k:Int)(h0:0<=k)(h1:k+n<=4611686018427387904) :
  Snd Tryz.prog Zu [.sl .rd 1 ((Qg k n).map eI),.int .i64 k] (.int .i64 (k+n)) []:=by
 refine O1q J0q rfl (by simp) (X0q ?_)
 unfold WW YV
 have hlen:(Qg k n).length=n:=by simp[Qg]
 have hget:∀i (h:i<(Qg k n).length),(Qg k n)[i]=k+(i:Nat):=by intro i h;simp[Qg]
 generalize Qg k n=l at hlen hget
 simp
 refine M0c (fun m s=>∃i,m=n-i/\i<=n/\s.e 0=.sl .rd 1 (l.map eI)/\s.e 1=.int .i64 (k+i)/\s.e 5=.int .i64 (i:Nat)) n ?_ ?_
 .exact⟨0,by simp⟩
 .rintro m s ⟨i,rfl,hi,h0',h1',h5⟩
  by_cases h:i<n
  .have hi':i<l.length:=by omega
   have w0:IntKind.i64.wrap (k+(i:Int)+1)=k+(i:Int)+1:=by rw[OB (by omega) (by omega)]
   simp[h0',h1',h5,h,hlen,hget,w0]
   intro _
   exact⟨n-(i+1),by omega,i+1,rfl,by omega,by omega,by rw[OB (by omega) (by omega)];omega⟩
  .have:i=n:=by omega
   subst this
   simp[h0',h1',h5,hlen]
@[simp] theorem beq_10:Nat.beq 1 0=false:=rfl
@[simp] theorem beq_01:Nat.beq 0 1=false:=rfl
theorem X0g{s:State}(hS:SizedS s):Snd Tryz.prog Yg [Q2 .rd s] (Q2 .nw s) []:=M0C (L0C hS)
theorem X1x{s:State}(hS:SizedS s):Snd Tryz.prog MT [Q2 .rd s,Q2 .rd s] (.bool true) []:=Z0E (Z0o hS)
def O1u(s:State):AV:=.agg [.od 0 [.i .i64] s.topo.parents.length,.od 0 [.i .i64,.i .i64,.i .i64,.i .i64] s.topo.nodes.length,.od 0 [.b] s.up.length,.int .i64 s.lic.a,.int .i64 s.lic.b,.int .i64 s.lic.c,.int .i64 s.depth,.int .i64 s.now,
 .od 0 [.i .i64,.i .i64,.i .i64,.i .i64,.i .i64,.i .i64,.i .i64,.i .i64,.i .i64,.i .i64,.i .i64] s.queue.length,.od 0 [.i .i64,.i .i64,.i .i64,.i .i64,.i .i64,.i .i64,.i .i64,.i .i64,.i .i64,.i .i64,.i .i64,.i .i64,.l [.i .i64]] s.runs.length,.od 0 [.i .i64,.i .i64,.i .i64] s.ends.length]
theorem U1e{s:State}(hS:SizedS s)(k:Int)(h0:0<=k)(h1:k<=562949953421312):Hav Tryz.prog Mn [O1u s,.int .i64 k] (kB k 1099545182208) :=
 have:=hS.jobs
 M0Z s.topo.parents.length s.topo.nodes.length s.up.length s.queue.length s.runs.length s.ends.length s.lic.a s.lic.b s.lic.c s.depth s.now hS.parents hS.nodes hS.up (by omega) (by omega) hS.ends k h0 h1
theorem W1K{s:State}(hS:SizedS s)(i:Nat)(k:Int):hvLs i [Q2 (.own i) s,.int .i64 k] [O1u s,.int .i64 k]:=by
  have:=hS.jobs
  simp[O1u]
  exact⟨⟨_,_,_,⟨rfl,rfl,rfl⟩,by simp,.inr hS.parents⟩,⟨_,_,_,⟨rfl,rfl,rfl⟩,by simp,.inr hS.nodes⟩,⟨_,_,_,⟨rfl,rfl,rfl⟩,by simp,.inr hS.up⟩,⟨_,_,_,⟨rfl,rfl,rfl⟩,by simp,.inr (by omega)⟩,
    ⟨_,_,_,⟨rfl,rfl,rfl⟩,by simp,.inr ⟨by omega,fun x hx=>.inr (hS.run x hx)⟩⟩,⟨_,_,_,⟨rfl,rfl,rfl⟩,by simp,.inr hS.ends⟩⟩
theorem W1z{a:AV}(h:U0W.okV a):∃s,AE a (Q2 .rd s)/\Z0k s:=Ua.okV_st W1J h
def Qu:L :=
 .seq (
 .reg [.bx 2 (.t 0),.bx 3 (.t 1),.mv 4 (.c (.bool false))]) (
 .seq (
 .reg [.mv 5 (.c (.int .i64 1048576))]) (
 .seq (
 .reg [.ld 16 (.t 2) 11 true,.mv 17 (.t 5),.cq 18 W0d [(.t 16),(.t 17)],.mv 5 (.t 18)]) (
 .seq (
 .seq (
 .reg [.mv 19 (.t 5),.bi 20 .lss (.t 19) (.c (.int .i64 0))]) (
 .cond (.t 20) (
  .seq (
  .reg [.mv 4 (.c (.bool true))]) (
  .ret)) (
  .skip))) (
 .seq (
 .rq 10 [.ld 22 (.t 2) 11 true,.cq 23 Yg [(.t 22)],.ld 24 (.t 3) 11 true,.cq 25 Oe [(.t 24)],.cq 26 Y0d [(.t 23),(.t 25)],.mv 21 (.t 26),.ex 27 (.t 21) 0,.ex 28 (.t 21) 1,.mv 6 (.t 27),.mv 7 (.t 28)]) (
 .seq (
 .reg [.ld 29 (.t 2) 11 true,.co 30 Yg [(.t 29)],.al 8 [.nl,.nl,.nl,.int .i64 0,.int .i64 0,.int .i64 0,.int .i64 0,.int .i64 0,.nl,.nl,.nl],.st (.t 8) (.t 30) 11]) (
 .seq (
 .rz [] [(0,false,.ld 32 (.t 8) 11 true),
  (1,false,.ld 33 (.t 3) 11 true),
  (2,false,.cq 34 Oe [(.t 33)]),
  (3,true,.cl 35 JT [(.t 32),(.t 34)]),
  (4,true,.mv 31 (.t 35)),
  (6,false,.ex 37 (.t 31) 1),
  (5,true,.ex 36 (.t 31) 0),
  (7,true,.mv 9 (.t 36))]
  [.mv 10 (.t 37)]) (
 .seq (
 .seq (
 .reg [.mv 38 (.t 9),.mv 39 (.t 6),.cq 40 Qk [(.t 38),(.t 39)],.un 41 (.t 40),.mv 42 (.t 41),.g 42 false (.mv 43 (.t 10)),.g 42 false (.mv 44 (.t 7)),.g 42 false (.eb 45 true (.t 43) (.t 44)),.pk 46 (.t 42) (.c (.bool true)) (.t 45)]) (
 .cond (.t 46) (
  .seq (
  .reg [.mv 4 (.c (.bool false))]) (
  .ret)) (
  .skip))) (
 .seq (
 .seq (
 .rq 5 [.ld 47 (.t 8) 11 true,.ld 48 (.t 2) 11 true,.cq 49 Yg [(.t 48)],.cq 50 MT [(.t 47),(.t 49)],.un 51 (.t 50)]) (
 .cond (.t 51) (
  .seq (
  .reg [.mv 4 (.c (.bool false))]) (
  .ret)) (
  .skip))) (
 .seq (
 .reg [.mv 11 (.c (.int .i64 1))]) (
 .seq (
 .reg [.ld 52 (.t 8) 11 true,.mv 53 (.t 11),.cf 54 Mn 0 [(.t 52),(.t 53)],.mv 11 (.t 54)]) (
 .seq (
 .seq (
 .reg [.mv 55 (.t 11),.bi 56 .lss (.t 55) (.c (.int .i64 0)),.mv 57 (.t 56),.g 57 false (.mv 58 (.t 9)),.g 57 false (.mv 59 (.t 6)),.g 57 false (.cq 60 Qk [(.t 58),(.t 59)]),.g 57 false (.un 61 (.t 60)),.pk 62 (.t 57) (.c (.bool true)) (.t 61),.mv 63 (.t 62),.g 63 false (.mv 64 (.t 10)),.g 63 false (.mv 65 (.t 7)),.g 63 false (.eb 66 true (.t 64) (.t 65)),.pk 67 (.t 63) (.c (.bool true)) (.t 66)]) (
 .cond (.t 67) (
  .seq (
  .reg [.mv 4 (.c (.bool false))]) (
  .ret)) (
  .skip))) (
 .seq (
 .reg [.mv 12 (.c (.int .i64 1))]) (
 .seq (
 .reg [.mv 68 (.t 9),.mv 69 (.t 12),.cm 70 Za [(.t 68),(.t 69)],.mv 12 (.t 70)]) (
 .seq (
 .reg [.mv 13 (.c (.int .i64 1))]) (
 .seq (
 .reg [.mv 71 (.t 9),.mv 72 (.t 13),.cq 73 Zu [(.t 71),(.t 72)],.mv 13 (.t 73)]) (
 .seq (
 .seq (
 .reg [.mv 74 (.t 13),.bi 75 .lss (.t 74) (.c (.int .i64 0))]) (
 .cond (.t 75) (
  .seq (
  .reg [.mv 4 (.c (.bool false))]) (
  .ret)) (
  .skip))) (
 .seq (
 .seq (
 .reg [.mv 76 (.t 13),.mv 77 (.t 12),.bi 78 .neq (.t 76) (.t 77)]) (
 .cond (.t 78) (
  .seq (
  .reg [.mv 4 (.c (.bool false))]) (
  .ret)) (
  .skip))) (
 .seq (
 .rq 10 [.ld 80 (.t 2) 11 true,.cq 81 Yg [(.t 80)],.ld 82 (.t 3) 11 true,.cq 83 Oe [(.t 82)],.cq 84 JT [(.t 81),(.t 83)],.mv 79 (.t 84),.ex 85 (.t 79) 0,.ex 86 (.t 79) 1,.mv 14 (.t 85),.mv 15 (.t 86)]) (
 .seq (
 .seq (
 .reg [.mv 87 (.t 14),.mv 88 (.t 6),.cq 89 Qk [(.t 87),(.t 88)],.un 90 (.t 89),.mv 91 (.t 90),.g 91 false (.mv 92 (.t 15)),.g 91 false (.mv 93 (.t 7)),.g 91 false (.eb 94 true (.t 92) (.t 93)),.pk 95 (.t 91) (.c (.bool true)) (.t 94)]) (
 .cond (.t 95) (
  .seq (
  .reg [.mv 4 (.c (.bool false))]) (
  .ret)) (
  .skip))) (
 .seq (
 .reg [.mv 13 (.c (.int .i64 1))]) (
 .seq (
 .reg [.mv 96 (.t 9),.mv 97 (.t 13),.cq 98 Zu [(.t 96),(.t 97)],.mv 13 (.t 98)]) (
 .seq (
 .seq (
 .reg [.mv 99 (.t 13),.bi 100 .lss (.t 99) (.c (.int .i64 0))]) (
 .cond (.t 100) (
  .seq (
  .reg [.mv 4 (.c (.bool false))]) (
  .ret)) (
  .skip))) (
 .seq (
 .seq (
 .reg [.mv 101 (.t 13),.mv 102 (.t 12),.bi 103 .neq (.t 101) (.t 102)]) (
 .cond (.t 103) (
  .seq (
  .reg [.mv 4 (.c (.bool false))]) (
  .ret)) (
  .skip))) (
 .seq (
 .reg [.mv 4 (.c (.bool true))]) (
 .ret)))))))))))))))))))))))))
def Uu:List Rv:=[.t 4]
theorem Y03:QM Tryz.prog Jb 2 Qu Uu=true:=by kernel_rfl
set_option maxRecDepth 10000 in
set_option maxHeartbeats 1000000 in
theorem U1d(j:Job):Snd Tryz.prog Oe [eJob j] (eJob j) []:=VY j
theorem Q0y{s:State}(hf:Z0k s)(j:Job):Snd Tryz.prog Jb [Q2 .rd s,eJob j] (.bool true) []:=by
 obtain⟨r,h1,h2⟩:=W0D hf
 refine O1q Y03 rfl (by simp) (X0q ?_)
 unfold Qu Uu
 simp
 refine Q0f (Q0D h1) (by simp[St.args]) ?_
 simp
 intro hr
 have hS:SizedS s:=h2.resolve_left (by omega)
 obtain⟨⟨ns,b⟩,q2,q1,q4⟩:=L1o hS.jobs j
 simp only at q4
 refine Q0f (X0g hS) (by simp[St.args]) ?_
 simp
 refine Q0f (U1d j) (by simp[St.args]) ?_
 simp
 refine Q0f (V0A q2) (by simp[St.args]) ?_
 simp
 refine do_co 0 (X0g hS) (by simp[St.args]) (by simp) (by simp) ?_
 simp
 refine Q0f (U1d j) (by simp[St.args]) ?_
 simp
 refine X1W (O05 q1) (by simp[St.args]) (fun k hk=>by simp[AV.ren,renL,AV.dead,V4,Ne.symm hk]) (by simp) (by omega) ?_
 simp
 refine Q0f (Xl (Qf (l:=ns) (by omega))) (by simp[St.args]) ?_
 simp
 refine Q0f (X0g hS) (by simp[St.args]) ?_
 simp
 refine Q0f (X1x hS) (by simp[St.args]) ?_
 simp
 refine O15 [36000] (U1e hS 1 (by omega) (by omega)) (by simpa using W1K hS 0 1) (by simp) (by simp) ?_
 rintro k ⟨hk0,hk1⟩
 have hkn:¬ k<0:=by omega
 simp[hkn]
 refine Q0f (Xl (Qf (l:=ns) (by omega))) (by simp[St.args]) ?_
 simp
 refine V1W [] [36000] (Q1e ns 1 (by omega) (by omega)) rfl (by simp) (by simp) (by simp) ?_
 rintro _ _ _ _ _ _ _ ⟨rfl,rfl,rfl,rfl⟩
 have hk2:¬ (1+(ns.length:Int)<0):=by omega
 simp
 refine Q0f (L0I ns.length 1 (by omega) (by omega)) (by simp[St.args]) ?_
 simp[hk2]
 refine Q0f (X0g hS) (by simp[St.args]) ?_
 simp
 refine Q0f (U1d j) (by simp[St.args]) ?_
 simp
 refine Q0f (O05 q1) (by simp[St.args]) ?_
 simp
 refine Q0f (Xl (Qf (l:=ns) (by omega))) (by simp[St.args]) ?_
 simp
 refine Q0f (L0I ns.length 1 (by omega) (by omega)) (by simp[St.args]) ?_
 simp[hk2]
theorem L1M{a:AV}(h:Q1l.okV a):∃j,AE a (eJob j)/\Y1k j:=Ua.okV_st O1J h
theorem Q0r(xs:List AV)(h:okVs [U0W,Q1l] xs):Snd Tryz.prog Jb xs (.bool true) []:=by
 obtain⟨a,_,rfl,ha,b,_,rfl,hb,rfl⟩:=h
 obtain⟨s,ha,hf⟩:=W1z ha
 obtain⟨j,hb,_⟩:=L1M hb
 exact(Q0y hf j).wkS (.cons ha (.cons hb .nil))
end Go.Proofs.YtodafdoninblmaaGreat
