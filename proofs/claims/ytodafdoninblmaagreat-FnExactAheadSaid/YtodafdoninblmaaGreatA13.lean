/-
  Lemmas, part 13.
-/
import Derived.Test.YtodafdoninblmaaGreatA12
namespace Go.Proofs.YtodafdoninblmaaGreat
open Go Go.RowKit Eng
def W0M:L :=
.seq (rE 4 (cB false))
 (.seq (sR [mV 7 0,.ln 8 7,.mv 9 (kI 0)]
 (.blk 0 (.loop (.gw (sR [bI 10 .lss 9 8]
 (.seq (.cond 10 .skip
 (.exit 0))
 (.seq (.blk 1 (sR [iA 11 7 9 3,lT 12 11 3,.al 6 [.int .i64 0,.int .i64 0,.int .i64 0],.st 6 12 3]
 (sR [fA 13 6 0,lF 14 13 1,mV 15 1,bI 16 .eql 14 15]
 (.cond 16 (.seq (rE 4 (cB true))
 gR)
 .skip))))
 (.reg [.bi 17 .add 9 (kI 1),mV 9 17]))))))))
 (.seq (rE 4 (cB false))
 gR))
def O05(id2:Int)(x4:Seen)(_:Nat)(_:Unit)(k4:Unit->Option Bool):Option Bool :=
 bif (x4.id==id2)then(some true)else(k4 ())
def OE(_:Unit):Option Bool :=
 some false
def Oq(l1:List Seen)(id2:Int):Option Bool :=
 rgl (O05 id2) OE l1 0 ()
theorem Z08{l1:List Seen}{id2:Int}{r:Bool}(H:Oq l1 id2=some r):Snd Tryz.prog JW [rV 3 (l1.map V9),iV id2] (.bool r) []:=by
 refine wS W0M [.t 4] ?_
 unfold Oq at H
 refine wG [.u 8 (.ln _ _ fun _=>lm l1 V9)] fun q3=>?_
 refine wR (fun(i4:Nat) (v4:Unit)=>⟨[(1,iV id2),(7,rV 3 (l1.map V9)),(8,iV (l1.length:Int)),(9,iV (i4:Int))],[],[],[]⟩) H (fun i4 x4 v4 I m k4 hxv4 hiv4 H N20=>?_) (fun v4 I m H=>?_)
 .unfold O05 at H
  refine wP ?_
  refine wt (ltT hiv4) ?_
  refine wH [.u 11 (.ix _ _ _ fun _=>Y0 V9 (W0 hxv4))] ?_
  refine V0 H ?_ ?_<;>intro H
  .obtain rfl:=sI H
   exact wP (wE [(4,.d)])
  .refine wH [.w 17 (wi .i64 rfl hiv4 q3.1)] ?_
   exact wT (N20 () H)
 .unfold OE at H
  refine wP ?_
  refine wf (ltF l1.length) ?_
  obtain rfl:=sI H
  exact wP (wE [(4,.d)])
def O0v:L :=
sR [.bx 3 1,.mv 4 (.c (.nl))]
 (.seq (sR [fA 7 3 9,lF 8 7 1,.ln 9 8,.mv 10 (kI 0)]
 (.blk 0 (.loop (.gw (sR [bI 11 .lss 10 9]
 (.seq (.cond 11 .skip
 (.exit 0))
 (.seq (.blk 1 (sR [iA 12 8 10 13,lT 13 12 13,.al 6 [.int .i64 0,.int .i64 0,.int .i64 0,.int .i64 0,.int .i64 0,.int .i64 0,.int .i64 0,.int .i64 0,.int .i64 0,.int .i64 0,.int .i64 0,.int .i64 0,.nl],.st 6 13 13]
 (sR [mV 14 0,fA 15 6 0,fA 16 15 0,lF 17 16 1,cQ 18 JW [14,17],.un 19 18]
 (.cond 19 (.reg [mV 20 0,fA 21 6 0,fA 22 21 0,lF 23 22 1,fA 24 6 11,lF 25 24 1,fA 26 6 11,lF 27 26 1,fA 28 6 0,fA 29 28 9,lF 30 29 1,bI 31 .add 27 30,.bd 32 [.int .i64 0,.int .i64 0,.int .i64 0] [(0,1,23),(1,1,25),(2,1,31)],.bs 33 3 [32] false,.ap 34 20 33 3 24,mV 0 34])
 .skip))))
 (.reg [.bi 35 .add 10 (kI 1),mV 10 35]))))))))
 (sR [mV 36 0,mV 4 36]
 gR))
def Y0u:List Rv:=[.t 4]
theorem M0x:MA Tryz.prog Ya 2 O0v Y0u=true:=by kernel_rfl
def OQ(x4:Run)(_:Nat)(v4:(List Seen))(k4:(List Seen)->Option (List Seen)):Option (List Seen) :=
 (Oq v4 x4.job.id).bind fun b5=>bif (!b5)then((appL 24 v4 [(Seen.mk x4.job.id x4.t (w64 (x4.t+x4.job.wall)))]).bind fun xs6=>k4 xs6)else(k4 v4)
def Js(v4:(List Seen)):Option (List Seen) :=
 some v4
def Ym(_:List Seen)(s2:State):Option (List Seen) :=
 rgl OQ Js s2.runs 0 []
set_option maxRecDepth 20000 in
theorem X0t{l1:List Seen}{s2:State}{r:(List Seen)}(H:Ym l1 s2=some r):ConD Tryz.prog Ya [.nl,Y2 .rd s2] [] [] (.sref 0) [] [] [(3,r.map V9)]:=by
 refine Y1x [] M0x rfl (by kernel_rfl) ?_
 unfold Ym at H
 refine wG [.u 9 (.ln _ _ fun _=>lm s2.runs (J0 .rd))] fun q3=>?_
 refine Q0c (fun(i4:Nat) (v4:(List Seen))=>⟨[(0,.sref 208000),(8,rV 13 (s2.runs.map (J0 .rd))),(9,iV (s2.runs.length:Int)),(10,iV (i4:Int))],[],[],[(208000,⟨3,v4.map V9,false⟩)]⟩) [(0,.z 208000)] [] [(208000,(none,3))] [] (by kernel_rfl) (by kernel_rfl) H (fun i4 x4 v4 I m k4 hxv4 hiv4 H N18=>?_) (fun v4 I m H=>?_)
 .unfold OQ at H
  refine wP ?_
  refine wt (ltT hiv4) ?_
  obtain⟨b5,h5,H⟩:=bB H
  refine wH [.u 12 (.ix _ _ _ fun _=>Y0 (J0 .rd) (W0 hxv4)),.c 18 (Z08 h5)] ?_
  refine V0 H ?_ ?_<;>intro H
  .obtain⟨xs6,h6,H⟩:=bB H
   refine wH [.u 34 (.ap _ _ _ _ fun _=>Q0 V9 h6),.w 35 (wi .i64 rfl hiv4 q3.1)] ?_
   exact wT (N18 _ H)
  .refine wH [.w 35 (wi .i64 rfl hiv4 q3.1)] ?_
   exact wT (N18 _ H)
 .unfold Js at H
  refine wP ?_
  refine wf (ltF s2.runs.length) ?_
  refine wP ?_
  obtain rfl:=sI H
  exact O0c [(4,.d)] [] [(208000,some 208000,0)] [] [208000] (by kernel_rfl)
def M0v:L :=
sR [.bx 3 1,.mv 4 (.c (.nl))]
 (.seq (sR [fA 7 3 9,lF 8 7 1,.ln 9 8,.mv 10 (kI 0)]
 (.blk 0 (.loop (.gw (sR [bI 11 .lss 10 9]
 (.seq (.cond 11 .skip
 (.exit 0))
 (.seq (.blk 1 (sR [iA 12 8 10 13,lT 13 12 13,.al 6 [.int .i64 0,.int .i64 0,.int .i64 0,.int .i64 0,.int .i64 0,.int .i64 0,.int .i64 0,.int .i64 0,.int .i64 0,.int .i64 0,.int .i64 0,.int .i64 0,.nl],.st 6 13 13]
 (sR [mV 14 0,fA 15 6 0,fA 16 15 0,lF 17 16 1,cQ 18 JW [14,17],.un 19 18]
 (.cond 19 (.reg [mV 20 0,fA 21 6 0,fA 22 21 0,lF 23 22 1,fA 24 6 11,lF 25 24 1,fA 26 6 11,lF 27 26 1,fA 28 6 0,fA 29 28 9,lF 30 29 1,bI 31 .add 27 30,.bd 32 [.int .i64 0,.int .i64 0,.int .i64 0] [(0,1,23),(1,1,25),(2,1,31)],.bs 33 3 [32] false,.ap 34 20 33 3 24,mV 0 34])
 .skip))))
 (.reg [.bi 35 .add 10 (kI 1),mV 10 35]))))))))
 (sR [mV 36 0,mV 4 36]
 gR))
def X0u:List Rv:=[.t 4]
theorem L0x:MA Tryz.prog Ya 2 M0v X0u=true:=by kernel_rfl
def X8(x4:Run)(_:Nat)(v4:(List Seen))(k4:(List Seen)->Option (List Seen)):Option (List Seen) :=
 (Oq v4 x4.job.id).bind fun b5=>bif (!b5)then((appL 24 v4 [(Seen.mk x4.job.id x4.t (w64 (x4.t+x4.job.wall)))]).bind fun xs6=>k4 xs6)else(k4 v4)
def MQ(v4:(List Seen)):Option (List Seen) :=
 some v4
def Xm(l1:List Seen)(s2:State):Option (List Seen) :=
 rgl X8 MQ s2.runs 0 l1
set_option maxRecDepth 20000 in
theorem V0t{l1:List Seen}{s2:State}{r:(List Seen)}(H:Xm l1 s2=some r):ConD Tryz.prog Ya [.sref 0,Y2 .rd s2] [] [(3,l1.map V9)] (.sref 1) [] [none] [(3,r.map V9)]:=by
 refine Y1x [false] L0x rfl (by kernel_rfl) ?_
 unfold Xm at H
 refine wG [.u 9 (.ln _ _ fun _=>lm s2.runs (J0 .rd))] fun q3=>?_
 refine wR (fun(i4:Nat) (v4:(List Seen))=>⟨[(0,.sref 500000000),(8,rV 13 (s2.runs.map (J0 .rd))),(9,iV (s2.runs.length:Int)),(10,iV (i4:Int))],[],[],[(500000000,⟨3,v4.map V9,false⟩)]⟩) H (fun i4 x4 v4 I m k4 hxv4 hiv4 H N18=>?_) (fun v4 I m H=>?_)
 .unfold X8 at H
  refine wP ?_
  refine wt (ltT hiv4) ?_
  obtain⟨b5,h5,H⟩:=bB H
  refine wH [.u 12 (.ix _ _ _ fun _=>Y0 (J0 .rd) (W0 hxv4)),.c 18 (Z08 h5)] ?_
  refine V0 H ?_ ?_<;>intro H
  .obtain⟨xs6,h6,H⟩:=bB H
   refine wH [.u 34 (.ap _ _ _ _ fun _=>Q0 V9 h6),.w 35 (wi .i64 rfl hiv4 q3.1)] ?_
   exact wT (N18 _ H)
  .refine wH [.w 35 (wi .i64 rfl hiv4 q3.1)] ?_
   exact wT (N18 _ H)
 .unfold MQ at H
  refine wP ?_
  refine wf (ltF s2.runs.length) ?_
  refine wP ?_
  obtain rfl:=sI H
  exact O0c [(4,.d)] [] [(500000000,some 500000000,0)] [] [500000000] (by kernel_rfl)
def Z1a:L :=
sR [.bx 1 0,.mv 2 (.c (.nl)),.al 3 [.nl,.nl,.nl,.int .i64 0,.int .i64 0,.int .i64 0,.int .i64 0,.int .i64 0,.nl,.nl,.nl],.mv 4 (cB false)]
 (.seq (sR [lT 8 1 11,cQ 9 QX [8],.un 10 9]
 (.cond 10 (sR [.bd 11 [.nl,.nl,.nl,.int .i64 0,.int .i64 0,.int .i64 0,.int .i64 0,.int .i64 0,.nl,.nl,.nl] [],.mv 2 (.c (.nl)),.st 3 11 11,.mv 4 (cB false)]
 gR)
 .skip))
 (sR [lT 12 1 11,cQ 13 ZX [12],.st 1 13 11]
 (sR [lT 14 1 11,.cm 15 Ya [(.c (.nl)),14],mV 5 15]
 (.seq (.blk 0 (.loop (.gw (.seq (sR [lT 16 1 11,cQ 17 On [16],.bi 18 .geq 17 (kI 0)]
 (.cond 18 .skip
 (.exit 0)))
 (.blk 1 (.seq (.rz [(7,6,[.nl,.nl,.nl,.int .i64 0,.int .i64 0,.int .i64 0,.int .i64 0,.int .i64 0,.nl,.nl,.nl])] [(0,false,lT 20 1 11),
 (1,false,lT 21 1 11),
 (2,false,cQ 22 On [21]),
 (3,false,cQ 23 W0A [20,22]),
 (4,false,mV 19 23),
 (5,false,eX 24 19 0),
 (6,false,eX 25 19 1)]
 [.st 6 24 11,mV 7 25])
 (.seq (sR [mV 26 7,.un 27 26]
 (.cond 27 (sR [.bd 28 [.nl,.nl,.nl,.int .i64 0,.int .i64 0,.int .i64 0,.int .i64 0,.int .i64 0,.nl,.nl,.nl] [],.mv 2 (.c (.nl)),.st 3 28 11,.mv 4 (cB false)]
 gR)
 .skip))
 (sR [lT 29 6 11,.st 1 29 11]
 (.reg [mV 30 5,lT 31 1 11,.cm 32 Ya [30,31],mV 5 32])))))))))
 (.seq (.rq 3 [mV 33 5,lT 34 1 11,mV 2 33,.st 3 34 11,.mv 4 (cB true)])
 gR)))))
def Vm(v5:State×(List Seen))(k5:(State×(List Seen))->Option ((List Seen)×State×Bool)):Option ((List Seen)×State×Bool) :=
 (Me v5.1).bind fun n6=>bif (decide (0<=n6))then((Me v5.1).bind fun n7=>(Jx v5.1 n7).bind fun y8=>bif (!y8.2)then(some ([],(State.mk (Topo.mk [] []) [] (Vec.mk 0 0 0) 0 0 [] [] []),false))else((Xm v5.2 y8.1).bind fun y9=>k5 (y8.1,y9)))else(some (v5.2,v5.1,true))
def VY(s1:State):Option ((List Seen)×State×Bool) :=
 (Qr s1).bind fun b2=>bif (!b2)then(some ([],(State.mk (Topo.mk [] []) [] (Vec.mk 0 0 0) 0 0 [] [] []),false))else((Jq s1).bind fun y3=>(Ym [] y3).bind fun y4=>whl Vm 9223372036854775807 (y3,y4))
theorem Z15{s1:State}{r:(List Seen)×State×Bool}(H:VY s1=some r):Snd Tryz.prog Q0A [Y2 .rd s1] (.tup [nV 3 (r.1.map V9),Y2 .nw r.2.1,.bool r.2.2]) []:=by
 refine wS Z1a [.t 2,.c 3 11 true,.t 4] ?_
 unfold VY at H
 obtain⟨b2,h2,H⟩:=bB H
 refine wH [.c 9 (J08 h2)] ?_
 refine V0 H ?_ ?_<;>intro H
 .refine wP ?_
  replace H:=sI H;subst H
  exact wN [(2,.n 3),(3,.d),(4,.d)] [(3,[.n 1,.n 4,.n 1,.d,.d,.d,.d,.d,.n 11,.n 13,.n 3])] [] [] [] [⟨_,W0u ([]:List Seen)⟩,⟨_,nw_I ([]:List Int)⟩,⟨_,V3 ([]:List Node)⟩,⟨_,Qf ([]:List Bool)⟩,⟨_,Wi ([]:List Job)⟩,⟨_,Qi ([]:List Run)⟩,⟨_,WD ([]:List End)⟩]
 .obtain⟨y3,h3,H⟩:=bB H
  obtain⟨y4,h4,H⟩:=bB H
  refine wH [.c 13 (Y08 h3),.u 15 (.cw Ya [] [] [] [] [.nl,Y2 .nw y3] _ _ _ _ _ (GEs.of [true,false] (by simp)) (by simp) (by simp) (by simp) (fun _=>X0t h4))] ?_
  refine wW (fun(v5:State×(List Seen))=>⟨[(1,.ptr 1 0),(3,.ptr 3 0),(5,.sref 16000)],[],[(1,(Y2 .nw v5.1).cells),(3,[.nl,.nl,.nl,iV 0,iV 0,iV 0,iV 0,iV 0,.nl,.nl,.nl])],[(16000,⟨3,v5.2.map V9,false⟩)]⟩) H (fun v5 I m k5 H N30=>?_)
  unfold Vm at H
  obtain⟨n6,h6,H⟩:=bB H
  refine wH [.u 17 (.call _ _ _ _ _ (AEs.of (xs:=[.agg [rV 1 (v5.1.topo.parents.map eI),rV 4 (v5.1.topo.nodes.map Q1),rV 1 (v5.1.up.map eBo),iV v5.1.lic.a,iV v5.1.lic.b,iV v5.1.lic.c,iV v5.1.depth,iV v5.1.now,rV 11 (v5.1.queue.map eJob),rV 13 (v5.1.runs.map (J0 .nw)),rV 3 (v5.1.ends.map eEnd)]]) (by simp)) (fun _=>Zt h6))] ?_
  refine V0 H ?_ ?_<;>intro H
  .obtain⟨n7,h7,H⟩:=bB H
   obtain⟨y8,h8,H⟩:=bB H
   refine wH [.u 22 (.call _ _ _ _ _ (AEs.of (xs:=[.agg [rV 1 (v5.1.topo.parents.map eI),rV 4 (v5.1.topo.nodes.map Q1),rV 1 (v5.1.up.map eBo),iV v5.1.lic.a,iV v5.1.lic.b,iV v5.1.lic.c,iV v5.1.depth,iV v5.1.now,rV 11 (v5.1.queue.map eJob),rV 13 (v5.1.runs.map (J0 .nw)),rV 3 (v5.1.ends.map eEnd)]]) (by simp)) (fun _=>Zt h7)),.u 23 (.call _ _ _ _ _ (AEs.of (xs:=[.agg [rV 1 (v5.1.topo.parents.map eI),rV 4 (v5.1.topo.nodes.map Q1),rV 1 (v5.1.up.map eBo),iV v5.1.lic.a,iV v5.1.lic.b,iV v5.1.lic.c,iV v5.1.depth,iV v5.1.now,rV 11 (v5.1.queue.map eJob),rV 13 (v5.1.runs.map (J0 .nw)),rV 3 (v5.1.ends.map eEnd)],iV n7]) (by simp)) (fun _=>O15 h8))] ?_
   refine V0 H ?_ ?_<;>intro H
   .refine wP ?_
    replace H:=sI H;subst H
    exact wN [(2,.n 3),(3,.d),(4,.d)] [(3,[.n 1,.n 4,.n 1,.d,.d,.d,.d,.d,.n 11,.n 13,.n 3])] [] [] [] [⟨_,W0u ([]:List Seen)⟩,⟨_,nw_I ([]:List Int)⟩,⟨_,V3 ([]:List Node)⟩,⟨_,Qf ([]:List Bool)⟩,⟨_,Wi ([]:List Job)⟩,⟨_,Qi ([]:List Run)⟩,⟨_,WD ([]:List End)⟩]
   .obtain⟨y9,h9,H⟩:=bB H
    refine wH [.u 32 (.cw Ya [] [16000] [] [(3,v5.2.map V9)] [.sref 0,Y2 .nw y8.1] _ _ _ _ _ (GEs.of [true,false] (by simp)) (by simp) (by simp) (by simp) (fun _=>V0t h9))] ?_
    exact wU (N30 _ H) [] [] [(16000,(some 33000,0))] []
  .refine wP ?_
   replace H:=sI H;subst H
   exact wN [(2,.f),(3,.d),(4,.d)] [(3,[])] [] [16000] [] [⟨_,W0u v5.2⟩,⟨_,nw_I v5.1.topo.parents⟩,⟨_,V3 v5.1.topo.nodes⟩,⟨_,Qf v5.1.up⟩,⟨_,Wi v5.1.queue⟩,⟨_,Qi v5.1.runs⟩,⟨_,WD v5.1.ends⟩]
def M1a:L :=
sR [.bx 1 0,.mv 2 (.c (.nl)),.mv 3 (cB false)]
 (sR [lT 8 1 11,cQ 9 Q0A [8],mV 7 9,eX 10 7 0,eX 11 7 1,eX 12 7 2,.al 5 [.nl,.nl,.nl,.int .i64 0,.int .i64 0,.int .i64 0,.int .i64 0,.int .i64 0,.nl,.nl,.nl],mV 4 10,.st 5 11 11,mV 6 12]
 (sR [mV 13 4,mV 14 6,mV 2 13,mV 3 14]
 gR))
def U0e(s1:State):Option ((List Seen)×Bool) :=
 (VY s1).bind fun y2=>some (y2.1,y2.2.2)
theorem L15{s1:State}{r:(List Seen)×Bool}(H:U0e s1=some r):Snd Tryz.prog M0A [Y2 .rd s1] (.tup [nV 3 (r.1.map V9),.bool r.2]) []:=by
 refine wS M1a [.t 2,.t 3] ?_
 unfold U0e at H
 obtain⟨y2,h2,H⟩:=bB H
 refine wH [.c 9 (Z15 h2)] ?_
 replace H:=sI H;subst H
 exact wN [(2,.d),(3,.d)] [] [] [] [] [⟨_,W0u y2.1⟩]
def J1j:L :=
sR [.bx 1 0,.al 2 [.int .i64 0,.int .i64 0,.int .i64 0]]
 (sR [fA 3 1 0,fA 4 3 0,lF 5 4 1,fA 6 1 11,lF 7 6 1,fA 8 1 11,lF 9 8 1,fA 10 1 0,fA 11 10 9,lF 12 11 1,bI 13 .add 9 12,.bd 14 [.int .i64 0,.int .i64 0,.int .i64 0] [(0,1,5),(1,1,7),(2,1,13)],.st 2 14 3]
 gR)
def M02(x1:Run):Option Seen :=
 some (Seen.mk x1.job.id x1.t (w64 (x1.t+x1.job.wall)))
theorem U10{x1:Run}{r:Seen}(H:M02 x1=some r):Snd Tryz.prog Z05 [J0 .rd x1] (V9 r) []:=by
 refine wS J1j [.c 2 3 true] ?_
 unfold M02 at H
 refine wP ?_
 replace H:=sI H;subst H
 exact wN [(2,.d)] [(2,[])] [] [] [] []
def Q0a(x1:Run):Seen :=
 (Seen.mk x1.job.id x1.t (w64 (x1.t+x1.job.wall)))
theorem X1o(x1:Run):M02 x1=some (Q0a x1):=by
 unfold M02 Q0a
 first|rfl|simp only[X2]
theorem W0z(x1:Run):Snd Tryz.prog Z05 [J0 .rd x1] (V9 (Q0a x1)) []:=U10 (X1o x1)
def V1c:L :=
sR [.bx 1 0,.mv 2 (.c (.nl)),.al 3 [.nl,.nl,.nl,.int .i64 0,.int .i64 0,.int .i64 0,.int .i64 0,.int .i64 0,.nl,.nl,.nl],.mv 4 (cB false)]
 (.seq (sR [lT 13 1 11,cQ 14 YY [13],.un 15 14]
 (.cond 15 (sR [.bd 16 [.nl,.nl,.nl,.int .i64 0,.int .i64 0,.int .i64 0,.int .i64 0,.int .i64 0,.nl,.nl,.nl] [],.mv 2 (.c (.nl)),.st 3 16 11,.mv 4 (cB false)]
 gR)
 .skip))
 (sR [.bs 17 3 [] true,mV 5 17]
 (.seq (sR [fA 18 1 9,lF 19 18 1,.ln 20 19,.mv 21 (kI 0)]
 (.blk 0 (.loop (.gw (sR [bI 22 .lss 21 20]
 (.seq (.cond 22 .skip
 (.exit 0))
 (.seq (.blk 1 (sR [iA 23 19 21 13,lT 24 23 13,.al 7 [.int .i64 0,.int .i64 0,.int .i64 0,.int .i64 0,.int .i64 0,.int .i64 0,.int .i64 0,.int .i64 0,.int .i64 0,.int .i64 0,.int .i64 0,.int .i64 0,.nl],.st 7 24 13]
 (.reg [mV 25 5,lT 26 7 13,cQ 27 Z05 [26],.bs 28 3 [27] false,.ap 29 25 28 3 24,mV 5 29])))
 (.reg [.bi 30 .add 21 (kI 1),mV 21 30]))))))))
 (sR [lT 31 1 11,cQ 32 Lp [31],.st 1 32 11]
 (.blk 2 (.loop (.gw (.blk 3 (sR [lT 33 1 11,cQ 34 ZY [33],mV 8 34]
 (.seq (sR [mV 35 8,.bi 36 .lss 35 (kI 0)]
 (.cond 36 (.seq (.rq 3 [mV 37 5,lT 38 1 11,mV 2 37,.st 3 38 11,.mv 4 (cB true)])
 gR)
 .skip))
 (sR [lT 40 1 11,mV 41 8,cQ 42 U0B [40,41],mV 39 42,eX 43 39 0,eX 44 39 1,.al 9 [.nl,.nl,.nl,.int .i64 0,.int .i64 0,.int .i64 0,.int .i64 0,.int .i64 0,.nl,.nl,.nl],.st 9 43 11,mV 10 44]
 (.seq (sR [mV 45 10,.un 46 45]
 (.cond 46 (sR [.bd 47 [.nl,.nl,.nl,.int .i64 0,.int .i64 0,.int .i64 0,.int .i64 0,.int .i64 0,.nl,.nl,.nl] [],.mv 2 (.c (.nl)),.st 3 47 11,.mv 4 (cB false)]
 gR)
 .skip))
 (sR [lT 48 9 11,.st 1 48 11]
 (sR [fA 49 1 9,lF 50 49 1,.ln 51 50,.mv 52 (kI 0)]
 (.blk 4 (.loop (.gw (sR [bI 53 .lss 52 51]
 (.seq (.cond 53 .skip
 (.exit 4))
 (.seq (.blk 5 (sR [iA 54 50 52 13,lT 55 54 13,.al 12 [.int .i64 0,.int .i64 0,.int .i64 0,.int .i64 0,.int .i64 0,.int .i64 0,.int .i64 0,.int .i64 0,.int .i64 0,.int .i64 0,.int .i64 0,.int .i64 0,.nl],.st 12 55 13]
 (sR [fA 56 12 11,lF 57 56 1,mV 58 8,bI 59 .eql 57 58]
 (.cond 59 (.reg [mV 60 5,lT 61 12 13,cQ 62 Z05 [61],.bs 63 3 [62] false,.ap 64 60 63 3 24,mV 5 64])
 .skip))))
 (.reg [.bi 65 .add 52 (kI 1),mV 52 65])))))))))))))))))))))
def XC(n8:Int)(x11:Run)(_:Nat)(v11:(List Seen))(k11:(List Seen)->Option ((List Seen)×State×Bool)):Option ((List Seen)×State×Bool) :=
 bif (x11.t==n8)then((appL 24 v11 [(Q0a x11)]).bind fun xs12=>k11 xs12)else(k11 v11)
def L0h(k7:(State×(List Seen))->Option ((List Seen)×State×Bool))(y9:State×Bool)(v11:(List Seen)):Option ((List Seen)×State×Bool) :=
 k7 (y9.1,v11)
def Xn(v7:State×(List Seen))(k7:(State×(List Seen))->Option ((List Seen)×State×Bool)):Option ((List Seen)×State×Bool) :=
 (Zs v7.1).bind fun n8=>bif (decide (n8<0))then(some (v7.2,v7.1,true))else((QL v7.1 n8).bind fun y9=>bif (!y9.2)then(some ([],(State.mk (Topo.mk [] []) [] (Vec.mk 0 0 0) 0 0 [] [] []),false))else(rgl (XC n8) (L0h k7 y9) y9.1.runs 0 v7.2))
def VW(x4:Run)(_:Nat)(v4:(List Seen))(k4:(List Seen)->Option ((List Seen)×State×Bool)):Option ((List Seen)×State×Bool) :=
 (appL 24 v4 [(Q0a x4)]).bind fun xs5=>k4 xs5
def XW(s1:State)(v4:(List Seen)):Option ((List Seen)×State×Bool) :=
 (Jc s1).bind fun y6=>whl Xn 9223372036854775807 (y6,v4)
def L00(s1:State):Option ((List Seen)×State×Bool) :=
 (Vs s1).bind fun b2=>bif (!b2)then(some ([],(State.mk (Topo.mk [] []) [] (Vec.mk 0 0 0) 0 0 [] [] []),false))else(rgl VW (XW s1) s1.runs 0 [])
theorem L1d{s1:State}{r:(List Seen)×State×Bool}(H:L00 s1=some r):Snd Tryz.prog V0B [Y2 .rd s1] (.tup [.sref 0,Y2 .nw r.2.1,.bool r.2.2]) [⟨3,r.1.map V9,false⟩]:=by
 refine wS V1c [.t 2,.c 3 11 true,.t 4] ?_
 unfold L00 at H
 obtain⟨b2,h2,H⟩:=bB H
 refine wH [.c 14 (Y0b h2)] ?_
 refine V0 H ?_ ?_<;>intro H
 .refine wP ?_
  replace H:=sI H;subst H
  exact wN [(2,.d),(3,.d),(4,.d)] [(3,[.n 1,.n 4,.n 1,.d,.d,.d,.d,.d,.n 11,.n 13,.n 3])] [] [] [none] [⟨_,nw_I ([]:List Int)⟩,⟨_,V3 ([]:List Node)⟩,⟨_,Qf ([]:List Bool)⟩,⟨_,Wi ([]:List Job)⟩,⟨_,Qi ([]:List Run)⟩,⟨_,WD ([]:List End)⟩]
 .refine wG [.u 20 (.ln _ _ fun _=>lm s1.runs (J0 .rd))] fun q3=>?_
  refine wR (fun(i4:Nat) (v4:(List Seen))=>⟨[(1,.ptr 1 0),(3,.ptr 3 0),(5,.sref 17),(19,rV 13 (s1.runs.map (J0 .rd))),(20,iV (s1.runs.length:Int)),(21,iV (i4:Int))],[],[(1,(Y2 .rd s1).cells),(3,[.nl,.nl,.nl,iV 0,iV 0,iV 0,iV 0,iV 0,.nl,.nl,.nl])],[(17,⟨3,v4.map V9,false⟩)]⟩) H (fun i4 x4 v4 I m k4 hxv4 hiv4 H N22=>?_) (fun v4 I m H=>?_)
  .unfold VW at H
   refine wP ?_
   refine wt (ltT hiv4) ?_
   obtain⟨xs5,h5,H⟩:=bB H
   refine wH [.u 23 (.ix _ _ _ fun _=>Y0 (J0 .rd) (W0 hxv4)),.c 27 (W0z x4),.u 29 (.ap _ _ _ _ fun _=>Q0 V9 h5),.w 30 (wi .i64 rfl hiv4 q3.1)] ?_
   exact wT (N22 _ H)
  .unfold XW at H
   refine wP ?_
   refine wf (ltF s1.runs.length) ?_
   obtain⟨y6,h6,H⟩:=bB H
   refine wH [.c 32 (Oz h6)] ?_
   refine wW (fun(v7:State×(List Seen))=>⟨[(1,.ptr 1 0),(3,.ptr 3 0),(5,.sref 17)],[],[(1,(Y2 .nw v7.1).cells),(3,[.nl,.nl,.nl,iV 0,iV 0,iV 0,iV 0,iV 0,.nl,.nl,.nl])],[(17,⟨3,v7.2.map V9,false⟩)]⟩) H (fun v7 I m k7 H N69=>?_)
   unfold Xn at H
   obtain⟨n8,h8,H⟩:=bB H
   refine wH [.u 34 (.call _ _ _ _ _ (AEs.of (xs:=[.agg [rV 1 (v7.1.topo.parents.map eI),rV 4 (v7.1.topo.nodes.map Q1),rV 1 (v7.1.up.map eBo),iV v7.1.lic.a,iV v7.1.lic.b,iV v7.1.lic.c,iV v7.1.depth,iV v7.1.now,rV 11 (v7.1.queue.map eJob),rV 13 (v7.1.runs.map (J0 .nw)),rV 3 (v7.1.ends.map eEnd)]]) (by simp)) (fun _=>O0a h8))] ?_
   refine V0 H ?_ ?_<;>intro H
   .refine wP ?_
    replace H:=sI H;subst H
    exact wN [(2,.d),(3,.d),(4,.d)] [(3,[])] [(17,some 17,0)] [] [some 17] [⟨_,nw_I v7.1.topo.parents⟩,⟨_,V3 v7.1.topo.nodes⟩,⟨_,Qf v7.1.up⟩,⟨_,Wi v7.1.queue⟩,⟨_,Qi v7.1.runs⟩,⟨_,WD v7.1.ends⟩,⟨_,W0u v7.2⟩]
   .obtain⟨y9,h9,H⟩:=bB H
    refine wH [.u 42 (.call _ _ _ _ _ (AEs.of (xs:=[.agg [rV 1 (v7.1.topo.parents.map eI),rV 4 (v7.1.topo.nodes.map Q1),rV 1 (v7.1.up.map eBo),iV v7.1.lic.a,iV v7.1.lic.b,iV v7.1.lic.c,iV v7.1.depth,iV v7.1.now,rV 11 (v7.1.queue.map eJob),rV 13 (v7.1.runs.map (J0 .nw)),rV 3 (v7.1.ends.map eEnd)],iV n8]) (by simp)) (fun _=>Y1e h9))] ?_
    refine V0 H ?_ ?_<;>intro H
    .refine wP ?_
     replace H:=sI H;subst H
     exact wN [(2,.d),(3,.d),(4,.d)] [(3,[.n 1,.n 4,.n 1,.d,.d,.d,.d,.d,.n 11,.n 13,.n 3])] [] [] [none] [⟨_,nw_I ([]:List Int)⟩,⟨_,V3 ([]:List Node)⟩,⟨_,Qf ([]:List Bool)⟩,⟨_,Wi ([]:List Job)⟩,⟨_,Qi ([]:List Run)⟩,⟨_,WD ([]:List End)⟩]
    .refine wG [.u 51 (.ln _ _ fun _=>lm y9.1.runs (J0 .nw))] fun q10=>?_
     refine wR (fun(i11:Nat) (v11:(List Seen))=>⟨[(1,.ptr 1 0),(3,.ptr 3 0),(5,.sref 17),(8,iV n8),(50,nV 13 (y9.1.runs.map (J0 .nw))),(51,iV (y9.1.runs.length:Int)),(52,iV (i11:Int))],[],[(1,(Y2 .nw y9.1).cells),(3,[.nl,.nl,.nl,iV 0,iV 0,iV 0,iV 0,iV 0,.nl,.nl,.nl])],[(17,⟨3,v11.map V9,false⟩)]⟩) H (fun i11 x11 v11 I m k11 hxv11 hiv11 H N60=>?_) (fun v11 I m H=>?_)
     .unfold XC at H
      refine wP ?_
      refine wt (ltT hiv11) ?_
      refine wH [.u 54 (.ix _ _ _ fun _=>Y0 (J0 .nw) (W0 hxv11))] ?_
      refine V0 H ?_ ?_<;>intro H
      .obtain⟨xs12,h12,H⟩:=bB H
       refine wH [.c 62 (W0z x11),.u 64 (.ap _ _ _ _ fun _=>Q0 V9 h12),.w 65 (wi .i64 rfl hiv11 q10.1)] ?_
       exact wT (N60 _ H)
      .refine wH [.w 65 (wi .i64 rfl hiv11 q10.1)] ?_
       exact wT (N60 _ H)
     .unfold L0h at H
      refine wP ?_
      refine wf (ltF y9.1.runs.length) ?_
      refine wP ?_
      exact wT (N69 _ H)
def M1c:L :=
sR [.bx 1 0,.mv 2 (.c (.nl)),.mv 3 (cB false)]
 (sR [lT 8 1 11,.cl 9 V0B [8],mV 7 9,eX 10 7 0,eX 11 7 1,eX 12 7 2,.al 5 [.nl,.nl,.nl,.int .i64 0,.int .i64 0,.int .i64 0,.int .i64 0,.int .i64 0,.nl,.nl,.nl],mV 4 10,.st 5 11 11,mV 6 12]
 (sR [mV 13 4,mV 14 6,mV 2 13,mV 3 14]
 gR))
def W0f(s1:State):Option ((List Seen)×Bool) :=
 (L00 s1).bind fun y2=>some (y2.1,y2.2.2)
theorem M0p{s1:State}{r:(List Seen)×Bool}(H:W0f s1=some r):Snd Tryz.prog X0e [Y2 .rd s1] (.tup [.sref 0,.bool r.2]) [⟨3,r.1.map V9,false⟩]:=by
 refine wS M1c [.t 2,.t 3] ?_
 unfold W0f at H
 obtain⟨y2,h2,H⟩:=bB H
 refine wH [.c 9 (L1d h2)] ?_
 replace H:=sI H;subst H
 exact wN [(2,.d),(3,.d)] [] [(10000,some 10000,0)] [] [some 10000] [⟨_,W0u y2.1⟩]
theorem Y12{α β γ:Type}{bd:α->Nat->β->(β->Option γ)->Option γ}{kk:β->Option γ}:∀(xs ys:List α) (i:Nat) (v:β),rgl bd kk (xs++ys) i v=rgl bd (fun v'=>rgl bd kk ys (i+xs.length) v') xs i v
 |[],ys,i,v=>by simp[rgl]
 |x::xs,ys,i,v=>by
  rw[List.cons_append,rgl,rgl]
  congr 1
  funext v'
  rw[Y12 xs ys (i+1) v',yT,show i+1+xs.length=i+(xs.length+1) by omega]
def M0T(x:Run):Seen:=Seen.mk x.job.id x.t (G4 x)
def QT(l:List Seen)(id:Int):Bool:=l.any fun x=>x.id==id
theorem J12(l:List Seen)(id:Int):Oq l id=some (QT l id):=by
 unfold Oq QT
 rw[Jg (r:=some true) (p:=fun x=>x.id==id) (fun x _ i k=>rfl)]
 unfold OE
 cases l.any fun x=>x.id==id<;>rfl
theorem M1H(k:List Seen->Option (List Seen))(l:List Seen)(xs:List Run):∀(i:Nat),(∀x∈xs,QT l x.job.id=true)->rgl X8 k xs i l=k l:=by
 induction xs with
 |nil=>intro i _;rfl
 |cons x xs ih =>
  intro i h
  rw[rgl,X8,J12,bS,h x (yJ ..)]
  exact ih (i+1) fun y hy=>h y (yH _ hy)
theorem O02(l m:List Seen)(id:Int):QT (l++m) id=(QT l id||QT m id):=by simp[QT]
theorem Z1q(k:List Seen->Option (List Seen))(xs:List Run):∀(i:Nat) (l:List Seen),(xs.map fun x=>x.job.id).Nodup->(∀x∈xs,QT l x.job.id=false)->l.length+xs.length<=4194304->rgl X8 k xs i l=k (l++xs.map M0T):=by
 induction xs with
 |nil=>intro i l _ _ _;simp[rgl]
 |cons x xs ih =>
  intro i l hn h hl
  simp only[yT]at hl
  rw[List.map_cons,List.nodup_cons]at hn
  rw[rgl,X8,J12,bS,h x (yJ ..)]
  simp only[Bool.not_false,yN]
  rw[U0 (by simp;omega),bS,ih (i+1) _ hn.2 (fun y hy=>?_) (by simp;omega)]
  .simp[M0T,G4]
  .rw[O02,h y (yH _ hy)]
   have:y.job.id≠x.job.id:=fun e=>hn.1 (by rw[← e];exact List.mem_map_of_mem (f:=fun x:Run=>x.job.id) hy)
   simp[QT]
   exact fun e=>this e.symm
theorem O1u{s:State}(hs:G3 s)(hn:0<=G5 s):∃r,Jx s (G5 s)=some r/\QL s (G5 s)=some r/\(r.2=true->StateP s/\∃new,G0 (endF s (G5 s)) r.1 new):=by
 obtain⟨r,h1,h2⟩:=Y1L hs (G5 s)
 refine⟨r,h1,h2,fun hr=>?_⟩
 unfold Jx at h1
 rw[(M0y hs.jobs).1,bS]at h1
 cases hS:J07 s with
 |false =>
  rw[hS]at h1
  cases h1
  cases hr
 |true =>
  have hP:=X0I hS
  refine⟨hP,?_⟩
  rw[hS]at h1
  simp only[yL,Bool.false_or]at h1
  cases hc:((!Q2 (G5 s))||decide (G5 s<s.now))with
  |true =>
   rw[hc]at h1
   cases h1
   cases hr
  |false =>
   rw[hc,yM,L08 hs,bS,UD,bS]at h1
   rw[show(9223372036854775807:Nat)=9223372036854775805+1+1 from rfl,whl,V0e _ hs]at h1
   simp only[hn,Int.le_refl,decide_true,Bool.and_self,yN]at h1
   by_cases h3:300<((endF s (G5 s)).ends.length:Int)
   .rw[decide_eq_true h3,yN]at h1
    cases h1
    cases hr
   .rw[decide_eq_false h3,yM]at h1
    have hsm:=Q0x hs (G5 s) (by omega)
    obtain⟨s',new,e1,_,hT⟩:=M1p hsm
    rw[e1,bS,whl,V0e _ (hT.small hsm)]at h1
    have hlt:¬ (0<=G5 s'/\G5 s'<=G5 s):=by
     rintro⟨q1,q2⟩
     obtain⟨x,hx,he⟩:=WZ q1
     rw[hT.runs]at hx
     rcases List.mem_append.1 hx with hx|hx
     .have hx2:=List.mem_filter.1 hx
      have hmin:=(Y1B s.runs (-1) (fun y hy=>by
       obtain⟨_,_,_,_,hy5⟩:=hP.runs.job y hy
       unfold J0T at hy5
       simp only[yD,yO]at hy5
       have:=U9.1 hy5.1.1.1
       unfold G4;rw[Ja (by omega)]
       have:=U9.1 hP.now
       omega)).2 x hx2.1
      have hne:G4 x≠G5 s:=by simpa using hx2.2
      unfold G5 at *
      omega
     .have hq:x.job∈s.queue:=hT.perm.mem_iff.1 (List.mem_append_right _ (List.mem_map_of_mem hx))
      have hj:=Yg.1 ((Lb hP.queue).2.1 x.job (List.mem_append_left _ hq))
      have ht:x.t=G5 s:=(hT.fresh x hx).1
      have htime:time (G5 s)=true:=by
       simp only[Bool.or_eq_false_iff,Bool.not_eq_false']at hc
       exact hc.1
      have:=U9.1 htime
      unfold G4 at he
      rw[Ja (by omega)]at he
      omega
    have hcc:(decide (0<=G5 s')&&decide (G5 s'<=G5 s))=false:=by
     rw[Bool.and_eq_false_iff,decide_eq_false_iff_not,decide_eq_false_iff_not]
     omega
    rw[hcc,yM]at h1
    cases h1
    refine⟨new,?_⟩
    have:atT s' (G5 s)=s':=by
     have:=hT.now
     show State.mk s'.topo s'.up s'.lic s'.depth (G5 s) s'.queue s'.runs s'.ends=s'
     rw[show G5 s=s'.now from this.symm]
    rw[this]
    exact hT
structure G1(s:State)(l:List Seen):Prop where
 small:G3 s
 sees:∀x∈s.runs,QT l x.job.id=true
 free:∀j∈s.queue,QT l j.id=false
 uniq:(s.queue.map Job.id).Nodup
 len:l.length+s.queue.length<=1048576
theorem U0f(xs:List Run)(id:Int):QT (xs.map M0T) id=true↔id∈xs.map fun x=>x.job.id:=by
 simp[QT,M0T]
theorem M1o{s:State}{l:List Seen}(h:G1 s l){s':State}{new:List Run}(hP:StateP s)(hn:0<=G5 s)(hT:G0 (endF s (G5 s)) s' new) :
  Xm l s'=some (l++new.map M0T)/\(∀k,rgl (XC (G5 s)) k s'.runs 0 l=k (l++new.map M0T))/\G1 s' (l++new.map M0T):=by
 have hp:=hT.perm
 have hq:(s.queue.map Job.id).Nodup:=h.uniq
 have hall:((s'.queue++new.map Run.job).map Job.id).Nodup:=(hp.map _).nodup_iff.2 hq
 rw[List.map_append,List.map_map,List.nodup_append]at hall
 have hlen:=hp.length_eq
 simp only[yU,List.length_map,endF]at hlen
 have hh:=h.len
 have hj:=h.small.jobs
 have kl:(G7 (G5 s) s.runs).length<=s.runs.length:=List.length_filter_le ..
 have hin:∀x∈new,x.job∈s.queue:=fun x hx=>hp.mem_iff.1 (List.mem_append_right _ (List.mem_map_of_mem hx))
 have hqin:∀j∈s'.queue,j∈s.queue:=fun j hj=>hp.mem_iff.1 (List.mem_append_left _ hj)
 have Ga:∀x∈G7 (G5 s) s.runs,QT l x.job.id=true:=fun x hx=>h.sees x (List.mem_filter.1 hx).1
 have hsm:G3 s':=by
  refine hT.small (Q0x h.small _ ?_)
  have e1:(G8 (G5 s) s.runs).length<=s.runs.length:=by unfold G8;rw[List.length_map];exact List.length_filter_le ..
  have e2:=hP.ends
  have e3:=(Lb hP.queue).1
  unfold allJobs at e3
  simp only[yU,List.length_map]at e3
  simp only[endF,yU]
  omega
 refine⟨?_,fun k=>?_,hsm,fun x hx=>?_,fun j hj=>?_,hall.1,by simp;omega⟩
 .unfold Xm
  rw[hT.runs,Y12,show(endF s (G5 s)).runs=G7 (G5 s) s.runs from rfl,M1H _ l _ 0 Ga,Z1q _ new _ l hall.2.1 (fun x hx=>h.free _ (hin x hx)) (by omega)]
  rfl
 .rw[V6 (bd:=XC (G5 s)) (bs:=24) (p:=fun x=>x.t==G5 s) (f:=M0T) (fun x _ i b k=>rfl) (by rw[hT.runs,yU,show(endF s (G5 s)).runs=G7 (G5 s) s.runs from rfl];omega)]
  rw[hT.runs,List.filter_append]
  have f1:((endF s (G5 s)).runs.filter fun x=>x.t==G5 s)=[]:=by
   refine List.filter_eq_nil_iff.2 fun x hx=>?_
   have hx1:x∈s.runs:=(List.mem_filter.1 hx).1
   obtain⟨y,hy,he⟩:=WZ hn
   obtain⟨_,_,_,_,hx5⟩:=hP.runs.job x hx1
   obtain⟨_,_,_,_,hy5⟩:=hP.runs.job y hy
   unfold J0T at hx5 hy5
   simp only[yD,yO]at hx5 hy5
   have b1:=U9.1 hx5.1.1.1
   have b2:=U9.1 hy5.1.1.1
   have b3:=U9.1 hP.now
   unfold G4 at he
   rw[Ja (by omega)]at he
   simp
   omega
  have f2:(new.filter fun x=>x.t==G5 s)=new:=List.filter_eq_self.2 fun x hx=>by
   have:x.t=G5 s:=(hT.fresh x hx).1
   simpa using this
  rw[f1,f2,List.nil_append]
 .rw[hT.runs]at hx
  rw[O02]
  rcases List.mem_append.1 hx with hx|hx
  .rw[Ga x hx];rfl
  .rw[(U0f new x.job.id).2 (List.mem_map_of_mem (f:=fun x:Run=>x.job.id) hx),Bool.or_true]
 .rw[O02,h.free j (hqin j hj),Bool.false_or]
  rw[← Bool.not_eq_true]
  intro e
  rw[U0f]at e
  exact hall.2.2 j.id (List.mem_map_of_mem hj) j.id e rfl
structure G2(r:List Seen×State×Bool):Prop where
 len:r.1.length<=1048576
 queue:r.2.1.queue.length<=1048576
 bad:r.2.2=false->r.2.1.queue=[]
theorem Y14:G2 ([],State.mk (Topo.mk [] []) [] (Vec.mk 0 0 0) 0 0 [] [] [],false):=⟨by simp,by simp,fun _=>rfl⟩
theorem G1.res{s:State}{l:List Seen}(h:G1 s l):G2 (l,s,true):=⟨by have:=h.len;simp only;omega,by have:=h.small.jobs;simp only;omega,fun e=>by cases e⟩
theorem L1o:∀(m:Nat) (s:State) (l:List Seen) (f1 f2:Nat),G1 s l->s.queue.length+s.runs.length<=m->m<f1->m<f2->∃r,whl Vm f1 (s,l)=some r/\whl Xn f2 (s,l)=some r/\G2 r:=by
 intro m
 induction m with
 |zero =>
  intro s l f1 f2 h hm h1 h2
  obtain⟨f1,rfl⟩:∃f,f1=f+1:=⟨f1-1,by omega⟩
  obtain⟨f2,rfl⟩:∃f,f2=f+1:=⟨f2-1,by omega⟩
  rw[whl,whl,Vm,Xn]
  simp only[UD,W0a,bS]
  by_cases hn:0<=G5 s
  .obtain⟨x,hx,_⟩:=WZ hn
   have:=List.length_pos_of_mem hx
   omega
  .rw[decide_eq_false hn,decide_eq_true (show G5 s<0 by omega)]
   exact⟨_,rfl,rfl,h.res⟩
 |succ m ih =>
  intro s l f1 f2 h hm h1 h2
  obtain⟨f1,rfl⟩:∃f,f1=f+1:=⟨f1-1,by omega⟩
  obtain⟨f2,rfl⟩:∃f,f2=f+1:=⟨f2-1,by omega⟩
  rw[whl,whl,Vm,Xn]
  simp only[UD,W0a,bS]
  by_cases hn:0<=G5 s
  .rw[decide_eq_true hn,decide_eq_false (show ¬ G5 s<0 by omega)]
   obtain⟨r,e1,e2,e3⟩:=O1u h.small hn
   simp only[e1,e2,bS,yN,yM]
   cases hr:r.2 with
   |false=>exact⟨_,rfl,rfl,Y14⟩
   |true =>
    obtain⟨hP,new,hT⟩:=e3 hr
    obtain⟨a1,a2,a3⟩:=M1o h hP hn hT
    simp only[yL,yM,a1,a2,bS]
    have hl:=hT.len
    obtain⟨x,hx,he⟩:=WZ hn
    have hk:=W1s hx he
    have:(endF s (G5 s)).queue.length+(endF s (G5 s)).runs.length=s.queue.length+(G7 (G5 s) s.runs).length:=rfl
    exact ih r.1 _ f1 f2 a3 (by omega) (by omega) (by omega)
  .rw[decide_eq_false hn,decide_eq_true (show G5 s<0 by omega)]
   exact⟨_,rfl,rfl,h.res⟩
theorem J1K{s:State}(hj:s.queue.length+s.runs.length<=1048576):∃r,VY s=some r/\L00 s=some r/\G2 r:=by
 obtain⟨h1,h2⟩:=M0y hj
 unfold VY L00
 rw[h1,h2,bS,bS]
 cases hS:J07 s with
 |false=>exact⟨_,rfl,rfl,Y14⟩
 |true =>
  have hP:=X0I hS
  have hs:=hP.small
  obtain⟨q1,q2,q3⟩:=Lb hP.queue
  unfold allJobs at q1 q3
  rw[List.map_append,List.map_map,List.nodup_append]at q3
  simp only[yU,List.length_map]at q1
  simp only[yL,yM,L08 hs,bS]
  have e1:Ym [] s=some (s.runs.map M0T):=by
   unfold Ym
   have:=Z1q Js s.runs 0 [] q3.2.1 (fun x _=>rfl) (by simp;omega)
   exact this
  rw[e1,bS]
  rw[V6 (bd:=VW) (bs:=24) (p:=fun _=>true) (f:=M0T) (fun x _ i b k=>rfl) (by simp;omega)]
  unfold XW
  rw[M0a hs,bS]
  have e2:s.runs.filter (fun _=>true)=s.runs:=List.filter_eq_self.2 fun _ _=>rfl
  rw[e2,List.nil_append]
  refine L1o (s.queue.length+s.runs.length) s _ _ _ ⟨hs,fun x hx=>?_,fun j hj=>?_,q3.1,by simp;omega⟩ (yV _) (by omega) (by omega)
  .exact(U0f s.runs x.job.id).2 (List.mem_map_of_mem (f:=fun x:Run=>x.job.id) hx)
  .rw[← Bool.not_eq_true]
   intro e
   rw[U0f]at e
   exact q3.2.2 j.id (List.mem_map_of_mem hj) j.id e rfl
theorem V1L{s:State}(hj:s.queue.length+s.runs.length<=1048576):∃r,U0e s=some r/\W0f s=some r/\r.1.length<=1048576:=by
 obtain⟨r,h1,h2,hr⟩:=J1K hj
 unfold U0e W0f
 rw[h1,h2]
 exact⟨_,rfl,rfl,hr.len⟩
def L1a:L :=
sR [.bx 1 0,.al 2 [.int .i64 0,.int .i64 0,.int .i64 0]]
 (sR [.al 3 [.int .i64 0,.int .i64 0,.int .i64 0]]
 (sR [fA 4 1 0,lF 5 4 1,fA 6 3 0,.st 6 5 1]
 (sR [fA 7 1 1,lF 8 7 1,fA 9 3 1,.st 9 8 1]
 (sR [fA 10 1 2,lF 11 10 1,fA 12 3 2,.st 12 11 1]
 (sR [lT 13 3 3,.st 2 13 3]
 gR)))))
def JR(a1:Vec):Option Vec :=
 some a1
theorem V0K{a1 r:Vec}(H:JR a1=some r):Snd Tryz.prog Qs [eVec a1] (eVec r) []:=by
 refine wS L1a [.c 2 3 true] ?_
 unfold JR at H
 refine wP ?_
 replace H:=sI H;subst H
 exact wN [(2,.d)] [(2,[])] [] [] [] []
def Og(a1:Vec):Vec :=
 a1
theorem Y1j(a1:Vec):JR a1=some (Og a1):=by
 unfold JR Og
 first|rfl|simp only[X2]
theorem OI(a1:Vec):Snd Tryz.prog Qs [eVec a1] (eVec (Og a1)) []:=V0K (Y1j a1)
def V1b:L :=
sR [.bx 2 0,.bx 3 1,.mv 4 (cB false)]
 (.seq (sR [fA 5 2 0,lF 6 5 1,fA 7 3 0,lF 8 7 1,bI 9 .neq 6 8]
 (.cond 9 (.seq (rE 4 (cB false))
 gR)
 .skip))
 (.seq (sR [fA 10 2 1,lF 11 10 1,fA 12 3 1,lF 13 12 1,bI 14 .neq 11 13]
 (.cond 14 (.seq (rE 4 (cB false))
 gR)
 .skip))
 (.seq (sR [fA 15 2 2,lF 16 15 1,fA 17 3 2,lF 18 17 1,bI 19 .neq 16 18]
 (.cond 19 (.seq (rE 4 (cB false))
 gR)
 .skip))
 (.seq (rE 4 (cB true))
 gR))))
def US(a1 b2:Vec):Option Bool :=
 bif (a1.a != b2.a)then(some false)else(bif (a1.b != b2.b)then(some false)else(bif (a1.c != b2.c)then(some false)else(some true)))
theorem W0L{a1 b2:Vec}{r:Bool}(H:US a1 b2=some r):Snd Tryz.prog Ws [eVec a1,eVec b2] (.bool r) []:=by
 refine wS V1b [.t 4] ?_
 unfold US at H
 refine wP ?_
 refine V0 H ?_ ?_<;>intro H
 .obtain rfl:=sI H
  exact wP (wE [(4,.d)])
 .refine wP ?_
  refine V0 H ?_ ?_<;>intro H
  .obtain rfl:=sI H
   exact wP (wE [(4,.d)])
  .refine wP ?_
   refine V0 H ?_ ?_<;>intro H
   .obtain rfl:=sI H
    exact wP (wE [(4,.d)])
   .obtain rfl:=sI H
    exact wP (wE [(4,.d)])
def Vb(a1 b2:Vec):Bool :=
 bif (a1.a != b2.a)then(false)else(bif (a1.b != b2.b)then(false)else(bif (a1.c != b2.c)then(false)else(true)))
theorem Q1j(a1 b2:Vec):US a1 b2=some (Vb a1 b2):=by
 unfold US Vb
 first|rfl|simp only[X2]
theorem XJ(a1 b2:Vec):Snd Tryz.prog Ws [eVec a1,eVec b2] (.bool (Vb a1 b2)) []:=W0L (Q1j a1 b2)
def J0X:L :=
sR [.mv 2 (.c (.nl))]
 (sR [mV 5 0,.ln 6 5,.ms 7 1 8 [.int .i64 0] 6,mV 3 7]
 (.seq (.seq (rE 4 (kI 0))
 (.blk 0 (.loop (.gw (.seq (sR [mV 8 4,mV 9 0,.ln 10 9,bI 11 .lss 8 10]
 (.cond 11 .skip
 (.exit 0)))
 (.seq (.blk 1 (.reg [mV 14 3,mV 15 4,mV 16 0,mV 17 4,iA 18 16 17 1,lF 19 18 1,iA 20 14 15 1,.st 20 19 1]))
 (.reg [mV 12 4,.bi 13 .add 12 (kI 1),mV 4 13])))))))
 (sR [mV 21 3,mV 2 21]
 gR)))
def Wu(a1:List Int)(v4:Int×(List Int))(k4:(Int×(List Int))->Option (List Int)):Option (List Int) :=
 bif (decide (v4.1<(a1.length:Int)))then((idx a1 v4.1).bind fun e6=>(idx v4.2 v4.1).bind fun _=>k4 ((w64 (v4.1+1)),(v4.2.set v4.1.toNat e6)))else(some v4.2)
def Vy(a1:List Int):Option (List Int) :=
 (mkL 8 (a1.length:Int) 0).bind fun xs2=>whl (Wu a1) 9223372036854775807 (0,xs2)
theorem X0h{a1:List Int}{r:(List Int)}(H:Vy a1=some r):Snd Tryz.prog U04 [rV 1 (a1.map eI)] (nV 1 (r.map eI)) []:=by
 refine wS J0X [.t 2] ?_
 unfold Vy at H
 obtain⟨xs2,h2,H⟩:=bB H
 refine wG [.u 6 (.ln _ _ fun _=>lm a1 eI),.u 7 (.ms _ _ _ _ fun _=>V0k eI h2)] fun q3=>?_
 refine wW (fun(v4:Int×(List Int))=>⟨[(0,rV 1 (a1.map eI)),(3,.sref 7),(4,iV v4.1)],[],[],[(7,⟨1,v4.2.map eI,false⟩)]⟩) H (fun v4 I m k4 H N13=>?_)
 unfold Wu at H
 refine wG [.u 10 (.ln _ _ fun _=>lm a1 eI)] fun q5=>?_
 refine V0 H ?_ ?_<;>intro H
 .obtain⟨e6,h6,H⟩:=bB H
  obtain⟨e7,h7,H⟩:=bB H
  refine wH [.u 18 (.ix _ _ _ fun _=>Y0 eI h6),.u 20 (.ix _ _ _ fun _=>Y0 eI h7),.u 1000000 (.sto _ _ _ (eI e6) _ (fun _=>gm eI (Q7 h7)) (fun _=>M01 ..))] ?_
  exact wT (N13 _ H)
 .refine wP ?_
  replace H:=sI H;subst H
  exact wN [(2,.f)] [] [] [7] [] [⟨_,nw_I v4.2⟩]
def M0X:L :=
sR [.bx 1 0,.al 2 [.int .i64 0,.int .i64 0,.int .i64 0,.int .i64 0]]
 (sR [.al 3 [.int .i64 0,.int .i64 0,.int .i64 0,.int .i64 0]]
 (sR [fA 4 1 0,lF 5 4 1,fA 6 3 0,.st 6 5 1]
 (sR [fA 7 1 1,lT 8 7 3,cQ 9 Qs [8],fA 10 3 1,.st 10 9 3]
 (sR [lT 11 3 4,.st 2 11 4]
 gR))))
def MI(a1:Node):Option Node :=
 some (Node.mk a1.leaf (Og a1.cap))
theorem L0C{a1 r:Node}(H:MI a1=some r):Snd Tryz.prog V04 [Q1 a1] (Q1 r) []:=by
 refine wS M0X [.c 2 4 true] ?_
 unfold MI at H
 refine wH [.c 9 (OI a1.cap)] ?_
 replace H:=sI H;subst H
 exact wN [(2,.d)] [(2,[])] [] [] [] []
def Yq(a1:Node):Node :=
 (Node.mk a1.leaf (Og a1.cap))
theorem L18(a1:Node):MI a1=some (Yq a1):=by
 unfold MI Yq
 first|rfl|simp only[X2]
theorem W0U(a1:Node):Snd Tryz.prog V04 [Q1 a1] (Q1 (Yq a1)) []:=L0C (L18 a1)
def V0O:L :=
sR [.mv 2 (.c (.nl))]
 (sR [mV 5 0,.ln 6 5,.ms 7 4 32 [.int .i64 0,.int .i64 0,.int .i64 0,.int .i64 0] 6,mV 3 7]
 (.seq (.seq (rE 4 (kI 0))
 (.blk 0 (.loop (.gw (.seq (sR [mV 8 4,mV 9 0,.ln 10 9,bI 11 .lss 8 10]
 (.cond 11 .skip
 (.exit 0)))
 (.seq (.blk 1 (.reg [mV 14 3,mV 15 4,mV 16 0,mV 17 4,iA 18 16 17 4,lT 19 18 4,cQ 20 V04 [19],iA 21 14 15 4,.st 21 20 4]))
 (.reg [mV 12 4,.bi 13 .add 12 (kI 1),mV 4 13])))))))
 (sR [mV 22 3,mV 2 22]
 gR)))
def Mo(a1:List Node)(v4:Int×(List Node))(k4:(Int×(List Node))->Option (List Node)):Option (List Node) :=
 bif (decide (v4.1<(a1.length:Int)))then((idx a1 v4.1).bind fun e6=>(idx v4.2 v4.1).bind fun _=>k4 ((w64 (v4.1+1)),(v4.2.set v4.1.toNat (Node.mk ((Yq e6).leaf) ((Yq e6).cap)))))else(some v4.2)
def MD(a1:List Node):Option (List Node) :=
 (mkL 32 (a1.length:Int) (Node.mk 0 (Vec.mk 0 0 0))).bind fun xs2=>whl (Mo a1) 9223372036854775807 (0,xs2)
theorem W0K{a1:List Node}{r:(List Node)}(H:MD a1=some r):Snd Tryz.prog M0i [rV 4 (a1.map Q1)] (nV 4 (r.map Q1)) []:=by
 refine wS V0O [.t 2] ?_
 unfold MD at H
 obtain⟨xs2,h2,H⟩:=bB H
 refine wG [.u 6 (.ln _ _ fun _=>lm a1 Q1),.u 7 (.ms _ _ _ _ fun _=>V0k Q1 h2)] fun q3=>?_
 refine wW (fun(v4:Int×(List Node))=>⟨[(0,rV 4 (a1.map Q1)),(3,.sref 7),(4,iV v4.1)],[],[],[(7,⟨4,v4.2.map Q1,false⟩)]⟩) H (fun v4 I m k4 H N13=>?_)
 unfold Mo at H
 refine wG [.u 10 (.ln _ _ fun _=>lm a1 Q1)] fun q5=>?_
 refine V0 H ?_ ?_<;>intro H
 .obtain⟨e6,h6,H⟩:=bB H
  obtain⟨e7,h7,H⟩:=bB H
  refine wH [.u 18 (.ix _ _ _ fun _=>Y0 Q1 h6),.c 20 (W0U e6),.u 21 (.ix _ _ _ fun _=>Y0 Q1 h7),.u 1000000 (.sto _ _ _ (Q1 (Node.mk ((Yq e6).leaf) ((Yq e6).cap))) _ (fun _=>gm Q1 (Q7 h7)) (fun _=>M01 ..))] ?_
  exact wT (N13 _ H)
 .refine wP ?_
  replace H:=sI H;subst H
  exact wN [(2,.f)] [] [] [7] [] [⟨_,V3 v4.2⟩]
def W0X:L :=
sR [.bx 1 0,.al 2 [.nl,.nl]]
 (sR [.al 3 [.nl,.nl]]
 (sR [fA 4 1 0,lF 5 4 1,cQ 6 U04 [5],fA 7 3 0,.st 7 6 1]
 (sR [fA 8 1 1,lF 9 8 1,cQ 10 M0i [9],fA 11 3 1,.st 11 10 1]
 (sR [lT 12 3 2,.st 2 12 2]
 gR))))
def XN(a1:Topo):Option Topo :=
 (Vy a1.parents).bind fun y2=>(MD a1.nodes).bind fun y3=>some (Topo.mk y2 y3)
theorem X0U{a1 r:Topo}(H:XN a1=some r):Snd Tryz.prog M0r [U3 .rd a1] (U3 .nw r) []:=by
 refine wS W0X [.c 2 2 true] ?_
 unfold XN at H
 obtain⟨y2,h2,H⟩:=bB H
 obtain⟨y3,h3,H⟩:=bB H
 refine wH [.c 6 (X0h h2),.c 10 (W0K h3)] ?_
 replace H:=sI H;subst H
 exact wN [(2,.d)] [(2,[])] [] [] [] [⟨_,nw_I y2⟩,⟨_,V3 y3⟩]
def U0Y:L :=
.seq (rE 4 (kI 0))
 (sR [mV 5 1,mV 6 0,.ln 7 6,bI 8 .sub 5 7,mV 1 8]
 (.seq (sR [mV 9 1,.bi 10 .lss 9 (kI 0)]
 (.cond 10 (.seq (rE 4 (kI (-1)))
 gR)
 .skip))
 (sR [mV 11 1,mV 4 11]
 gR)))
def ZJ(a1:List Int)(left2:Int):Option Int :=
 bif (decide ((w64 (left2-(a1.length:Int)))<0))then(some (-1))else(some (w64 (left2-(a1.length:Int))))
theorem Y0D{a1:List Int}{left2 r:Int}(H:ZJ a1 left2=some r):Snd Tryz.prog UK [rV 1 (a1.map eI),iV left2] (iV r) []:=by
 refine wS U0Y [.t 4] ?_
 unfold ZJ at H
 refine wG [.u 7 (.ln _ _ fun _=>lm a1 eI)] fun q3=>?_
 refine V0 H ?_ ?_<;>intro H
 .obtain rfl:=sI H
  exact wP (wE [(4,.d)])
 .obtain rfl:=sI H
  exact wP (wE [(4,.d)])
def Y5(a1:List Int)(left2:Int):Int :=
 bif (decide ((w64 (left2-(a1.length:Int)))<0))then((-1))else((w64 (left2-(a1.length:Int))))
theorem V19(a1:List Int)(left2:Int):ZJ a1 left2=some (Y5 a1 left2):=by
 unfold ZJ Y5
 first|rfl|simp only[X2]
theorem U0h(a1:List Int)(left2:Int):Snd Tryz.prog UK [rV 1 (a1.map eI),iV left2] (iV (Y5 a1 left2)) []:=Y0D (V19 a1 left2)
def W0O:L :=
.seq (rE 4 (kI 0))
 (sR [mV 5 1,mV 6 0,.ln 7 6,bI 8 .sub 5 7,mV 1 8]
 (.seq (sR [mV 9 1,.bi 10 .lss 9 (kI 0)]
 (.cond 10 (.seq (rE 4 (kI (-1)))
 gR)
 .skip))
 (sR [mV 11 1,mV 4 11]
 gR)))
def JB(a1:List Node)(left2:Int):Option Int :=
 bif (decide ((w64 (left2-(a1.length:Int)))<0))then(some (-1))else(some (w64 (left2-(a1.length:Int))))
theorem J0u{a1:List Node}{left2 r:Int}(H:JB a1 left2=some r):Snd Tryz.prog OX [rV 4 (a1.map Q1),iV left2] (iV r) []:=by
 refine wS W0O [.t 4] ?_
 unfold JB at H
 refine wG [.u 7 (.ln _ _ fun _=>lm a1 Q1)] fun q3=>?_
 refine V0 H ?_ ?_<;>intro H
 .obtain rfl:=sI H
  exact wP (wE [(4,.d)])
 .obtain rfl:=sI H
  exact wP (wE [(4,.d)])
def Je(a1:List Node)(left2:Int):Int :=
 bif (decide ((w64 (left2-(a1.length:Int)))<0))then((-1))else((w64 (left2-(a1.length:Int))))
theorem V0V(a1:List Node)(left2:Int):JB a1 left2=some (Je a1 left2):=by
 unfold JB Je
 first|rfl|simp only[X2]
theorem U0L(a1:List Node)(left2:Int):Snd Tryz.prog OX [rV 4 (a1.map Q1),iV left2] (iV (Je a1 left2)) []:=J0u (V0V a1 left2)
def Y0Y:L :=
sR [.bx 2 0,.mv 4 (kI 0)]
 (sR [fA 5 2 0,lF 6 5 1,mV 7 1,cQ 8 UK [6,7],mV 1 8]
 (.seq (sR [mV 9 1,.bi 10 .lss 9 (kI 0)]
 (.cond 10 (.seq (rE 4 (kI (-1)))
 gR)
 .skip))
 (sR [fA 11 2 1,lF 12 11 1,mV 13 1,cQ 14 OX [12,13],mV 1 14]
 (.seq (sR [mV 15 1,.bi 16 .lss 15 (kI 0)]
 (.cond 16 (.seq (rE 4 (kI (-1)))
 gR)
 .skip))
 (sR [mV 17 1,mV 4 17]
 gR)))))
def LI(a1:Topo)(left2:Int):Option Int :=
 bif (decide ((Y5 a1.parents left2)<0))then(some (-1))else(bif (decide ((Je a1.nodes (Y5 a1.parents left2))<0))then(some (-1))else(some (Je a1.nodes (Y5 a1.parents left2))))
theorem J0C{a1:Topo}{left2 r:Int}(H:LI a1 left2=some r):Snd Tryz.prog Q04 [U3 .rd a1,iV left2] (iV r) []:=by
 refine wS Y0Y [.t 4] ?_
 unfold LI at H
 refine wH [.c 8 (U0h a1.parents left2)] ?_
 refine V0 H ?_ ?_<;>intro H
 .obtain rfl:=sI H
  exact wP (wE [(4,.d)])
 .refine wH [.u 14 (.call _ _ _ _ _ (AEs.refl _) (fun _=>U0L a1.nodes (Y5 a1.parents left2)))] ?_
  refine V0 H ?_ ?_<;>intro H
  .obtain rfl:=sI H
   exact wP (wE [(4,.d)])
  .obtain rfl:=sI H
   exact wP (wE [(4,.d)])
def M6(a1:Topo)(left2:Int):Int :=
 bif (decide ((Y5 a1.parents left2)<0))then((-1))else(bif (decide ((Je a1.nodes (Y5 a1.parents left2))<0))then((-1))else((Je a1.nodes (Y5 a1.parents left2))))
theorem Z19(a1:Topo)(left2:Int):LI a1 left2=some (M6 a1 left2):=by
 unfold LI M6
 first|rfl|simp only[X2]
theorem Z0V(a1:Topo)(left2:Int):Snd Tryz.prog Q04 [U3 .rd a1,iV left2] (iV (M6 a1 left2)) []:=J0C (Z19 a1 left2)
def Z0Z:L :=
.seq (rE 4 (cB false))
 (.seq (sR [mV 6 0,.ln 7 6,mV 8 1,.ln 9 8,bI 10 .neq 7 9]
 (.cond 10 (.seq (rE 4 (cB false))
 gR)
 .skip))
 (.seq (.seq (rE 5 (kI 0))
 (.blk 0 (.loop (.gw (.seq (sR [mV 11 5,mV 12 0,.ln 13 12,bI 14 .lss 11 13]
 (.cond 14 .skip
 (.exit 0)))
 (.seq (.blk 1 (.seq (.rq 9 [mV 17 0,mV 18 5,iA 19 17 18 1,lF 20 19 1,mV 21 1,mV 22 5,iA 23 21 22 1,lF 24 23 1,bI 25 .neq 20 24])
 (.cond 25 (.seq (rE 4 (cB false))
 gR)
 .skip)))
 (.reg [mV 15 5,.bi 16 .add 15 (kI 1),mV 5 16])))))))
 (.seq (rE 4 (cB true))
 gR)))
def Ju(a1 b2:List Int)(v4:Int)(k4:Int->Option Bool):Option Bool :=
 bif (decide (v4<(a1.length:Int)))then((idx a1 v4).bind fun e6=>(idx b2 v4).bind fun e7=>bif (e6 != e7)then(some false)else(k4 (w64 (v4+1))))else(some true)
def Zz(a1 b2:List Int):Option Bool :=
 bif ((a1.length:Int)!=(b2.length:Int))then(some false)else(whl (Ju a1 b2) 9223372036854775807 0)
theorem Q0h{a1 b2:List Int}{r:Bool}(H:Zz a1 b2=some r):Snd Tryz.prog J04 [rV 1 (a1.map eI),rV 1 (b2.map eI)] (.bool r) []:=by
 refine wS Z0Z [.t 4] ?_
 unfold Zz at H
 refine wG [.u 7 (.ln _ _ fun _=>lm a1 eI),.u 9 (.ln _ _ fun _=>lm b2 eI)] fun q3=>?_
 refine V0 H ?_ ?_<;>intro H
 .obtain rfl:=sI H
  exact wP (wE [(4,.d)])
 .refine wP ?_
  refine wW (fun(v4:Int)=>⟨[(0,rV 1 (a1.map eI)),(1,rV 1 (b2.map eI)),(5,iV v4)],[],[],[]⟩) H (fun v4 I m k4 H N25=>?_)
  unfold Ju at H
  refine wG [.u 13 (.ln _ _ fun _=>lm a1 eI)] fun q5=>?_
  refine V0 H ?_ ?_<;>intro H
  .obtain⟨e6,h6,H⟩:=bB H
   obtain⟨e7,h7,H⟩:=bB H
   refine wH [.u 19 (.ix _ _ _ fun _=>Y0 eI h6),.u 23 (.ix _ _ _ fun _=>Y0 eI h7)] ?_
   refine V0 H ?_ ?_<;>intro H
   .obtain rfl:=sI H
    exact wP (wE [(4,.d)])
   .refine wP ?_
    exact wT (N25 _ H)
  .obtain rfl:=sI H
   exact wP (wE [(4,.d)])
def L0Y:L :=
sR [.bx 2 0,.bx 3 1,.mv 4 (cB false)]
 (.seq (sR [fA 5 2 0,lF 6 5 1,fA 7 3 0,lF 8 7 1,bI 9 .neq 6 8]
 (.cond 9 (.seq (rE 4 (cB false))
 gR)
 .skip))
 (.seq (sR [fA 10 2 1,lT 11 10 3,fA 12 3 1,lT 13 12 3,cQ 14 Ws [11,13],.un 15 14]
 (.cond 15 (.seq (rE 4 (cB false))
 gR)
 .skip))
 (.seq (rE 4 (cB true))
 gR)))
def UJ(a1 b2:Node):Option Bool :=
 bif (a1.leaf != b2.leaf)then(some false)else(bif (!(Vb a1.cap b2.cap))then(some false)else(some true))
theorem M0D{a1 b2:Node}{r:Bool}(H:UJ a1 b2=some r):Snd Tryz.prog L04 [Q1 a1,Q1 b2] (.bool r) []:=by
 refine wS L0Y [.t 4] ?_
 unfold UJ at H
 refine wP ?_
 refine V0 H ?_ ?_<;>intro H
 .obtain rfl:=sI H
  exact wP (wE [(4,.d)])
 .refine wH [.c 14 (XJ a1.cap b2.cap)] ?_
  refine V0 H ?_ ?_<;>intro H
  .obtain rfl:=sI H
   exact wP (wE [(4,.d)])
  .obtain rfl:=sI H
   exact wP (wE [(4,.d)])
def Ly(a1 b2:Node):Bool :=
 bif (a1.leaf != b2.leaf)then(false)else(bif (!(Vb a1.cap b2.cap))then(false)else(true))
theorem O19(a1 b2:Node):UJ a1 b2=some (Ly a1 b2):=by
 unfold UJ Ly
 first|rfl|simp only[X2]
theorem J0V(a1 b2:Node):Snd Tryz.prog L04 [Q1 a1,Q1 b2] (.bool (Ly a1 b2)) []:=M0D (O19 a1 b2)
def J0O:L :=
.seq (rE 4 (cB false))
 (.seq (sR [mV 6 0,.ln 7 6,mV 8 1,.ln 9 8,bI 10 .neq 7 9]
 (.cond 10 (.seq (rE 4 (cB false))
 gR)
 .skip))
 (.seq (.seq (rE 5 (kI 0))
 (.blk 0 (.loop (.gw (.seq (sR [mV 11 5,mV 12 0,.ln 13 12,bI 14 .lss 11 13]
 (.cond 14 .skip
 (.exit 0)))
 (.seq (.blk 1 (.seq (.rq 10 [mV 17 0,mV 18 5,iA 19 17 18 4,lT 20 19 4,mV 21 1,mV 22 5,iA 23 21 22 4,lT 24 23 4,cQ 25 L04 [20,24],.un 26 25])
 (.cond 26 (.seq (rE 4 (cB false))
 gR)
 .skip)))
 (.reg [mV 15 5,.bi 16 .add 15 (kI 1),mV 5 16])))))))
 (.seq (rE 4 (cB true))
 gR)))
def Zp(a1 b2:List Node)(v4:Int)(k4:Int->Option Bool):Option Bool :=
 bif (decide (v4<(a1.length:Int)))then((idx a1 v4).bind fun e6=>(idx b2 v4).bind fun e7=>bif (!(Ly e6 e7))then(some false)else(k4 (w64 (v4+1))))else(some true)
def ZE(a1 b2:List Node):Option Bool :=
 bif ((a1.length:Int)!=(b2.length:Int))then(some false)else(whl (Zp a1 b2) 9223372036854775807 0)
theorem L0L{a1 b2:List Node}{r:Bool}(H:ZE a1 b2=some r):Snd Tryz.prog Z0j [rV 4 (a1.map Q1),rV 4 (b2.map Q1)] (.bool r) []:=by
 refine wS J0O [.t 4] ?_
 unfold ZE at H
 refine wG [.u 7 (.ln _ _ fun _=>lm a1 Q1),.u 9 (.ln _ _ fun _=>lm b2 Q1)] fun q3=>?_
 refine V0 H ?_ ?_<;>intro H
 .obtain rfl:=sI H
  exact wP (wE [(4,.d)])
 .refine wP ?_
  refine wW (fun(v4:Int)=>⟨[(0,rV 4 (a1.map Q1)),(1,rV 4 (b2.map Q1)),(5,iV v4)],[],[],[]⟩) H (fun v4 I m k4 H N25=>?_)
  unfold Zp at H
  refine wG [.u 13 (.ln _ _ fun _=>lm a1 Q1)] fun q5=>?_
  refine V0 H ?_ ?_<;>intro H
  .obtain⟨e6,h6,H⟩:=bB H
   obtain⟨e7,h7,H⟩:=bB H
   refine wH [.u 19 (.ix _ _ _ fun _=>Y0 Q1 h6),.u 23 (.ix _ _ _ fun _=>Y0 Q1 h7),.c 25 (J0V e6 e7)] ?_
   refine V0 H ?_ ?_<;>intro H
   .obtain rfl:=sI H
    exact wP (wE [(4,.d)])
   .refine wP ?_
    exact wT (N25 _ H)
  .obtain rfl:=sI H
   exact wP (wE [(4,.d)])
def W0Y:L :=
sR [.bx 2 0,.bx 3 1,.mv 4 (cB false)]
 (.seq (sR [fA 5 2 0,lF 6 5 1,fA 7 3 0,lF 8 7 1,cQ 9 J04 [6,8],.un 10 9]
 (.cond 10 (.seq (rE 4 (cB false))
 gR)
 .skip))
 (.seq (sR [fA 11 2 1,lF 12 11 1,fA 13 3 1,lF 14 13 1,cQ 15 Z0j [12,14],.un 16 15]
 (.cond 16 (.seq (rE 4 (cB false))
 gR)
 .skip))
 (.seq (rE 4 (cB true))
 gR)))
def LN(a1 b2:Topo):Option Bool :=
 (Zz a1.parents b2.parents).bind fun b3=>bif (!b3)then(some false)else((ZE a1.nodes b2.nodes).bind fun b4=>bif (!b4)then(some false)else(some true))
theorem O0V{a1 b2:Topo}{r:Bool}(H:LN a1 b2=some r):Snd Tryz.prog X0s [U3 .rd a1,U3 .rd b2] (.bool r) []:=by
 refine wS W0Y [.t 4] ?_
 unfold LN at H
 obtain⟨b3,h3,H⟩:=bB H
 refine wH [.c 9 (Q0h h3)] ?_
 refine V0 H ?_ ?_<;>intro H
 .obtain rfl:=sI H
  exact wP (wE [(4,.d)])
 .obtain⟨b4,h4,H⟩:=bB H
  refine wH [.c 15 (L0L h4)] ?_
  refine V0 H ?_ ?_<;>intro H
  .obtain rfl:=sI H
   exact wP (wE [(4,.d)])
  .obtain rfl:=sI H
   exact wP (wE [(4,.d)])
def Z1b:L :=
sR [.bx 1 0,.al 2 [.int .i64 0,.int .i64 0,.int .i64 0,.int .i64 0,.int .i64 0,.int .i64 0,.int .i64 0,.int .i64 0,.int .i64 0,.int .i64 0,.int .i64 0]]
 (sR [.al 3 [.int .i64 0,.int .i64 0,.int .i64 0,.int .i64 0,.int .i64 0,.int .i64 0,.int .i64 0,.int .i64 0,.int .i64 0,.int .i64 0,.int .i64 0]]
 (sR [fA 4 1 0,lF 5 4 1,fA 6 3 0,.st 6 5 1]
 (sR [fA 7 1 1,lF 8 7 1,fA 9 3 1,.st 9 8 1]
 (sR [fA 10 1 2,lF 11 10 1,fA 12 3 2,.st 12 11 1]
 (sR [fA 13 1 3,lT 14 13 3,cQ 15 Qs [14],fA 16 3 3,.st 16 15 3]
 (sR [fA 17 1 6,lT 18 17 3,cQ 19 Qs [18],fA 20 3 6,.st 20 19 3]
 (sR [fA 21 1 9,lF 22 21 1,fA 23 3 9,.st 23 22 1]
 (sR [fA 24 1 10,lF 25 24 1,fA 26 3 10,.st 26 25 1]
 (sR [lT 27 3 11,.st 2 27 11]
 gR)))))))))
def YS(a1:Job):Option Job :=
 some (Job.mk a1.id a1.prio a1.nodes (Og a1.need) (Og a1.lic) a1.wall a1.level)
theorem M0K{a1 r:Job}(H:YS a1=some r):Snd Tryz.prog QU [eJob a1] (eJob r) []:=by
 refine wS Z1b [.c 2 11 true] ?_
 unfold YS at H
 refine wH [.c 15 (OI a1.need),.c 19 (OI a1.lic)] ?_
 replace H:=sI H;subst H
 exact wN [(2,.d)] [(2,[])] [] [] [] []
def X3(a1:Job):Job :=
 (Job.mk a1.id a1.prio a1.nodes (Og a1.need) (Og a1.lic) a1.wall a1.level)
theorem X1j(a1:Job):YS a1=some (X3 a1):=by
 unfold YS X3
 first|rfl|simp only[X2]
theorem Y0o(a1:Job):Snd Tryz.prog QU [eJob a1] (eJob (X3 a1)) []:=M0K (X1j a1)
def U0O:L :=
sR [.mv 2 (.c (.nl))]
 (sR [mV 5 0,.ln 6 5,.ms 7 1 1 [.bool false] 6,mV 3 7]
 (.seq (.seq (rE 4 (kI 0))
 (.blk 0 (.loop (.gw (.seq (sR [mV 8 4,mV 9 0,.ln 10 9,bI 11 .lss 8 10]
 (.cond 11 .skip
 (.exit 0)))
 (.seq (.blk 1 (.reg [mV 14 3,mV 15 4,mV 16 0,mV 17 4,iA 18 16 17 1,lF 19 18 1,iA 20 14 15 1,.st 20 19 1]))
 (.reg [mV 12 4,.bi 13 .add 12 (kI 1),mV 4 13])))))))
 (sR [mV 21 3,mV 2 21]
 gR)))
def Lo(a1:List Bool)(v4:Int×(List Bool))(k4:(Int×(List Bool))->Option (List Bool)):Option (List Bool) :=
 bif (decide (v4.1<(a1.length:Int)))then((idx a1 v4.1).bind fun e6=>(idx v4.2 v4.1).bind fun _=>k4 ((w64 (v4.1+1)),(v4.2.set v4.1.toNat e6)))else(some v4.2)
def LD(a1:List Bool):Option (List Bool) :=
 (mkL 1 (a1.length:Int) false).bind fun xs2=>whl (Lo a1) 9223372036854775807 (0,xs2)
theorem J0K{a1:List Bool}{r:(List Bool)}(H:LD a1=some r):Snd Tryz.prog L0i [rV 1 (a1.map eBo)] (nV 1 (r.map eBo)) []:=by
 refine wS U0O [.t 2] ?_
 unfold LD at H
 obtain⟨xs2,h2,H⟩:=bB H
 refine wG [.u 6 (.ln _ _ fun _=>lm a1 eBo),.u 7 (.ms _ _ _ _ fun _=>V0k eBo h2)] fun q3=>?_
 refine wW (fun(v4:Int×(List Bool))=>⟨[(0,rV 1 (a1.map eBo)),(3,.sref 7),(4,iV v4.1)],[],[],[(7,⟨1,v4.2.map eBo,false⟩)]⟩) H (fun v4 I m k4 H N13=>?_)
 unfold Lo at H
 refine wG [.u 10 (.ln _ _ fun _=>lm a1 eBo)] fun q5=>?_
 refine V0 H ?_ ?_<;>intro H
 .obtain⟨e6,h6,H⟩:=bB H
  obtain⟨e7,h7,H⟩:=bB H
  refine wH [.u 18 (.ix _ _ _ fun _=>Y0 eBo h6),.u 20 (.ix _ _ _ fun _=>Y0 eBo h7),.u 1000000 (.sto _ _ _ (eBo e6) _ (fun _=>gm eBo (Q7 h7)) (fun _=>M01 ..))] ?_
  exact wT (N13 _ H)
 .refine wP ?_
  replace H:=sI H;subst H
  exact wN [(2,.f)] [] [] [7] [] [⟨_,Qf v4.2⟩]
def O0O:L :=
.seq (rE 4 (kI 0))
 (sR [mV 5 1,mV 6 0,.ln 7 6,bI 8 .sub 5 7,mV 1 8]
 (.seq (sR [mV 9 1,.bi 10 .lss 9 (kI 0)]
 (.cond 10 (.seq (rE 4 (kI (-1)))
 gR)
 .skip))
 (sR [mV 11 1,mV 4 11]
 gR)))
def ZC(a1:List Bool)(left2:Int):Option Int :=
 bif (decide ((w64 (left2-(a1.length:Int)))<0))then(some (-1))else(some (w64 (left2-(a1.length:Int))))
theorem Z0v{a1:List Bool}{left2 r:Int}(H:ZC a1 left2=some r):Snd Tryz.prog MX [rV 1 (a1.map eBo),iV left2] (iV r) []:=by
 refine wS O0O [.t 4] ?_
 unfold ZC at H
 refine wG [.u 7 (.ln _ _ fun _=>lm a1 eBo)] fun q3=>?_
 refine V0 H ?_ ?_<;>intro H
 .obtain rfl:=sI H
  exact wP (wE [(4,.d)])
 .obtain rfl:=sI H
  exact wP (wE [(4,.d)])
def Zf(a1:List Bool)(left2:Int):Int :=
 bif (decide ((w64 (left2-(a1.length:Int)))<0))then((-1))else((w64 (left2-(a1.length:Int))))
theorem W0V(a1:List Bool)(left2:Int):ZC a1 left2=some (Zf a1 left2):=by
 unfold ZC Zf
 first|rfl|simp only[X2]
theorem Q0L(a1:List Bool)(left2:Int):Snd Tryz.prog MX [rV 1 (a1.map eBo),iV left2] (iV (Zf a1 left2)) []:=Z0v (W0V a1 left2)
def Z0P:L :=
.seq (rE 4 (cB false))
 (.seq (sR [mV 6 0,.ln 7 6,mV 8 1,.ln 9 8,bI 10 .neq 7 9]
 (.cond 10 (.seq (rE 4 (cB false))
 gR)
 .skip))
 (.seq (.seq (rE 5 (kI 0))
 (.blk 0 (.loop (.gw (.seq (sR [mV 11 5,mV 12 0,.ln 13 12,bI 14 .lss 11 13]
 (.cond 14 .skip
 (.exit 0)))
 (.seq (.blk 1 (.seq (.rq 9 [mV 17 0,mV 18 5,iA 19 17 18 1,lF 20 19 1,mV 21 1,mV 22 5,iA 23 21 22 1,lF 24 23 1,.eb 25 true 20 24])
 (.cond 25 (.seq (rE 4 (cB false))
 gR)
 .skip)))
 (.reg [mV 15 5,.bi 16 .add 15 (kI 1),mV 5 16])))))))
 (.seq (rE 4 (cB true))
 gR)))
def Yp(a1 b2:List Bool)(v4:Int)(k4:Int->Option Bool):Option Bool :=
 bif (decide (v4<(a1.length:Int)))then((idx a1 v4).bind fun e6=>(idx b2 v4).bind fun e7=>bif (!(e6==e7))then(some false)else(k4 (w64 (v4+1))))else(some true)
def YE(a1 b2:List Bool):Option Bool :=
 bif ((a1.length:Int)!=(b2.length:Int))then(some false)else(whl (Yp a1 b2) 9223372036854775807 0)
theorem X0M{a1 b2:List Bool}{r:Bool}(H:YE a1 b2=some r):Snd Tryz.prog Y0j [rV 1 (a1.map eBo),rV 1 (b2.map eBo)] (.bool r) []:=by
 refine wS Z0P [.t 4] ?_
 unfold YE at H
 refine wG [.u 7 (.ln _ _ fun _=>lm a1 eBo),.u 9 (.ln _ _ fun _=>lm b2 eBo)] fun q3=>?_
 refine V0 H ?_ ?_<;>intro H
 .obtain rfl:=sI H
  exact wP (wE [(4,.d)])
 .refine wP ?_
  refine wW (fun(v4:Int)=>⟨[(0,rV 1 (a1.map eBo)),(1,rV 1 (b2.map eBo)),(5,iV v4)],[],[],[]⟩) H (fun v4 I m k4 H N25=>?_)
  unfold Yp at H
  refine wG [.u 13 (.ln _ _ fun _=>lm a1 eBo)] fun q5=>?_
  refine V0 H ?_ ?_<;>intro H
  .obtain⟨e6,h6,H⟩:=bB H
   obtain⟨e7,h7,H⟩:=bB H
   refine wH [.u 19 (.ix _ _ _ fun _=>Y0 eBo h6),.u 23 (.ix _ _ _ fun _=>Y0 eBo h7)] ?_
   refine V0 H ?_ ?_<;>intro H
   .obtain rfl:=sI H
    exact wP (wE [(4,.d)])
   .refine wP ?_
    exact wT (N25 _ H)
  .obtain rfl:=sI H
   exact wP (wE [(4,.d)])
def L0X:L :=
sR [.mv 2 (.c (.nl))]
 (sR [mV 5 0,.ln 6 5,.ms 7 11 88 [.int .i64 0,.int .i64 0,.int .i64 0,.int .i64 0,.int .i64 0,.int .i64 0,.int .i64 0,.int .i64 0,.int .i64 0,.int .i64 0,.int .i64 0] 6,mV 3 7]
 (.seq (.seq (rE 4 (kI 0))
 (.blk 0 (.loop (.gw (.seq (sR [mV 8 4,mV 9 0,.ln 10 9,bI 11 .lss 8 10]
 (.cond 11 .skip
 (.exit 0)))
 (.seq (.blk 1 (.reg [mV 14 3,mV 15 4,mV 16 0,mV 17 4,iA 18 16 17 11,lT 19 18 11,cQ 20 QU [19],iA 21 14 15 11,.st 21 20 11]))
 (.reg [mV 12 4,.bi 13 .add 12 (kI 1),mV 4 13])))))))
 (sR [mV 22 3,mV 2 22]
 gR)))
def Qu(a1:List Job)(v4:Int×(List Job))(k4:(Int×(List Job))->Option (List Job)):Option (List Job) :=
 bif (decide (v4.1<(a1.length:Int)))then((idx a1 v4.1).bind fun e6=>(idx v4.2 v4.1).bind fun _=>k4 ((w64 (v4.1+1)),(v4.2.set v4.1.toNat (Job.mk ((X3 e6).id) ((X3 e6).prio) ((X3 e6).nodes) ((X3 e6).need) ((X3 e6).lic) ((X3 e6).wall) ((X3 e6).level)))))else(some v4.2)
def UN(a1:List Job):Option (List Job) :=
 (mkL 88 (a1.length:Int) (Job.mk 0 0 0 (Vec.mk 0 0 0) (Vec.mk 0 0 0) 0 0)).bind fun xs2=>whl (Qu a1) 9223372036854775807 (0,xs2)
theorem O0U{a1:List Job}{r:(List Job)}(H:UN a1=some r):Snd Tryz.prog J0r [rV 11 (a1.map eJob)] (nV 11 (r.map eJob)) []:=by
 refine wS L0X [.t 2] ?_
 unfold UN at H
 obtain⟨xs2,h2,H⟩:=bB H
 refine wG [.u 6 (.ln _ _ fun _=>lm a1 eJob),.u 7 (.ms _ _ _ _ fun _=>V0k eJob h2)] fun q3=>?_
 refine wW (fun(v4:Int×(List Job))=>⟨[(0,rV 11 (a1.map eJob)),(3,.sref 7),(4,iV v4.1)],[],[],[(7,⟨11,v4.2.map eJob,false⟩)]⟩) H (fun v4 I m k4 H N13=>?_)
 unfold Qu at H
 refine wG [.u 10 (.ln _ _ fun _=>lm a1 eJob)] fun q5=>?_
 refine V0 H ?_ ?_<;>intro H
 .obtain⟨e6,h6,H⟩:=bB H
  obtain⟨e7,h7,H⟩:=bB H
  refine wH [.u 18 (.ix _ _ _ fun _=>Y0 eJob h6),.c 20 (Y0o e6),.u 21 (.ix _ _ _ fun _=>Y0 eJob h7),.u 1000000 (.sto _ _ _ (eJob (Job.mk ((X3 e6).id) ((X3 e6).prio) ((X3 e6).nodes) ((X3 e6).need) ((X3 e6).lic) ((X3 e6).wall) ((X3 e6).level))) _ (fun _=>gm eJob (Q7 h7)) (fun _=>M01 ..))] ?_
  exact wT (N13 _ H)
 .refine wP ?_
  replace H:=sI H;subst H
  exact wN [(2,.f)] [] [] [7] [] [⟨_,Wi v4.2⟩]
def V0Y:L :=
.seq (rE 4 (kI 0))
 (sR [mV 5 1,mV 6 0,.ln 7 6,bI 8 .sub 5 7,mV 1 8]
 (.seq (sR [mV 9 1,.bi 10 .lss 9 (kI 0)]
 (.cond 10 (.seq (rE 4 (kI (-1)))
 gR)
 .skip))
 (sR [mV 11 1,mV 4 11]
 gR)))
def JI(a1:List Job)(left2:Int):Option Int :=
 bif (decide ((w64 (left2-(a1.length:Int)))<0))then(some (-1))else(some (w64 (left2-(a1.length:Int))))
theorem Z0D{a1:List Job}{left2 r:Int}(H:JI a1 left2=some r):Snd Tryz.prog W04 [rV 11 (a1.map eJob),iV left2] (iV r) []:=by
 refine wS V0Y [.t 4] ?_
 unfold JI at H
 refine wG [.u 7 (.ln _ _ fun _=>lm a1 eJob)] fun q3=>?_
 refine V0 H ?_ ?_<;>intro H
 .obtain rfl:=sI H
  exact wP (wE [(4,.d)])
 .obtain rfl:=sI H
  exact wP (wE [(4,.d)])
def Qy(a1:List Job)(left2:Int):Int :=
 bif (decide ((w64 (left2-(a1.length:Int)))<0))then((-1))else((w64 (left2-(a1.length:Int))))
theorem X19(a1:List Job)(left2:Int):JI a1 left2=some (Qy a1 left2):=by
 unfold JI Qy
 first|rfl|simp only[X2]
theorem U0V(a1:List Job)(left2:Int):Snd Tryz.prog W04 [rV 11 (a1.map eJob),iV left2] (iV (Qy a1 left2)) []:=Z0D (X19 a1 left2)
def Q1b:L :=
sR [.bx 2 0,.bx 3 1,.mv 4 (cB false)]
 (.seq (sR [fA 5 2 0,lF 6 5 1,fA 7 3 0,lF 8 7 1,bI 9 .neq 6 8]
 (.cond 9 (.seq (rE 4 (cB false))
 gR)
 .skip))
 (.seq (sR [fA 10 2 1,lF 11 10 1,fA 12 3 1,lF 13 12 1,bI 14 .neq 11 13]
 (.cond 14 (.seq (rE 4 (cB false))
 gR)
 .skip))
 (.seq (sR [fA 15 2 2,lF 16 15 1,fA 17 3 2,lF 18 17 1,bI 19 .neq 16 18]
 (.cond 19 (.seq (rE 4 (cB false))
 gR)
 .skip))
 (.seq (sR [fA 20 2 3,lT 21 20 3,fA 22 3 3,lT 23 22 3,cQ 24 Ws [21,23],.un 25 24]
 (.cond 25 (.seq (rE 4 (cB false))
 gR)
 .skip))
 (.seq (sR [fA 26 2 6,lT 27 26 3,fA 28 3 6,lT 29 28 3,cQ 30 Ws [27,29],.un 31 30]
 (.cond 31 (.seq (rE 4 (cB false))
 gR)
 .skip))
 (.seq (sR [fA 32 2 9,lF 33 32 1,fA 34 3 9,lF 35 34 1,bI 36 .neq 33 35]
 (.cond 36 (.seq (rE 4 (cB false))
 gR)
 .skip))
 (.seq (sR [fA 37 2 10,lF 38 37 1,fA 39 3 10,lF 40 39 1,bI 41 .neq 38 40]
 (.cond 41 (.seq (rE 4 (cB false))
 gR)
 .skip))
 (.seq (rE 4 (cB true))
 gR))))))))
def OS(a1 b2:Job):Option Bool :=
 bif (a1.id != b2.id)then(some false)else(bif (a1.prio != b2.prio)then(some false)else(bif (a1.nodes != b2.nodes)then(some false)else(bif (!(Vb a1.need b2.need))then(some false)else(bif (!(Vb a1.lic b2.lic))then(some false)else(bif (a1.wall != b2.wall)then(some false)else(bif (a1.level != b2.level)then(some false)else(some true)))))))
theorem J0L{a1 b2:Job}{r:Bool}(H:OS a1 b2=some r):Snd Tryz.prog WU [eJob a1,eJob b2] (.bool r) []:=by
 refine wS Q1b [.t 4] ?_
 unfold OS at H
 refine wP ?_
 refine V0 H ?_ ?_<;>intro H
 .obtain rfl:=sI H
  exact wP (wE [(4,.d)])
 .refine wP ?_
  refine V0 H ?_ ?_<;>intro H
  .obtain rfl:=sI H
   exact wP (wE [(4,.d)])
  .refine wP ?_
   refine V0 H ?_ ?_<;>intro H
   .obtain rfl:=sI H
    exact wP (wE [(4,.d)])
   .refine wH [.c 24 (XJ a1.need b2.need)] ?_
    refine V0 H ?_ ?_<;>intro H
    .obtain rfl:=sI H
     exact wP (wE [(4,.d)])
    .refine wH [.c 30 (XJ a1.lic b2.lic)] ?_
     refine V0 H ?_ ?_<;>intro H
     .obtain rfl:=sI H
      exact wP (wE [(4,.d)])
     .refine wP ?_
      refine V0 H ?_ ?_<;>intro H
      .obtain rfl:=sI H
       exact wP (wE [(4,.d)])
      .refine wP ?_
       refine V0 H ?_ ?_<;>intro H
       .obtain rfl:=sI H
        exact wP (wE [(4,.d)])
       .obtain rfl:=sI H
        exact wP (wE [(4,.d)])
def Jy(a1 b2:Job):Bool :=
 bif (a1.id != b2.id)then(false)else(bif (a1.prio != b2.prio)then(false)else(bif (a1.nodes != b2.nodes)then(false)else(bif (!(Vb a1.need b2.need))then(false)else(bif (!(Vb a1.lic b2.lic))then(false)else(bif (a1.wall != b2.wall)then(false)else(bif (a1.level != b2.level)then(false)else(true)))))))
theorem W1j(a1 b2:Job):OS a1 b2=some (Jy a1 b2):=by
 unfold OS Jy
 first|rfl|simp only[X2]
theorem X0o(a1 b2:Job):Snd Tryz.prog WU [eJob a1,eJob b2] (.bool (Jy a1 b2)) []:=J0L (W1j a1 b2)
def J0Y:L :=
.seq (rE 4 (cB false))
 (.seq (sR [mV 6 0,.ln 7 6,mV 8 1,.ln 9 8,bI 10 .neq 7 9]
 (.cond 10 (.seq (rE 4 (cB false))
 gR)
 .skip))
 (.seq (.seq (rE 5 (kI 0))
 (.blk 0 (.loop (.gw (.seq (sR [mV 11 5,mV 12 0,.ln 13 12,bI 14 .lss 11 13]
 (.cond 14 .skip
 (.exit 0)))
 (.seq (.blk 1 (.seq (.rq 10 [mV 17 0,mV 18 5,iA 19 17 18 11,lT 20 19 11,mV 21 1,mV 22 5,iA 23 21 22 11,lT 24 23 11,cQ 25 WU [20,24],.un 26 25])
 (.cond 26 (.seq (rE 4 (cB false))
 gR)
 .skip)))
 (.reg [mV 15 5,.bi 16 .add 15 (kI 1),mV 5 16])))))))
 (.seq (rE 4 (cB true))
 gR)))
def Lu(a1 b2:List Job)(v4:Int)(k4:Int->Option Bool):Option Bool :=
 bif (decide (v4<(a1.length:Int)))then((idx a1 v4).bind fun e6=>(idx b2 v4).bind fun e7=>bif (!(Jy e6 e7))then(some false)else(k4 (w64 (v4+1))))else(some true)
def YO(a1 b2:List Job):Option Bool :=
 bif ((a1.length:Int)!=(b2.length:Int))then(some false)else(whl (Lu a1 b2) 9223372036854775807 0)
theorem Z0W{a1 b2:List Job}{r:Bool}(H:YO a1 b2=some r):Snd Tryz.prog U0s [rV 11 (a1.map eJob),rV 11 (b2.map eJob)] (.bool r) []:=by
 refine wS J0Y [.t 4] ?_
 unfold YO at H
 refine wG [.u 7 (.ln _ _ fun _=>lm a1 eJob),.u 9 (.ln _ _ fun _=>lm b2 eJob)] fun q3=>?_
 refine V0 H ?_ ?_<;>intro H
 .obtain rfl:=sI H
  exact wP (wE [(4,.d)])
 .refine wP ?_
  refine wW (fun(v4:Int)=>⟨[(0,rV 11 (a1.map eJob)),(1,rV 11 (b2.map eJob)),(5,iV v4)],[],[],[]⟩) H (fun v4 I m k4 H N25=>?_)
  unfold Lu at H
  refine wG [.u 13 (.ln _ _ fun _=>lm a1 eJob)] fun q5=>?_
  refine V0 H ?_ ?_<;>intro H
  .obtain⟨e6,h6,H⟩:=bB H
   obtain⟨e7,h7,H⟩:=bB H
   refine wH [.u 19 (.ix _ _ _ fun _=>Y0 eJob h6),.u 23 (.ix _ _ _ fun _=>Y0 eJob h7),.c 25 (X0o e6 e7)] ?_
   refine V0 H ?_ ?_<;>intro H
   .obtain rfl:=sI H
    exact wP (wE [(4,.d)])
   .refine wP ?_
    exact wT (N25 _ H)
  .obtain rfl:=sI H
   exact wP (wE [(4,.d)])
def J1a:L :=
sR [.bx 1 0,.al 2 [.int .i64 0,.int .i64 0,.int .i64 0,.int .i64 0,.int .i64 0,.int .i64 0,.int .i64 0,.int .i64 0,.int .i64 0,.int .i64 0,.int .i64 0,.int .i64 0,.nl]]
 (sR [.al 3 [.int .i64 0,.int .i64 0,.int .i64 0,.int .i64 0,.int .i64 0,.int .i64 0,.int .i64 0,.int .i64 0,.int .i64 0,.int .i64 0,.int .i64 0,.int .i64 0,.nl]]
 (sR [fA 4 1 0,lT 5 4 11,cQ 6 QU [5],fA 7 3 0,.st 7 6 11]
 (sR [fA 8 1 11,lF 9 8 1,fA 10 3 11,.st 10 9 1]
 (sR [fA 11 1 12,lF 12 11 1,cQ 13 U04 [12],fA 14 3 12,.st 14 13 1]
 (sR [lT 15 3 13,.st 2 15 13]
 gR)))))
def MZ(a1:Run):Option Run :=
 (Vy a1.nodes).bind fun y2=>some (Run.mk (Job.mk ((X3 a1.job).id) ((X3 a1.job).prio) ((X3 a1.job).nodes) ((X3 a1.job).need) ((X3 a1.job).lic) ((X3 a1.job).wall) ((X3 a1.job).level)) a1.t y2)
theorem O18{a1 r:Run}(H:MZ a1=some r):Snd Tryz.prog L0A [J0 .rd a1] (J0 .nw r) []:=by
 refine wS J1a [.c 2 13 true] ?_
 unfold MZ at H
 obtain⟨y2,h2,H⟩:=bB H
 refine wH [.c 6 (Y0o a1.job),.c 13 (X0h h2)] ?_
 replace H:=sI H;subst H
 exact wN [(2,.d)] [(2,[])] [] [] [] [⟨_,nw_I y2⟩]
def O0X:L :=
sR [.mv 2 (.c (.nl))]
 (sR [mV 5 0,.ln 6 5,.ms 7 13 120 [.int .i64 0,.int .i64 0,.int .i64 0,.int .i64 0,.int .i64 0,.int .i64 0,.int .i64 0,.int .i64 0,.int .i64 0,.int .i64 0,.int .i64 0,.int .i64 0,.sl .nw 1 []] 6,mV 3 7]
 (.seq (.seq (rE 4 (kI 0))
 (.blk 0 (.loop (.gw (.seq (sR [mV 8 4,mV 9 0,.ln 10 9,bI 11 .lss 8 10]
 (.cond 11 .skip
 (.exit 0)))
 (.seq (.blk 1 (.reg [mV 14 3,mV 15 4,mV 16 0,mV 17 4,iA 18 16 17 13,lT 19 18 13,cQ 20 L0A [19],iA 21 14 15 13,.st 21 20 13]))
 (.reg [mV 12 4,.bi 13 .add 12 (kI 1),mV 4 13])))))))
 (sR [mV 22 3,mV 2 22]
 gR)))
def Uu(a1:List Run)(v4:Int×(List Run))(k4:(Int×(List Run))->Option (List Run)):Option (List Run) :=
 bif (decide (v4.1<(a1.length:Int)))then((idx a1 v4.1).bind fun e6=>(MZ e6).bind fun y7=>(idx v4.2 v4.1).bind fun _=>k4 ((w64 (v4.1+1)),(v4.2.set v4.1.toNat y7)))else(some v4.2)
def VN(a1:List Run):Option (List Run) :=
 (mkL 120 (a1.length:Int) (Run.mk (Job.mk 0 0 0 (Vec.mk 0 0 0) (Vec.mk 0 0 0) 0 0) 0 [])).bind fun xs2=>whl (Uu a1) 9223372036854775807 (0,xs2)
theorem U0U{a1:List Run}{r:(List Run)}(H:VN a1=some r):Snd Tryz.prog L0r [rV 13 (a1.map (J0 .rd))] (nV 13 (r.map (J0 .nw))) []:=by
 refine wS O0X [.t 2] ?_
 unfold VN at H
 obtain⟨xs2,h2,H⟩:=bB H
 refine wG [.u 6 (.ln _ _ fun _=>lm a1 (J0 .rd)),.u 7 (.ms _ _ _ _ fun _=>V0k (J0 .nw) h2)] fun q3=>?_
 refine wW (fun(v4:Int×(List Run))=>⟨[(0,rV 13 (a1.map (J0 .rd))),(3,.sref 7),(4,iV v4.1)],[],[],[(7,⟨13,v4.2.map (J0 .nw),false⟩)]⟩) H (fun v4 I m k4 H N13=>?_)
 unfold Uu at H
 refine wG [.u 10 (.ln _ _ fun _=>lm a1 (J0 .rd))] fun q5=>?_
 refine V0 H ?_ ?_<;>intro H
 .obtain⟨e6,h6,H⟩:=bB H
  obtain⟨y7,h7,H⟩:=bB H
  obtain⟨e8,h8,H⟩:=bB H
  refine wH [.u 18 (.ix _ _ _ fun _=>Y0 (J0 .rd) h6),.c 20 (O18 h7),.u 21 (.ix _ _ _ fun _=>Y0 (J0 .nw) h8),.u 1000000 (.sto _ _ _ (J0 .nw y7) _ (fun _=>gm (J0 .nw) (Q7 h8)) (fun _=>M01 ..))] ?_
  exact wT (N13 _ H)
 .refine wP ?_
  replace H:=sI H;subst H
  exact wN [(2,.f)] [] [] [7] [] [⟨_,Qi v4.2⟩]
def Y1b:L :=
sR [.bx 1 0,.al 2 [.int .i64 0,.int .i64 0,.int .i64 0]]
 (sR [.al 3 [.int .i64 0,.int .i64 0,.int .i64 0]]
 (sR [fA 4 1 0,lF 5 4 1,fA 6 3 0,.st 6 5 1]
 (sR [fA 7 1 1,lF 8 7 1,fA 9 3 1,.st 9 8 1]
 (sR [fA 10 1 2,lF 11 10 1,fA 12 3 2,.st 12 11 1]
 (sR [lT 13 3 3,.st 2 13 3]
 gR)))))
def XS(a1:End):Option End :=
 some a1
theorem L0K{a1 r:End}(H:XS a1=some r):Snd Tryz.prog U0d [eEnd a1] (eEnd r) []:=by
 refine wS Y1b [.c 2 3 true] ?_
 unfold XS at H
 refine wP ?_
 replace H:=sI H;subst H
 exact wN [(2,.d)] [(2,[])] [] [] [] []
def LZ(a1:End):End :=
 a1
theorem V1j(a1:End):XS a1=some (LZ a1):=by
 unfold XS LZ
 first|rfl|simp only[X2]
theorem J18(a1:End):Snd Tryz.prog U0d [eEnd a1] (eEnd (LZ a1)) []:=L0K (V1j a1)
def Z0Y:L :=
sR [.mv 2 (.c (.nl))]
 (sR [mV 5 0,.ln 6 5,.ms 7 3 24 [.int .i64 0,.int .i64 0,.int .i64 0] 6,mV 3 7]
 (.seq (.seq (rE 4 (kI 0))
 (.blk 0 (.loop (.gw (.seq (sR [mV 8 4,mV 9 0,.ln 10 9,bI 11 .lss 8 10]
 (.cond 11 .skip
 (.exit 0)))
 (.seq (.blk 1 (.reg [mV 14 3,mV 15 4,mV 16 0,mV 17 4,iA 18 16 17 3,lT 19 18 3,cQ 20 U0d [19],iA 21 14 15 3,.st 21 20 3]))
 (.reg [mV 12 4,.bi 13 .add 12 (kI 1),mV 4 13])))))))
 (sR [mV 22 3,mV 2 22]
 gR)))
def Ou(a1:List End)(v4:Int×(List End))(k4:(Int×(List End))->Option (List End)):Option (List End) :=
 bif (decide (v4.1<(a1.length:Int)))then((idx a1 v4.1).bind fun e6=>(idx v4.2 v4.1).bind fun _=>k4 ((w64 (v4.1+1)),(v4.2.set v4.1.toNat (LZ e6))))else(some v4.2)
def QN(a1:List End):Option (List End) :=
 (mkL 24 (a1.length:Int) (End.mk 0 0 0)).bind fun xs2=>whl (Ou a1) 9223372036854775807 (0,xs2)
theorem L0U{a1:List End}{r:(List End)}(H:QN a1=some r):Snd Tryz.prog Z0s [rV 3 (a1.map eEnd)] (nV 3 (r.map eEnd)) []:=by
 refine wS Z0Y [.t 2] ?_
 unfold QN at H
 obtain⟨xs2,h2,H⟩:=bB H
 refine wG [.u 6 (.ln _ _ fun _=>lm a1 eEnd),.u 7 (.ms _ _ _ _ fun _=>V0k eEnd h2)] fun q3=>?_
 refine wW (fun(v4:Int×(List End))=>⟨[(0,rV 3 (a1.map eEnd)),(3,.sref 7),(4,iV v4.1)],[],[],[(7,⟨3,v4.2.map eEnd,false⟩)]⟩) H (fun v4 I m k4 H N13=>?_)
 unfold Ou at H
 refine wG [.u 10 (.ln _ _ fun _=>lm a1 eEnd)] fun q5=>?_
 refine V0 H ?_ ?_<;>intro H
 .obtain⟨e6,h6,H⟩:=bB H
  obtain⟨e7,h7,H⟩:=bB H
  refine wH [.u 18 (.ix _ _ _ fun _=>Y0 eEnd h6),.c 20 (J18 e6),.u 21 (.ix _ _ _ fun _=>Y0 eEnd h7),.u 1000000 (.sto _ _ _ (eEnd (LZ e6)) _ (fun _=>gm eEnd (Q7 h7)) (fun _=>M01 ..))] ?_
  exact wT (N13 _ H)
 .refine wP ?_
  replace H:=sI H;subst H
  exact wN [(2,.f)] [] [] [7] [] [⟨_,WD v4.2⟩]
def X0O:L :=
sR [.bx 1 0,.al 2 [.nl,.nl,.nl,.int .i64 0,.int .i64 0,.int .i64 0,.int .i64 0,.int .i64 0,.nl,.nl,.nl]]
 (sR [.al 3 [.nl,.nl,.nl,.int .i64 0,.int .i64 0,.int .i64 0,.int .i64 0,.int .i64 0,.nl,.nl,.nl]]
 (sR [fA 4 1 0,lT 5 4 2,cQ 6 M0r [5],fA 7 3 0,.st 7 6 2]
 (sR [fA 8 1 2,lF 9 8 1,cQ 10 L0i [9],fA 11 3 2,.st 11 10 1]
 (sR [fA 12 1 3,lT 13 12 3,cQ 14 Qs [13],fA 15 3 3,.st 15 14 3]
 (sR [fA 16 1 6,lF 17 16 1,fA 18 3 6,.st 18 17 1]
 (sR [fA 19 1 7,lF 20 19 1,fA 21 3 7,.st 21 20 1]
 (sR [fA 22 1 8,lF 23 22 1,cQ 24 J0r [23],fA 25 3 8,.st 25 24 1]
 (sR [fA 26 1 9,lF 27 26 1,cQ 28 L0r [27],fA 29 3 9,.st 29 28 1]
 (sR [fA 30 1 10,lF 31 30 1,cQ 32 Z0s [31],fA 33 3 10,.st 33 32 1]
 (sR [lT 34 3 11,.st 2 34 11]
 gR))))))))))
def ZS(a1:State):Option State :=
 (XN a1.topo).bind fun y2=>(LD a1.up).bind fun y3=>(UN a1.queue).bind fun y4=>(VN a1.runs).bind fun y5=>(QN a1.ends).bind fun y6=>some (State.mk y2 y3 (Og a1.lic) a1.depth a1.now y4 y5 y6)
theorem U0K{a1 r:State}(H:ZS a1=some r):Snd Tryz.prog Mg [Y2 .rd a1] (Y2 .nw r) []:=by
 refine wS X0O [.c 2 11 true] ?_
 unfold ZS at H
 obtain⟨y2,h2,H⟩:=bB H
 obtain⟨y3,h3,H⟩:=bB H
 obtain⟨y4,h4,H⟩:=bB H
 obtain⟨y5,h5,H⟩:=bB H
 obtain⟨y6,h6,H⟩:=bB H
 refine wH [.c 6 (X0U h2),.c 10 (J0K h3),.c 14 (OI a1.lic),.c 24 (O0U h4),.c 28 (U0U h5),.c 32 (L0U h6)] ?_
 replace H:=sI H;subst H
 exact wN [(2,.d)] [(2,[])] [] [] [] [⟨_,nw_I y2.parents⟩,⟨_,V3 y2.nodes⟩,⟨_,Qf y3⟩,⟨_,Wi y4⟩,⟨_,Qi y5⟩,⟨_,WD y6⟩]
def X1b:L :=
sR [.bx 2 0,.mv 4 (kI 0)]
 (sR [fA 5 2 12,lF 6 5 1,mV 7 1,cQ 8 UK [6,7],mV 1 8]
 (.seq (sR [mV 9 1,.bi 10 .lss 9 (kI 0)]
 (.cond 10 (.seq (rE 4 (kI (-1)))
 gR)
 .skip))
 (sR [mV 11 1,mV 4 11]
 gR)))
def VS(a1:Run)(left2:Int):Option Int :=
 bif (decide ((Y5 a1.nodes left2)<0))then(some (-1))else(some (Y5 a1.nodes left2))
theorem V0L{a1:Run}{left2 r:Int}(H:VS a1 left2=some r):Snd Tryz.prog Q0d [J0 .rd a1,iV left2] (iV r) []:=by
 refine wS X1b [.t 4] ?_
 unfold VS at H
 refine wH [.c 8 (U0h a1.nodes left2)] ?_
 refine V0 H ?_ ?_<;>intro H
 .obtain rfl:=sI H
  exact wP (wE [(4,.d)])
 .obtain rfl:=sI H
  exact wP (wE [(4,.d)])
def Uy(a1:Run)(left2:Int):Int :=
 bif (decide ((Y5 a1.nodes left2)<0))then((-1))else((Y5 a1.nodes left2))
theorem U1j(a1:Run)(left2:Int):VS a1 left2=some (Uy a1 left2):=by
 unfold VS Uy
 first|rfl|simp only[X2]
theorem Y19(a1:Run)(left2:Int):Snd Tryz.prog Q0d [J0 .rd a1,iV left2] (iV (Uy a1 left2)) []:=V0L (U1j a1 left2)
def X0Y:L :=
.seq (rE 4 (kI 0))
 (sR [mV 6 1,mV 7 0,.ln 8 7,bI 9 .sub 6 8,mV 1 9]
 (.seq (sR [mV 10 1,.bi 11 .lss 10 (kI 0)]
 (.cond 11 (.seq (rE 4 (kI (-1)))
 gR)
 .skip))
 (.seq (.seq (rE 5 (kI 0))
 (.blk 0 (.loop (.gw (.seq (sR [mV 12 5,mV 13 0,.ln 14 13,bI 15 .lss 12 14]
 (.cond 15 .skip
 (.exit 0)))
 (.seq (.blk 1 (sR [mV 18 0,mV 19 5,iA 20 18 19 13,lT 21 20 13,mV 22 1,cQ 23 Q0d [21,22],mV 1 23]
 (sR [mV 24 1,.bi 25 .lss 24 (kI 0)]
 (.cond 25 (.seq (rE 4 (kI (-1)))
 gR)
 .skip))))
 (.reg [mV 16 5,.bi 17 .add 16 (kI 1),mV 5 17])))))))
 (sR [mV 26 1,mV 4 26]
 gR))))
def WN(a1:List Run)(v4:Int×Int)(k4:(Int×Int)->Option Int):Option Int :=
 bif (decide (v4.2<(a1.length:Int)))then((idx a1 v4.2).bind fun e6=>bif (decide ((Uy e6 v4.1)<0))then(some (-1))else(k4 ((Uy e6 v4.1),(w64 (v4.2+1)))))else(some v4.1)
def ON(a1:List Run)(left2:Int):Option Int :=
 bif (decide ((w64 (left2-(a1.length:Int)))<0))then(some (-1))else(whl (WN a1) 9223372036854775807 ((w64 (left2-(a1.length:Int))),0))
theorem X0V{a1:List Run}{left2 r:Int}(H:ON a1 left2=some r):Snd Tryz.prog Y0s [rV 13 (a1.map (J0 .rd)),iV left2] (iV r) []:=by
 refine wS X0Y [.t 4] ?_
 unfold ON at H
 refine wG [.u 8 (.ln _ _ fun _=>lm a1 (J0 .rd))] fun q3=>?_
 refine V0 H ?_ ?_<;>intro H
 .obtain rfl:=sI H
  exact wP (wE [(4,.d)])
 .refine wP ?_
  refine wW (fun(v4:Int×Int)=>⟨[(0,rV 13 (a1.map (J0 .rd))),(1,iV v4.1),(5,iV v4.2)],[],[],[]⟩) H (fun v4 I m k4 H N28=>?_)
  unfold WN at H
  refine wG [.u 14 (.ln _ _ fun _=>lm a1 (J0 .rd))] fun q5=>?_
  refine V0 H ?_ ?_<;>intro H
  .obtain⟨e6,h6,H⟩:=bB H
   refine wH [.u 20 (.ix _ _ _ fun _=>Y0 (J0 .rd) h6),.c 23 (Y19 e6 v4.1)] ?_
   refine V0 H ?_ ?_<;>intro H
   .obtain rfl:=sI H
    exact wP (wE [(4,.d)])
   .refine wP ?_
    exact wT (N28 _ H)
  .obtain rfl:=sI H
   exact wP (wE [(4,.d)])
def Q0Y:L :=
.seq (rE 4 (kI 0))
 (sR [mV 5 1,mV 6 0,.ln 7 6,bI 8 .sub 5 7,mV 1 8]
 (.seq (sR [mV 9 1,.bi 10 .lss 9 (kI 0)]
 (.cond 10 (.seq (rE 4 (kI (-1)))
 gR)
 .skip))
 (sR [mV 11 1,mV 4 11]
 gR)))
def YJ(a1:List End)(left2:Int):Option Int :=
 bif (decide ((w64 (left2-(a1.length:Int)))<0))then(some (-1))else(some (w64 (left2-(a1.length:Int))))
theorem X0D{a1:List End}{left2 r:Int}(H:YJ a1 left2=some r):Snd Tryz.prog O04 [rV 3 (a1.map eEnd),iV left2] (iV r) []:=by
 refine wS Q0Y [.t 4] ?_
 unfold YJ at H
 refine wG [.u 7 (.ln _ _ fun _=>lm a1 eEnd)] fun q3=>?_
 refine V0 H ?_ ?_<;>intro H
 .obtain rfl:=sI H
  exact wP (wE [(4,.d)])
 .obtain rfl:=sI H
  exact wP (wE [(4,.d)])
def Wy(a1:List End)(left2:Int):Int :=
 bif (decide ((w64 (left2-(a1.length:Int)))<0))then((-1))else((w64 (left2-(a1.length:Int))))
theorem U19(a1:List End)(left2:Int):YJ a1 left2=some (Wy a1 left2):=by
 unfold YJ Wy
 first|rfl|simp only[X2]
theorem Q0V(a1:List End)(left2:Int):Snd Tryz.prog O04 [rV 3 (a1.map eEnd),iV left2] (iV (Wy a1 left2)) []:=X0D (U19 a1 left2)
def Q0O:L :=
sR [.bx 2 0,.mv 4 (kI 0)]
 (sR [fA 5 2 0,lT 6 5 2,mV 7 1,cQ 8 Q04 [6,7],mV 1 8]
 (.seq (sR [mV 9 1,.bi 10 .lss 9 (kI 0)]
 (.cond 10 (.seq (rE 4 (kI (-1)))
 gR)
 .skip))
 (sR [fA 11 2 2,lF 12 11 1,mV 13 1,cQ 14 MX [12,13],mV 1 14]
 (.seq (sR [mV 15 1,.bi 16 .lss 15 (kI 0)]
 (.cond 16 (.seq (rE 4 (kI (-1)))
 gR)
 .skip))
 (sR [fA 17 2 8,lF 18 17 1,mV 19 1,cQ 20 W04 [18,19],mV 1 20]
 (.seq (sR [mV 21 1,.bi 22 .lss 21 (kI 0)]
 (.cond 22 (.seq (rE 4 (kI (-1)))
 gR)
 .skip))
 (sR [fA 23 2 9,lF 24 23 1,mV 25 1,cQ 26 Y0s [24,25],mV 1 26]
 (.seq (sR [mV 27 1,.bi 28 .lss 27 (kI 0)]
 (.cond 28 (.seq (rE 4 (kI (-1)))
 gR)
 .skip))
 (sR [fA 29 2 10,lF 30 29 1,mV 31 1,cQ 32 O04 [30,31],mV 1 32]
 (.seq (sR [mV 33 1,.bi 34 .lss 33 (kI 0)]
 (.cond 34 (.seq (rE 4 (kI (-1)))
 gR)
 .skip))
 (sR [mV 35 1,mV 4 35]
 gR)))))))))))
def JD(a1:State)(left2:Int):Option Int :=
 bif (decide ((M6 a1.topo left2)<0))then(some (-1))else(bif (decide ((Zf a1.up (M6 a1.topo left2))<0))then(some (-1))else(bif (decide ((Qy a1.queue (Zf a1.up (M6 a1.topo left2)))<0))then(some (-1))else((ON a1.runs (Qy a1.queue (Zf a1.up (M6 a1.topo left2)))).bind fun n3=>bif (decide (n3<0))then(some (-1))else(bif (decide ((Wy a1.ends n3)<0))then(some (-1))else(some (Wy a1.ends n3))))))
theorem Y0L{a1:State}{left2 r:Int}(H:JD a1 left2=some r):Snd Tryz.prog J0i [Y2 .rd a1,iV left2] (iV r) []:=by
 refine wS Q0O [.t 4] ?_
 unfold JD at H
 refine wH [.c 8 (Z0V a1.topo left2)] ?_
 refine V0 H ?_ ?_<;>intro H
 .obtain rfl:=sI H
  exact wP (wE [(4,.d)])
 .refine wH [.u 14 (.call _ _ _ _ _ (AEs.refl _) (fun _=>Q0L a1.up (M6 a1.topo left2)))] ?_
  refine V0 H ?_ ?_<;>intro H
  .obtain rfl:=sI H
   exact wP (wE [(4,.d)])
  .refine wH [.u 20 (.call _ _ _ _ _ (AEs.refl _) (fun _=>U0V a1.queue (Zf a1.up (M6 a1.topo left2))))] ?_
   refine V0 H ?_ ?_<;>intro H
   .obtain rfl:=sI H
    exact wP (wE [(4,.d)])
   .obtain⟨n3,h3,H⟩:=bB H
    refine wH [.c 26 (X0V h3)] ?_
    refine V0 H ?_ ?_<;>intro H
    .obtain rfl:=sI H
     exact wP (wE [(4,.d)])
    .refine wH [.c 32 (Q0V a1.ends n3)] ?_
     refine V0 H ?_ ?_<;>intro H
     .obtain rfl:=sI H
      exact wP (wE [(4,.d)])
     .obtain rfl:=sI H
      exact wP (wE [(4,.d)])
def U1b:L :=
sR [.bx 2 0,.bx 3 1,.mv 4 (cB false)]
 (.seq (sR [fA 5 2 0,lT 6 5 11,fA 7 3 0,lT 8 7 11,cQ 9 WU [6,8],.un 10 9]
 (.cond 10 (.seq (rE 4 (cB false))
 gR)
 .skip))
 (.seq (sR [fA 11 2 11,lF 12 11 1,fA 13 3 11,lF 14 13 1,bI 15 .neq 12 14]
 (.cond 15 (.seq (rE 4 (cB false))
 gR)
 .skip))
 (.seq (sR [fA 16 2 12,lF 17 16 1,fA 18 3 12,lF 19 18 1,cQ 20 J04 [17,19],.un 21 20]
 (.cond 21 (.seq (rE 4 (cB false))
 gR)
 .skip))
 (.seq (rE 4 (cB true))
 gR))))
def JZ(a1 b2:Run):Option Bool :=
 bif (!(Jy a1.job b2.job))then(some false)else(bif (a1.t != b2.t)then(some false)else((Zz a1.nodes b2.nodes).bind fun b3=>bif (!b3)then(some false)else(some true)))
theorem W19{a1 b2:Run}{r:Bool}(H:JZ a1 b2=some r):Snd Tryz.prog J0A [J0 .rd a1,J0 .rd b2] (.bool r) []:=by
 refine wS U1b [.t 4] ?_
 unfold JZ at H
 refine wH [.c 9 (X0o a1.job b2.job)] ?_
 refine V0 H ?_ ?_<;>intro H
 .obtain rfl:=sI H
  exact wP (wE [(4,.d)])
 .refine wP ?_
  refine V0 H ?_ ?_<;>intro H
  .obtain rfl:=sI H
   exact wP (wE [(4,.d)])
  .obtain⟨b3,h3,H⟩:=bB H
   refine wH [.c 20 (Q0h h3)] ?_
   refine V0 H ?_ ?_<;>intro H
   .obtain rfl:=sI H
    exact wP (wE [(4,.d)])
   .obtain rfl:=sI H
    exact wP (wE [(4,.d)])
def M0Y:L :=
.seq (rE 4 (cB false))
 (.seq (sR [mV 6 0,.ln 7 6,mV 8 1,.ln 9 8,bI 10 .neq 7 9]
 (.cond 10 (.seq (rE 4 (cB false))
 gR)
 .skip))
 (.seq (.seq (rE 5 (kI 0))
 (.blk 0 (.loop (.gw (.seq (sR [mV 11 5,mV 12 0,.ln 13 12,bI 14 .lss 11 13]
 (.cond 14 .skip
 (.exit 0)))
 (.seq (.blk 1 (.seq (.rq 10 [mV 17 0,mV 18 5,iA 19 17 18 13,lT 20 19 13,mV 21 1,mV 22 5,iA 23 21 22 13,lT 24 23 13,cQ 25 J0A [20,24],.un 26 25])
 (.cond 26 (.seq (rE 4 (cB false))
 gR)
 .skip)))
 (.reg [mV 15 5,.bi 16 .add 15 (kI 1),mV 5 16])))))))
 (.seq (rE 4 (cB true))
 gR)))
def Mu(a1 b2:List Run)(v4:Int)(k4:Int->Option Bool):Option Bool :=
 bif (decide (v4<(a1.length:Int)))then((idx a1 v4).bind fun e6=>(idx b2 v4).bind fun e7=>(JZ e6 e7).bind fun b8=>bif (!b8)then(some false)else(k4 (w64 (v4+1))))else(some true)
def ZO(a1 b2:List Run):Option Bool :=
 bif ((a1.length:Int)!=(b2.length:Int))then(some false)else(whl (Mu a1 b2) 9223372036854775807 0)
theorem L0V{a1 b2:List Run}{r:Bool}(H:ZO a1 b2=some r):Snd Tryz.prog V0s [rV 13 (a1.map (J0 .rd)),rV 13 (b2.map (J0 .rd))] (.bool r) []:=by
 refine wS M0Y [.t 4] ?_
 unfold ZO at H
 refine wG [.u 7 (.ln _ _ fun _=>lm a1 (J0 .rd)),.u 9 (.ln _ _ fun _=>lm b2 (J0 .rd))] fun q3=>?_
 refine V0 H ?_ ?_<;>intro H
 .obtain rfl:=sI H
  exact wP (wE [(4,.d)])
 .refine wP ?_
  refine wW (fun(v4:Int)=>⟨[(0,rV 13 (a1.map (J0 .rd))),(1,rV 13 (b2.map (J0 .rd))),(5,iV v4)],[],[],[]⟩) H (fun v4 I m k4 H N25=>?_)
  unfold Mu at H
  refine wG [.u 13 (.ln _ _ fun _=>lm a1 (J0 .rd))] fun q5=>?_
  refine V0 H ?_ ?_<;>intro H
  .obtain⟨e6,h6,H⟩:=bB H
   obtain⟨e7,h7,H⟩:=bB H
   obtain⟨b8,h8,H⟩:=bB H
   refine wH [.u 19 (.ix _ _ _ fun _=>Y0 (J0 .rd) h6),.u 23 (.ix _ _ _ fun _=>Y0 (J0 .rd) h7),.c 25 (W19 h8)] ?_
   refine V0 H ?_ ?_<;>intro H
   .obtain rfl:=sI H
    exact wP (wE [(4,.d)])
   .refine wP ?_
    exact wT (N25 _ H)
  .obtain rfl:=sI H
   exact wP (wE [(4,.d)])
def W1b:L :=
sR [.bx 2 0,.bx 3 1,.mv 4 (cB false)]
 (.seq (sR [fA 5 2 0,lF 6 5 1,fA 7 3 0,lF 8 7 1,bI 9 .neq 6 8]
 (.cond 9 (.seq (rE 4 (cB false))
 gR)
 .skip))
 (.seq (sR [fA 10 2 1,lF 11 10 1,fA 12 3 1,lF 13 12 1,bI 14 .neq 11 13]
 (.cond 14 (.seq (rE 4 (cB false))
 gR)
 .skip))
 (.seq (sR [fA 15 2 2,lF 16 15 1,fA 17 3 2,lF 18 17 1,bI 19 .neq 16 18]
 (.cond 19 (.seq (rE 4 (cB false))
 gR)
 .skip))
 (.seq (rE 4 (cB true))
 gR))))
def MS(a1 b2:End):Option Bool :=
 bif (a1.id != b2.id)then(some false)else(bif (a1.t != b2.t)then(some false)else(bif (a1.why != b2.why)then(some false)else(some true)))
theorem Y0M{a1 b2:End}{r:Bool}(H:MS a1 b2=some r):Snd Tryz.prog W0d [eEnd a1,eEnd b2] (.bool r) []:=by
 refine wS W1b [.t 4] ?_
 unfold MS at H
 refine wP ?_
 refine V0 H ?_ ?_<;>intro H
 .obtain rfl:=sI H
  exact wP (wE [(4,.d)])
 .refine wP ?_
  refine V0 H ?_ ?_<;>intro H
  .obtain rfl:=sI H
   exact wP (wE [(4,.d)])
  .refine wP ?_
   refine V0 H ?_ ?_<;>intro H
   .obtain rfl:=sI H
    exact wP (wE [(4,.d)])
   .obtain rfl:=sI H
    exact wP (wE [(4,.d)])
def UL(a1 b2:End):Bool :=
 bif (a1.id != b2.id)then(false)else(bif (a1.t != b2.t)then(false)else(bif (a1.why != b2.why)then(false)else(true)))
theorem O1j(a1 b2:End):MS a1 b2=some (UL a1 b2):=by
 unfold MS UL
 first|rfl|simp only[X2]
theorem M19(a1 b2:End):Snd Tryz.prog W0d [eEnd a1,eEnd b2] (.bool (UL a1 b2)) []:=Y0M (O1j a1 b2)
def Y0Z:L :=
.seq (rE 4 (cB false))
 (.seq (sR [mV 6 0,.ln 7 6,mV 8 1,.ln 9 8,bI 10 .neq 7 9]
 (.cond 10 (.seq (rE 4 (cB false))
 gR)
 .skip))
 (.seq (.seq (rE 5 (kI 0))
 (.blk 0 (.loop (.gw (.seq (sR [mV 11 5,mV 12 0,.ln 13 12,bI 14 .lss 11 13]
 (.cond 14 .skip
 (.exit 0)))
 (.seq (.blk 1 (.seq (.rq 10 [mV 17 0,mV 18 5,iA 19 17 18 3,lT 20 19 3,mV 21 1,mV 22 5,iA 23 21 22 3,lT 24 23 3,cQ 25 W0d [20,24],.un 26 25])
 (.cond 26 (.seq (rE 4 (cB false))
 gR)
 .skip)))
 (.reg [mV 15 5,.bi 16 .add 15 (kI 1),mV 5 16])))))))
 (.seq (rE 4 (cB true))
 gR)))
def Zv(a1 b2:List End)(v4:Int)(k4:Int->Option Bool):Option Bool :=
 bif (decide (v4<(a1.length:Int)))then((idx a1 v4).bind fun e6=>(idx b2 v4).bind fun e7=>bif (!(UL e6 e7))then(some false)else(k4 (w64 (v4+1))))else(some true)
def XO(a1 b2:List End):Option Bool :=
 bif ((a1.length:Int)!=(b2.length:Int))then(some false)else(whl (Zv a1 b2) 9223372036854775807 0)
theorem Y0W{a1 b2:List End}{r:Bool}(H:XO a1 b2=some r):Snd Tryz.prog Q0s [rV 3 (a1.map eEnd),rV 3 (b2.map eEnd)] (.bool r) []:=by
 refine wS Y0Z [.t 4] ?_
 unfold XO at H
 refine wG [.u 7 (.ln _ _ fun _=>lm a1 eEnd),.u 9 (.ln _ _ fun _=>lm b2 eEnd)] fun q3=>?_
 refine V0 H ?_ ?_<;>intro H
 .obtain rfl:=sI H
  exact wP (wE [(4,.d)])
 .refine wP ?_
  refine wW (fun(v4:Int)=>⟨[(0,rV 3 (a1.map eEnd)),(1,rV 3 (b2.map eEnd)),(5,iV v4)],[],[],[]⟩) H (fun v4 I m k4 H N25=>?_)
  unfold Zv at H
  refine wG [.u 13 (.ln _ _ fun _=>lm a1 eEnd)] fun q5=>?_
  refine V0 H ?_ ?_<;>intro H
  .obtain⟨e6,h6,H⟩:=bB H
   obtain⟨e7,h7,H⟩:=bB H
   refine wH [.u 19 (.ix _ _ _ fun _=>Y0 eEnd h6),.u 23 (.ix _ _ _ fun _=>Y0 eEnd h7),.c 25 (M19 e6 e7)] ?_
   refine V0 H ?_ ?_<;>intro H
   .obtain rfl:=sI H
    exact wP (wE [(4,.d)])
   .refine wP ?_
    exact wT (N25 _ H)
  .obtain rfl:=sI H
   exact wP (wE [(4,.d)])
def M0O:L :=
sR [.bx 2 0,.bx 3 1,.mv 4 (cB false)]
 (.seq (sR [fA 5 2 0,lT 6 5 2,fA 7 3 0,lT 8 7 2,cQ 9 X0s [6,8],.un 10 9]
 (.cond 10 (.seq (rE 4 (cB false))
 gR)
 .skip))
 (.seq (sR [fA 11 2 2,lF 12 11 1,fA 13 3 2,lF 14 13 1,cQ 15 Y0j [12,14],.un 16 15]
 (.cond 16 (.seq (rE 4 (cB false))
 gR)
 .skip))
 (.seq (sR [fA 17 2 3,lT 18 17 3,fA 19 3 3,lT 20 19 3,cQ 21 Ws [18,20],.un 22 21]
 (.cond 22 (.seq (rE 4 (cB false))
 gR)
 .skip))
 (.seq (sR [fA 23 2 6,lF 24 23 1,fA 25 3 6,lF 26 25 1,bI 27 .neq 24 26]
 (.cond 27 (.seq (rE 4 (cB false))
 gR)
 .skip))
 (.seq (sR [fA 28 2 7,lF 29 28 1,fA 30 3 7,lF 31 30 1,bI 32 .neq 29 31]
 (.cond 32 (.seq (rE 4 (cB false))
 gR)
 .skip))
 (.seq (sR [fA 33 2 8,lF 34 33 1,fA 35 3 8,lF 36 35 1,cQ 37 U0s [34,36],.un 38 37]
 (.cond 38 (.seq (rE 4 (cB false))
 gR)
 .skip))
 (.seq (sR [fA 39 2 9,lF 40 39 1,fA 41 3 9,lF 42 41 1,cQ 43 V0s [40,42],.un 44 43]
 (.cond 44 (.seq (rE 4 (cB false))
 gR)
 .skip))
 (.seq (sR [fA 45 2 10,lF 46 45 1,fA 47 3 10,lF 48 47 1,cQ 49 Q0s [46,48],.un 50 49]
 (.cond 50 (.seq (rE 4 (cB false))
 gR)
 .skip))
 (.seq (rE 4 (cB true))
 gR)))))))))
def QS(a1 b2:State):Option Bool :=
 (LN a1.topo b2.topo).bind fun b3=>bif (!b3)then(some false)else((YE a1.up b2.up).bind fun b4=>bif (!b4)then(some false)else(bif (!(Vb a1.lic b2.lic))then(some false)else(bif (a1.depth != b2.depth)then(some false)else(bif (a1.now != b2.now)then(some false)else((YO a1.queue b2.queue).bind fun b5=>bif (!b5)then(some false)else((ZO a1.runs b2.runs).bind fun b6=>bif (!b6)then(some false)else((XO a1.ends b2.ends).bind fun b7=>bif (!b7)then(some false)else(some true))))))))
theorem O0L{a1 b2:State}{r:Bool}(H:QS a1 b2=some r):Snd Tryz.prog LX [Y2 .rd a1,Y2 .rd b2] (.bool r) []:=by
 refine wS M0O [.t 4] ?_
 unfold QS at H
 obtain⟨b3,h3,H⟩:=bB H
 refine wH [.c 9 (O0V h3)] ?_
 refine V0 H ?_ ?_<;>intro H
 .obtain rfl:=sI H
  exact wP (wE [(4,.d)])
 .obtain⟨b4,h4,H⟩:=bB H
  refine wH [.c 15 (X0M h4)] ?_
  refine V0 H ?_ ?_<;>intro H
  .obtain rfl:=sI H
   exact wP (wE [(4,.d)])
  .refine wH [.c 21 (XJ a1.lic b2.lic)] ?_
   refine V0 H ?_ ?_<;>intro H
   .obtain rfl:=sI H
    exact wP (wE [(4,.d)])
   .refine wP ?_
    refine V0 H ?_ ?_<;>intro H
    .obtain rfl:=sI H
     exact wP (wE [(4,.d)])
    .refine wP ?_
     refine V0 H ?_ ?_<;>intro H
     .obtain rfl:=sI H
      exact wP (wE [(4,.d)])
     .obtain⟨b5,h5,H⟩:=bB H
      refine wH [.c 37 (Z0W h5)] ?_
      refine V0 H ?_ ?_<;>intro H
      .obtain rfl:=sI H
       exact wP (wE [(4,.d)])
      .obtain⟨b6,h6,H⟩:=bB H
       refine wH [.c 43 (L0V h6)] ?_
       refine V0 H ?_ ?_<;>intro H
       .obtain rfl:=sI H
        exact wP (wE [(4,.d)])
       .obtain⟨b7,h7,H⟩:=bB H
        refine wH [.c 49 (Y0W h7)] ?_
        refine V0 H ?_ ?_<;>intro H
        .obtain rfl:=sI H
         exact wP (wE [(4,.d)])
        .obtain rfl:=sI H
         exact wP (wE [(4,.d)])
def O0Y:L :=
sR [.bx 2 0,.bx 3 1,.mv 4 (cB false)]
 (.seq (sR [fA 5 2 0,lF 6 5 1,fA 7 3 0,lF 8 7 1,bI 9 .neq 6 8]
 (.cond 9 (.seq (rE 4 (cB false))
 gR)
 .skip))
 (.seq (sR [fA 10 2 1,lF 11 10 1,fA 12 3 1,lF 13 12 1,bI 14 .neq 11 13]
 (.cond 14 (.seq (rE 4 (cB false))
 gR)
 .skip))
 (.seq (sR [fA 15 2 2,lF 16 15 1,fA 17 3 2,lF 18 17 1,bI 19 .neq 16 18]
 (.cond 19 (.seq (rE 4 (cB false))
 gR)
 .skip))
 (.seq (rE 4 (cB true))
 gR))))
def VJ(a1 b2:Seen):Option Bool :=
 bif (a1.id != b2.id)then(some false)else(bif (a1.start != b2.start)then(some false)else(bif (a1.fin != b2.fin)then(some false)else(some true)))
theorem Q0D{a1 b2:Seen}{r:Bool}(H:VJ a1 b2=some r):Snd Tryz.prog M04 [V9 a1,V9 b2] (.bool r) []:=by
 refine wS O0Y [.t 4] ?_
 unfold VJ at H
 refine wP ?_
 refine V0 H ?_ ?_<;>intro H
 .obtain rfl:=sI H
  exact wP (wE [(4,.d)])
 .refine wP ?_
  refine V0 H ?_ ?_<;>intro H
  .obtain rfl:=sI H
   exact wP (wE [(4,.d)])
  .refine wP ?_
   refine V0 H ?_ ?_<;>intro H
   .obtain rfl:=sI H
    exact wP (wE [(4,.d)])
   .obtain rfl:=sI H
    exact wP (wE [(4,.d)])
def My(a1 b2:Seen):Bool :=
 bif (a1.id != b2.id)then(false)else(bif (a1.start != b2.start)then(false)else(bif (a1.fin != b2.fin)then(false)else(true)))
theorem Q19(a1 b2:Seen):VJ a1 b2=some (My a1 b2):=by
 unfold VJ My
 first|rfl|simp only[X2]
theorem M0V(a1 b2:Seen):Snd Tryz.prog M04 [V9 a1,V9 b2] (.bool (My a1 b2)) []:=Q0D (Q19 a1 b2)
def L0O:L :=
.seq (rE 4 (cB false))
 (.seq (sR [mV 6 0,.ln 7 6,mV 8 1,.ln 9 8,bI 10 .neq 7 9]
 (.cond 10 (.seq (rE 4 (cB false))
 gR)
 .skip))
 (.seq (.seq (rE 5 (kI 0))
 (.blk 0 (.loop (.gw (.seq (sR [mV 11 5,mV 12 0,.ln 13 12,bI 14 .lss 11 13]
 (.cond 14 .skip
 (.exit 0)))
 (.seq (.blk 1 (.seq (.rq 10 [mV 17 0,mV 18 5,iA 19 17 18 3,lT 20 19 3,mV 21 1,mV 22 5,iA 23 21 22 3,lT 24 23 3,cQ 25 M04 [20,24],.un 26 25])
 (.cond 26 (.seq (rE 4 (cB false))
 gR)
 .skip)))
 (.reg [mV 15 5,.bi 16 .add 15 (kI 1),mV 5 16])))))))
 (.seq (rE 4 (cB true))
 gR)))
def Jo(a1 b2:List Seen)(v4:Int)(k4:Int->Option Bool):Option Bool :=
 bif (decide (v4<(a1.length:Int)))then((idx a1 v4).bind fun e6=>(idx b2 v4).bind fun e7=>bif (!(My e6 e7))then(some false)else(k4 (w64 (v4+1))))else(some true)
def WS(a1 b2:List Seen):Option Bool :=
 bif ((a1.length:Int)!=(b2.length:Int))then(some false)else(whl (Jo a1 b2) 9223372036854775807 0)
theorem JN{a1 b2:List Seen}{r:Bool}(H:WS a1 b2=some r):Snd Tryz.prog YD [rV 3 (a1.map V9),rV 3 (b2.map V9)] (.bool r) []:=by
 refine wS L0O [.t 4] ?_
 unfold WS at H
 refine wG [.u 7 (.ln _ _ fun _=>lm a1 V9),.u 9 (.ln _ _ fun _=>lm b2 V9)] fun q3=>?_
 refine V0 H ?_ ?_<;>intro H
 .obtain rfl:=sI H
  exact wP (wE [(4,.d)])
 .refine wP ?_
  refine wW (fun(v4:Int)=>⟨[(0,rV 3 (a1.map V9)),(1,rV 3 (b2.map V9)),(5,iV v4)],[],[],[]⟩) H (fun v4 I m k4 H N25=>?_)
  unfold Jo at H
  refine wG [.u 13 (.ln _ _ fun _=>lm a1 V9)] fun q5=>?_
  refine V0 H ?_ ?_<;>intro H
  .obtain⟨e6,h6,H⟩:=bB H
   obtain⟨e7,h7,H⟩:=bB H
   refine wH [.u 19 (.ix _ _ _ fun _=>Y0 V9 h6),.u 23 (.ix _ _ _ fun _=>Y0 V9 h7),.c 25 (M0V e6 e7)] ?_
   refine V0 H ?_ ?_<;>intro H
   .obtain rfl:=sI H
    exact wP (wE [(4,.d)])
   .refine wP ?_
    exact wT (N25 _ H)
  .obtain rfl:=sI H
   exact wP (wE [(4,.d)])
end Go.Proofs.YtodafdoninblmaaGreat
namespace Go.Proofs.YtodafdoninblmaaGreat.Eng
open Go Go.RowKit
section
def CE(a b:AV):Prop:=AE a b/\(a.one=true->b.one=true)
def CEs(l m:List AV):Prop:=l.length=m.length/\∀(i:Nat) (a b:AV),l[i]?=some a->m[i]?=some b->CE a b
theorem CE.refl(a:AV):CE a a:=⟨AE.refl a,id⟩
theorem CEs.refl(l:List AV):CEs l l:=⟨rfl,fun i a b h h'=>by rw[h]at h';cases h';exact .refl a⟩
theorem CEs.one{a b:AV}(h:CE a b):CEs [a] [b]:=⟨rfl,fun i x y hx hy=>by
 cases i with
 |zero=>simp at hx hy;subst hx;subst hy;exact h
 |succ i=>simp at hx⟩
theorem CEs.append{l1 l2 m1 m2:List AV}(h1:CEs l1 m1)(h2:CEs l2 m2):CEs (l1++l2) (m1++m2):=by
 refine⟨by rw[yU,yU,h1.1,h2.1],fun i a b ha hb=>?_⟩
 by_cases hi:i<l1.length
 .rw[yK hi]at ha
  rw[yK (by rw[← h1.1];exact hi)]at hb
  exact h1.2 i a b ha hb
 .rw[yS (by omega)]at ha
  rw[yS (by rw[← h1.1];omega),← h1.1]at hb
  exact h2.2 _ a b ha hb
theorem CEs.flat{α:Type}{E:α->AV}:∀{es:List AV} {ys:List α},es.length=ys.length->(∀(i:Nat) (x:AV) (y:α),es[i]?=some x->ys[i]?=some y->CEs x.cells (E y).cells)->CEs (Eng.flat es) (Eng.flat (ys.map E))
 |[],[],_,_=>CEs.refl []
 |x::es,y::ys,hl,h=>by
  have h0:=h 0 x y rfl rfl
  have h1:=CEs.flat (es:=es) (ys:=ys) (by simpa using hl) fun i x y hx hy=>h (i+1) x y (by simpa using hx) (by simpa using hy)
  simpa[Eng.flat]using h0.append h1
 |[],_::_,hl,_=>by simp at hl
 |_::_,[],hl,_=>by simp at hl
theorem AE.agg{cs ds:List AV}(h:CEs cs ds):AE (.agg cs) (.agg ds):=by
 intro w S v hr
 cases hr with
 |agg _ vs hl h1 h2 =>
  refine .agg ds vs (by rw[← h.1,hl]) (fun b hb=>?_) fun i b u hb hu=>?_
  .obtain⟨i,hi⟩:=List.getElem?_of_mem hb
   have hlt:i<cs.length:=by rw[h.1];exact(yB hi).1
   exact(h.2 i cs[i] b (yA hlt) hi).2 (h1 _ (List.getElem_mem hlt))
  .have hlt:i<cs.length:=by rw[h.1];exact(yB hb).1
   exact(h.2 i cs[i] b (yA hlt) hb).1 w S u (h2 i _ u (yA hlt) hu)
theorem AE.nl{sz:Nat}:AE .nl (.sl .rd sz []):=by
 intro w S v hr
 cases hr
 exact .sl0 _ _ _ _ fun _ _=>trivial
theorem AE.sl{g:Tag}{sz:Nat}{es ds:List AV}(hl:es.length=ds.length)(hs:∀e∈ds,e.cells.length=sz)(h:CEs (Eng.flat es) (Eng.flat ds)):AE (.sl g sz es) (.sl g sz ds):=by
 intro w S v hr
 cases hr with
 |sl0 _ _ a c ho =>
  cases ds with
  |nil=>exact .sl0 _ _ _ _ ho
  |cons _ _=>simp at hl
 |sl _ _ _ b o c cv hc hm _ hw ho h2 =>
  rw[hl]
  have hx:∀(j:Nat) (d:AV),(Eng.flat ds)[j]?=some d->∃e,(Eng.flat es)[j]?=some e/\CE e d:=fun j d hj=>by
   have hlt:j<(Eng.flat es).length:=by rw[h.1];exact(yB hj).1
   exact⟨_,yA hlt,h.2 j _ d (yA hlt) hj⟩
  refine .sl g sz ds b o c cv (by rw[← hl];exact hc) hm hs (fun j d hj=>?_) ho fun j d hj=>?_
  .obtain⟨e,he,hce⟩:=hx j d hj
   obtain⟨q1,q2,q3,_⟩:=hw j e he
   exact⟨q1,q2,hce.2 q3,trivial⟩
  .obtain⟨e,he,hce⟩:=hx j d hj
   exact hce.1 w S _ (h2 j e he)
theorem Snd.wkS{P:Program}{f:FuncId}{xs1 xs2:List AV}{res:AV}{rows:List Row}(h:Snd P f xs2 res rows)(hae:AEs xs1 xs2):Snd P f xs1 res rows:=by
 intro w S N vs hS hl hr
 have hal:=hae.1
 refine h w S TT vs hS (by omega) fun i b v hb hv=>?_
 have hi:i<xs1.length:=by have:=(yB hb).1;omega
 exact hae.2 w S i _ b v (yA hi) hb ((hr i _ v (yA hi) hv).mono (fun _ _ h=>h) ⟨fun _ _ _ _ _ _ _ _=>trivial,fun _ _ _ _=>trivial⟩ fun _ _ _=>rfl)
def Vc{α:Type}(τ:Ty)(e:α->List AV)(W:α->Prop):Prop:=∀l,τ.ok l->∃y,CEs l (e y)/\W y
def Q4{α:Type}(τs:List Ty)(e:α->List AV)(W:α->Prop):Prop:=∀l,okL τs l->∃y,CEs l (e y)/\W y
def FitL{α:Type}(W:α->Prop)(l:List α):Prop:=l.length<=maxLen/\∀x∈l,W x
def FitT{α:Type}(_:α):Prop:=True
section
variable{α β:Type}
theorem Vc.int(k:IntKind):Vc (.int k) (fun n:Int=>[.int k n]) FitT:=by
 intro l h
 obtain⟨n,rfl,_⟩:=h
 exact⟨n,.refl _,trivial⟩
theorem Vc.bool:Vc .bool (fun n:Bool=>[.bool n]) FitT:=by
 intro l h
 obtain⟨n,rfl⟩:=h
 exact⟨n,.refl _,trivial⟩
theorem Q4.nil:Q4 [] (fun _:Unit=>[]) FitT:=by
 intro l h
 simp only[okL]at h
 subst h
 exact⟨(),.refl _,trivial⟩
theorem Q4.cons{f:Ty}{fs:List Ty}{e1:α->List AV}{e2:β->List AV}{W1:α->Prop}{W2:β->Prop}(h1:Vc f e1 W1)(h2:Q4 fs e2 W2):Q4 (f::fs) (fun p:α×β=>e1 p.1++e2 p.2) (fun p=>W1 p.1/\W2 p.2):=by
 intro l h
 simp only[okL]at h
 obtain⟨l1,l2,rfl,q1,q2⟩:=h
 obtain⟨y1,c1,w1⟩:=h1 l1 q1
 obtain⟨y2,c2,w2⟩:=h2 l2 q2
 exact⟨(y1,y2),c1.append c2,w1,w2⟩
theorem Q4.st{fs:List Ty}{e:α->List AV}{W:α->Prop}(h:Q4 fs e W)(g:α->β){e':β->List AV}{W':β->Prop}(he:∀x,e x=e' (g x))(hW:∀x,W x->W' (g x)):Vc (.st fs) e' W':=by
 intro l hl
 simp only[Ty.ok]at hl
 obtain⟨y,c,w⟩:=h l hl
 exact⟨g y,he y ▸ c,hW y w⟩
theorem exL{R:AV->α->Prop}:∀{es:List AV},(∀x∈es,∃y,R x y)->∃ys:List α,es.length=ys.length/\∀(i:Nat) (x:AV) (y:α),es[i]?=some x->ys[i]?=some y->R x y
 |[],_=>⟨[],rfl,fun i x y h=>by simp at h⟩
 |x::es,h=>by
  obtain⟨y,hy⟩:=h x (yJ ..)
  obtain⟨ys,hl,hys⟩:=exL (es:=es) fun z hz=>h z (yH _ hz)
  refine⟨y::ys,by simp[hl],fun i a b ha hb=>?_⟩
  cases i with
  |zero=>simp at ha hb;subst ha;subst hb;exact hy
  |succ i=>exact hys i a b (by simpa using ha) (by simpa using hb)
theorem Vc.sl{τ:Ty}{e:α->List AV}{W:α->Prop}(h:Vc τ e W)(E:α->AV)(hE:∀y,(E y).cells=e y){n:Nat}(hn:τ.size=n):Vc (.sl τ) (fun l:List α=>[.sl .rd n (l.map E)]) (FitL W):=by
 intro l hl
 simp only[Ty.ok]at hl
 rcases hl with rfl|⟨es,rfl,hm,h2⟩
 .exact⟨[],.one ⟨AE.nl,fun _=>rfl⟩,Nat.zero_le _,fun x hx=>by simp at hx⟩
 .obtain⟨ys,hys,hR⟩:=exL (α:=α) (R:=fun x y=>CEs x.cells (E y).cells/\W y/\x.cells.length=τ.size) (es:=es) fun x hx=>by
   obtain⟨a1,_,a3⟩:=h2 x hx
   obtain⟨y,c,w⟩:=h _ a3
   exact⟨y,(hE y).symm ▸ c,w,a1⟩
  have get:∀y∈ys,∃(i:Nat) (x:AV),es[i]?=some x/\ys[i]?=some y:=fun y hy=>by
   obtain⟨i,hi⟩:=List.getElem?_of_mem hy
   exact⟨i,_,yA (by rw[hys];exact(yB hi).1),hi⟩
  refine⟨ys,.one ⟨?_,fun _=>rfl⟩,by rw[← hys];exact hm,fun y hy=>?_⟩
  .rw[hn]
   refine AE.sl (by simpa using hys) (fun d hd=>?_) (CEs.flat hys fun i x y hx hy=>(hR i x y hx hy).1)
   obtain⟨y,hy,rfl⟩:=yY hd
   obtain⟨i,x,hx,hy'⟩:=get y hy
   have:=hR i x y hx hy'
   rw[← this.1.1,this.2.2,hn]
  .obtain⟨i,x,hx,hy'⟩:=get y hy
   exact(hR i x y hx hy').2.1
theorem Vc.okV_st{fs:List Ty}{e:α->List AV}{W:α->Prop}(h:Vc (.st fs) e W){a:AV}(ha:(Ty.st fs).okV a):∃y,AE a (.agg (e y))/\W y:=by
 obtain⟨cs,rfl,hc⟩:=ha
 obtain⟨y,c,w⟩:=h cs (by simpa only[Ty.ok]using hc)
 exact⟨y,.agg c,w⟩
end
end
end Go.Proofs.YtodafdoninblmaaGreat.Eng
namespace Go.Proofs.YtodafdoninblmaaGreat
open Go Go.RowKit Eng
section
def X1y:Ty:=.st [.int .i64,.int .i64,.int .i64]
def M1k(x:Vec):Prop:=FitT x.a/\FitT x.b/\FitT x.c/\True
theorem U1I:Vc X1y (fun x:Vec=>(eVec x).cells) M1k:=Q4.st (Q4.cons (Vc.int .i64) (Q4.cons (Vc.int .i64) (Q4.cons (Vc.int .i64) Q4.nil))) (fun p=>⟨p.1,p.2.1,p.2.2.1⟩) (fun _=>by rfl) (fun _ h=>by exact h)
def J1L:Ty:=.st [.int .i64,X1y]
def Q1E(x:Node):Prop:=FitT x.leaf/\M1k x.cap/\True
theorem Z21:Vc J1L (fun x:Node=>(Q1 x).cells) Q1E:=Q4.st (Q4.cons (Vc.int .i64) (Q4.cons U1I Q4.nil)) (fun p=>⟨p.1,p.2.1⟩) (fun _=>by rfl) (fun _ h=>by exact h)
def L1L:Ty:=.st [.sl (.int .i64),.sl J1L]
def V1E(x:Topo):Prop:=(FitL FitT) x.parents/\(FitL Q1E) x.nodes/\True
theorem J20:Vc L1L (fun x:Topo=>(U3 .rd x).cells) V1E:=Q4.st (Q4.cons (Vc.sl (Vc.int .i64) eI (fun _=>rfl) rfl) (Q4.cons (Vc.sl Z21 Q1 (fun _=>rfl) rfl) Q4.nil)) (fun p=>⟨p.1,p.2.1⟩) (fun _=>by rfl) (fun _ h=>by exact h)
def O1P:Ty:=.st [.int .i64,.int .i64,.int .i64,X1y,X1y,.int .i64,.int .i64]
def W1E(x:Job):Prop:=FitT x.id/\FitT x.prio/\FitT x.nodes/\M1k x.need/\M1k x.lic/\FitT x.wall/\FitT x.level/\True
theorem Y21:Vc O1P (fun x:Job=>(eJob x).cells) W1E:=Q4.st (Q4.cons (Vc.int .i64) (Q4.cons (Vc.int .i64) (Q4.cons (Vc.int .i64) (Q4.cons U1I (Q4.cons U1I (Q4.cons (Vc.int .i64) (Q4.cons (Vc.int .i64) Q4.nil))))))) (fun p=>⟨p.1,p.2.1,p.2.2.1,p.2.2.2.1,p.2.2.2.2.1,p.2.2.2.2.2.1,p.2.2.2.2.2.2.1⟩) (fun _=>by rfl) (fun _ h=>by exact h)
def Y1W:Ty:=.st [O1P,.int .i64,.sl (.int .i64)]
def U1E(x:Run):Prop:=W1E x.job/\FitT x.t/\(FitL FitT) x.nodes/\True
theorem ofRun:Vc Y1W (fun x:Run=>(J0 .rd x).cells) U1E:=Q4.st (Q4.cons Y21 (Q4.cons (Vc.int .i64) (Q4.cons (Vc.sl (Vc.int .i64) eI (fun _=>rfl) rfl) Q4.nil))) (fun p=>⟨p.1,p.2.1,p.2.2.1⟩) (fun _=>by rfl) (fun _ h=>by exact h)
def X1W:Ty:=.st [.int .i64,.int .i64,.int .i64]
def Y1O(x:End):Prop:=FitT x.id/\FitT x.t/\FitT x.why/\True
theorem ofEnd:Vc X1W (fun x:End=>(eEnd x).cells) Y1O:=Q4.st (Q4.cons (Vc.int .i64) (Q4.cons (Vc.int .i64) (Q4.cons (Vc.int .i64) Q4.nil))) (fun p=>⟨p.1,p.2.1,p.2.2.1⟩) (fun _=>by rfl) (fun _ h=>by exact h)
def O14:Ty:=.st [L1L,.sl .bool,X1y,.int .i64,.int .i64,.sl O1P,.sl Y1W,.sl X1W]
def Y0q(x:State):Prop:=V1E x.topo/\(FitL FitT) x.up/\M1k x.lic/\FitT x.depth/\FitT x.now/\(FitL W1E) x.queue/\(FitL U1E) x.runs/\(FitL Y1O) x.ends/\True
theorem Y1S:Vc O14 (fun x:State=>(Y2 .rd x).cells) Y0q:=Q4.st (Q4.cons J20 (Q4.cons (Vc.sl Vc.bool eBo (fun _=>rfl) rfl) (Q4.cons U1I (Q4.cons (Vc.int .i64) (Q4.cons (Vc.int .i64) (Q4.cons (Vc.sl Y21 eJob (fun _=>rfl) rfl) (Q4.cons (Vc.sl ofRun (J0 .rd) (fun _=>rfl) rfl) (Q4.cons (Vc.sl ofEnd eEnd (fun _=>rfl) rfl) Q4.nil)))))))) (fun p=>⟨p.1,p.2.1,p.2.2.1,p.2.2.2.1,p.2.2.2.2.1,p.2.2.2.2.2.1,p.2.2.2.2.2.2.1,p.2.2.2.2.2.2.2.1⟩) (fun _=>by rfl) (fun _ h=>by exact h)
section
variable{α:Type}
theorem W1H{a ys:List α}{i:Nat}{x:α}(hx:a[i]?=some x)(hl:ys.length=a.length)(h:ys.take i=a.take i):(ys.set i x).take (i+1)=a.take (i+1):=by
 have hi:=(yB hx).1
 apply List.ext_getElem?
 intro j
 by_cases hj:j<i+1
 .rw[List.getElem?_take_of_lt hj,List.getElem?_take_of_lt hj,List.getElem?_set]
  by_cases e:i=j
  .subst e;rw[yd rfl,yd (by omega),hx]
  .rw[ye e]
   have:=congrArg (fun l:List α=>l[j]?) h
   rwa [List.getElem?_take_of_lt (by omega),List.getElem?_take_of_lt (by omega)]at this
 .rw[List.getElem?_eq_none (by simp;omega),List.getElem?_eq_none (by simp;omega)]
theorem L0f{bd:Int×List α->(Int×List α->Option (List α))->Option (List α)}{a:List α}(hm:a.length<9223372036854775807)
  (h1:∀(i:Nat) ys k x,a[i]?=some x->ys.length=a.length->bd ((i:Int),ys) k=k (((i+1:Nat):Int),ys.set i x)) (h2:∀ys k,bd ((a.length:Int),ys) k=some ys) {ys:List α} (hy:ys.length=a.length):whl bd 9223372036854775807 (0,ys)=some a:=by
 refine W0j (fun _ o=>o=some a) (fun b=>a.length-b.1.toNat) (fun b=>∃i:Nat,b.1=(i:Int)/\i<=a.length/\b.2.length=a.length/\b.2.take i=a.take i) ?_ 9223372036854775807 (0,ys) ⟨0,rfl,Nat.zero_le _,hy,rfl⟩ (by simp only;omega)
 rintro⟨n,zs⟩ k ⟨i,hi,hle,hz,ht⟩ hk
 simp only at hi hz ht hk
 subst hi
 by_cases h:i<a.length
 .rw[h1 i zs k a[i] (yA h) hz]
  exact hk _ ⟨i+1,rfl,h,by simp[hz],W1H (yA h) hz ht⟩ (by simp only;omega)
 .have:i=a.length:=by omega
  subst this
  rw[h2]
  rw[List.take_length,← hz,List.take_length]at ht
  rw[ht]
theorem L0u{bs n:Nat}{z:α}(h:bs*n<=140737488355328)(h':n<=9223372036854775807):mkL bs (n:Int) z=some (List.replicate n z):=by
 unfold mkL
 have e:(bs:Int)*(n:Int)=((bs*n:Nat):Int):=by rw[Int.natCast_mul]
 rw[yd ⟨by omega,by omega,by omega⟩]
 simp
theorem O0R{bd:Int->(Int->Option Bool)->Option Bool}{n:Nat}(hm:n<9223372036854775807)(h1:∀(i:Nat) k,i<n->bd (i:Int) k=k ((i+1:Nat):Int))(h2:∀k,bd (n:Int) k=some true):whl bd 9223372036854775807 0=some true:=by
 refine W0j (fun _ o=>o=some true) (fun b=>n-b.toNat) (fun b=>∃i:Nat,b=(i:Int)/\i<=n) ?_ 9223372036854775807 0 ⟨0,rfl,Nat.zero_le _⟩ (by omega)
 rintro _ k ⟨i,rfl,hle⟩ hk
 by_cases h:i<n
 .rw[h1 i k h]
  exact hk _ ⟨i+1,rfl,h⟩ (by omega)
 .have:i=n:=by omega
  subst this
  exact h2 k
theorem VU{n:Nat}:¬ ((n:Int)<(n:Int)):=by omega
end
theorem V0h{l:List Int}(h:l.length<=1048576):Vy l=some l:=by
 unfold Vy
 rw[L0u (by omega) (by omega),bS]
 refine L0f (by omega) (fun i ys k x hx hl=>?_) (fun ys k=>?_) (by simp)
 .have hi:=(yB hx).1
  have hlt:(i:Int)<(l.length:Int):=by omega
  obtain⟨y,hy⟩:∃y,ys[i]?=some y:=⟨_,yA (by omega)⟩
  simp only[Wu,hlt,decide_true,yN,V2,hx,hy,bS,Uc (n:=i) (by omega),yZ]
 .simp only[Wu,VU,decide_false,yM]
theorem O0K{l:List Node}(h:l.length<=1048576):MD l=some l:=by
 unfold MD
 rw[L0u (by omega) (by omega),bS]
 refine L0f (by omega) (fun i ys k x hx hl=>?_) (fun ys k=>?_) (by simp)
 .have hi:=(yB hx).1
  have hlt:(i:Int)<(l.length:Int):=by omega
  obtain⟨y,hy⟩:∃y,ys[i]?=some y:=⟨_,yA (by omega)⟩
  simp only[Mo,hlt,decide_true,yN,V2,hx,hy,bS,Uc (n:=i) (by omega),yZ]
  rfl
 .simp only[Mo,VU,decide_false,yM]
theorem Z0L{l:List Bool}(h:l.length<=1048576):LD l=some l:=by
 unfold LD
 rw[L0u (by omega) (by omega),bS]
 refine L0f (by omega) (fun i ys k x hx hl=>?_) (fun ys k=>?_) (by simp)
 .have hi:=(yB hx).1
  have hlt:(i:Int)<(l.length:Int):=by omega
  obtain⟨y,hy⟩:∃y,ys[i]?=some y:=⟨_,yA (by omega)⟩
  simp only[Lo,hlt,decide_true,yN,V2,hx,hy,bS,Uc (n:=i) (by omega),yZ]
 .simp only[Lo,VU,decide_false,yM]
theorem M0U{l:List Job}(h:l.length<=1048576):UN l=some l:=by
 unfold UN
 rw[L0u (by omega) (by omega),bS]
 refine L0f (by omega) (fun i ys k x hx hl=>?_) (fun ys k=>?_) (by simp)
 .have hi:=(yB hx).1
  have hlt:(i:Int)<(l.length:Int):=by omega
  obtain⟨y,hy⟩:∃y,ys[i]?=some y:=⟨_,yA (by omega)⟩
  simp only[Qu,hlt,decide_true,yN,V2,hx,hy,bS,Uc (n:=i) (by omega),yZ]
  rfl
 .simp only[Qu,VU,decide_false,yM]
theorem J0U{l:List End}(h:l.length<=1048576):QN l=some l:=by
 unfold QN
 rw[L0u (by omega) (by omega),bS]
 refine L0f (by omega) (fun i ys k x hx hl=>?_) (fun ys k=>?_) (by simp)
 .have hi:=(yB hx).1
  have hlt:(i:Int)<(l.length:Int):=by omega
  obtain⟨y,hy⟩:∃y,ys[i]?=some y:=⟨_,yA (by omega)⟩
  simp only[Ou,hlt,decide_true,yN,V2,hx,hy,bS,Uc (n:=i) (by omega),yZ]
  rfl
 .simp only[Ou,VU,decide_false,yM]
theorem V0U{t:Topo}(h1:t.parents.length<=1048576)(h2:t.nodes.length<=1048576):XN t=some t:=by
 unfold XN
 rw[V0h h1,bS,O0K h2,bS]
theorem M18{x:Run}(h:x.nodes.length<=1048576):MZ x=some x:=by
 unfold MZ
 rw[V0h h,bS]
 rfl
theorem Q0U{l:List Run}(h:l.length<=1048576)(hn:∀x∈l,x.nodes.length<=1048576):VN l=some l:=by
 unfold VN
 rw[L0u (by omega) (by omega),bS]
 refine L0f (by omega) (fun i ys k x hx hl=>?_) (fun ys k=>?_) (by simp)
 .have hi:=(yB hx).1
  have hlt:(i:Int)<(l.length:Int):=by omega
  obtain⟨y,hy⟩:∃y,ys[i]?=some y:=⟨_,yA (by omega)⟩
  simp only[Uu,hlt,decide_true,yN,V2,hx,hy,bS,Uc (n:=i) (by omega),yZ,M18 (hn x (yE hx))]
 .simp only[Uu,VU,decide_false,yM]
structure SizedS(s:State):Prop where
 parents:s.topo.parents.length<=1048576
 nodes:s.topo.nodes.length<=1048576
 up:s.up.length<=1048576
 jobs:s.queue.length+s.runs.length<=1048576
 run:∀x∈s.runs,x.nodes.length<=1048576
 ends:s.ends.length<=1048576
theorem Q0K{s:State}(h:SizedS s):ZS s=some s:=by
 have:=h.jobs
 unfold ZS
 rw[V0U h.parents h.nodes,bS,Z0L h.up,bS,M0U (by omega),bS,Q0U (by omega) h.run,bS,J0U h.ends,bS]
 rfl
theorem Zw{α:Type}[BEq α][LawfulBEq α](a:α):(a != a)=false:=by simp
theorem MN(v:Vec):Vb v v=true:=by simp[Vb]
theorem O0D(v:Node):Ly v v=true:=by simp[Ly,MN]
theorem V0a(v:Job):Jy v v=true:=by simp[Jy,MN]
theorem Z0M(v:End):UL v v=true:=by simp[UL]
theorem M06{l:List Int}(h:l.length<=1048576):Zz l l=some true:=by
 unfold Zz
 rw[Zw,yM]
 refine O0R (n:=l.length) (by omega) (fun i k hi=>?_) (fun k=>?_)
 .have hlt:(i:Int)<(l.length:Int):=by omega
  obtain⟨x,hx⟩:∃x,l[i]?=some x:=⟨_,yA hi⟩
  simp only[Ju,hlt,decide_true,yN,V2,hx,bS,Uc (n:=i) (by omega),Zw,yM]
 .simp only[Ju,VU,decide_false,yM]
theorem X0v{l:List Node}(h:l.length<=1048576):ZE l l=some true:=by
 unfold ZE
 rw[Zw,yM]
 refine O0R (n:=l.length) (by omega) (fun i k hi=>?_) (fun k=>?_)
 .have hlt:(i:Int)<(l.length:Int):=by omega
  obtain⟨x,hx⟩:∃x,l[i]?=some x:=⟨_,yA hi⟩
  simp only[Zp,hlt,decide_true,yN,V2,hx,bS,Uc (n:=i) (by omega),O0D,yL,yM]
 .simp only[Zp,VU,decide_false,yM]
theorem V0v{l:List Bool}(h:l.length<=1048576):YE l l=some true:=by
 unfold YE
 rw[Zw,yM]
 refine O0R (n:=l.length) (by omega) (fun i k hi=>?_) (fun k=>?_)
 .have hlt:(i:Int)<(l.length:Int):=by omega
  obtain⟨x,hx⟩:∃x,l[i]?=some x:=⟨_,yA hi⟩
  simp only[Yp,hlt,decide_true,yN,V2,hx,bS,Uc (n:=i) (by omega),beq_self_eq_true,yL,yM]
 .simp only[Yp,VU,decide_false,yM]
theorem L0D{l:List Job}(h:l.length<=1048576):YO l l=some true:=by
 unfold YO
 rw[Zw,yM]
 refine O0R (n:=l.length) (by omega) (fun i k hi=>?_) (fun k=>?_)
 .have hlt:(i:Int)<(l.length:Int):=by omega
  obtain⟨x,hx⟩:∃x,l[i]?=some x:=⟨_,yA hi⟩
  simp only[Lu,hlt,decide_true,yN,V2,hx,bS,Uc (n:=i) (by omega),V0a,yL,yM]
 .simp only[Lu,VU,decide_false,yM]
theorem J0D{l:List End}(h:l.length<=1048576):XO l l=some true:=by
 unfold XO
 rw[Zw,yM]
 refine O0R (n:=l.length) (by omega) (fun i k hi=>?_) (fun k=>?_)
 .have hlt:(i:Int)<(l.length:Int):=by omega
  obtain⟨x,hx⟩:∃x,l[i]?=some x:=⟨_,yA hi⟩
  simp only[Zv,hlt,decide_true,yN,V2,hx,bS,Uc (n:=i) (by omega),Z0M,yL,yM]
 .simp only[Zv,VU,decide_false,yM]
theorem U0D(v:Seen):My v v=true:=by simp[My]
theorem Oy{l:List Seen}(h:l.length<=1048576):WS l l=some true:=by
 unfold WS
 rw[Zw,yM]
 refine O0R (n:=l.length) (by omega) (fun i k hi=>?_) (fun k=>?_)
 .have hlt:(i:Int)<(l.length:Int):=by omega
  obtain⟨x,hx⟩:∃x,l[i]?=some x:=⟨_,yA hi⟩
  simp only[Jo,hlt,decide_true,yN,V2,hx,bS,Uc (n:=i) (by omega),U0D,yL,yM]
 .simp only[Jo,VU,decide_false,yM]
theorem V0D{t:Topo}(h1:t.parents.length<=1048576)(h2:t.nodes.length<=1048576):LN t t=some true:=by
 unfold LN
 rw[M06 h1,bS,X0v h2]
 rfl
theorem M0L{x:Run}(h:x.nodes.length<=1048576):JZ x x=some true:=by
 unfold JZ
 rw[V0a,M06 h,Zw]
 rfl
theorem W0D{l:List Run}(h:l.length<=1048576)(hn:∀x∈l,x.nodes.length<=1048576):ZO l l=some true:=by
 unfold ZO
 rw[Zw,yM]
 refine O0R (n:=l.length) (by omega) (fun i k hi=>?_) (fun k=>?_)
 .have hlt:(i:Int)<(l.length:Int):=by omega
  obtain⟨x,hx⟩:∃x,l[i]?=some x:=⟨_,yA hi⟩
  simp only[Mu,hlt,decide_true,yN,V2,hx,bS,Uc (n:=i) (by omega),M0L (hn x (yE hx)),yL,yM]
 .simp only[Mu,VU,decide_false,yM]
theorem Y0v{s:State}(h:SizedS s):QS s s=some true:=by
 have:=h.jobs
 unfold QS
 rw[V0D h.parents h.nodes,V0v h.up,MN,Zw,Zw,L0D (by omega),W0D (by omega) h.run,J0D h.ends]
 rfl
theorem L1u{n:Int}{c:Nat}(h0:0<=n)(h:n<=1048576)(hc:c<=maxLen):(bif decide (w64 (n-(c:Int))<0)then(-1:Int)else w64 (n-(c:Int)))=szr n c:=by
 have hm:maxLen=9223372036854775807:=rfl
 rw[Ja (by omega)]
 unfold szr
 by_cases q:n<c
 .rw[yd q,show decide (n-(c:Int)<0)=true by rw[yO];omega];rfl
 .rw[ye q,show decide (n-(c:Int)<0)=false by rw[decide_eq_false_iff_not];omega];rfl
theorem O0j{n:Int}{c:Nat}:(szr n c<0)\/(0<=szr n c/\(c:Int)<=n/\szr n c=n-c):=by
 unfold szr;split
 .exact .inl (by omega)
 .exact .inr (by omega)
theorem V1H{x:Run}{n:Int}(h0:0<=n)(h:n<=1048576)(hc:x.nodes.length<=maxLen):Uy x n=szr n x.nodes.length:=by
 unfold Uy Y5
 rw[L1u h0 h hc]
 rcases O0j (n:=n) (c:=x.nodes.length)with q|q
 .have:szr n x.nodes.length = -1:=by unfold szr at q ⊢;split<;>omega
  rw[this];rfl
 .have:decide (szr n x.nodes.length<0)=false:=by simp;omega
  rw[this];rfl
theorem O1y{l:List Run}{n:Int}(h0:0<=n)(h:n<=1048576)(hc:FitL U1E l):∃r,ON l n=some r/\r<=n/\(0<=r->(l.length:Int)+r<=n/\∀x∈l,x.nodes.length<=1048576):=by
 have hm:maxLen=9223372036854775807:=rfl
 obtain⟨c1,c2⟩:=hc
 unfold ON
 rw[Ja (by omega)]
 by_cases q:n-(l.length:Int)<0
 .exact⟨-1,by simp[q],by omega,fun h=>by omega⟩
 .simp only[q,decide_false,yM]
  refine W0j (fun _ o=>∃r,o=some r/\r<=n/\(0<=r->(l.length:Int)+r<=n/\∀x∈l,x.nodes.length<=1048576)) (fun b=>l.length-b.2.toNat) (fun b=>∃i:Nat,b.2=(i:Int)/\i<=l.length/\0<=b.1/\(l.length:Int)+b.1<=n/\∀j x,j<i->l[j]?=some x->x.nodes.length<=1048576) ?_ 9223372036854775807 (n-(l.length:Int),0) ⟨0,rfl,Nat.zero_le _,by simp only;omega,by simp only;omega,fun j x hj=>by omega⟩ (by simp only;omega)
  rintro⟨m,_⟩ k ⟨i,rfl,hi,hm0,hmn,hall⟩ hk
  simp only at hm0 hmn hk
  unfold WN
  by_cases hlt:i<l.length
  .have hlt':(i:Int)<(l.length:Int):=by omega
   have hx:l[i]?=some l[i]:=yA hlt
   simp only[hlt',decide_true,yN,V2,hx,bS,Uc (n:=i) (by omega)]
   rw[V1H hm0 (by omega) (c2 _ (List.getElem_mem hlt)).2.2.1.1]
   rcases O0j (n:=m) (c:=l[i].nodes.length)with q|q
   .simp only[q,decide_true,yN]
    exact⟨-1,rfl,by omega,fun h=>by omega⟩
   .have:¬ szr m l[i].nodes.length<0:=by omega
    simp only[this,decide_false,yM]
    refine hk _ ⟨i+1,rfl,hlt,q.1,by simp only;omega,fun j x hj hx'=>?_⟩ (by simp only;omega)
    by_cases e:j=i
    .subst e;rw[hx]at hx';cases hx';omega
    .exact hall j x (by omega) hx'
  .have:i=l.length:=by omega
   subst this
   simp only[VU,decide_false,yM]
   exact⟨m,rfl,by omega,fun _=>⟨hmn,fun x hx=>by
    obtain⟨j,hj⟩:=List.getElem?_of_mem hx
    exact hall j x (yB hj).1 hj⟩⟩
theorem Y0V{s:State}(hf:Y0q s){n:Int}(hn0:0<=n)(hn:n<=1048576):∃r,JD s n=some r/\(r<0\/(SizedS s/\r<=n)):=by
 obtain⟨⟨p1,p2,_⟩,p3,_,_,_,p4,p5,p6,_⟩:=hf
 have no:∀{c:Prop} [Decidable c],c->(decide c)=true:=fun h=>by simp[h]
 have nn:∀{c:Prop} [Decidable c],¬ c->(decide c)=false:=fun h=>by simp[h]
 have bad:∃r,(some (-1):Option Int)=some r/\(r<0\/(SizedS s/\r<=n)):=⟨-1,rfl,.inl (by omega)⟩
 unfold JD
 have e1:Y5 s.topo.parents n=szr n s.topo.parents.length:=L1u hn0 hn p1.1
 have et:M6 s.topo n<0\/(s.topo.parents.length<=1048576/\s.topo.nodes.length<=1048576/\0<=M6 s.topo n/\M6 s.topo n<=n):=by
  unfold M6
  rw[e1]
  rcases O0j (n:=n) (c:=s.topo.parents.length)with q|q
  .rw[no q,yN];exact .inl (by omega)
  .rw[nn (by omega),yM]
   have e2:Je s.topo.nodes (szr n s.topo.parents.length)=szr (szr n s.topo.parents.length) s.topo.nodes.length:=L1u q.1 (by omega) p2.1
   rw[e2]
   rcases O0j (n:=szr n s.topo.parents.length) (c:=s.topo.nodes.length)with q'|q'
   .rw[no q',yN];exact .inl (by omega)
   .rw[nn (by omega),yM]
    exact .inr (by omega)
 generalize M6 s.topo n=m0 at et ⊢
 rcases et with q|q
 .rw[no q,yN];exact bad
 rw[nn (by omega),yM]
 have e3:Zf s.up m0=szr m0 s.up.length:=L1u (by omega) (by omega) p3.1
 rw[e3]
 rcases O0j (n:=m0) (c:=s.up.length)with r|r
 .rw[no r,yN];exact bad
 rw[nn (by omega),yM]
 generalize szr m0 s.up.length=m1 at r ⊢
 have e4:Qy s.queue m1=szr m1 s.queue.length:=L1u (by omega) (by omega) p4.1
 rw[e4]
 rcases O0j (n:=m1) (c:=s.queue.length)with t|t
 .rw[no t,yN];exact bad
 rw[nn (by omega),yM]
 generalize szr m1 s.queue.length=m2 at t ⊢
 obtain⟨m3,e5,u1,u2⟩:=O1y (n:=m2) (by omega) (by omega) p5
 rw[e5,bS]
 by_cases u:m3<0
 .rw[no u,yN];exact bad
 rw[nn u,yM]
 have u':=u2 (by omega)
 have e6:Wy s.ends m3=szr m3 s.ends.length:=L1u (by omega) (by omega) p6.1
 rw[e6]
 rcases O0j (n:=m3) (c:=s.ends.length)with v|v
 .rw[no v,yN];exact bad
 rw[nn (by omega),yM]
 exact⟨_,rfl,.inr ⟨⟨q.1,q.2.1,by omega,by omega,u'.2,by omega⟩,by omega⟩⟩
theorem X0L{s:State}(hf:Y0q s):∃r,JD s 1048576=some r/\(r<0\/SizedS s):=by
 obtain⟨r,h1,h2⟩:=Y0V hf (n:=1048576) (by omega) (by omega)
 exact⟨r,h1,h2.imp id And.left⟩
end
end Go.Proofs.YtodafdoninblmaaGreat
namespace Go.Proofs.YtodafdoninblmaaGreat.Eng
open Go Go.RowKit
section
section
variable{P:Program}{s:St}{K:St->Prop}
@[simp] theorem wop_oln {d:Nat}{x:X}:wop P (.oln d x) K s=match s.get x with
  |.od _ _ n=>K (s.set d (.int .i64 n))
  |_=>False:=_root_.id rfl
@[simp] theorem wop_oia {d n:Nat}{x i:X}:wop P (.oia d x i n) K s=match s.get x with
  |.od m ks l=>match W0v (s.get i) l with
   |some _=>ks.length=n/\K (s.set d (.op m ks 0))
   |none=>False
  |_=>False:=_root_.id rfl
@[simp] theorem wop_ofa {d off:Nat}{x:X}:wop P (.ofa d x off) K s=match s.get x with
  |.op m ks o=>K (s.set d (.op m ks (o+off)))
  |_=>False:=_root_.id rfl
@[simp] theorem wop_old {d:Nat}{p:X}:wop P (.old d p) K s=match s.get p with
  |.op m ks off=>match ks[off]? with
   |some (.l ks')=>∀n,n<=1048576->K (s.set d (.od m ks' n))
   |_=>False
  |_=>False:=_root_.id rfl
@[simp] theorem wop_ost {p x:X}:wop P (.ost p x) K s=match s.get p with
  |.op m ks off=>match ks[off]? with
   |some k=>s.my m/\s.kn m/\kindOk k (s.get x)=true/\K s
   |none=>False
  |_=>False:=_root_.id rfl
section
variable{m:Nat}{rks:List Nat}
@[simp] theorem U27 {i:Nat}:(s.losing m rks).e i=(s.e i).lose m:=_root_.id rfl
@[simp] theorem U22 {k:Nat}:(s.losing m rks).bx k=(s.bx k).map fun cs=>cs.map (AV.lose1 m):=_root_.id rfl
@[simp] theorem Z22 {k:Nat}:(s.losing m rks).rw k=if k∈rks then s.rw k else none:=_root_.id rfl
@[simp] theorem Y22:(s.losing m rks).nx=s.nx:=_root_.id rfl
@[simp] theorem X22:(s.losing m rks).my=s.my:=_root_.id rfl
@[simp] theorem V22:(s.losing m rks).kn=s.kn:=_root_.id rfl
end
theorem Z1f{d f m:Nat}{xs:List X}{az:List AV}{Φ:Int->Prop}(rks:List Nat)(hv:Hav P f az Φ)(ha:hvLs m (xs.map s.get) az)(hm:s.my m)(hr:∀k∈rks,∀r,s.rw k=some r->J0b m r.es=true)
  (h:∀k,Φ k->K (St.set (s.losing m rks) d (.int .i64 k))):wop P (.cf d f m xs) K s:=⟨hm,az,Φ,rks,hv,ha,hr,h⟩
theorem do_co(n:Nat){d f:Nat}{xs:List X}{az:List AV}{res:AV}{rows:List Row}(hs:Snd P f az res rows)(ha:U1x s xs az)(hp:(res.nwd rows).pl)(hn:s.nx=n)(h:K (St.set { s with nx:=n+1 } d ((res.nwd rows).ownt n))):wop P (.co d f xs) K s:=by
 subst hn
 obtain⟨l,e,hs⟩:=Q1f ha hs
 exact⟨l,e,res,rows,hs,hp,h⟩
attribute [simp] AV.lose AV.lose1 AV.free J0b AV.ownt L07 AV.pl plL hv1 hvA hvL hvLs AV.fitX fitC kindOk
@[simp] theorem O23 {α:Type}(m:Nat)(e:α->AV)(l:List α):J0b m (l.map e)=true↔∀x∈l,(e x).free m=true:=by rw[Jv];simp
@[simp] theorem Q27 (m:Nat)(ks:List DK):fitE m ks []=True:=by simp[fitE]
@[simp] theorem M23 (m:Nat)(ks:List DK)(e:AV)(l:List AV):fitE m ks (e::l)=(AV.fitX m ks e/\fitE m ks l):=by simp[fitE]
@[simp] theorem Y1K {α:Type}(m:Nat)(ks:List DK)(e:α->AV):∀l:List α,fitE m ks (l.map e)↔∀x∈l,AV.fitX m ks (e x)
 |[]=>by simp
 |a::l=>by simp[Y1K m ks e l]
@[simp] theorem U1R {α:Type}(e:α->AV):∀l:List α,plL (l.map e)↔∀x∈l,(e x).pl
 |[]=>by simp
 |a::l=>by simp[U1R e l]
theorem U1h{α:Type}(i:Nat)(e e':α->AV)(h:∀x,(e x).ownt i=e' x)(l:List α):L07 i (l.map e)=l.map e':=by rw[QZ,List.map_map];exact List.map_congr_left fun x _=>h x
def Y0U(rs:List Rv)(Φ:Int->Prop)(e:Ex)(s:St):Prop:=(match e with | .ext _=>False|_=>True)/\∃k,s.rvs rs=some [.int .i64 k]/\Φ k
theorem Q23{f:FuncId}{fn:Func}{l:L}{rs:List Rv}{args:List AV}{Φ:Int->Prop}(hf:P.funcs[f]?=some fn)(hc:chkF P args.length l rs fn=true)(h:den P l (Y0U rs Φ) (stH args)):Hav P f args Φ:=by
  simp only[chkF,yD,yO]at hc
  obtain⟨⟨⟨⟨hc,hr⟩,hr4⟩,hn⟩,hnb⟩:=hc
  cases hb:fn.body with
  |none=>rw[hb]at hc;cases hc
  |some code =>
    rw[hb]at hc
    simp only at hc
    intro w D vs hD hvl hvs
    let c:Cx:={ nt:=fn.ntmps,X:=D,Y:=fun _=>True,S0:=fun _ _=>False,w0:=w,rv0:=fun _=>undef,bb0:=fun _=>0,ntb:=hnb,D:=D,s0:=fun _ _ h=>h.elim,sx:=fun _ _ h=>h.elim }
    have ov0:∀i E,(ghD D).ov i=some E->i=0/\E=D:=by
      intro i E h
      simp only[ghD]at h
      split at h
      · rename_i hi;cases h;exact⟨hi,rfl⟩
      · cases h
    have I:Inv c (ghD D) (stH args) { tmps:=vs.toArray++Array.replicate (fn.ntmps-vs.toArray.size) undef,defers:=[] } w:=by
      refine⟨rfl,by simp only[Array.size_append,List.size_toArray,Array.size_replicate,c];omega,⟨rfl,rfl,rfl,yV _,fun _ _ _=>rfl⟩,fun i=>?_,fun k cs h=>(by cases h),fun k cs h=>(by cases h),fun k r h=>(by cases h),fun k r h=>(by cases h),fun k k' cs cs' h=>(by cases h),fun k k' cs r h=>(by cases h),fun k k' r r' h=>(by cases h),fun b o h=>(show False from h).elim,fun b h=>trivial,fun b _ _=>trivial,fun _ _=>⟨rfl,rfl⟩,fun _ _ h=>h,fun _ _ h=>.inl h,
        ⟨⟨fun i E h=>?_,fun i E h b hb=>?_,fun i j E E' h1 h2 hne=>?_,fun k cs h=>(by cases h),fun k r h=>(by cases h),fun i E h b hb=>?_⟩,fun i E h _ b hb=>?_,rfl,Nat.zero_le _,fun i h=>absurd h (Nat.not_lt_zero i),fun b hb=>⟨0,D,rfl,hb⟩,fun i hi=>⟨?_,fun E h b hb=>?_⟩,fun b o v _ hv=>⟨v,hv,.refl v⟩⟩,fun b o h=>(show False from h).elim,fun b o h=>(show False from h).elim⟩
      · simp only[stH]
        rcases Nat.lt_or_ge i args.length with hi|hi
        · have hiv:i<vs.length:=by omega
          have e1:args.getD i .und=args[i]:=by simp[List.getD_eq_getElem?_getD,hi]
          have e2:(vs.toArray++Array.replicate (fn.ntmps-vs.toArray.size) undef).getD i undef=vs[i]:=by
            simp[Array.getD_eq_getD_getElem?,Array.getElem?_append_left,hiv]
          rw[e1,e2]
          exact Gv.turn (s:=stH []) (s':=stH args) (J1f rfl rfl (fun _ _ _=>rfl) X0W) (hvs i args[i] vs[i] (yA hi) (yA hiv))
        · have e1:args.getD i .und=.und:=by simp[List.getD_eq_getElem?_getD,List.getElem?_eq_none hi]
          have e2:(vs.toArray++Array.replicate (fn.ntmps-vs.toArray.size) undef).getD i undef=undef:=by
            rw[Array.getD_eq_getD_getElem?,Array.getElem?_append_right (by simp;omega),Array.getElem?_replicate]
            split<;>rfl
          rw[e1,e2]
          exact .und
      · obtain⟨rfl,_⟩:=ov0 i E h;exact Nat.one_pos
      · obtain⟨_,rfl⟩:=ov0 i E h;exact⟨(hD b hb).1,trivial⟩
      · obtain⟨rfl,_⟩:=ov0 i E h1;obtain⟨rfl,_⟩:=ov0 j E' h2;exact absurd rfl hne
      · obtain⟨_,rfl⟩:=ov0 i E h;exact(hD b hb).2
      · obtain⟨_,rfl⟩:=ov0 i E h;exact⟨trivial,fun _=>hb⟩
      · have hi':i=0:=hi
        subst hi';exact Nat.one_pos
      · obtain⟨_,rfl⟩:=ov0 i E h;exact hb
    refine calls_of_wp hf hb ?_
    refine O0x (c:=c) hc (fun e g' s' a' w' I' hp=>?_) I h
    have fin:(∃v,(results fn a'.tmps).run P w'=.ok v w'/\∃k,Ending.returned v=.returned (.int .i64 k)/\Φ k/\Kept D w w'/\(∀b,D b->UnfB w' b) /\
        ∀b o v,D b->w.cell? ⟨b,o,none⟩=some v->∃v',w'.cell? ⟨b,o,none⟩=some v'/\KRel v v'):=by
      obtain⟨_,k,h1,h2⟩:=hp
      obtain⟨u,q1,q2⟩:=J0j (P:=P) I' hr4 hr h1
      have hu:u=.int .i64 k:=(show Gv w' g' s' (.int .i64 k) u from q2).int_inv
      refine⟨u,q1,k,by rw[hu],h2,⟨I'.fr.os,I'.fr.tape,I'.fr.output,I'.fr.size,fun k hk hx=>I'.fr.block k hk hx⟩,fun b hb=>?_,fun b o v hb hv=>I'.ow.dk b o v hb hv⟩
      obtain⟨i,E,e1,e2⟩:=I'.ow.dd b hb
      exact I'.ow.uf i E e1 b e2
    cases e with
    |nrm=>exact⟨I'.defers,fin⟩
    |ret=>exact⟨I'.defers,fin⟩
    |ext id=>exact hp.1.elim
theorem L0z{f:FuncId}{l:L}{rs:List Rv}{args:List AV}{Φ:Int->Prop}{n:Nat}(hc:MA P f n l rs=true)(hn:args.length=n)(h:den P l (Y0U rs Φ) (stH args)):Hav P f args Φ:=by
 unfold MA at hc
 split at hc
 .rename_i fn hf
  subst hn
  exact Q23 hf hc h
 .cases hc
attribute [simp] stH
@[simp] theorem set_my {d:Nat}{v:AV}:(s.set d v).my=s.my:=_root_.id rfl
@[simp] theorem set_nx {d:Nat}{v:AV}:(s.set d v).nx=s.nx:=_root_.id rfl
@[simp] theorem kill_nx {k:Nat}:(s.kill k).nx=s.nx:=_root_.id rfl
@[simp] theorem st0_nx {args:List AV}:(st0 args).nx=0:=_root_.id rfl
@[simp] theorem st0_my {args:List AV}:(st0 args).my=fun _=>True:=_root_.id rfl
@[simp] theorem VL {α:Type}{i:Nat}{e:α->AV}(h:∀x,(e x).ownt i=e x)(l:List α):L07 i (l.map e)=l.map e:=U1h i e e h l
@[simp] theorem kill_my {k:Nat}:(s.kill k).my=s.my:=_root_.id rfl
@[simp] theorem kill_kn {k:Nat}:(s.kill k).kn=s.kn:=_root_.id rfl
@[simp] theorem set_kn {d:Nat}{v:AV}:(s.set d v).kn=s.kn:=_root_.id rfl
end
end
end Go.Proofs.YtodafdoninblmaaGreat.Eng
namespace Go.Proofs.YtodafdoninblmaaGreat
open Go Go.RowKit Eng
def kB(k b:Int):Int->Prop:=fun j=>k<=j/\j<=k+b
def U00:L :=
 .seq (
 .reg [.mv 4 (.c (.int .i64 0))]) (
 .seq (
 .seq (
 .reg [.mv 5 (.c (.int .i64 0))]) (
 .blk 0 (
  .loop (
   .seq (
   .seq (
   .reg [.mv 6 (.t 5),.mv 7 (.t 0),.oln 8 (.t 7),.bi 9 .lss (.t 6) (.t 8)]) (
   .cond (.t 9) (
    .skip) (
    .exit 0))) (
   .seq (
   .blk 1 (
    .seq (
    .reg [.mv 12 (.t 0),.mv 13 (.t 5),.mv 14 (.t 1),.oia 15 (.t 12) (.t 13) 1,.ost (.t 15) (.t 14)]) (
    .reg [.mv 16 (.t 1),.bi 17 .add (.t 16) (.c (.int .i64 1)),.mv 1 (.t 17)]))) (
   .reg [.mv 10 (.t 5),.bi 11 .add (.t 10) (.c (.int .i64 1)),.mv 5 (.t 11)])))))) (
 .seq (
 .reg [.mv 18 (.t 1),.mv 4 (.t 18)]) (
 .ret)))
def YZ:List Rv:=[.t 4]
theorem X0y:MA Tryz.prog Mw 2 U00 YZ=true:=by kernel_rfl
set_option maxRecDepth 10000 in
theorem U0z(n:Nat)(hn:n<=1048576)(k:Int)(h0:0<=k)(h1:k<=2251799813685248) :
  Hav Tryz.prog Mw [.od 0 [.i .i64] n,.int .i64 k] (kB k (1*n)):=by
 refine L0z X0y rfl (W0x ?_)
 unfold U00 YZ
 simp
 refine U0i (fun m s=>∃(i:Nat) (j:Int),m=n-i/\i<=n/\k<=j/\j<=k+1*i/\s.e 0=.od 0 [.i .i64] n/\s.e 1=.int .i64 j/\s.e 5=.int .i64 (i:Nat)/\s.my 0/\s.kn 0) n ?_ ?_
 .exact⟨0,k,by simp⟩
 .rintro m s ⟨i,j,rfl,hi,hj0,hj1,e0,e1,e5,hm,hk⟩
  by_cases h:i<n
  .have hw:∀q:Int,0<=q->q<=4611686018427387904->IntKind.i64.wrap q=q:=fun q h0 h1=>Ll (by omega) (by omega)
   simp[e0,e1,e5,h,hm,hk,hw (j+1) (by omega) (by omega)]
   exact⟨n-(i+1),by omega,i+1,rfl,by omega,j+1,by omega,by simp;omega,rfl,by rw[hw _ (by omega) (by omega)];simp⟩
  .have:i=n:=by omega
   subst this
   simp[e0,e1,e5,kB,Y0U]
   omega
def XT:L :=
 .seq (
 .reg [.mv 4 (.c (.int .i64 0))]) (
 .seq (
 .seq (
 .reg [.mv 5 (.c (.int .i64 0))]) (
 .blk 0 (
  .loop (
   .seq (
   .seq (
   .reg [.mv 6 (.t 5),.mv 7 (.t 0),.oln 8 (.t 7),.bi 9 .lss (.t 6) (.t 8)]) (
   .cond (.t 9) (
    .skip) (
    .exit 0))) (
   .seq (
   .blk 1 (
    .seq (
    .reg [.mv 12 (.t 0),.mv 13 (.t 5),.mv 14 (.t 1),.oia 15 (.t 12) (.t 13) 4,.ofa 16 (.t 15) 0,.ost (.t 16) (.t 14)]) (
    .seq (
    .reg [.mv 17 (.t 1),.bi 18 .add (.t 17) (.c (.int .i64 1)),.mv 1 (.t 18)]) (
    .seq (
    .reg [.mv 19 (.t 0),.mv 20 (.t 5),.mv 21 (.t 1),.oia 22 (.t 19) (.t 20) 4,.ofa 23 (.t 22) 1,.ofa 24 (.t 23) 0,.ost (.t 24) (.t 21)]) (
    .seq (
    .reg [.mv 25 (.t 1),.bi 26 .add (.t 25) (.c (.int .i64 1)),.mv 1 (.t 26)]) (
    .seq (
    .reg [.mv 27 (.t 0),.mv 28 (.t 5),.mv 29 (.t 1),.oia 30 (.t 27) (.t 28) 4,.ofa 31 (.t 30) 1,.ofa 32 (.t 31) 1,.ost (.t 32) (.t 29)]) (
    .seq (
    .reg [.mv 33 (.t 1),.bi 34 .add (.t 33) (.c (.int .i64 1)),.mv 1 (.t 34)]) (
    .seq (
    .reg [.mv 35 (.t 0),.mv 36 (.t 5),.mv 37 (.t 1),.oia 38 (.t 35) (.t 36) 4,.ofa 39 (.t 38) 1,.ofa 40 (.t 39) 2,.ost (.t 40) (.t 37)]) (
    .reg [.mv 41 (.t 1),.bi 42 .add (.t 41) (.c (.int .i64 1)),.mv 1 (.t 42)]))))))))) (
   .reg [.mv 10 (.t 5),.bi 11 .add (.t 10) (.c (.int .i64 1)),.mv 5 (.t 11)])))))) (
 .seq (
 .reg [.mv 43 (.t 1),.mv 4 (.t 43)]) (
 .ret)))
def UR:List Rv:=[.t 4]
theorem M0q:MA Tryz.prog VH 2 XT UR=true:=by kernel_rfl
set_option maxRecDepth 10000 in
theorem Z18(n:Nat)(hn:n<=1048576)(k:Int)(h0:0<=k)(h1:k<=2251799813685248) :
  Hav Tryz.prog VH [.od 0 [.i .i64,.i .i64,.i .i64,.i .i64] n,.int .i64 k] (kB k (4*n)):=by
 refine L0z M0q rfl (W0x ?_)
 unfold XT UR
 simp
 refine U0i (fun m s=>∃(i:Nat) (j:Int),m=n-i/\i<=n/\k<=j/\j<=k+4*i/\s.e 0=.od 0 [.i .i64,.i .i64,.i .i64,.i .i64] n/\s.e 1=.int .i64 j/\s.e 5=.int .i64 (i:Nat)/\s.my 0/\s.kn 0) n ?_ ?_
 .exact⟨0,k,by simp⟩
 .rintro m s ⟨i,j,rfl,hi,hj0,hj1,e0,e1,e5,hm,hk⟩
  by_cases h:i<n
  .have hw:∀q:Int,0<=q->q<=4611686018427387904->IntKind.i64.wrap q=q:=fun q h0 h1=>Ll (by omega) (by omega)
   simp[e0,e1,e5,h,hm,hk,hw (j+1) (by omega) (by omega),hw (j+1+1) (by omega) (by omega),hw (j+1+1+1) (by omega) (by omega),hw (j+1+1+1+1) (by omega) (by omega)]
   exact⟨n-(i+1),by omega,i+1,rfl,by omega,j+1+1+1+1,by omega,by simp;omega,rfl,by rw[hw _ (by omega) (by omega)];simp⟩
  .have:i=n:=by omega
   subst this
   simp[e0,e1,e5,kB,Y0U]
   omega
def VT:L :=
 .seq (
 .reg [.mv 4 (.c (.int .i64 0))]) (
 .seq (
 .seq (
 .reg [.mv 5 (.c (.int .i64 0))]) (
 .blk 0 (
  .loop (
   .seq (
   .seq (
   .reg [.mv 6 (.t 5),.mv 7 (.t 0),.oln 8 (.t 7),.bi 9 .lss (.t 6) (.t 8)]) (
   .cond (.t 9) (
    .skip) (
    .exit 0))) (
   .seq (
   .blk 1 (
    .seq (
    .reg [.mv 12 (.t 0),.mv 13 (.t 5),.mv 14 (.t 1),.bi 15 .rem (.t 14) (.c (.int .i64 3)),.bi 16 .eql (.t 15) (.c (.int .i64 0)),.oia 17 (.t 12) (.t 13) 1,.ost (.t 17) (.t 16)]) (
    .reg [.mv 18 (.t 1),.bi 19 .add (.t 18) (.c (.int .i64 1)),.mv 1 (.t 19)]))) (
   .reg [.mv 10 (.t 5),.bi 11 .add (.t 10) (.c (.int .i64 1)),.mv 5 (.t 11)])))))) (
 .seq (
 .reg [.mv 20 (.t 1),.mv 4 (.t 20)]) (
 .ret)))
def QR:List Rv:=[.t 4]
theorem L0q:MA Tryz.prog UH 2 VT QR=true:=by kernel_rfl
set_option maxRecDepth 10000 in
theorem Y18(n:Nat)(hn:n<=1048576)(k:Int)(h0:0<=k)(h1:k<=2251799813685248) :
  Hav Tryz.prog UH [.od 0 [.b] n,.int .i64 k] (kB k (1*n)):=by
 refine L0z L0q rfl (W0x ?_)
 unfold VT QR
 simp
 refine U0i (fun m s=>∃(i:Nat) (j:Int),m=n-i/\i<=n/\k<=j/\j<=k+1*i/\s.e 0=.od 0 [.b] n/\s.e 1=.int .i64 j/\s.e 5=.int .i64 (i:Nat)/\s.my 0/\s.kn 0) n ?_ ?_
 .exact⟨0,k,by simp⟩
 .rintro m s ⟨i,j,rfl,hi,hj0,hj1,e0,e1,e5,hm,hk⟩
  by_cases h:i<n
  .have hw:∀q:Int,0<=q->q<=4611686018427387904->IntKind.i64.wrap q=q:=fun q h0 h1=>Ll (by omega) (by omega)
   simp[e0,e1,e5,h,hm,hk,hw (j+1) (by omega) (by omega)]
   exact⟨n-(i+1),by omega,i+1,rfl,by omega,j+1,by omega,by simp;omega,rfl,by rw[hw _ (by omega) (by omega)];simp⟩
  .have:i=n:=by omega
   subst this
   simp[e0,e1,e5,kB,Y0U]
   omega
def V00:L :=
 .seq (
 .reg [.mv 4 (.c (.int .i64 0))]) (
 .seq (
 .seq (
 .reg [.mv 5 (.c (.int .i64 0))]) (
 .blk 0 (
  .loop (
   .seq (
   .seq (
   .reg [.mv 6 (.t 5),.mv 7 (.t 0),.oln 8 (.t 7),.bi 9 .lss (.t 6) (.t 8)]) (
   .cond (.t 9) (
    .skip) (
    .exit 0))) (
   .seq (
   .blk 1 (
    .seq (
    .reg [.mv 12 (.t 0),.mv 13 (.t 5),.mv 14 (.t 1),.oia 15 (.t 12) (.t 13) 11,.ofa 16 (.t 15) 0,.ost (.t 16) (.t 14)]) (
    .seq (
    .reg [.mv 17 (.t 1),.bi 18 .add (.t 17) (.c (.int .i64 1)),.mv 1 (.t 18)]) (
    .seq (
    .reg [.mv 19 (.t 0),.mv 20 (.t 5),.mv 21 (.t 1),.oia 22 (.t 19) (.t 20) 11,.ofa 23 (.t 22) 1,.ost (.t 23) (.t 21)]) (
    .seq (
    .reg [.mv 24 (.t 1),.bi 25 .add (.t 24) (.c (.int .i64 1)),.mv 1 (.t 25)]) (
    .seq (
    .reg [.mv 26 (.t 0),.mv 27 (.t 5),.mv 28 (.t 1),.oia 29 (.t 26) (.t 27) 11,.ofa 30 (.t 29) 2,.ost (.t 30) (.t 28)]) (
    .seq (
    .reg [.mv 31 (.t 1),.bi 32 .add (.t 31) (.c (.int .i64 1)),.mv 1 (.t 32)]) (
    .seq (
    .reg [.mv 33 (.t 0),.mv 34 (.t 5),.mv 35 (.t 1),.oia 36 (.t 33) (.t 34) 11,.ofa 37 (.t 36) 3,.ofa 38 (.t 37) 0,.ost (.t 38) (.t 35)]) (
    .seq (
    .reg [.mv 39 (.t 1),.bi 40 .add (.t 39) (.c (.int .i64 1)),.mv 1 (.t 40)]) (
    .seq (
    .reg [.mv 41 (.t 0),.mv 42 (.t 5),.mv 43 (.t 1),.oia 44 (.t 41) (.t 42) 11,.ofa 45 (.t 44) 3,.ofa 46 (.t 45) 1,.ost (.t 46) (.t 43)]) (
    .seq (
    .reg [.mv 47 (.t 1),.bi 48 .add (.t 47) (.c (.int .i64 1)),.mv 1 (.t 48)]) (
    .seq (
    .reg [.mv 49 (.t 0),.mv 50 (.t 5),.mv 51 (.t 1),.oia 52 (.t 49) (.t 50) 11,.ofa 53 (.t 52) 3,.ofa 54 (.t 53) 2,.ost (.t 54) (.t 51)]) (
    .seq (
    .reg [.mv 55 (.t 1),.bi 56 .add (.t 55) (.c (.int .i64 1)),.mv 1 (.t 56)]) (
    .seq (
    .reg [.mv 57 (.t 0),.mv 58 (.t 5),.mv 59 (.t 1),.oia 60 (.t 57) (.t 58) 11,.ofa 61 (.t 60) 6,.ofa 62 (.t 61) 0,.ost (.t 62) (.t 59)]) (
    .seq (
    .reg [.mv 63 (.t 1),.bi 64 .add (.t 63) (.c (.int .i64 1)),.mv 1 (.t 64)]) (
    .seq (
    .reg [.mv 65 (.t 0),.mv 66 (.t 5),.mv 67 (.t 1),.oia 68 (.t 65) (.t 66) 11,.ofa 69 (.t 68) 6,.ofa 70 (.t 69) 1,.ost (.t 70) (.t 67)]) (
    .seq (
    .reg [.mv 71 (.t 1),.bi 72 .add (.t 71) (.c (.int .i64 1)),.mv 1 (.t 72)]) (
    .seq (
    .reg [.mv 73 (.t 0),.mv 74 (.t 5),.mv 75 (.t 1),.oia 76 (.t 73) (.t 74) 11,.ofa 77 (.t 76) 6,.ofa 78 (.t 77) 2,.ost (.t 78) (.t 75)]) (
    .seq (
    .reg [.mv 79 (.t 1),.bi 80 .add (.t 79) (.c (.int .i64 1)),.mv 1 (.t 80)]) (
    .seq (
    .reg [.mv 81 (.t 0),.mv 82 (.t 5),.mv 83 (.t 1),.oia 84 (.t 81) (.t 82) 11,.ofa 85 (.t 84) 9,.ost (.t 85) (.t 83)]) (
    .seq (
    .reg [.mv 86 (.t 1),.bi 87 .add (.t 86) (.c (.int .i64 1)),.mv 1 (.t 87)]) (
    .seq (
    .reg [.mv 88 (.t 0),.mv 89 (.t 5),.mv 90 (.t 1),.oia 91 (.t 88) (.t 89) 11,.ofa 92 (.t 91) 10,.ost (.t 92) (.t 90)]) (
    .reg [.mv 93 (.t 1),.bi 94 .add (.t 93) (.c (.int .i64 1)),.mv 1 (.t 94)]))))))))))))))))))))))) (
   .reg [.mv 10 (.t 5),.bi 11 .add (.t 10) (.c (.int .i64 1)),.mv 5 (.t 11)])))))) (
 .seq (
 .reg [.mv 95 (.t 1),.mv 4 (.t 95)]) (
 .ret)))
def ZZ:List Rv:=[.t 4]
theorem Y0y:MA Tryz.prog MP 2 V00 ZZ=true:=by kernel_rfl
set_option maxRecDepth 10000 in
theorem Q1i(n:Nat)(hn:n<=1048576)(k:Int)(h0:0<=k)(h1:k<=2251799813685248) :
  Hav Tryz.prog MP [.od 0 [.i .i64,.i .i64,.i .i64,.i .i64,.i .i64,.i .i64,.i .i64,.i .i64,.i .i64,.i .i64,.i .i64] n,.int .i64 k] (kB k (11*n)):=by
 refine L0z Y0y rfl (W0x ?_)
 unfold V00 ZZ
 simp
 refine U0i (fun m s=>∃(i:Nat) (j:Int),m=n-i/\i<=n/\k<=j/\j<=k+11*i/\s.e 0=.od 0 [.i .i64,.i .i64,.i .i64,.i .i64,.i .i64,.i .i64,.i .i64,.i .i64,.i .i64,.i .i64,.i .i64] n/\s.e 1=.int .i64 j/\s.e 5=.int .i64 (i:Nat)/\s.my 0/\s.kn 0) n ?_ ?_
 .exact⟨0,k,by simp⟩
 .rintro m s ⟨i,j,rfl,hi,hj0,hj1,e0,e1,e5,hm,hk⟩
  by_cases h:i<n
  .have hw:∀q:Int,0<=q->q<=4611686018427387904->IntKind.i64.wrap q=q:=fun q h0 h1=>Ll (by omega) (by omega)
   simp[e0,e1,e5,h,hm,hk,hw (j+1) (by omega) (by omega),hw (j+1+1) (by omega) (by omega),hw (j+1+1+1) (by omega) (by omega),hw (j+1+1+1+1) (by omega) (by omega),hw (j+1+1+1+1+1) (by omega) (by omega),hw (j+1+1+1+1+1+1) (by omega) (by omega),hw (j+1+1+1+1+1+1+1) (by omega) (by omega),hw (j+1+1+1+1+1+1+1+1) (by omega) (by omega),hw (j+1+1+1+1+1+1+1+1+1) (by omega) (by omega),hw (j+1+1+1+1+1+1+1+1+1+1) (by omega) (by omega),hw (j+1+1+1+1+1+1+1+1+1+1+1) (by omega) (by omega)]
   exact⟨n-(i+1),by omega,i+1,rfl,by omega,j+1+1+1+1+1+1+1+1+1+1+1,by omega,by simp;omega,rfl,by rw[hw _ (by omega) (by omega)];simp⟩
  .have:i=n:=by omega
   subst this
   simp[e0,e1,e5,kB,Y0U]
   omega
def Q00:L :=
 .seq (
 .reg [.mv 4 (.c (.int .i64 0))]) (
 .seq (
 .seq (
 .reg [.mv 5 (.c (.int .i64 0))]) (
 .blk 0 (
  .loop (
   .seq (
   .seq (
   .reg [.mv 6 (.t 5),.mv 7 (.t 0),.oln 8 (.t 7),.bi 9 .lss (.t 6) (.t 8)]) (
   .cond (.t 9) (
    .skip) (
    .exit 0))) (
   .seq (
   .blk 1 (
    .seq (
    .reg [.mv 12 (.t 0),.mv 13 (.t 5),.mv 14 (.t 1),.oia 15 (.t 12) (.t 13) 3,.ofa 16 (.t 15) 0,.ost (.t 16) (.t 14)]) (
    .seq (
    .reg [.mv 17 (.t 1),.bi 18 .add (.t 17) (.c (.int .i64 1)),.mv 1 (.t 18)]) (
    .seq (
    .reg [.mv 19 (.t 0),.mv 20 (.t 5),.mv 21 (.t 1),.oia 22 (.t 19) (.t 20) 3,.ofa 23 (.t 22) 1,.ost (.t 23) (.t 21)]) (
    .seq (
    .reg [.mv 24 (.t 1),.bi 25 .add (.t 24) (.c (.int .i64 1)),.mv 1 (.t 25)]) (
    .seq (
    .reg [.mv 26 (.t 0),.mv 27 (.t 5),.mv 28 (.t 1),.oia 29 (.t 26) (.t 27) 3,.ofa 30 (.t 29) 2,.ost (.t 30) (.t 28)]) (
    .reg [.mv 31 (.t 1),.bi 32 .add (.t 31) (.c (.int .i64 1)),.mv 1 (.t 32)]))))))) (
   .reg [.mv 10 (.t 5),.bi 11 .add (.t 10) (.c (.int .i64 1)),.mv 5 (.t 11)])))))) (
 .seq (
 .reg [.mv 33 (.t 1),.mv 4 (.t 33)]) (
 .ret)))
def XZ:List Rv:=[.t 4]
theorem V0y:MA Tryz.prog LP 2 Q00 XZ=true:=by kernel_rfl
set_option maxRecDepth 10000 in
theorem W1i(n:Nat)(hn:n<=1048576)(k:Int)(h0:0<=k)(h1:k<=2251799813685248) :
  Hav Tryz.prog LP [.od 0 [.i .i64,.i .i64,.i .i64] n,.int .i64 k] (kB k (3*n)):=by
 refine L0z V0y rfl (W0x ?_)
 unfold Q00 XZ
 simp
 refine U0i (fun m s=>∃(i:Nat) (j:Int),m=n-i/\i<=n/\k<=j/\j<=k+3*i/\s.e 0=.od 0 [.i .i64,.i .i64,.i .i64] n/\s.e 1=.int .i64 j/\s.e 5=.int .i64 (i:Nat)/\s.my 0/\s.kn 0) n ?_ ?_
 .exact⟨0,k,by simp⟩
 .rintro m s ⟨i,j,rfl,hi,hj0,hj1,e0,e1,e5,hm,hk⟩
  by_cases h:i<n
  .have hw:∀q:Int,0<=q->q<=4611686018427387904->IntKind.i64.wrap q=q:=fun q h0 h1=>Ll (by omega) (by omega)
   simp[e0,e1,e5,h,hm,hk,hw (j+1) (by omega) (by omega),hw (j+1+1) (by omega) (by omega),hw (j+1+1+1) (by omega) (by omega)]
   exact⟨n-(i+1),by omega,i+1,rfl,by omega,j+1+1+1,by omega,by simp;omega,rfl,by rw[hw _ (by omega) (by omega)];simp⟩
  .have:i=n:=by omega
   subst this
   simp[e0,e1,e5,kB,Y0U]
   omega
def X00:L :=
 .seq (
 .reg [.mv 4 (.c (.int .i64 0))]) (
 .seq (
 .seq (
 .reg [.mv 5 (.c (.int .i64 0))]) (
 .blk 0 (
  .loop (
   .seq (
   .seq (
   .reg [.mv 6 (.t 5),.mv 7 (.t 0),.oln 8 (.t 7),.bi 9 .lss (.t 6) (.t 8)]) (
   .cond (.t 9) (
    .skip) (
    .exit 0))) (
   .seq (
   .blk 1 (
    .seq (
    .reg [.mv 12 (.t 0),.mv 13 (.t 5),.mv 14 (.t 1),.oia 15 (.t 12) (.t 13) 13,.ofa 16 (.t 15) 0,.ofa 17 (.t 16) 0,.ost (.t 17) (.t 14)]) (
    .seq (
    .reg [.mv 18 (.t 1),.bi 19 .add (.t 18) (.c (.int .i64 1)),.mv 1 (.t 19)]) (
    .seq (
    .reg [.mv 20 (.t 0),.mv 21 (.t 5),.mv 22 (.t 1),.oia 23 (.t 20) (.t 21) 13,.ofa 24 (.t 23) 0,.ofa 25 (.t 24) 1,.ost (.t 25) (.t 22)]) (
    .seq (
    .reg [.mv 26 (.t 1),.bi 27 .add (.t 26) (.c (.int .i64 1)),.mv 1 (.t 27)]) (
    .seq (
    .reg [.mv 28 (.t 0),.mv 29 (.t 5),.mv 30 (.t 1),.oia 31 (.t 28) (.t 29) 13,.ofa 32 (.t 31) 0,.ofa 33 (.t 32) 2,.ost (.t 33) (.t 30)]) (
    .seq (
    .reg [.mv 34 (.t 1),.bi 35 .add (.t 34) (.c (.int .i64 1)),.mv 1 (.t 35)]) (
    .seq (
    .reg [.mv 36 (.t 0),.mv 37 (.t 5),.mv 38 (.t 1),.oia 39 (.t 36) (.t 37) 13,.ofa 40 (.t 39) 0,.ofa 41 (.t 40) 3,.ofa 42 (.t 41) 0,.ost (.t 42) (.t 38)]) (
    .seq (
    .reg [.mv 43 (.t 1),.bi 44 .add (.t 43) (.c (.int .i64 1)),.mv 1 (.t 44)]) (
    .seq (
    .reg [.mv 45 (.t 0),.mv 46 (.t 5),.mv 47 (.t 1),.oia 48 (.t 45) (.t 46) 13,.ofa 49 (.t 48) 0,.ofa 50 (.t 49) 3,.ofa 51 (.t 50) 1,.ost (.t 51) (.t 47)]) (
    .seq (
    .reg [.mv 52 (.t 1),.bi 53 .add (.t 52) (.c (.int .i64 1)),.mv 1 (.t 53)]) (
    .seq (
    .reg [.mv 54 (.t 0),.mv 55 (.t 5),.mv 56 (.t 1),.oia 57 (.t 54) (.t 55) 13,.ofa 58 (.t 57) 0,.ofa 59 (.t 58) 3,.ofa 60 (.t 59) 2,.ost (.t 60) (.t 56)]) (
    .seq (
    .reg [.mv 61 (.t 1),.bi 62 .add (.t 61) (.c (.int .i64 1)),.mv 1 (.t 62)]) (
    .seq (
    .reg [.mv 63 (.t 0),.mv 64 (.t 5),.mv 65 (.t 1),.oia 66 (.t 63) (.t 64) 13,.ofa 67 (.t 66) 0,.ofa 68 (.t 67) 6,.ofa 69 (.t 68) 0,.ost (.t 69) (.t 65)]) (
    .seq (
    .reg [.mv 70 (.t 1),.bi 71 .add (.t 70) (.c (.int .i64 1)),.mv 1 (.t 71)]) (
    .seq (
    .reg [.mv 72 (.t 0),.mv 73 (.t 5),.mv 74 (.t 1),.oia 75 (.t 72) (.t 73) 13,.ofa 76 (.t 75) 0,.ofa 77 (.t 76) 6,.ofa 78 (.t 77) 1,.ost (.t 78) (.t 74)]) (
    .seq (
    .reg [.mv 79 (.t 1),.bi 80 .add (.t 79) (.c (.int .i64 1)),.mv 1 (.t 80)]) (
    .seq (
    .reg [.mv 81 (.t 0),.mv 82 (.t 5),.mv 83 (.t 1),.oia 84 (.t 81) (.t 82) 13,.ofa 85 (.t 84) 0,.ofa 86 (.t 85) 6,.ofa 87 (.t 86) 2,.ost (.t 87) (.t 83)]) (
    .seq (
    .reg [.mv 88 (.t 1),.bi 89 .add (.t 88) (.c (.int .i64 1)),.mv 1 (.t 89)]) (
    .seq (
    .reg [.mv 90 (.t 0),.mv 91 (.t 5),.mv 92 (.t 1),.oia 93 (.t 90) (.t 91) 13,.ofa 94 (.t 93) 0,.ofa 95 (.t 94) 9,.ost (.t 95) (.t 92)]) (
    .seq (
    .reg [.mv 96 (.t 1),.bi 97 .add (.t 96) (.c (.int .i64 1)),.mv 1 (.t 97)]) (
    .seq (
    .reg [.mv 98 (.t 0),.mv 99 (.t 5),.mv 100 (.t 1),.oia 101 (.t 98) (.t 99) 13,.ofa 102 (.t 101) 0,.ofa 103 (.t 102) 10,.ost (.t 103) (.t 100)]) (
    .seq (
    .reg [.mv 104 (.t 1),.bi 105 .add (.t 104) (.c (.int .i64 1)),.mv 1 (.t 105)]) (
    .seq (
    .reg [.mv 106 (.t 0),.mv 107 (.t 5),.mv 108 (.t 1),.oia 109 (.t 106) (.t 107) 13,.ofa 110 (.t 109) 11,.ost (.t 110) (.t 108)]) (
    .seq (
    .reg [.mv 111 (.t 1),.bi 112 .add (.t 111) (.c (.int .i64 1)),.mv 1 (.t 112)]) (
    .reg [.mv 113 (.t 0),.mv 114 (.t 5),.oia 115 (.t 113) (.t 114) 13,.ofa 116 (.t 115) 12,.old 117 (.t 116),.mv 118 (.t 1),.cf 119 Mw 0 [(.t 117),(.t 118)],.mv 1 (.t 119)])))))))))))))))))))))))))) (
   .reg [.mv 10 (.t 5),.bi 11 .add (.t 10) (.c (.int .i64 1)),.mv 5 (.t 11)])))))) (
 .seq (
 .reg [.mv 120 (.t 1),.mv 4 (.t 120)]) (
 .ret)))
def JY:List Rv:=[.t 4]
theorem Z0y:MA Tryz.prog OP 2 X00 JY=true:=by kernel_rfl
set_option maxRecDepth 10000 in
theorem U1i(n:Nat)(hn:n<=1048576)(k:Int)(h0:0<=k)(h1:k<=1125899906842624) :
  Hav Tryz.prog OP [.od 0 [.i .i64,.i .i64,.i .i64,.i .i64,.i .i64,.i .i64,.i .i64,.i .i64,.i .i64,.i .i64,.i .i64,.i .i64,.l [.i .i64]] n,.int .i64 k] (kB k (1048588*n)):=by
 refine L0z Z0y rfl (W0x ?_)
 unfold X00 JY
 simp
 refine U0i (fun m s=>∃(i:Nat) (j:Int),m=n-i/\i<=n/\k<=j/\j<=k+1048588*i/\s.e 0=.od 0 [.i .i64,.i .i64,.i .i64,.i .i64,.i .i64,.i .i64,.i .i64,.i .i64,.i .i64,.i .i64,.i .i64,.i .i64,.l [.i .i64]] n/\s.e 1=.int .i64 j/\s.e 5=.int .i64 (i:Nat)/\s.my 0/\s.kn 0) n ?_ ?_
 .exact⟨0,k,by simp⟩
 .rintro m s ⟨i,j,rfl,hi,hj0,hj1,e0,e1,e5,hm,hk⟩
  by_cases h:i<n
  .have hw:∀q:Int,0<=q->q<=4611686018427387904->IntKind.i64.wrap q=q:=fun q h0 h1=>Ll (by omega) (by omega)
   simp[e0,e1,e5,h,hm,hk,hw (j+1) (by omega) (by omega),hw (j+1+1) (by omega) (by omega),hw (j+1+1+1) (by omega) (by omega),hw (j+1+1+1+1) (by omega) (by omega),hw (j+1+1+1+1+1) (by omega) (by omega),hw (j+1+1+1+1+1+1) (by omega) (by omega),hw (j+1+1+1+1+1+1+1) (by omega) (by omega),hw (j+1+1+1+1+1+1+1+1) (by omega) (by omega),hw (j+1+1+1+1+1+1+1+1+1) (by omega) (by omega),hw (j+1+1+1+1+1+1+1+1+1+1) (by omega) (by omega),hw (j+1+1+1+1+1+1+1+1+1+1+1) (by omega) (by omega),hw (j+1+1+1+1+1+1+1+1+1+1+1+1) (by omega) (by omega)]
   intro n2 hn2
   refine Z1f [] (U0z n2 hn2 (j+1+1+1+1+1+1+1+1+1+1+1+1) (by omega) (by omega)) (by simp) (by simp[hm]) (by simp) ?_
   rintro q ⟨hq0,hq1⟩
   simp[e0,e5,hm,hk]
   exact⟨n-(i+1),by omega,i+1,rfl,by omega,q,by omega,by simp;omega,rfl,by rw[hw _ (by omega) (by omega)];simp⟩
  .have:i=n:=by omega
   subst this
   simp[e0,e1,e5,kB,Y0U]
   omega
def Y00:L :=
 .seq (
 .reg [.bx 2 (.t 0),.mv 4 (.c (.int .i64 0))]) (
 .seq (
 .reg [.fa 5 (.t 2) 0,.ld 6 (.t 5) 1 false,.mv 7 (.t 1),.cf 8 Mw 0 [(.t 6),(.t 7)],.mv 1 (.t 8)]) (
 .seq (
 .reg [.fa 9 (.t 2) 1,.ld 10 (.t 9) 1 false,.mv 11 (.t 1),.cf 12 VH 0 [(.t 10),(.t 11)],.mv 1 (.t 12)]) (
 .seq (
 .reg [.mv 13 (.t 1),.mv 4 (.t 13)]) (
 .ret))))
def LY:List Rv:=[.t 4]
theorem J0x:MA Tryz.prog WP 2 Y00 LY=true:=by kernel_rfl
set_option maxRecDepth 10000 in
theorem X1i(n1 n2:Nat)(hn1:n1<=1048576)(hn2:n2<=1048576)(k:Int)(h0:0<=k)(h1:k<=562949953421312) :
  Hav Tryz.prog WP [.agg [.od 0 [.i .i64] n1,.od 0 [.i .i64,.i .i64,.i .i64,.i .i64] n2],.int .i64 k] (kB k 5242880):=by
 refine L0z J0x rfl (W0x ?_)
 unfold Y00 LY
 simp
 refine Z1f [] (U0z n1 hn1 k (by omega) (by omega)) (by simp) (by simp) (by simp) ?_
 rintro q0 ⟨hq0,hr0⟩
 simp
 refine Z1f [] (Z18 n2 hn2 q0 (by omega) (by omega)) (by simp) (by simp) (by simp) ?_
 rintro q1 ⟨hq1,hr1⟩
 simp[kB,Y0U]
 omega
def ZT:L :=
 .seq (
 .reg [.bx 2 (.t 0),.mv 4 (.c (.int .i64 0))]) (
 .seq (
 .reg [.fa 5 (.t 2) 0,.ld 6 (.t 5) 2 true,.mv 7 (.t 1),.cf 8 WP 0 [(.t 6),(.t 7)],.mv 1 (.t 8)]) (
 .seq (
 .reg [.fa 9 (.t 2) 2,.ld 10 (.t 9) 1 false,.mv 11 (.t 1),.cf 12 UH 0 [(.t 10),(.t 11)],.mv 1 (.t 12)]) (
 .seq (
 .reg [.fa 13 (.t 2) 8,.ld 14 (.t 13) 1 false,.mv 15 (.t 1),.cf 16 MP 0 [(.t 14),(.t 15)],.mv 1 (.t 16)]) (
 .seq (
 .reg [.fa 17 (.t 2) 9,.ld 18 (.t 17) 1 false,.mv 19 (.t 1),.cf 20 OP 0 [(.t 18),(.t 19)],.mv 1 (.t 20)]) (
 .seq (
 .reg [.fa 21 (.t 2) 10,.ld 22 (.t 21) 1 false,.mv 23 (.t 1),.cf 24 LP 0 [(.t 22),(.t 23)],.mv 1 (.t 24)]) (
 .seq (
 .reg [.mv 25 (.t 1),.mv 4 (.t 25)]) (
 .ret)))))))
def XR:List Rv:=[.t 4]
theorem W0q:MA Tryz.prog Wp 2 ZT XR=true:=by kernel_rfl
set_option maxRecDepth 10000 in
theorem J17(n1 n2 n3 n4 n5 n6:Nat)(a b c d e:Int)(hn1:n1<=1048576)(hn2:n2<=1048576)(hn3:n3<=1048576)(hn4:n4<=1048576)(hn5:n5<=1048576)(hn6:n6<=1048576)(k:Int)(h0:0<=k)(h1:k<=562949953421312) :
  Hav Tryz.prog Wp [.agg [.od 0 [.i .i64] n1,.od 0 [.i .i64,.i .i64,.i .i64,.i .i64] n2,.od 0 [.b] n3,.int .i64 a,.int .i64 b,.int .i64 c,.int .i64 d,.int .i64 e,.od 0 [.i .i64,.i .i64,.i .i64,.i .i64,.i .i64,.i .i64,.i .i64,.i .i64,.i .i64,.i .i64,.i .i64] n4,.od 0 [.i .i64,.i .i64,.i .i64,.i .i64,.i .i64,.i .i64,.i .i64,.i .i64,.i .i64,.i .i64,.i .i64,.i .i64,.l [.i .i64]] n5,.od 0 [.i .i64,.i .i64,.i .i64] n6],.int .i64 k] (kB k 1099545182208):=by
 refine L0z W0q rfl (W0x ?_)
 unfold ZT XR
 simp
 refine Z1f [] (X1i n1 n2 hn1 hn2 k (by omega) (by omega)) (by simp) (by simp) (by simp) ?_
 rintro q0 ⟨hq0,hr0⟩
 simp
 refine Z1f [] (Y18 n3 hn3 q0 (by omega) (by omega)) (by simp) (by simp) (by simp) ?_
 rintro q1 ⟨hq1,hr1⟩
 simp
 refine Z1f [] (Q1i n4 hn4 q1 (by omega) (by omega)) (by simp) (by simp) (by simp) ?_
 rintro q2 ⟨hq2,hr2⟩
 simp
 refine Z1f [] (U1i n5 hn5 q2 (by omega) (by omega)) (by simp) (by simp) (by simp) ?_
 rintro q3 ⟨hq3,hr3⟩
 simp
 refine Z1f [] (W1i n6 hn6 q3 (by omega) (by omega)) (by simp) (by simp) (by simp) ?_
 rintro q4 ⟨hq4,hr4⟩
 simp[kB,Y0U]
 omega
@[simp] theorem ownt_IS (i:Nat)(l:List Int):L07 i (l.map eI)=l.map eI:=VL (fun _=>rfl) l
@[simp] theorem ownt_BS (i:Nat)(l:List Int):L07 i (l.map eB)=l.map eB:=VL (fun _=>rfl) l
@[simp] theorem Y27 (i:Nat)(l:List Bool):L07 i (l.map eBo)=l.map eBo:=VL (fun _=>rfl) l
@[simp] theorem Y1V (i:Nat)(l:List Node):L07 i (l.map Q1)=l.map Q1:=VL (fun x=>by simp) l
@[simp] theorem Q20 (i:Nat)(l:List Job):L07 i (l.map eJob)=l.map eJob:=VL (fun x=>by simp) l
@[simp] theorem W20 (i:Nat)(l:List End):L07 i (l.map eEnd)=l.map eEnd:=VL (fun x=>by simp) l
@[simp] theorem U20 (i:Nat)(g:Tag)(l:List Run):L07 i (l.map (J0 g))=l.map (J0 (.own i)):=by
 refine U1h i _ _ (fun x=>?_) l
 simp
def Jb(k:Int)(n:Nat):List Seen:=(List.range n).map fun i=>⟨k+3*(i:Nat)+0,k+3*(i:Nat)+1,k+3*(i:Nat)+2⟩
def YT:L :=
 .seq (
 .reg [.mv 4 (.c (.int .i64 0))]) (
 .seq (
 .seq (
 .reg [.mv 5 (.c (.int .i64 0))]) (
 .blk 0 (
  .loop (
   .seq (
   .seq (
   .reg [.mv 6 (.t 5),.mv 7 (.t 0),.ln 8 (.t 7),.bi 9 .lss (.t 6) (.t 8)]) (
   .cond (.t 9) (
    .skip) (
    .exit 0))) (
   .seq (
   .blk 1 (
    .seq (
    .reg [.mv 12 (.t 0),.mv 13 (.t 5),.mv 14 (.t 1),.ia 15 (.t 12) (.t 13) 3,.fa 16 (.t 15) 0,.st (.t 16) (.t 14) 1]) (
    .seq (
    .reg [.mv 17 (.t 1),.bi 18 .add (.t 17) (.c (.int .i64 1)),.mv 1 (.t 18)]) (
    .seq (
    .reg [.mv 19 (.t 0),.mv 20 (.t 5),.mv 21 (.t 1),.ia 22 (.t 19) (.t 20) 3,.fa 23 (.t 22) 1,.st (.t 23) (.t 21) 1]) (
    .seq (
    .reg [.mv 24 (.t 1),.bi 25 .add (.t 24) (.c (.int .i64 1)),.mv 1 (.t 25)]) (
    .seq (
    .reg [.mv 26 (.t 0),.mv 27 (.t 5),.mv 28 (.t 1),.ia 29 (.t 26) (.t 27) 3,.fa 30 (.t 29) 2,.st (.t 30) (.t 28) 1]) (
    .reg [.mv 31 (.t 1),.bi 32 .add (.t 31) (.c (.int .i64 1)),.mv 1 (.t 32)]))))))) (
   .reg [.mv 10 (.t 5),.bi 11 .add (.t 10) (.c (.int .i64 1)),.mv 5 (.t 11)])))))) (
 .seq (
 .reg [.mv 33 (.t 1),.mv 4 (.t 33)]) (
 .ret)))
def VR:List Rv:=[.t 4]
theorem O0q:MA Tryz.prog XH 2 YT VR=true:=by kernel_rfl
set_option maxRecDepth 10000 in
theorem V1i(l:List Seen)(k:Int)(h0:0<=k)(h1:k+3*l.length<=4611686018427387904) :
  Con Tryz.prog XH [.sref 0,.int .i64 k] [] [⟨3,l.map V9,false⟩] (ret1 (.int .i64 (k+3*l.length)) ((Jb k l.length).map V9)):=by
 refine Q1O [true] O0q rfl (by simp) fun _ _=>W0x ?_
 unfold YT VR
 simp
 refine U0i (fun m s=>∃i es,m=l.length-i/\i<=l.length/\s.e 0=.sref 1000000000/\s.e 1=.int .i64 (k+3*i)/\s.e 5=.int .i64 (i:Nat) /\
   s.rw 1000000000=some ⟨3,es,false⟩/\es=((Jb k l.length).map V9).take i++(l.map V9).drop i) l.length ?_ ?_
 .exact⟨0,l.map V9,by simp⟩
 .rintro m s ⟨i,es,rfl,hi,h0',h1',h5,hr,he⟩
  by_cases h:i<l.length
  .obtain⟨f1,f2,f3,f4⟩:=M1B _ _ (by simp[Jb]) i (by simpa using h) he
   simp at f1
   have w0:IntKind.i64.wrap (k+3*(i:Int)+1)=k+3*(i:Int)+1:=by rw[Ll (by omega) (by omega)]
   have w1:IntKind.i64.wrap (k+3*(i:Int)+1+1)=k+3*(i:Int)+2:=by rw[Ll (by omega) (by omega)];omega
   have w2:IntKind.i64.wrap (k+3*(i:Int)+2+1)=k+3*(i:Int)+3:=by rw[Ll (by omega) (by omega)];omega
   simp[h0',h1',h5,hr,h,f1,f2]
   intro _
   refine⟨l.length-(i+1),by omega,i+1,by simp,by omega,by simp[w0,w1,w2];omega,by simp;rw[Ll (by omega) (by omega)],?_⟩
   simpa[Jb,w0,w1,w2]using f4
  .have:i=l.length:=by omega
   subst this
   have hes:es=(Jb k l.length).map V9:=by rw[he,List.take_of_length_le (by simp[Jb]),List.drop_of_length_le (by simp),List.append_nil]
   have hel:es.length=l.length:=by rw[hes];simp[Jb]
   simp[h0',h1',h5,hr,hel]
   intro _
   refine J1z [] [some es] [] [] ?_
   simp[hr,hes,ret1]
def UT:L :=
 .seq (
 .reg [.mv 4 (.c (.int .i64 0))]) (
 .seq (
 .seq (
 .reg [.mv 5 (.c (.int .i64 0))]) (
 .blk 0 (
  .loop (
   .seq (
   .seq (
   .reg [.mv 6 (.t 5),.mv 7 (.t 0),.ln 8 (.t 7),.bi 9 .lss (.t 6) (.t 8)]) (
   .cond (.t 9) (
    .skip) (
    .exit 0))) (
   .seq (
   .blk 1 (
    .seq (
    .seq (
    .reg [.mv 12 (.t 0),.mv 13 (.t 5),.ia 14 (.t 12) (.t 13) 3,.fa 15 (.t 14) 0,.ld 16 (.t 15) 1 false,.mv 17 (.t 1),.bi 18 .neq (.t 16) (.t 17)]) (
    .cond (.t 18) (
     .seq (
     .reg [.mv 4 (.c (.int .i64 (-1)))]) (
     .ret)) (
     .skip))) (
    .seq (
    .reg [.mv 19 (.t 1),.bi 20 .add (.t 19) (.c (.int .i64 1)),.mv 1 (.t 20)]) (
    .seq (
    .seq (
    .reg [.mv 21 (.t 0),.mv 22 (.t 5),.ia 23 (.t 21) (.t 22) 3,.fa 24 (.t 23) 1,.ld 25 (.t 24) 1 false,.mv 26 (.t 1),.bi 27 .neq (.t 25) (.t 26)]) (
    .cond (.t 27) (
     .seq (
     .reg [.mv 4 (.c (.int .i64 (-1)))]) (
     .ret)) (
     .skip))) (
    .seq (
    .reg [.mv 28 (.t 1),.bi 29 .add (.t 28) (.c (.int .i64 1)),.mv 1 (.t 29)]) (
    .seq (
    .seq (
    .reg [.mv 30 (.t 0),.mv 31 (.t 5),.ia 32 (.t 30) (.t 31) 3,.fa 33 (.t 32) 2,.ld 34 (.t 33) 1 false,.mv 35 (.t 1),.bi 36 .neq (.t 34) (.t 35)]) (
    .cond (.t 36) (
     .seq (
     .reg [.mv 4 (.c (.int .i64 (-1)))]) (
     .ret)) (
     .skip))) (
    .reg [.mv 37 (.t 1),.bi 38 .add (.t 37) (.c (.int .i64 1)),.mv 1 (.t 38)]))))))) (
   .reg [.mv 10 (.t 5),.bi 11 .add (.t 10) (.c (.int .i64 1)),.mv 5 (.t 11)])))))) (
 .seq (
 .reg [.mv 39 (.t 1),.mv 4 (.t 39)]) (
 .ret)))
def WR:List Rv:=[.t 4]
theorem J0q:MA Tryz.prog Mp 2 UT WR=true:=by kernel_rfl
set_option maxRecDepth 10000 in
theorem M0z(n:Nat)(k:Int)(h0:0<=k)(h1:k+3*n<=4611686018427387904) :
  Snd Tryz.prog Mp [.sl .rd 3 ((Jb k n).map V9),.int .i64 k] (.int .i64 (k+3*n)) []:=by
 refine L1y J0q rfl (by simp) (W0x ?_)
 unfold UT WR
 have hlen:(Jb k n).length=n:=by simp[Jb]
 have hget:∀i (h:i<(Jb k n).length),(Jb k n)[i]=⟨k+3*(i:Nat)+0,k+3*(i:Nat)+1,k+3*(i:Nat)+2⟩:=by intro i h;simp[Jb]
 generalize Jb k n=l at hlen hget
 simp
 refine U0i (fun m s=>∃i,m=n-i/\i<=n/\s.e 0=.sl .rd 3 (l.map V9)/\s.e 1=.int .i64 (k+3*i)/\s.e 5=.int .i64 (i:Nat)) n ?_ ?_
 .exact⟨0,by simp⟩
 .rintro m s ⟨i,rfl,hi,h0',h1',h5⟩
  by_cases h:i<n
  .have hi':i<l.length:=by omega
   have w0:IntKind.i64.wrap (k+3*(i:Int)+1)=k+3*(i:Int)+1:=by rw[Ll (by omega) (by omega)]
   have w1:IntKind.i64.wrap (k+3*(i:Int)+1+1)=k+3*(i:Int)+2:=by rw[Ll (by omega) (by omega)];omega
   have w2:IntKind.i64.wrap (k+3*(i:Int)+2+1)=k+3*(i:Int)+3:=by rw[Ll (by omega) (by omega)];omega
   simp[h0',h1',h5,h,hlen,hget,w0,w1,w2]
   intro _
   exact⟨n-(i+1),by omega,i+1,rfl,by omega,by omega,by rw[Ll (by omega) (by omega)];omega⟩
  .have:i=n:=by omega
   subst this
   simp[h0',h1',h5,hlen]
@[simp] theorem beq_10:Nat.beq 1 0=false:=rfl
@[simp] theorem beq_01:Nat.beq 0 1=false:=rfl
theorem M0l{s:State}(hS:SizedS s):Snd Tryz.prog Mg [Y2 .rd s] (Y2 .nw s) []:=U0K (Q0K hS)
theorem Z1F{s:State}(hS:SizedS s):Snd Tryz.prog LX [Y2 .rd s,Y2 .rd s] (.bool true) []:=O0L (Y0v hS)
def O1C(s:State):AV:=.agg [.od 0 [.i .i64] s.topo.parents.length,.od 0 [.i .i64,.i .i64,.i .i64,.i .i64] s.topo.nodes.length,.od 0 [.b] s.up.length,.int .i64 s.lic.a,.int .i64 s.lic.b,.int .i64 s.lic.c,.int .i64 s.depth,.int .i64 s.now,
 .od 0 [.i .i64,.i .i64,.i .i64,.i .i64,.i .i64,.i .i64,.i .i64,.i .i64,.i .i64,.i .i64,.i .i64] s.queue.length,.od 0 [.i .i64,.i .i64,.i .i64,.i .i64,.i .i64,.i .i64,.i .i64,.i .i64,.i .i64,.i .i64,.i .i64,.i .i64,.l [.i .i64]] s.runs.length,.od 0 [.i .i64,.i .i64,.i .i64] s.ends.length]
theorem W1n{s:State}(hS:SizedS s)(k:Int)(h0:0<=k)(h1:k<=562949953421312):Hav Tryz.prog Wp [O1C s,.int .i64 k] (kB k 1099545182208) :=
 have:=hS.jobs
 J17 s.topo.parents.length s.topo.nodes.length s.up.length s.queue.length s.runs.length s.ends.length s.lic.a s.lic.b s.lic.c s.depth s.now hS.parents hS.nodes hS.up (by omega) (by omega) hS.ends k h0 h1
theorem J1S{s:State}(hS:SizedS s)(i:Nat)(k:Int):hvLs i [Y2 (.own i) s,.int .i64 k] [O1C s,.int .i64 k]:=by
  have:=hS.jobs
  simp[O1C]
  exact⟨⟨_,_,_,⟨rfl,rfl,rfl⟩,by simp,.inr hS.parents⟩,⟨_,_,_,⟨rfl,rfl,rfl⟩,by simp,.inr hS.nodes⟩,⟨_,_,_,⟨rfl,rfl,rfl⟩,by simp,.inr hS.up⟩,⟨_,_,_,⟨rfl,rfl,rfl⟩,by simp,.inr (by omega)⟩,
    ⟨_,_,_,⟨rfl,rfl,rfl⟩,by simp,.inr ⟨by omega,fun x hx=>.inr (hS.run x hx)⟩⟩,⟨_,_,_,⟨rfl,rfl,rfl⟩,by simp,.inr hS.ends⟩⟩
theorem J1G{a:AV}(h:O14.okV a):∃s,AE a (Y2 .rd s)/\Y0q s:=Vc.okV_st Y1S h
def MH:L :=
 .seq (
 .reg [.bx 1 (.t 0),.mv 2 (.c (.bool false))]) (
 .seq (
 .reg [.mv 3 (.c (.int .i64 1048576))]) (
 .seq (
 .reg [.ld 14 (.t 1) 11 true,.mv 15 (.t 3),.cq 16 J0i [(.t 14),(.t 15)],.mv 3 (.t 16)]) (
 .seq (
 .seq (
 .reg [.mv 17 (.t 3),.bi 18 .lss (.t 17) (.c (.int .i64 0))]) (
 .cond (.t 18) (
  .seq (
  .reg [.mv 2 (.c (.bool true))]) (
  .ret)) (
  .skip))) (
 .seq (
 .reg [.ld 20 (.t 1) 11 true,.cq 21 Mg [(.t 20)],.cq 22 M0A [(.t 21)],.mv 19 (.t 22),.ex 23 (.t 19) 0,.ex 24 (.t 19) 1,.mv 4 (.t 23),.mv 5 (.t 24)]) (
 .seq (
 .reg [.ld 25 (.t 1) 11 true,.co 26 Mg [(.t 25)],.al 6 [.nl,.nl,.nl,.int .i64 0,.int .i64 0,.int .i64 0,.int .i64 0,.int .i64 0,.nl,.nl,.nl],.st (.t 6) (.t 26) 11]) (
 .seq (
 .reg [.ld 28 (.t 6) 11 true,.cl 29 X0e [(.t 28)],.mv 27 (.t 29),.ex 30 (.t 27) 0,.ex 31 (.t 27) 1,.mv 7 (.t 30),.mv 8 (.t 31)]) (
 .seq (
 .seq (
 .reg [.mv 32 (.t 7),.mv 33 (.t 4),.cq 34 YD [(.t 32),(.t 33)],.un 35 (.t 34),.mv 36 (.t 35),.g 36 false (.mv 37 (.t 8)),.g 36 false (.mv 38 (.t 5)),.g 36 false (.eb 39 true (.t 37) (.t 38)),.pk 40 (.t 36) (.c (.bool true)) (.t 39)]) (
 .cond (.t 40) (
  .seq (
  .reg [.mv 2 (.c (.bool false))]) (
  .ret)) (
  .skip))) (
 .seq (
 .seq (
 .rq 5 [.ld 41 (.t 6) 11 true,.ld 42 (.t 1) 11 true,.cq 43 Mg [(.t 42)],.cq 44 LX [(.t 41),(.t 43)],.un 45 (.t 44)]) (
 .cond (.t 45) (
  .seq (
  .reg [.mv 2 (.c (.bool false))]) (
  .ret)) (
  .skip))) (
 .seq (
 .reg [.mv 9 (.c (.int .i64 1))]) (
 .seq (
 .reg [.ld 46 (.t 6) 11 true,.mv 47 (.t 9),.cf 48 Wp 0 [(.t 46),(.t 47)],.mv 9 (.t 48)]) (
 .seq (
 .seq (
 .reg [.mv 49 (.t 9),.bi 50 .lss (.t 49) (.c (.int .i64 0)),.mv 51 (.t 50),.g 51 false (.mv 52 (.t 7)),.g 51 false (.mv 53 (.t 4)),.g 51 false (.cq 54 YD [(.t 52),(.t 53)]),.g 51 false (.un 55 (.t 54)),.pk 56 (.t 51) (.c (.bool true)) (.t 55),.mv 57 (.t 56),.g 57 false (.mv 58 (.t 8)),.g 57 false (.mv 59 (.t 5)),.g 57 false (.eb 60 true (.t 58) (.t 59)),.pk 61 (.t 57) (.c (.bool true)) (.t 60)]) (
 .cond (.t 61) (
  .seq (
  .reg [.mv 2 (.c (.bool false))]) (
  .ret)) (
  .skip))) (
 .seq (
 .reg [.mv 10 (.c (.int .i64 1))]) (
 .seq (
 .reg [.mv 62 (.t 7),.mv 63 (.t 10),.cm 64 XH [(.t 62),(.t 63)],.mv 10 (.t 64)]) (
 .seq (
 .reg [.mv 11 (.c (.int .i64 1))]) (
 .seq (
 .reg [.mv 65 (.t 7),.mv 66 (.t 11),.cq 67 Mp [(.t 65),(.t 66)],.mv 11 (.t 67)]) (
 .seq (
 .seq (
 .reg [.mv 68 (.t 11),.bi 69 .lss (.t 68) (.c (.int .i64 0))]) (
 .cond (.t 69) (
  .seq (
  .reg [.mv 2 (.c (.bool false))]) (
  .ret)) (
  .skip))) (
 .seq (
 .seq (
 .reg [.mv 70 (.t 11),.mv 71 (.t 10),.bi 72 .neq (.t 70) (.t 71)]) (
 .cond (.t 72) (
  .seq (
  .reg [.mv 2 (.c (.bool false))]) (
  .ret)) (
  .skip))) (
 .seq (
 .reg [.ld 74 (.t 1) 11 true,.cq 75 Mg [(.t 74)],.cq 76 X0e [(.t 75)],.mv 73 (.t 76),.ex 77 (.t 73) 0,.ex 78 (.t 73) 1,.mv 12 (.t 77),.mv 13 (.t 78)]) (
 .seq (
 .seq (
 .reg [.mv 79 (.t 12),.mv 80 (.t 4),.cq 81 YD [(.t 79),(.t 80)],.un 82 (.t 81),.mv 83 (.t 82),.g 83 false (.mv 84 (.t 13)),.g 83 false (.mv 85 (.t 5)),.g 83 false (.eb 86 true (.t 84) (.t 85)),.pk 87 (.t 83) (.c (.bool true)) (.t 86)]) (
 .cond (.t 87) (
  .seq (
  .reg [.mv 2 (.c (.bool false))]) (
  .ret)) (
  .skip))) (
 .seq (
 .reg [.mv 11 (.c (.int .i64 1))]) (
 .seq (
 .reg [.mv 88 (.t 7),.mv 89 (.t 11),.cq 90 Mp [(.t 88),(.t 89)],.mv 11 (.t 90)]) (
 .seq (
 .seq (
 .reg [.mv 91 (.t 11),.bi 92 .lss (.t 91) (.c (.int .i64 0))]) (
 .cond (.t 92) (
  .seq (
  .reg [.mv 2 (.c (.bool false))]) (
  .ret)) (
  .skip))) (
 .seq (
 .seq (
 .reg [.mv 93 (.t 11),.mv 94 (.t 10),.bi 95 .neq (.t 93) (.t 94)]) (
 .cond (.t 95) (
  .seq (
  .reg [.mv 2 (.c (.bool false))]) (
  .ret)) (
  .skip))) (
 .seq (
 .reg [.mv 2 (.c (.bool true))]) (
 .ret)))))))))))))))))))))))))
def OH:List Rv:=[.t 2]
theorem W0g:MA Tryz.prog Of 1 MH OH=true:=by kernel_rfl
set_option maxRecDepth 10000 in
set_option maxHeartbeats 1000000 in
theorem M11{s:State}(hf:Y0q s):Snd Tryz.prog Of [Y2 .rd s] (.bool true) []:=by
 obtain⟨r,h1,h2⟩:=X0L hf
 refine L1y W0g rfl (by simp) (W0x ?_)
 unfold MH OH
 simp
 refine W0G (Y0L h1) (by simp[St.args]) ?_
 simp
 intro hr
 have hS:SizedS s:=h2.resolve_left (by omega)
 obtain⟨⟨ns,b⟩,q2,q1,q4⟩:=V1L hS.jobs
 simp only at q4
 refine W0G (M0l hS) (by simp[St.args]) ?_
 simp
 refine W0G (L15 q2) (by simp[St.args]) ?_
 simp
 refine do_co 0 (M0l hS) (by simp[St.args]) (by simp) (by simp) ?_
 simp
 refine do_cl (M0p q1) (by simp[St.args]) (by simp) ?_
 simp
 refine W0G (JN (Oy (l:=ns) q4)) (by simp[St.args]) ?_
 simp
 refine W0G (M0l hS) (by simp[St.args]) ?_
 simp
 refine W0G (Z1F hS) (by simp[St.args]) ?_
 simp
 refine Z1f [30000] (W1n hS 1 (by omega) (by omega)) (by simpa using J1S hS 0 1) (by simp) (by simp) ?_
 rintro k ⟨hk0,hk1⟩
 have hkn:¬ k<0:=by omega
 simp[hkn]
 refine W0G (JN (Oy (l:=ns) q4)) (by simp[St.args]) ?_
 simp
 refine X24 [] [30000] (V1i ns 1 (by omega) (by omega)) rfl (by simp) (by simp) (by simp) ?_
 rintro _ _ _ _ _ _ _ ⟨rfl,rfl,rfl,rfl⟩
 have hk2:¬ (1+3*(ns.length:Int)<0):=by omega
 simp
 refine W0G (M0z ns.length 1 (by omega) (by omega)) (by simp[St.args]) ?_
 simp[hk2]
 refine W0G (M0l hS) (by simp[St.args]) ?_
 simp
 refine W0G (M0p q1) (by simp[St.args]) ?_
 simp
 refine W0G (JN (Oy (l:=ns) q4)) (by simp[St.args]) ?_
 simp
 refine W0G (M0z ns.length 1 (by omega) (by omega)) (by simp[St.args]) ?_
 simp[hk2]
theorem W0S(xs:List AV)(h:okVs [O14] xs):Snd Tryz.prog Of xs (.bool true) []:=by
 obtain⟨a,_,rfl,ha,rfl⟩:=h
 obtain⟨s,ha,hf⟩:=J1G ha
 exact(M11 hf).wkS (.cons ha .nil)
end Go.Proofs.YtodafdoninblmaaGreat
