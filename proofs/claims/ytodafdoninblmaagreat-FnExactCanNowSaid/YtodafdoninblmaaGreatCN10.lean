/-
  Lemmas, part 10: the engine that steps through the code, the walks of functions, and the laws of what they compute.
-/
import Derived.Test.YtodafdoninblmaaGreatCN9
namespace Go.Proofs.YtodafdoninblmaaGreat
open Go Go.RowKit Eng
def ZXc:L :=
.seq (rE 2 (cB false))
 (.seq (sR [mV 6 0,.ln 7 (.t 6),.bi 8 .gtr (.t 7) (kI 60)]
 (.cond (.t 8) (.seq (rE 2 (cB false))
 gR)
 .skip))
 (.seq (sR [mV 9 0,.ln 10 (.t 9),.mv 11 (kI 0)]
 (.blk 0 (.loop (.gw (sR [bI 12 .lss 11 10]
 (.seq (.cond (.t 12) .skip
 (.exit 0))
 (.seq (.blk 1 (sR [mV 13 11,iA 14 9 11 11,lD 15 14 11 true,.al 4 [.int .i64 0,.int .i64 0,.int .i64 0,.int .i64 0,.int .i64 0,.int .i64 0,.int .i64 0,.int .i64 0,.int .i64 0,.int .i64 0,.int .i64 0],mV 3 13,.st (.t 4) (.t 15) 11]
 (.seq (sR [lD 16 4 11 true,cQ 17 ZP3 [16],.un 18 (.t 17)]
 (.cond (.t 18) (.seq (rE 2 (cB false))
 gR)
 .skip))
 (.seq (rE 5 (kI 0))
 (.blk 2 (.loop (.gw (.seq (sR [mV 19 5,mV 20 3,bI 21 .lss 19 20]
 (.cond (.t 21) .skip
 (.exit 2)))
 (.seq (.blk 3 (.seq (.rq 8 [mV 24 0,mV 25 5,iA 26 24 25 11,fA 27 26 0,lD 28 27 1 false,fA 29 4 0,lD 30 29 1 false,bI 31 .eql 28 30])
 (.cond (.t 31) (.seq (rE 2 (cB false))
 gR)
 .skip)))
 (.reg [mV 22 5,.bi 23 .add (.t 22) (kI 1),mV 5 23]))))))))))
 (.reg [.bi 32 .add (.t 11) (kI 1),mV 11 32]))))))))
 (.seq (rE 2 (cB true))
 gR)))
def ZC1 (l1:List Job) (i4:Nat) (x4:Job) (k4:Unit -> Option Bool) (v5:Int) (k5:Int -> Option Bool):Option Bool :=
 bif (decide (v5 < (i4:Int))) then ((idx l1 v5).bind fun e6=>bif (e6.id == x4.id) then (some false) else (k5 (w64 (v5 + 1)))) else (k4 ())
def ZZ3 (l1:List Job) (x4:Job) (i4:Nat) (_:Unit) (k4:Unit -> Option Bool):Option Bool :=
 bif (!(spec_JobOk x4)) then (some false) else (whl (ZC1 l1 i4 x4 k4) 9223372036854775807 0)
def ZY3 (_:Unit):Option Bool :=
 some true
def spec_QueueOk (l1:List Job):Option Bool :=
 bif (decide (60 < (l1.length:Int))) then (some false) else (rgl (ZZ3 l1) ZY3 l1 0 ())
theorem Zcc {l1:List Job} {r:Bool} (H:spec_QueueOk l1 = some r):Snd Tryz.prog ZJ8 [.sl .rd 11 (l1.map eJob)] (.bool r) []:=by
 refine wS ZXc [.t 2] ?_
 unfold spec_QueueOk at H
 refine wG [.u 7 (.ln _ _ fun _=>lm l1 eJob)] fun q2=>?_
 refine Wh_iH H (fun H=>?_) fun H=>?_
 .refine wP ?_
  replace H:=sI H; subst H
  exact wE [(2,.d)]
 .refine wG [.u 10 (.ln _ _ fun _=>lm l1 eJob)] fun q3=>?_
  refine wR (fun (i4:Nat) (v4:Unit)=>⟨[(0,.sl .rd 11 (l1.map eJob)),(9,.sl .rd 11 (l1.map eJob)),(10,.int .i64 (l1.length:Int)),(11,.int .i64 (i4:Int))],[],[],[]⟩) H (fun i4 x4 v4 I m k4 hxv4 hiv4 H N48=>?_) (fun v4 I m H=>?_)
  .unfold ZZ3 at H
   refine wP ?_
   refine wt (ltT hiv4) ?_
   refine wG [.u 14 (.ix _ _ _ fun _=>Z0 eJob (Z2 hxv4)),.c 17 (Zo6 x4)] fun _=>?_
   refine Wh_iH H (fun H=>?_) fun H=>?_
   .refine wP ?_
    replace H:=sI H; subst H
    exact wE [(2,.d)]
   .refine wP ?_
    refine wW (fun (v5:Int)=>⟨[(0,.sl .rd 11 (l1.map eJob)),(3,.int .i64 (i4:Int)),(4,.ptr 4 0),(5,.int .i64 v5),(9,.sl .rd 11 (l1.map eJob)),(10,.int .i64 (l1.length:Int)),(11,.int .i64 (i4:Int))],[],[(4,(eJob x4).cells)],[]⟩) H (fun v5 I m k5 H N38=>?_)
    unfold ZC1 at H
    refine wP ?_
    refine Wh_iH H (fun H=>?_) fun H=>?_
    .obtain ⟨e6,h6,H⟩:=bB H
     refine wG [.u 26 (.ix _ _ _ fun _=>Z0 eJob h6)] fun _=>?_
     refine Wh_iH H (fun H=>?_) fun H=>?_
     .refine wP ?_
      replace H:=sI H; subst H
      exact wE [(2,.d)]
     .refine wP ?_
      exact wT (N38 _ H)
    .refine wG [.w 32 (wi .i64 rfl hiv4 q2.1)] fun _=>?_
     exact wT (N48 () H)
  .unfold ZY3 at H
   refine wP ?_
   refine wf (ltF l1.length) ?_
   refine wP ?_
   replace H:=sI H; subst H
   exact wE [(2,.d)]
def Zqa:L :=
sR [.bx 2 (.t 0),.mv 3 (cB false)]
 (sR [fA 4 2 0,lD 5 4 1 false,fA 6 1 0,lD 7 6 1 false,bI 8 .eql 5 7,mV 3 8]
 gR)
def Zv2 (k1:Job) (x2:Job):Option Bool :=
 some (k1.id == x2.id)
theorem Z39 {k1:Job} {x2:Job} {r:Bool} (H:Zv2 k1 x2 = some r):Snd Tryz.prog Zb1 [eJob k1,.ept (eJob x2) 0] (.bool r) []:=by
 refine wS Zqa [.t 3] ?_
 unfold Zv2 at H
 refine wP ?_
 replace H:=sI H; subst H
 exact wE [(3,.d)]
def impl_QueueOk_1 (k1:Job) (x2:Job):Bool :=
 (k1.id == x2.id)
theorem ZLb (k1:Job) (x2:Job):Zv2 k1 x2 = some (impl_QueueOk_1 k1 x2):=by
 unfold Zv2 impl_QueueOk_1
 first | rfl | simp only [Zd]
theorem Zva (k1:Job) (x2:Job):Snd Tryz.prog Zb1 [eJob k1,.ept (eJob x2) 0] (.bool (impl_QueueOk_1 k1 x2)) []:=Z39 (ZLb k1 x2)
def Z21:L :=
.seq (rE 4 (kI 0))
 (.seq (sR [mV 6 0,.ln 7 (.t 6),.mv 8 (kI 0)]
 (.blk 0 (.loop (.gw (sR [bI 9 .lss 8 7]
 (.seq (.cond (.t 9) .skip
 (.exit 0))
 (.seq (.blk 1 (sR [mV 10 8,mV 5 10]
 (sR [mV 11 1,mV 12 0,mV 13 5,iA 14 12 13 11,lD 15 14 11 true,.cc 16 (.t 11) [(.t 15)]]
 (.cond (.t 16) (sR [mV 17 5,mV 4 17]
 gR)
 .skip))))
 (.reg [.bi 18 .add (.t 8) (kI 1),mV 8 18]))))))))
 (.seq (rE 4 (kI (-1)))
 gR))
def Z3 (c2:Job) (x4:Job) (i4:Nat) (_:Unit) (k4:Unit -> Option Int):Option Int :=
 bif (impl_QueueOk_1 x4 c2) then (some (i4:Int)) else (k4 ())
def Zb (_:Unit):Option Int :=
 some (-1)
def Z5 (s1:List Job) (c2:Job):Option Int :=
 rgl (Z3 c2) Zb s1 0 ()
theorem Z11 {s1:List Job} {c2:Job} {r:Int} (H:Z5 s1 c2 = some r):Snd Tryz.prog Z01 [.sl .rd 11 (s1.map eJob),.fn Zb1 [.ept (eJob c2) 0]] (.int .i64 r) []:=by
 refine wS Z21 [.t 4] ?_
 unfold Z5 at H
 refine wG [.u 7 (.ln _ _ fun _=>lm s1 eJob)] fun q3=>?_
 refine wR (fun (i4:Nat) (v4:Unit)=>⟨[(0,.sl .rd 11 (s1.map eJob)),(1,.fn Zb1 [.ept (eJob c2) 0]),(7,.int .i64 (s1.length:Int)),(8,.int .i64 (i4:Int))],[],[],[]⟩) H (fun i4 x4 v4 I m k4 hxv4 hiv4 H N20=>?_) (fun v4 I m H=>?_)
 .unfold Z3 at H
  refine wP ?_
  refine wt (ltT hiv4) ?_
  refine wG [.u 14 (.ix _ _ _ fun _=>Z0 eJob (Z2 hxv4)),.u 16 (.clsr _ _ _ _ _ (AEs.refl _) (by kernel_rfl) (fun _=>Zva x4 c2))] fun _=>?_
  refine Wh_iH H (fun H=>?_) fun H=>?_
  .refine wP ?_
   replace H:=sI H; subst H
   exact wE [(4,.d)]
  .refine wG [.w 18 (wi .i64 rfl hiv4 q3.1)] fun _=>?_
   exact wT (N20 () H)
 .unfold Zb at H
  refine wP ?_
  refine wf (ltF s1.length) ?_
  refine wP ?_
  replace H:=sI H; subst H
  exact wE [(4,.d)]
def ZU:L :=
.seq (rE 4 (cB false))
 (sR [mV 5 0,mV 6 1,cQ 7 Z01 [5,6],.bi 8 .geq (.t 7) (kI 0),mV 4 8]
 gR)
def Z1 (s1:List Job) (c2:Job):Option Bool :=
 (Z5 s1 c2).bind fun n3=>some (decide (0 <= n3))
theorem ZR {s1:List Job} {c2:Job} {r:Bool} (H:Z1 s1 c2 = some r):Snd Tryz.prog ZM [.sl .rd 11 (s1.map eJob),.fn Zb1 [.ept (eJob c2) 0]] (.bool r) []:=by
 refine wS ZU [.t 4] ?_
 unfold Z1 at H
 obtain ⟨n3,h3,H⟩:=bB H
 refine wG [.c 7 (Z11 h3)] fun _=>?_
 replace H:=sI H; subst H
 exact wE [(4,.d)]
def Zbd:L :=
.seq (rE 2 (cB false))
 (.seq (sR [mV 5 0,.ln 6 (.t 5),.mv 7 (kI 0)]
 (.blk 0 (.loop (.gw (sR [bI 8 .lss 7 6]
 (.seq (.cond (.t 8) .skip
 (.exit 0))
 (.seq (.blk 1 (sR [mV 9 7,iA 10 5 7 11,lD 11 10 11 true,.al 4 [.int .i64 0,.int .i64 0,.int .i64 0,.int .i64 0,.int .i64 0,.int .i64 0,.int .i64 0,.int .i64 0,.int .i64 0,.int .i64 0,.int .i64 0],mV 3 9,.st (.t 4) (.t 11) 11]
 (sR [.fb 4,lD 12 4 11 true,cQ 13 ZD2 [12],.un 14 (.t 13),mV 15 14,.g 15 false (mV 16 0),.g 15 false (mV 17 3),.g 15 false (.sc 18 (.t 16) none (some (.t 17)) 11),.g 15 false (.mf 19 Zb1 [(.t 4)]),.g 15 false (cQ 20 ZM [18,19]),.pk 21 (.t 15) (cB true) (.t 20)]
 (.cond (.t 21) (.seq (rE 2 (cB false))
 gR)
 .skip))))
 (.reg [.bi 22 .add (.t 7) (kI 1),mV 7 22]))))))))
 (sR [mV 23 0,.ln 24 (.t 23),.bi 25 .leq (.t 24) (kI 60),mV 2 25]
 gR))
def Z84 (l1:List Job) (x3:Job) (i3:Nat) (_:Unit) (k3:Unit -> Option Bool):Option Bool :=
 (bif (!(impl_JobOk x3)) then some default else (cutL l1 none (some (i3:Int)))).bind fun xs4=>(bif (!(impl_JobOk x3)) then some default else (Z1 xs4 x3)).bind fun b5=>bif ((!(impl_JobOk x3)) || b5) then (some false) else (k3 ())
def Z74 (l1:List Job) (_:Unit):Option Bool :=
 some (decide ((l1.length:Int) <= 60))
def impl_QueueOk (l1:List Job):Option Bool :=
 rgl (Z84 l1) (Z74 l1) l1 0 ()
theorem Zhd {l1:List Job} {r:Bool} (H:impl_QueueOk l1 = some r):Snd Tryz.prog ZR8 [.sl .rd 11 (l1.map eJob)] (.bool r) []:=by
 refine wS Zbd [.t 2] ?_
 unfold impl_QueueOk at H
 refine wG [.u 6 (.ln _ _ fun _=>lm l1 eJob)] fun q2=>?_
 refine wR (fun (i3:Nat) (v3:Unit)=>⟨[(0,.sl .rd 11 (l1.map eJob)),(5,.sl .rd 11 (l1.map eJob)),(6,.int .i64 (l1.length:Int)),(7,.int .i64 (i3:Int))],[],[],[]⟩) H (fun i3 x3 v3 I m k3 hxv3 hiv3 H N20=>?_) (fun v3 I m H=>?_)
 .unfold Z84 at H
  refine wP ?_
  refine wt (ltT hiv3) ?_
  obtain ⟨xs4,h4,H⟩:=bB H
  obtain ⟨b5,h5,H⟩:=bB H
  refine wG [.u 10 (.ix _ _ _ fun _=>Z0 eJob (Z2 hxv3)),.c 13 (Zx4 x3),.g 18 [(_,false)] (.sc _ _ _ _ fun q=>ZYg eJob (bF q.1 h4)),.g 20 [(_,false)] (.call _ _ _ _ _ (AEs.refl _) (fun q=>ZR (bF q.1 h5)))] fun _=>?_
  refine Wh_iH H (fun H=>?_) fun H=>?_
  .refine wP ?_
   replace H:=sI H; subst H
   exact wE [(2,.d)]
  .refine wG [.w 22 (wi .i64 rfl hiv3 q2.1)] fun _=>?_
   exact wT (N20 () H)
 .unfold Z74 at H
  refine wP ?_
  refine wf (ltF l1.length) ?_
  refine wG [.u 24 (.ln _ _ fun _=>lm l1 eJob)] fun q6=>?_
  replace H:=sI H; subst H
  exact wE [(2,.d)]
def Zlb:L :=
sR [.bx 1 (.t 0),.al 2 [.nl,.nl,.nl,.nl,.nl],.mv 3 (cB false)]
 (sR [fA 9 1 0,lD 10 9 2 true,fA 11 1 2,lD 12 11 1 false,.bd 13 [.nl,.nl,.nl,.nl,.nl] [(0,2,(.t 10)),(2,1,(.t 12))],.al 4 [.nl,.nl,.nl,.nl,.nl],.st (.t 4) (.t 13) 5]
 (.seq (sR [fA 14 1 0,lD 15 14 2 true,cQ 16 ZA4 [15],.un 17 (.t 16),mV 18 17,.g 18 false (fA 19 1 2),.g 18 false (lD 20 19 1 false),.g 18 false (.ln 21 (.t 20)),.g 18 false (fA 22 1 0),.g 18 false (fA 23 22 1),.g 18 false (lD 24 23 1 false),.g 18 false (.ln 25 (.t 24)),.g 18 false (bI 26 .neq 21 25),.pk 27 (.t 18) (cB true) (.t 26),mV 28 27,.g 28 false (fA 29 1 3),.g 28 false (lD 30 29 3 true),.g 28 false (cQ 31 Zn [30]),.g 28 false (.un 32 (.t 31)),.pk 33 (.t 28) (cB true) (.t 32)]
 (.cond (.t 33) (sR [.bd 34 [.nl,.nl,.nl,.nl,.nl] [],.st (.t 2) (.t 34) 5,.mv 3 (cB false)]
 gR)
 .skip))
 (.seq (sR [fA 35 1 0,fA 36 35 1,lD 37 36 1 false,.ln 38 (.t 37),.mv 39 (kI 0)]
 (.blk 0 (.loop (.gw (sR [bI 40 .lss 39 38]
 (.seq (.cond (.t 40) .skip
 (.exit 0))
 (.seq (.blk 1 (sR [iA 41 37 39 4,lD 42 41 4 true,.al 6 [.int .i64 0,.int .i64 0,.int .i64 0,.int .i64 0],.st (.t 6) (.t 42) 4]
 (sR [fA 44 6 1,lD 45 44 3 true,cQ 46 ZF3 [45],mV 43 46,eX 47 43 0,eX 48 43 1,.al 7 [.nl],.st (.t 7) (.t 47) 1,mV 8 48]
 (.reg [fA 49 4 3,lD 50 49 1 false,lD 51 7 1 true,.bs 52 1 [(.t 51)] false,.ap 53 (.t 50) (.t 52) 1 24,fA 54 4 3,.st (.t 54) (.t 53) 1]))))
 (.reg [.bi 55 .add (.t 39) (kI 1),mV 39 55]))))))))
 (sR [fA 57 1 3,lD 58 57 3 true,cQ 59 ZF3 [58],mV 56 59,eX 60 56 0,eX 61 56 1,fA 62 4 4,.st (.t 62) (.t 60) 1]
 (sR [lD 63 4 5 true,.cl 64 Z56 [(.t 63)],.st (.t 2) (.t 64) 5,.mv 3 (cB true)]
 gR)))))
def Zb3 (x4:Node) (_:Nat) (v4:(List (List Pt))) (k4:(List (List Pt)) -> Option (Room × Bool)):Option (Room × Bool) :=
 (appL 24 v4 [(spec_ProfNew x4.cap).1]).bind fun xs5=>k4 xs5
def Za3 (s1:State) (v4:(List (List Pt))):Option (Room × Bool) :=
 (spec_l04Copy (Room.mk s1.topo s1.up v4 ((spec_ProfNew s1.lic).1))).bind fun y6=>some (y6,true)
def spec_l06Empty (s1:State):Option (Room × Bool) :=
 (spec_TopoOk s1.topo).bind fun b2=>bif (((!b2) || ((s1.up.length:Int) != (s1.topo.nodes.length:Int))) || (!(spec_VecOk s1.lic))) then (some ((Room.mk (Topo.mk [] []) [] [] []),false)) else (rgl Zb3 (Za3 s1) s1.topo.nodes 0 [])
theorem ZWa {s1:State} {r:Room × Bool} (H:spec_l06Empty s1 = some r):Snd Tryz.prog ZP7 [ZE .rd s1] (.tup [.agg [.sl .nw 1 (r.1.topo.parents.map eI),.sl .nw 4 (r.1.topo.nodes.map eNode),.sref 0,.sl .nw 1 (r.1.profs.map (Z7 .nw)),.sl .nw 4 (r.1.lics.map ePt)],.bool r.2]) [⟨1,r.1.up.map eBo,false⟩]:=by
 refine wS Zlb [.c 2 5 true,.t 3] ?_
 unfold spec_l06Empty at H
 obtain ⟨b2,h2,H⟩:=bB H
 refine wG [.c 16 (ZN5 h2),.g 21 [((!b2),false)] (.ln _ _ fun _=>lm s1.up eBo),.g 25 [((!b2),false)] (.ln _ _ fun _=>lm s1.topo.nodes eNode),.g 31 [(((!b2) || ((s1.up.length:Int) != (s1.topo.nodes.length:Int))),false)] (.call _ _ _ _ _ (AEs.refl _) (fun _=>Zp s1.lic))] fun _=>?_
 refine Wh_iH H (fun H=>?_) fun H=>?_
 .refine wP ?_
  replace H:=sI H; subst H
  exact wN [(2,.d),(3,.d)] [(2,[.n 1,.n 4,.d,.n 1,.n 4])] [] [] [none] [⟨_,nw_I ([]:List Int)⟩,⟨_,ZT ([]:List Node)⟩,⟨_,ZH ([]:List (List Pt))⟩,⟨_,nw_Pt ([]:List Pt)⟩]
 .refine wG [.u 38 (.ln _ _ fun _=>lm s1.topo.nodes eNode)] fun q3=>?_
  refine ZRa (fun (i4:Nat) (v4:(List (List Pt)))=>⟨[(1,.ptr 1 0),(2,.ptr 2 0),(4,.ptr 4 0),(37,.sl .rd 4 (s1.topo.nodes.map eNode)),(38,.int .i64 (s1.topo.nodes.length:Int)),(39,.int .i64 (i4:Int))],[],[(1,(ZE .rd s1).cells),(2,[.nl,.nl,.nl,.nl,.nl]),(4,[.sl .rd 1 (s1.topo.parents.map eI),.sl .rd 4 (s1.topo.nodes.map eNode),.sl .rd 1 (s1.up.map eBo),.sref 518000,.nl])],[(518000,⟨1,v4.map (Z7 .nw),false⟩)]⟩) [] [(4,[.d,.d,.d,.z 518000,.d])] [(518000,(none,1))] [] (by kernel_rfl) (by kernel_rfl) H (fun i4 x4 v4 I m k4 hxv4 hiv4 H N24=>?_) (fun v4 I m H=>?_)
  .unfold Zb3 at H
   refine wP ?_
   refine wt (ltT hiv4) ?_
   obtain ⟨xs5,h5,H⟩:=bB H
   refine wG [.u 41 (.ix _ _ _ fun _=>Z0 eNode (Z2 hxv4)),.c 46 (Zt7 x4.cap),.u 53 (.ap _ _ _ _ fun _=>Z9 (Z7 .nw) h5),.w 55 (wi .i64 rfl hiv4 q3.1)] fun _=>?_
   exact wT (N24 _ H)
  .unfold Za3 at H
   refine wP ?_
   refine wf (ltF s1.topo.nodes.length) ?_
   obtain ⟨y6,h6,H⟩:=bB H
   refine wG [.c 59 (Zt7 s1.lic),.u 64 (.call _ _ _ _ _ (AEs.of (xs:=[.agg [.sl .rd 1 (s1.topo.parents.map eI),.sl .rd 4 (s1.topo.nodes.map eNode),.sl .rd 1 (s1.up.map eBo),.sl .rd 1 (v4.map (Z7 .nw)),.sl .rd 4 (((spec_ProfNew s1.lic).1).map ePt)]]) (by simp)) (fun _=>Zm7 h6))] fun _=>?_
   replace H:=sI H; subst H
   exact wN [(2,.d),(3,.d)] [(2,[.d,.d,.d,.f,.d])] [(65000,some 65000,0)] [65001] [some 65000] [⟨_,nw_I y6.topo.parents⟩,⟨_,ZT y6.topo.nodes⟩,⟨_,ZH y6.profs⟩,⟨_,nw_Pt y6.lics⟩,⟨_,nw_Bo y6.up⟩]
def Zje:L :=
sR [.bx 1 (.t 0),.al 2 [.nl,.nl,.nl,.nl,.nl],.mv 3 (cB false)]
 (sR [lD 13 1 11 true,cQ 14 ZP7 [13],mV 12 14,eX 15 12 0,eX 16 12 1,.al 4 [.nl,.nl,.nl,.nl,.nl],.st (.t 4) (.t 15) 5,mV 5 16]
 (.seq (sR [mV 17 5,.un 18 (.t 17),mV 19 18,.g 19 false (fA 20 1 7),.g 19 false (lD 21 20 1 false),.g 19 false (cQ 22 ZJ [21]),.g 19 false (.un 23 (.t 22)),.pk 24 (.t 19) (cB true) (.t 23)]
 (.cond (.t 24) (sR [.bd 25 [.nl,.nl,.nl,.nl,.nl] [],.st (.t 2) (.t 25) 5,.mv 3 (cB false)]
 gR)
 .skip))
 (.seq (sR [fA 26 1 9,lD 27 26 1 false,.ln 28 (.t 27),.mv 29 (kI 0)]
 (.blk 0 (.loop (.gw (sR [bI 30 .lss 29 28]
 (.seq (.cond (.t 30) .skip
 (.exit 0))
 (.seq (.blk 1 (sR [iA 31 27 29 13,lD 32 31 13 true,.al 7 [.int .i64 0,.int .i64 0,.int .i64 0,.int .i64 0,.int .i64 0,.int .i64 0,.int .i64 0,.int .i64 0,.int .i64 0,.int .i64 0,.int .i64 0,.int .i64 0,.nl],.st (.t 7) (.t 32) 13]
 (sR [fA 33 7 11,lD 34 33 1 false,fA 35 7 0,fA 36 35 9,lD 37 36 1 false,bI 38 .add 34 37,mV 8 38]
 (.seq (sR [lD 39 4 5 true,fA 40 7 0,lD 41 40 11 true,fA 42 7 12,lD 43 42 1 false,cQ 44 Z46 [39,41,43],.un 45 (.t 44),mV 46 45,.g 46 false (fA 47 7 11),.g 46 false (lD 48 47 1 false),.g 46 false (cQ 49 ZJ [48]),.g 46 false (.un 50 (.t 49)),.pk 51 (.t 46) (cB true) (.t 50),mV 52 51,.g 52 false (fA 53 7 11),.g 52 false (lD 54 53 1 false),.g 52 false (fA 55 1 7),.g 52 false (lD 56 55 1 false),.g 52 false (bI 57 .gtr 54 56),.pk 58 (.t 52) (cB true) (.t 57),mV 59 58,.g 59 false (mV 60 8),.g 59 false (fA 61 1 7),.g 59 false (lD 62 61 1 false),.g 59 false (bI 63 .leq 60 62),.pk 64 (.t 59) (cB true) (.t 63),mV 65 64,.g 65 false (mV 66 8),.g 65 false (.bi 67 .gtr (.t 66) (kI 1000000000)),.pk 68 (.t 65) (cB true) (.t 67)]
 (.cond (.t 68) (sR [.bd 69 [.nl,.nl,.nl,.nl,.nl] [],.st (.t 2) (.t 69) 5,.mv 3 (cB false)]
 gR)
 .skip))
 (sR [fA 70 7 0,lD 71 70 11 true,.al 9 [.int .i64 0,.int .i64 0,.int .i64 0,.int .i64 0,.int .i64 0,.int .i64 0,.int .i64 0,.int .i64 0,.int .i64 0,.int .i64 0,.int .i64 0],.st (.t 9) (.t 71) 11]
 (sR [mV 72 8,fA 73 1 7,lD 74 73 1 false,bI 75 .sub 72 74,fA 76 9 9,.st (.t 76) (.t 75) 1]
 (sR [lD 78 4 5 true,lD 79 9 11 true,fA 80 1 7,lD 81 80 1 false,fA 82 7 12,lD 83 82 1 false,cQ 84 ZI8 [78,79,81,83],mV 77 84,eX 85 77 0,eX 86 77 1,.al 10 [.nl,.nl,.nl,.nl,.nl],.st (.t 10) (.t 85) 5,mV 11 86]
 (.seq (sR [mV 87 11,.un 88 (.t 87)]
 (.cond (.t 88) (sR [.bd 89 [.nl,.nl,.nl,.nl,.nl] [],.st (.t 2) (.t 89) 5,.mv 3 (cB false)]
 gR)
 .skip))
 (.reg [lD 90 10 5 true,.st (.t 4) (.t 90) 5])))))))))
 (.reg [.bi 91 .add (.t 29) (kI 1),mV 29 91]))))))))
 (sR [lD 92 4 5 true,.st (.t 2) (.t 92) 5,.mv 3 (cB true)]
 gR))))
def ZI2 (s1:State) (x4:Run) (_:Nat) (v4:Room) (k4:Room -> Option (Room × Bool)):Option (Room × Bool) :=
 (spec_l04Diff v4 x4.job x4.nodes).bind fun b5=>bif (((((!b5) || (!(spec_l01Time x4.t))) || (decide (s1.now < x4.t))) || (decide ((w64 (x4.t + x4.job.wall)) <= s1.now))) || (decide (1000000000 < (w64 (x4.t + x4.job.wall))))) then (some ((Room.mk (Topo.mk [] []) [] [] []),false)) else ((spec_Reserve v4 (Job.mk x4.job.id x4.job.prio x4.job.nodes x4.job.need x4.job.lic (w64 ((w64 (x4.t + x4.job.wall)) - s1.now)) x4.job.level) s1.now x4.nodes).bind fun y6=>bif (!y6.2) then (some ((Room.mk (Topo.mk [] []) [] [] []),false)) else (k4 y6.1))
def Zq7 (v4:Room):Option (Room × Bool) :=
 some (v4,true)
def spec_RoomOf (s1:State):Option (Room × Bool) :=
 (spec_l06Empty s1).bind fun y2=>bif ((!y2.2) || (!(spec_l01Time s1.now))) then (some ((Room.mk (Topo.mk [] []) [] [] []),false)) else (rgl (ZI2 s1) Zq7 s1.runs 0 y2.1)
theorem Zo8 {s1:State} {r:Room × Bool} (H:spec_RoomOf s1 = some r):Snd Tryz.prog ZJ6 [ZE .rd s1] (.tup [Z61 .nw r.1,.bool r.2]) []:=by
 refine wS Zje [.c 2 5 true,.t 3] ?_
 unfold spec_RoomOf at H
 obtain ⟨y2,h2,H⟩:=bB H
 refine wG [.c 14 (ZWa h2),.g 22 [((!y2.2),false)] (.call _ _ _ _ _ (AEs.refl _) (fun _=>Z41 s1.now))] fun _=>?_
 refine Wh_iH H (fun H=>?_) fun H=>?_
 .refine wP ?_
  replace H:=sI H; subst H
  exact wN [(2,.d),(3,.d)] [(2,[.n 1,.n 4,.n 1,.n 1,.n 4])] [] [] [] [⟨_,nw_I ([]:List Int)⟩,⟨_,ZT ([]:List Node)⟩,⟨_,nw_Bo ([]:List Bool)⟩,⟨_,ZH ([]:List (List Pt))⟩,⟨_,nw_Pt ([]:List Pt)⟩]
 .refine wG [.u 28 (.ln _ _ fun _=>lm s1.runs (eRunT .rd))] fun q3=>?_
  refine wR (fun (i4:Nat) (v4:Room)=>⟨[(1,.ptr 1 0),(2,.ptr 2 0),(4,.ptr 4 0),(27,.sl .rd 13 (s1.runs.map (eRunT .rd))),(28,.int .i64 (s1.runs.length:Int)),(29,.int .i64 (i4:Int))],[],[(1,(ZE .rd s1).cells),(2,[.nl,.nl,.nl,.nl,.nl]),(4,(Z61 .nw v4).cells)],[]⟩) H (fun i4 x4 v4 I m k4 hxv4 hiv4 H N46=>?_) (fun v4 I m H=>?_)
  .unfold ZI2 at H
   refine wP ?_
   refine wt (ltT hiv4) ?_
   obtain ⟨b5,h5,H⟩:=bB H
   refine wG [.u 31 (.ix _ _ _ fun _=>Z0 (eRunT .rd) (Z2 hxv4)),.u 44 (.call _ _ _ _ _ (AEs.of (xs:=[.agg [.sl .rd 1 (v4.topo.parents.map eI),.sl .rd 4 (v4.topo.nodes.map eNode),.sl .rd 1 (v4.up.map eBo),.sl .rd 1 (v4.profs.map (Z7 .nw)),.sl .rd 4 (v4.lics.map ePt)],.agg [.int .i64 x4.job.id,.int .i64 x4.job.prio,.int .i64 x4.job.nodes,.int .i64 x4.job.need.a,.int .i64 x4.job.need.b,.int .i64 x4.job.need.c,.int .i64 x4.job.lic.a,.int .i64 x4.job.lic.b,.int .i64 x4.job.lic.c,.int .i64 x4.job.wall,.int .i64 x4.job.level],.sl .rd 1 (x4.nodes.map eI)]) (by simp)) (fun _=>Zk7 h5)),.g 49 [((!b5),false)] (.call _ _ _ _ _ (AEs.refl _) (fun _=>Z41 x4.t))] fun _=>?_
   refine Wh_iH H (fun H=>?_) fun H=>?_
   .refine wP ?_
    replace H:=sI H; subst H
    exact wN [(2,.d),(3,.d)] [(2,[.n 1,.n 4,.n 1,.n 1,.n 4])] [] [] [] [⟨_,nw_I ([]:List Int)⟩,⟨_,ZT ([]:List Node)⟩,⟨_,nw_Bo ([]:List Bool)⟩,⟨_,ZH ([]:List (List Pt))⟩,⟨_,nw_Pt ([]:List Pt)⟩]
   .obtain ⟨y6,h6,H⟩:=bB H
    refine wG [.u 84 (.call _ _ _ _ _ (AEs.of (xs:=[.agg [.sl .rd 1 (v4.topo.parents.map eI),.sl .rd 4 (v4.topo.nodes.map eNode),.sl .rd 1 (v4.up.map eBo),.sl .rd 1 (v4.profs.map (Z7 .nw)),.sl .rd 4 (v4.lics.map ePt)],.agg [.int .i64 x4.job.id,.int .i64 x4.job.prio,.int .i64 x4.job.nodes,.int .i64 x4.job.need.a,.int .i64 x4.job.need.b,.int .i64 x4.job.need.c,.int .i64 x4.job.lic.a,.int .i64 x4.job.lic.b,.int .i64 x4.job.lic.c,.int .i64 (w64 ((w64 (x4.t + x4.job.wall)) - s1.now)),.int .i64 x4.job.level],.int .i64 s1.now,.sl .rd 1 (x4.nodes.map eI)]) (by simp)) (fun _=>Zac h6))] fun _=>?_
    refine Wh_iH H (fun H=>?_) fun H=>?_
    .refine wP ?_
     replace H:=sI H; subst H
     exact wN [(2,.d),(3,.d)] [(2,[.n 1,.n 4,.n 1,.n 1,.n 4])] [] [] [] [⟨_,nw_I ([]:List Int)⟩,⟨_,ZT ([]:List Node)⟩,⟨_,nw_Bo ([]:List Bool)⟩,⟨_,ZH ([]:List (List Pt))⟩,⟨_,nw_Pt ([]:List Pt)⟩]
    .refine wG [.w 91 (wi .i64 rfl hiv4 q3.1)] fun _=>?_
     exact wT (N46 _ H)
  .unfold Zq7 at H
   refine wP ?_
   refine wf (ltF s1.runs.length) ?_
   refine wP ?_
   replace H:=sI H; subst H
   exact wN [(2,.d),(3,.d)] [(2,[])] [] [] [] [⟨_,nw_I v4.topo.parents⟩,⟨_,ZT v4.topo.nodes⟩,⟨_,nw_Bo v4.up⟩,⟨_,ZH v4.profs⟩,⟨_,nw_Pt v4.lics⟩]
def ZMc:L :=
sR [.bx 1 (.t 0),.mv 2 (.c (.nl))]
 (sR [.bs 6 11 [] true,fA 7 1 8,lD 8 7 1 false,.ap 9 (.t 6) (.t 8) 11 88,mV 3 9]
 (.seq (sR [fA 10 1 9,lD 11 10 1 false,.ln 12 (.t 11),.mv 13 (kI 0)]
 (.blk 0 (.loop (.gw (sR [bI 14 .lss 13 12]
 (.seq (.cond (.t 14) .skip
 (.exit 0))
 (.seq (.blk 1 (sR [iA 15 11 13 13,lD 16 15 13 true,.al 5 [.int .i64 0,.int .i64 0,.int .i64 0,.int .i64 0,.int .i64 0,.int .i64 0,.int .i64 0,.int .i64 0,.int .i64 0,.int .i64 0,.int .i64 0,.int .i64 0,.nl],.st (.t 5) (.t 16) 13]
 (.reg [mV 17 3,fA 18 5 0,lD 19 18 11 true,.bs 20 11 [(.t 19)] false,.ap 21 (.t 17) (.t 20) 11 88,mV 3 21])))
 (.reg [.bi 22 .add (.t 13) (kI 1),mV 13 22]))))))))
 (sR [mV 23 3,mV 2 23]
 gR)))
def ZS3 (x4:Run) (_:Nat) (v4:(List Job)) (k4:(List Job) -> Option (List Job)):Option (List Job) :=
 (appL 88 v4 [x4.job]).bind fun xs5=>k4 xs5
def ZR3 (v4:(List Job)):Option (List Job) :=
 some v4
def spec_l06Jobs (s1:State):Option (List Job) :=
 (appL 88 ([]:List Job) s1.queue).bind fun xs2=>rgl ZS3 ZR3 s1.runs 0 xs2
theorem Z5c {s1:State} {r:(List Job)} (H:spec_l06Jobs s1 = some r):Snd Tryz.prog ZF8 [ZE .rd s1] (.sl .nw 11 (r.map eJob)) []:=by
 refine wS ZMc [.t 2] ?_
 unfold spec_l06Jobs at H
 obtain ⟨xs2,h2,H⟩:=bB H
 refine wG [.u 9 (.ap _ _ _ _ fun _=>Z9 eJob h2),.u 12 (.ln _ _ fun _=>lm s1.runs (eRunT .rd))] fun q3=>?_
 refine wR (fun (i4:Nat) (v4:(List Job))=>⟨[(3,.sref 6),(11,.sl .rd 13 (s1.runs.map (eRunT .rd))),(12,.int .i64 (s1.runs.length:Int)),(13,.int .i64 (i4:Int))],[],[],[(6,⟨11,v4.map eJob,false⟩)]⟩) H (fun i4 x4 v4 I m k4 hxv4 hiv4 H N15=>?_) (fun v4 I m H=>?_)
 .unfold ZS3 at H
  refine wP ?_
  refine wt (ltT hiv4) ?_
  obtain ⟨xs5,h5,H⟩:=bB H
  refine wG [.u 15 (.ix _ _ _ fun _=>Z0 (eRunT .rd) (Z2 hxv4)),.u 21 (.ap _ _ _ _ fun _=>Z9 eJob h5),.w 22 (wi .i64 rfl hiv4 q3.1)] fun _=>?_
  exact wT (N15 _ H)
 .unfold ZR3 at H
  refine wP ?_
  refine wf (ltF s1.runs.length) ?_
  refine wP ?_
  replace H:=sI H; subst H
  exact wN [(2,.f)] [] [] [6] [] [⟨_,Zxi v4⟩]
def ZVc:L :=
sR [.bx 1 (.t 0),.mv 2 (cB false)]
 (sR [lD 12 1 11 true,cQ 13 ZJ6 [12],mV 11 13,eX 14 11 0,eX 15 11 1,.al 3 [.nl,.nl,.nl,.nl,.nl],.st (.t 3) (.t 14) 5,mV 4 15]
 (.seq (sR [mV 16 4,.un 17 (.t 16),mV 18 17,.g 18 false (fA 19 1 6),.g 18 false (lD 20 19 1 false),.g 18 false (.bi 21 .lss (.t 20) (kI 0)),.pk 22 (.t 18) (cB true) (.t 21),mV 23 22,.g 23 false (fA 24 1 6),.g 23 false (lD 25 24 1 false),.g 23 false (.bi 26 .gtr (.t 25) (kI 60)),.pk 27 (.t 23) (cB true) (.t 26),mV 28 27,.g 28 false (lD 29 1 11 true),.g 28 false (cQ 30 ZF8 [29]),.g 28 false (cQ 31 ZJ8 [30]),.g 28 false (.un 32 (.t 31)),.pk 33 (.t 28) (cB true) (.t 32),mV 34 33,.g 34 false (fA 35 1 10),.g 34 false (lD 36 35 1 false),.g 34 false (.ln 37 (.t 36)),.g 34 false (.bi 38 .gtr (.t 37) (kI 300)),.pk 39 (.t 34) (cB true) (.t 38)]
 (.cond (.t 39) (.seq (rE 2 (cB false))
 gR)
 .skip))
 (.seq (sR [fA 40 1 9,lD 41 40 1 false,.ln 42 (.t 41),.mv 43 (kI 0)]
 (.blk 0 (.loop (.gw (sR [bI 44 .lss 43 42]
 (.seq (.cond (.t 44) .skip
 (.exit 0))
 (.seq (.blk 1 (sR [iA 45 41 43 13,lD 46 45 13 true,.al 6 [.int .i64 0,.int .i64 0,.int .i64 0,.int .i64 0,.int .i64 0,.int .i64 0,.int .i64 0,.int .i64 0,.int .i64 0,.int .i64 0,.int .i64 0,.int .i64 0,.nl],.st (.t 6) (.t 46) 13]
 (.seq (sR [fA 47 6 12,lD 48 47 1 false,.ln 49 (.t 48),.mv 50 (kI 0)]
 (.blk 2 (.loop (.gw (sR [bI 51 .lss 50 49]
 (.seq (.cond (.t 51) .skip
 (.exit 2))
 (.seq (.blk 3 (sR [mV 52 50,iA 53 48 50 1,lD 54 53 1 false,mV 7 52,mV 8 54]
 (sR [fA 55 1 2,lD 56 55 1 false,mV 57 8,iA 58 56 57 1,lD 59 58 1 false,.un 60 (.t 59),mV 61 60,.g 61 false (mV 62 7),.g 61 false (.bi 63 .gtr (.t 62) (kI 0)),.g 61 false (mV 64 63),.g 64 true (fA 65 6 12),.g 64 true (lD 66 65 1 false),.g 64 true (mV 67 7),.g 64 true (.bi 68 .sub (.t 67) (kI 1)),.g 64 true (iA 69 66 68 1),.g 64 true (lD 70 69 1 false),.g 64 true (mV 71 8),.g 64 true (bI 72 .geq 70 71),.g 61 false (.pk 73 (.t 64) (.t 72) (cB false)),.pk 74 (.t 61) (cB true) (.t 73)]
 (.cond (.t 74) (.seq (rE 2 (cB false))
 gR)
 .skip))))
 (.reg [.bi 75 .add (.t 50) (kI 1),mV 50 75]))))))))
 (.seq (.rq 12 [fA 76 1 0,lD 77 76 2 true,fA 78 1 0,lD 79 78 2 true,fA 80 6 12,lD 81 80 1 false,cQ 82 ZN9 [79,81],cQ 83 Zv [77,82],fA 84 6 0,fA 85 84 10,lD 86 85 1 false,bI 87 .gtr 83 86])
 (.cond (.t 87) (.seq (rE 2 (cB false))
 gR)
 .skip)))))
 (.reg [.bi 88 .add (.t 43) (kI 1),mV 43 88]))))))))
 (.seq (sR [fA 89 1 10,lD 90 89 1 false,.ln 91 (.t 90),.mv 92 (kI 0)]
 (.blk 4 (.loop (.gw (sR [bI 93 .lss 92 91]
 (.seq (.cond (.t 93) .skip
 (.exit 4))
 (.seq (.blk 5 (sR [iA 94 90 92 3,lD 95 94 3 true,.al 10 [.int .i64 0,.int .i64 0,.int .i64 0],.st (.t 10) (.t 95) 3]
 (sR [fA 96 10 0,lD 97 96 1 false,.bi 98 .lss (.t 97) (kI 1),mV 99 98,.g 99 false (fA 100 10 0),.g 99 false (lD 101 100 1 false),.g 99 false (.bi 102 .gtr (.t 101) (kI 999)),.pk 103 (.t 99) (cB true) (.t 102),mV 104 103,.g 104 false (fA 105 10 1),.g 104 false (lD 106 105 1 false),.g 104 false (.bi 107 .lss (.t 106) (kI 0)),.pk 108 (.t 104) (cB true) (.t 107),mV 109 108,.g 109 false (fA 110 10 1),.g 109 false (lD 111 110 1 false),.g 109 false (fA 112 1 7),.g 109 false (lD 113 112 1 false),.g 109 false (bI 114 .gtr 111 113),.pk 115 (.t 109) (cB true) (.t 114),mV 116 115,.g 116 false (fA 117 10 2),.g 116 false (lD 118 117 1 false),.g 116 false (.bi 119 .lss (.t 118) (kI 1)),.pk 120 (.t 116) (cB true) (.t 119),mV 121 120,.g 121 false (fA 122 10 2),.g 121 false (lD 123 122 1 false),.g 121 false (.bi 124 .gtr (.t 123) (kI 4)),.pk 125 (.t 121) (cB true) (.t 124)]
 (.cond (.t 125) (.seq (rE 2 (cB false))
 gR)
 .skip))))
 (.reg [.bi 126 .add (.t 92) (kI 1),mV 92 126]))))))))
 (.seq (rE 2 (cB true))
 gR)))))
def Zo2 (s1:State) (x6:Run) (x8:Int) (i8:Nat) (_:Unit) (k8:Unit -> Option Bool):Option Bool :=
 (idx s1.up x8).bind fun e9=>(bif (!e9) then some default else (bif (decide (0 < (i8:Int))) then (idx x6.nodes (w64 ((i8:Int) - 1))) else some default)).bind fun e10=>bif ((!e9) || ((decide (0 < (i8:Int))) && (decide (x8 <= e10)))) then (some false) else (k8 ())
def ZQ (s1:State) (x6:Run) (k6:Unit -> Option Bool) (_:Unit):Option Bool :=
 (spec_Lowest s1.topo x6.nodes).bind fun n11=>(spec_l02Level s1.topo n11).bind fun n12=>bif (decide (x6.job.level < n12)) then (some false) else (k6 ())
def Zm2 (s1:State) (x14:End) (_:Nat) (_:Unit) (k14:Unit -> Option Bool):Option Bool :=
 bif ((((((decide (x14.id < 1)) || (decide (999 < x14.id))) || (decide (x14.t < 0))) || (decide (s1.now < x14.t))) || (decide (x14.why < 1))) || (decide (4 < x14.why))) then (some false) else (k14 ())
def ZW3 (_:Unit):Option Bool :=
 some true
def Zn2 (s1:State) (x6:Run) (_:Nat) (_:Unit) (k6:Unit -> Option Bool):Option Bool :=
 rgl (Zo2 s1 x6) (ZQ s1 x6 k6) x6.nodes 0 ()
def ZX3 (s1:State) (_:Unit):Option Bool :=
 rgl (Zm2 s1) ZW3 s1.ends 0 ()
def spec_StateOk (s1:State):Option Bool :=
 (spec_RoomOf s1).bind fun y2=>(bif (((!y2.2) || (decide (s1.depth < 0))) || (decide (60 < s1.depth))) then some default else (spec_l06Jobs s1)).bind fun y3=>(bif (((!y2.2) || (decide (s1.depth < 0))) || (decide (60 < s1.depth))) then some default else (spec_QueueOk y3)).bind fun b4=>bif (((((!y2.2) || (decide (s1.depth < 0))) || (decide (60 < s1.depth))) || (!b4)) || (decide (300 < (s1.ends.length:Int)))) then (some false) else (rgl (Zn2 s1) (ZX3 s1) s1.runs 0 ())
theorem Z9c {s1:State} {r:Bool} (H:spec_StateOk s1 = some r):Snd Tryz.prog ZH8 [ZE .rd s1] (.bool r) []:=by
 refine wS ZVc [.t 2] ?_
 unfold spec_StateOk at H
 obtain ⟨y2,h2,H⟩:=bB H
 obtain ⟨y3,h3,H⟩:=bB H
 obtain ⟨b4,h4,H⟩:=bB H
 refine wG [.c 13 (Zo8 h2),.g 30 [(_,false)] (.call _ _ _ _ _ (AEs.refl _) (fun q=>Z5c (bF q.1 h3))),.g 31 [(_,false)] (.call _ _ _ _ _ (AEs.refl _) (fun q=>Zcc (bF q.1 h4))),.g 37 [(((((!y2.2) || (decide (s1.depth < 0))) || (decide (60 < s1.depth))) || (!b4)),false)] (.ln _ _ fun _=>lm s1.ends eEnd)] fun _=>?_
 refine Wh_iH H (fun H=>?_) fun H=>?_
 .refine wP ?_
  replace H:=sI H; subst H
  exact wE [(2,.d)]
 .refine wG [.u 42 (.ln _ _ fun _=>lm s1.runs (eRunT .rd))] fun q5=>?_
  refine wR (fun (i6:Nat) (v6:Unit)=>⟨[(1,.ptr 1 0),(41,.sl .rd 13 (s1.runs.map (eRunT .rd))),(42,.int .i64 (s1.runs.length:Int)),(43,.int .i64 (i6:Int))],[],[(1,(ZE .rd s1).cells)],[]⟩) H (fun i6 x6 v6 I m k6 hxv6 hiv6 H N51=>?_) (fun v6 I m H=>?_)
  .unfold Zn2 at H
   refine wP ?_
   refine wt (ltT hiv6) ?_
   refine wG [.u 45 (.ix _ _ _ fun _=>Z0 (eRunT .rd) (Z2 hxv6)),.u 49 (.ln _ _ fun _=>lm x6.nodes eI)] fun q7=>?_
   refine wR (fun (i8:Nat) (v8:Unit)=>⟨[(1,.ptr 1 0),(6,.ptr 6 0),(41,.sl .rd 13 (s1.runs.map (eRunT .rd))),(42,.int .i64 (s1.runs.length:Int)),(43,.int .i64 (i6:Int)),(48,.sl .rd 1 (x6.nodes.map eI)),(49,.int .i64 (x6.nodes.length:Int)),(50,.int .i64 (i8:Int))],[],[(1,(ZE .rd s1).cells),(6,(eRunT .rd x6).cells)],[]⟩) H (fun i8 x8 v8 I m k8 hxv8 hiv8 H N34=>?_) (fun v8 I m H=>?_)
   .unfold Zo2 at H
    refine wP ?_
    refine wt (ltT hiv8) ?_
    obtain ⟨e9,h9,H⟩:=bB H
    obtain ⟨e10,h10,H⟩:=bB H
    refine wG [.u 53 (.ix _ _ _ fun _=>Z0 eI (Z2 hxv8)),.u 58 (.ix _ _ _ fun _=>Z0 eBo h9),.g 69 [(_,true),(_,false)] (.ix _ _ _ fun q=>Z0 eI (bT q.1 (bF q.2.1 h10)))] fun _=>?_
    refine Wh_iH H (fun H=>?_) fun H=>?_
    .refine wP ?_
     replace H:=sI H; subst H
     exact wE [(2,.d)]
    .refine wG [.w 75 (wi .i64 rfl hiv8 q7.1)] fun _=>?_
     exact wT (N34 () H)
   .unfold ZQ at H
    refine wP ?_
    refine wf (ltF x6.nodes.length) ?_
    obtain ⟨n11,h11,H⟩:=bB H
    obtain ⟨n12,h12,H⟩:=bB H
    refine wG [.c 82 (ZJd h11),.c 83 (ZP h12)] fun _=>?_
    refine Wh_iH H (fun H=>?_) fun H=>?_
    .refine wP ?_
     replace H:=sI H; subst H
     exact wE [(2,.d)]
    .refine wG [.w 88 (wi .i64 rfl hiv6 q5.1)] fun _=>?_
     exact wT (N51 () H)
  .unfold ZX3 at H
   refine wP ?_
   refine wf (ltF s1.runs.length) ?_
   refine wG [.u 91 (.ln _ _ fun _=>lm s1.ends eEnd)] fun q13=>?_
   refine wR (fun (i14:Nat) (v14:Unit)=>⟨[(1,.ptr 1 0),(90,.sl .rd 3 (s1.ends.map eEnd)),(91,.int .i64 (s1.ends.length:Int)),(92,.int .i64 (i14:Int))],[],[(1,(ZE .rd s1).cells)],[]⟩) H (fun i14 x14 v14 I m k14 hxv14 hiv14 H N73=>?_) (fun v14 I m H=>?_)
   .unfold Zm2 at H
    refine wP ?_
    refine wt (ltT hiv14) ?_
    refine wG [.u 94 (.ix _ _ _ fun _=>Z0 eEnd (Z2 hxv14))] fun _=>?_
    refine Wh_iH H (fun H=>?_) fun H=>?_
    .refine wP ?_
     replace H:=sI H; subst H
     exact wE [(2,.d)]
    .refine wG [.w 126 (wi .i64 rfl hiv14 q13.1)] fun _=>?_
     exact wT (N73 () H)
   .unfold ZW3 at H
    refine wP ?_
    refine wf (ltF s1.ends.length) ?_
    refine wP ?_
    replace H:=sI H; subst H
    exact wE [(2,.d)]
def Zyg:L :=
sR [.bx 3 (.t 0),.bx 5 (.t 2),.al 6 [.nl,.nl,.nl,.nl,.nl]]
 (sR [lD 12 3 2 true,cQ 13 Za5 [12],mV 14 1,.ap 15 (.c (.nl)) (.t 14) 1 1,.bd 16 [.nl,.nl,.nl,.nl,.nl] [(0,2,(.t 13)),(2,1,(.t 15))],.al 7 [.nl,.nl,.nl,.nl,.nl],.st (.t 7) (.t 16) 5]
 (.seq (sR [fA 17 3 1,lD 18 17 1 false,.ln 19 (.t 18),.mv 20 (kI 0)]
 (.blk 0 (.loop (.gw (sR [bI 21 .lss 20 19]
 (.seq (.cond (.t 21) .skip
 (.exit 0))
 (.seq (.blk 1 (sR [iA 22 18 20 4,lD 23 22 4 true,.al 9 [.int .i64 0,.int .i64 0,.int .i64 0,.int .i64 0],.st (.t 9) (.t 23) 4]
 (sR [fA 25 9 1,lD 26 25 3 true,cQ 27 ZJ3 [26],mV 24 27,eX 28 24 0,eX 29 24 1,.al 10 [.nl],.st (.t 10) (.t 28) 1,mV 11 29]
 (.reg [fA 30 7 3,lD 31 30 1 false,lD 32 10 1 true,.bs 33 1 [(.t 32)] false,.ap 34 (.t 31) (.t 33) 1 24,fA 35 7 3,.st (.t 35) (.t 34) 1]))))
 (.reg [.bi 36 .add (.t 20) (kI 1),mV 20 36]))))))))
 (sR [lD 38 5 3 true,cQ 39 ZJ3 [38],mV 37 39,eX 40 37 0,eX 41 37 1,fA 42 7 4,.st (.t 42) (.t 40) 1]
 (sR [lD 43 7 5 true,.st (.t 6) (.t 43) 5]
 gR))))
def ZW5 (x7:Node) (_:Nat) (v7:(List (List Pt))) (k7:(List (List Pt)) -> Option Room):Option Room :=
 (appL 24 v7 [(impl_ProfNew x7.cap).1]).bind fun xs8=>k7 xs8
def ZV5 (lic3:Vec) (y4:Topo) (xs5:List Bool) (v7:(List (List Pt))):Option Room :=
 some (Room.mk y4 xs5 v7 ((impl_ProfNew lic3).1))
def impl_empty (t1:Topo) (up2:List Bool) (lic3:Vec):Option Room :=
 (impl_copyTopo t1).bind fun y4=>(appL 1 ([]:List Bool) up2).bind fun xs5=>rgl ZW5 (ZV5 lic3 y4 xs5) t1.nodes 0 []
theorem ZKg {t1:Topo} {up2:List Bool} {lic3:Vec} {r:Room} (H:impl_empty t1 up2 lic3 = some r):Snd Tryz.prog ZVa [Ze .rd t1,.sl .rd 1 (up2.map eBo),eVec lic3] (Z61 .nw r) []:=by
 refine wS Zyg [.c 6 5 true] ?_
 unfold impl_empty at H
 obtain ⟨y4,h4,H⟩:=bB H
 obtain ⟨xs5,h5,H⟩:=bB H
 refine wG [.c 13 (Z97 h4),.u 15 (.ap _ _ _ _ fun _=>Z9 eBo h5),.u 19 (.ln _ _ fun _=>lm t1.nodes eNode)] fun q6=>?_
 refine ZRa (fun (i7:Nat) (v7:(List (List Pt)))=>⟨[(5,.ptr 5 0),(6,.ptr 6 0),(7,.ptr 7 0),(18,.sl .rd 4 (t1.nodes.map eNode)),(19,.int .i64 (t1.nodes.length:Int)),(20,.int .i64 (i7:Int))],[],[(5,(eVec lic3).cells),(6,[.nl,.nl,.nl,.nl,.nl]),(7,[.sl .nw 1 (y4.parents.map eI),.sl .nw 4 (y4.nodes.map eNode),.sref 15,.sref 398001,.nl])],[(15,⟨1,xs5.map eBo,false⟩),(398001,⟨1,v7.map (Z7 .nw),false⟩)]⟩) [] [(7,[.d,.d,.d,.z 398001,.d])] [(398001,(none,1))] [] (by kernel_rfl) (by kernel_rfl) H (fun i7 x7 v7 I m k7 hxv7 hiv7 H N17=>?_) (fun v7 I m H=>?_)
 .unfold ZW5 at H
  refine wP ?_
  refine wt (ltT hiv7) ?_
  obtain ⟨xs8,h8,H⟩:=bB H
  refine wG [.u 22 (.ix _ _ _ fun _=>Z0 eNode (Z2 hxv7)),.c 27 (ZH7 x7.cap),.u 34 (.ap _ _ _ _ fun _=>Z9 (Z7 .nw) h8),.w 36 (wi .i64 rfl hiv7 q6.1)] fun _=>?_
  exact wT (N17 _ H)
 .unfold ZV5 at H
  refine wP ?_
  refine wf (ltF t1.nodes.length) ?_
  refine wG [.c 39 (ZH7 lic3)] fun _=>?_
  replace H:=sI H; subst H
  exact wN [(6,.d)] [(6,[.d,.d,.f,.f,.d])] [] [15,398001] [] [⟨_,nw_I y4.parents⟩,⟨_,ZT y4.nodes⟩,⟨_,nw_Bo xs5⟩,⟨_,ZH v7⟩,⟨_,nw_Pt ((impl_ProfNew lic3).1)⟩]
def ZPe:L :=
sR [.bx 1 (.t 0),.al 2 [.nl,.nl,.nl,.nl,.nl],.mv 3 (cB false)]
 (.seq (sR [fA 9 1 0,lD 10 9 2 true,cQ 11 ZD4 [10],.un 12 (.t 11),mV 13 12,.g 13 false (fA 14 1 2),.g 13 false (lD 15 14 1 false),.g 13 false (.ln 16 (.t 15)),.g 13 false (fA 17 1 0),.g 13 false (fA 18 17 1),.g 13 false (lD 19 18 1 false),.g 13 false (.ln 20 (.t 19)),.g 13 false (bI 21 .neq 16 20),.pk 22 (.t 13) (cB true) (.t 21),mV 23 22,.g 23 false (fA 24 1 3),.g 23 false (lD 25 24 3 true),.g 23 false (cQ 26 Zu [25]),.g 23 false (.un 27 (.t 26)),.pk 28 (.t 23) (cB true) (.t 27),mV 29 28,.g 29 false (fA 30 1 7),.g 29 false (lD 31 30 1 false),.g 29 false (cQ 32 Zz1 [31]),.g 29 false (.un 33 (.t 32)),.pk 34 (.t 29) (cB true) (.t 33)]
 (.cond (.t 34) (sR [.bd 35 [.nl,.nl,.nl,.nl,.nl] [],.st (.t 2) (.t 35) 5,.mv 3 (cB false)]
 gR)
 .skip))
 (sR [fA 36 1 0,lD 37 36 2 true,fA 38 1 2,lD 39 38 1 false,fA 40 1 3,lD 41 40 3 true,cQ 42 ZVa [37,39,41],.al 4 [.nl,.nl,.nl,.nl,.nl],.st (.t 4) (.t 42) 5]
 (.seq (sR [fA 43 1 9,lD 44 43 1 false,.ln 45 (.t 44),.mv 46 (kI 0)]
 (.blk 0 (.loop (.gw (sR [bI 47 .lss 46 45]
 (.seq (.cond (.t 47) .skip
 (.exit 0))
 (.seq (.blk 1 (sR [iA 48 44 46 13,lD 49 48 13 true,.al 6 [.int .i64 0,.int .i64 0,.int .i64 0,.int .i64 0,.int .i64 0,.int .i64 0,.int .i64 0,.int .i64 0,.int .i64 0,.int .i64 0,.int .i64 0,.int .i64 0,.nl],.st (.t 6) (.t 49) 13]
 (.seq (sR [fA 50 6 0,lD 51 50 11 true,cQ 52 ZD2 [51],.un 53 (.t 52),mV 54 53,.g 54 false (fA 55 6 11),.g 54 false (lD 56 55 1 false),.g 54 false (fA 57 1 7),.g 54 false (lD 58 57 1 false),.g 54 false (.cq 59 Z6 [(.t 56),(kI 0),(.t 58)]),.g 54 false (.un 60 (.t 59)),.pk 61 (.t 54) (cB true) (.t 60),mV 62 61,.g 62 false (fA 63 6 11),.g 62 false (lD 64 63 1 false),.g 62 false (fA 65 6 0),.g 62 false (fA 66 65 9),.g 62 false (lD 67 66 1 false),.g 62 false (bI 68 .add 64 67),.g 62 false (fA 69 1 7),.g 62 false (lD 70 69 1 false),.g 62 false (.bi 71 .add (.t 70) (kI 1)),.g 62 false (.cq 72 Z6 [(.t 68),(.t 71),(kI 1000000000)]),.g 62 false (.un 73 (.t 72)),.pk 74 (.t 62) (cB true) (.t 73)]
 (.cond (.t 74) (sR [.bd 75 [.nl,.nl,.nl,.nl,.nl] [],.st (.t 2) (.t 75) 5,.mv 3 (cB false)]
 gR)
 .skip))
 (sR [lD 77 4 5 true,fA 78 6 0,lD 79 78 11 true,fA 80 1 7,lD 81 80 1 false,fA 82 6 11,lD 83 82 1 false,fA 84 6 0,fA 85 84 9,lD 86 85 1 false,bI 87 .add 83 86,fA 88 6 12,lD 89 88 1 false,.cq 90 ZUa [(.t 77),(.t 79),(.t 81),(.t 87),(.t 89),(.c (.fn ZQ1 []))],mV 76 90,eX 91 76 0,eX 92 76 1,.al 7 [.nl,.nl,.nl,.nl,.nl],.st (.t 7) (.t 91) 5,mV 8 92]
 (.seq (sR [mV 93 8,.un 94 (.t 93)]
 (.cond (.t 94) (sR [.bd 95 [.nl,.nl,.nl,.nl,.nl] [],.st (.t 2) (.t 95) 5,.mv 3 (cB false)]
 gR)
 .skip))
 (.reg [lD 96 7 5 true,.st (.t 4) (.t 96) 5]))))))
 (.reg [.bi 97 .add (.t 46) (kI 1),mV 46 97]))))))))
 (sR [lD 98 4 5 true,.st (.t 2) (.t 98) 5,.mv 3 (cB true)]
 gR))))
def Z03 (s1:State) (x5:Run) (_:Nat) (v5:Room) (k5:Room -> Option (Room × Bool)):Option (Room × Bool) :=
 bif (((!(impl_JobOk x5.job)) || (!(impl_within x5.t 0 s1.now))) || (!(impl_within (w64 (x5.t + x5.job.wall)) (w64 (s1.now + 1)) 1000000000))) then (some ((Room.mk (Topo.mk [] []) [] [] []),false)) else ((Zz v5 x5.job s1.now (w64 (x5.t + x5.job.wall)) x5.nodes).bind fun y6=>bif (!y6.2) then (some ((Room.mk (Topo.mk [] []) [] [] []),false)) else (k5 y6.1))
def ZE7 (v5:Room):Option (Room × Bool) :=
 some (v5,true)
def impl_RoomOf (s1:State):Option (Room × Bool) :=
 (impl_TopoOk s1.topo).bind fun b2=>bif ((((!b2) || ((s1.up.length:Int) != (s1.topo.nodes.length:Int))) || (!(impl_VecOk s1.lic))) || (!(impl_isTime s1.now))) then (some ((Room.mk (Topo.mk [] []) [] [] []),false)) else ((impl_empty s1.topo s1.up s1.lic).bind fun y3=>rgl (Z03 s1) ZE7 s1.runs 0 y3)
theorem ZC8 {s1:State} {r:Room × Bool} (H:impl_RoomOf s1 = some r):Snd Tryz.prog ZW6 [ZE .rd s1] (.tup [Z61 .nw r.1,.bool r.2]) []:=by
 refine wS ZPe [.c 2 5 true,.t 3] ?_
 unfold impl_RoomOf at H
 obtain ⟨b2,h2,H⟩:=bB H
 refine wG [.c 11 (ZY5 h2),.g 16 [((!b2),false)] (.ln _ _ fun _=>lm s1.up eBo),.g 20 [((!b2),false)] (.ln _ _ fun _=>lm s1.topo.nodes eNode),.g 26 [(((!b2) || ((s1.up.length:Int) != (s1.topo.nodes.length:Int))),false)] (.call _ _ _ _ _ (AEs.refl _) (fun _=>Zx s1.lic)),.g 32 [((((!b2) || ((s1.up.length:Int) != (s1.topo.nodes.length:Int))) || (!(impl_VecOk s1.lic))),false)] (.call _ _ _ _ _ (AEs.refl _) (fun _=>Zf2 s1.now))] fun _=>?_
 refine Wh_iH H (fun H=>?_) fun H=>?_
 .refine wP ?_
  replace H:=sI H; subst H
  exact wN [(2,.d),(3,.d)] [(2,[.n 1,.n 4,.n 1,.n 1,.n 4])] [] [] [] [⟨_,nw_I ([]:List Int)⟩,⟨_,ZT ([]:List Node)⟩,⟨_,nw_Bo ([]:List Bool)⟩,⟨_,ZH ([]:List (List Pt))⟩,⟨_,nw_Pt ([]:List Pt)⟩]
 .obtain ⟨y3,h3,H⟩:=bB H
  refine wG [.c 42 (ZKg h3),.u 45 (.ln _ _ fun _=>lm s1.runs (eRunT .rd))] fun q4=>?_
  refine wR (fun (i5:Nat) (v5:Room)=>⟨[(1,.ptr 1 0),(2,.ptr 2 0),(4,.ptr 4 0),(44,.sl .rd 13 (s1.runs.map (eRunT .rd))),(45,.int .i64 (s1.runs.length:Int)),(46,.int .i64 (i5:Int))],[],[(1,(ZE .rd s1).cells),(2,[.nl,.nl,.nl,.nl,.nl]),(4,(Z61 .nw v5).cells)],[]⟩) H (fun i5 x5 v5 I m k5 hxv5 hiv5 H N40=>?_) (fun v5 I m H=>?_)
  .unfold Z03 at H
   refine wP ?_
   refine wt (ltT hiv5) ?_
   refine wG [.u 48 (.ix _ _ _ fun _=>Z0 (eRunT .rd) (Z2 hxv5)),.c 52 (Zx4 x5.job),.g 59 [((!(impl_JobOk x5.job)),false)] (.call _ _ _ _ _ (AEs.refl _) (fun _=>Z4 x5.t 0 s1.now)),.g 72 [(((!(impl_JobOk x5.job)) || (!(impl_within x5.t 0 s1.now))),false)] (.call _ _ _ _ _ (AEs.refl _) (fun _=>Z4 (w64 (x5.t + x5.job.wall)) (w64 (s1.now + 1)) 1000000000))] fun _=>?_
   refine Wh_iH H (fun H=>?_) fun H=>?_
   .refine wP ?_
    replace H:=sI H; subst H
    exact wN [(2,.d),(3,.d)] [(2,[.n 1,.n 4,.n 1,.n 1,.n 4])] [] [] [] [⟨_,nw_I ([]:List Int)⟩,⟨_,ZT ([]:List Node)⟩,⟨_,nw_Bo ([]:List Bool)⟩,⟨_,ZH ([]:List (List Pt))⟩,⟨_,nw_Pt ([]:List Pt)⟩]
   .obtain ⟨y6,h6,H⟩:=bB H
    refine wG [.u 90 (.call _ _ _ _ _ (AEs.of (xs:=[.agg [.sl .rd 1 (v5.topo.parents.map eI),.sl .rd 4 (v5.topo.nodes.map eNode),.sl .rd 1 (v5.up.map eBo),.sl .rd 1 (v5.profs.map (Z7 .nw)),.sl .rd 4 (v5.lics.map ePt)],.agg [.int .i64 x5.job.id,.int .i64 x5.job.prio,.int .i64 x5.job.nodes,.int .i64 x5.job.need.a,.int .i64 x5.job.need.b,.int .i64 x5.job.need.c,.int .i64 x5.job.lic.a,.int .i64 x5.job.lic.b,.int .i64 x5.job.lic.c,.int .i64 x5.job.wall,.int .i64 x5.job.level],.int .i64 s1.now,.int .i64 (w64 (x5.t + x5.job.wall)),.sl .rd 1 (x5.nodes.map eI),.fn ZQ1 []]) (by simp)) (fun _=>ZZ4 h6))] fun _=>?_
    refine Wh_iH H (fun H=>?_) fun H=>?_
    .refine wP ?_
     replace H:=sI H; subst H
     exact wN [(2,.d),(3,.d)] [(2,[.n 1,.n 4,.n 1,.n 1,.n 4])] [] [] [] [⟨_,nw_I ([]:List Int)⟩,⟨_,ZT ([]:List Node)⟩,⟨_,nw_Bo ([]:List Bool)⟩,⟨_,ZH ([]:List (List Pt))⟩,⟨_,nw_Pt ([]:List Pt)⟩]
    .refine wG [.w 97 (wi .i64 rfl hiv5 q4.1)] fun _=>?_
     exact wT (N40 _ H)
  .unfold ZE7 at H
   refine wP ?_
   refine wf (ltF s1.runs.length) ?_
   refine wP ?_
   replace H:=sI H; subst H
   exact wN [(2,.d),(3,.d)] [(2,[])] [] [] [] [⟨_,nw_I v5.topo.parents⟩,⟨_,ZT v5.topo.nodes⟩,⟨_,nw_Bo v5.up⟩,⟨_,ZH v5.profs⟩,⟨_,nw_Pt v5.lics⟩]
def Zpa:L :=
sR [.bx 1 (.t 0),.mv 2 (.c (.nl))]
 (sR [.bs 6 11 [] true,fA 7 1 8,lD 8 7 1 false,.ap 9 (.t 6) (.t 8) 11 88,mV 3 9]
 (.seq (sR [fA 10 1 9,lD 11 10 1 false,.ln 12 (.t 11),.mv 13 (kI 0)]
 (.blk 0 (.loop (.gw (sR [bI 14 .lss 13 12]
 (.seq (.cond (.t 14) .skip
 (.exit 0))
 (.seq (.blk 1 (sR [iA 15 11 13 13,lD 16 15 13 true,.al 5 [.int .i64 0,.int .i64 0,.int .i64 0,.int .i64 0,.int .i64 0,.int .i64 0,.int .i64 0,.int .i64 0,.int .i64 0,.int .i64 0,.int .i64 0,.int .i64 0,.nl],.st (.t 5) (.t 16) 13]
 (.reg [mV 17 3,fA 18 5 0,lD 19 18 11 true,.bs 20 11 [(.t 19)] false,.ap 21 (.t 17) (.t 20) 11 88,mV 3 21])))
 (.reg [.bi 22 .add (.t 13) (kI 1),mV 13 22]))))))))
 (sR [mV 23 3,mV 2 23]
 gR)))
def Zy5 (x4:Run) (_:Nat) (v4:(List Job)) (k4:(List Job) -> Option (List Job)):Option (List Job) :=
 (appL 88 v4 [x4.job]).bind fun xs5=>k4 xs5
def Zx5 (v4:(List Job)):Option (List Job) :=
 some v4
def impl_State_all (s1:State):Option (List Job) :=
 (appL 88 ([]:List Job) s1.queue).bind fun xs2=>rgl Zy5 Zx5 s1.runs 0 xs2
theorem Zta {s1:State} {r:(List Job)} (H:impl_State_all s1 = some r):Snd Tryz.prog Zh7 [ZE .rd s1] (.sl .nw 11 (r.map eJob)) []:=by
 refine wS Zpa [.t 2] ?_
 unfold impl_State_all at H
 obtain ⟨xs2,h2,H⟩:=bB H
 refine wG [.u 9 (.ap _ _ _ _ fun _=>Z9 eJob h2),.u 12 (.ln _ _ fun _=>lm s1.runs (eRunT .rd))] fun q3=>?_
 refine wR (fun (i4:Nat) (v4:(List Job))=>⟨[(3,.sref 6),(11,.sl .rd 13 (s1.runs.map (eRunT .rd))),(12,.int .i64 (s1.runs.length:Int)),(13,.int .i64 (i4:Int))],[],[],[(6,⟨11,v4.map eJob,false⟩)]⟩) H (fun i4 x4 v4 I m k4 hxv4 hiv4 H N15=>?_) (fun v4 I m H=>?_)
 .unfold Zy5 at H
  refine wP ?_
  refine wt (ltT hiv4) ?_
  obtain ⟨xs5,h5,H⟩:=bB H
  refine wG [.u 15 (.ix _ _ _ fun _=>Z0 (eRunT .rd) (Z2 hxv4)),.u 21 (.ap _ _ _ _ fun _=>Z9 eJob h5),.w 22 (wi .i64 rfl hiv4 q3.1)] fun _=>?_
  exact wT (N15 _ H)
 .unfold Zx5 at H
  refine wP ?_
  refine wf (ltF s1.runs.length) ?_
  refine wP ?_
  replace H:=sI H; subst H
  exact wN [(2,.f)] [] [] [6] [] [⟨_,Zxi v4⟩]
def Zad:L :=
sR [.bx 1 (.t 0),.mv 2 (cB false)]
 (.seq (sR [lD 12 1 11 true,cQ 13 ZW6 [12],mV 11 13,eX 14 11 0,eX 15 11 1,.al 3 [.nl,.nl,.nl,.nl,.nl],.st (.t 3) (.t 14) 5,mV 4 15]
 (sR [mV 16 4,.un 17 (.t 16),mV 18 17,.g 18 false (fA 19 1 6),.g 18 false (lD 20 19 1 false),.g 18 false (.cq 21 Z6 [(.t 20),(kI 0),(kI 60)]),.g 18 false (.un 22 (.t 21)),.pk 23 (.t 18) (cB true) (.t 22),mV 24 23,.g 24 false (lD 25 1 11 true),.g 24 false (cQ 26 Zh7 [25]),.g 24 false (cQ 27 ZR8 [26]),.g 24 false (.un 28 (.t 27)),.pk 29 (.t 24) (cB true) (.t 28),mV 30 29,.g 30 false (fA 31 1 10),.g 30 false (lD 32 31 1 false),.g 30 false (.ln 33 (.t 32)),.g 30 false (.bi 34 .gtr (.t 33) (kI 300)),.pk 35 (.t 30) (cB true) (.t 34)]
 (.cond (.t 35) (.seq (rE 2 (cB false))
 gR)
 .skip)))
 (.seq (sR [fA 36 1 9,lD 37 36 1 false,.ln 38 (.t 37),.mv 39 (kI 0)]
 (.blk 0 (.loop (.gw (sR [bI 40 .lss 39 38]
 (.seq (.cond (.t 40) .skip
 (.exit 0))
 (.seq (.blk 1 (sR [iA 41 37 39 13,lD 42 41 13 true,.al 6 [.int .i64 0,.int .i64 0,.int .i64 0,.int .i64 0,.int .i64 0,.int .i64 0,.int .i64 0,.int .i64 0,.int .i64 0,.int .i64 0,.int .i64 0,.int .i64 0,.nl],.st (.t 6) (.t 42) 13]
 (.seq (sR [fA 43 6 12,lD 44 43 1 false,.ln 45 (.t 44),.mv 46 (kI 0)]
 (.blk 2 (.loop (.gw (sR [bI 47 .lss 46 45]
 (.seq (.cond (.t 47) .skip
 (.exit 2))
 (.seq (.blk 3 (sR [iA 48 44 46 1,lD 49 48 1 false,mV 8 49]
 (sR [fA 50 1 2,lD 51 50 1 false,mV 52 8,iA 53 51 52 1,lD 54 53 1 false,.un 55 (.t 54)]
 (.cond (.t 55) (.seq (rE 2 (cB false))
 gR)
 .skip))))
 (.reg [.bi 56 .add (.t 46) (kI 1),mV 46 56]))))))))
 (.seq (.rq 18 [fA 57 6 12,lD 58 57 1 false,cQ 59 Ze5 [58],.un 60 (.t 59),mV 61 60,.g 61 false (fA 62 1 0),.g 61 false (lD 63 62 2 true),.g 61 false (fA 64 1 0),.g 61 false (lD 65 64 2 true),.g 61 false (fA 66 6 12),.g 61 false (lD 67 66 1 false),.g 61 false (cQ 68 Z1a [65,67]),.g 61 false (cQ 69 ZQ3 [63,68]),.g 61 false (fA 70 6 0),.g 61 false (fA 71 70 10),.g 61 false (lD 72 71 1 false),.g 61 false (bI 73 .gtr 69 72),.pk 74 (.t 61) (cB true) (.t 73)])
 (.cond (.t 74) (.seq (rE 2 (cB false))
 gR)
 .skip)))))
 (.reg [.bi 75 .add (.t 39) (kI 1),mV 39 75]))))))))
 (.seq (sR [fA 76 1 10,lD 77 76 1 false,.ln 78 (.t 77),.mv 79 (kI 0)]
 (.blk 4 (.loop (.gw (sR [bI 80 .lss 79 78]
 (.seq (.cond (.t 80) .skip
 (.exit 4))
 (.seq (.blk 5 (sR [iA 81 77 79 3,lD 82 81 3 true,.al 10 [.int .i64 0,.int .i64 0,.int .i64 0],.st (.t 10) (.t 82) 3]
 (sR [fA 83 10 0,lD 84 83 1 false,.cq 85 Z6 [(.t 84),(kI 1),(kI 999)],.un 86 (.t 85),mV 87 86,.g 87 false (fA 88 10 1),.g 87 false (lD 89 88 1 false),.g 87 false (fA 90 1 7),.g 87 false (lD 91 90 1 false),.g 87 false (.cq 92 Z6 [(.t 89),(kI 0),(.t 91)]),.g 87 false (.un 93 (.t 92)),.pk 94 (.t 87) (cB true) (.t 93),mV 95 94,.g 95 false (fA 96 10 2),.g 95 false (lD 97 96 1 false),.g 95 false (.cq 98 Z6 [(.t 97),(kI 1),(kI 4)]),.g 95 false (.un 99 (.t 98)),.pk 100 (.t 95) (cB true) (.t 99)]
 (.cond (.t 100) (.seq (rE 2 (cB false))
 gR)
 .skip))))
 (.reg [.bi 101 .add (.t 79) (kI 1),mV 79 101]))))))))
 (.seq (rE 2 (cB true))
 gR))))
def Z64 (s1:State) (x8:Int) (_:Nat) (_:Unit) (k8:Unit -> Option Bool):Option Bool :=
 (idx s1.up x8).bind fun e9=>bif (!e9) then (some false) else (k8 ())
def Z54 (s1:State) (x6:Run) (k6:Unit -> Option Bool) (_:Unit):Option Bool :=
 (impl_areAscending x6.nodes).bind fun b10=>(bif (!b10) then some default else (impl_Lowest s1.topo x6.nodes)).bind fun n11=>(bif (!b10) then some default else (impl_level s1.topo n11)).bind fun n12=>bif ((!b10) || (decide (x6.job.level < n12))) then (some false) else (k6 ())
def Zt2 (s1:State) (x14:End) (_:Nat) (_:Unit) (k14:Unit -> Option Bool):Option Bool :=
 bif (((!(impl_within x14.id 1 999)) || (!(impl_within x14.t 0 s1.now))) || (!(impl_within x14.why 1 4))) then (some false) else (k14 ())
def Z34 (_:Unit):Option Bool :=
 some true
def Zu2 (s1:State) (x6:Run) (_:Nat) (_:Unit) (k6:Unit -> Option Bool):Option Bool :=
 rgl (Z64 s1) (Z54 s1 x6 k6) x6.nodes 0 ()
def Z44 (s1:State) (_:Unit):Option Bool :=
 rgl (Zt2 s1) Z34 s1.ends 0 ()
def impl_StateOk (s1:State):Option Bool :=
 (impl_RoomOf s1).bind fun y2=>(bif ((!y2.2) || (!(impl_within s1.depth 0 60))) then some default else (impl_State_all s1)).bind fun y3=>(bif ((!y2.2) || (!(impl_within s1.depth 0 60))) then some default else (impl_QueueOk y3)).bind fun b4=>bif ((((!y2.2) || (!(impl_within s1.depth 0 60))) || (!b4)) || (decide (300 < (s1.ends.length:Int)))) then (some false) else (rgl (Zu2 s1) (Z44 s1) s1.runs 0 ())
theorem Zgd {s1:State} {r:Bool} (H:impl_StateOk s1 = some r):Snd Tryz.prog ZQ8 [ZE .rd s1] (.bool r) []:=by
 refine wS Zad [.t 2] ?_
 unfold impl_StateOk at H
 obtain ⟨y2,h2,H⟩:=bB H
 obtain ⟨y3,h3,H⟩:=bB H
 obtain ⟨b4,h4,H⟩:=bB H
 refine wG [.c 13 (ZC8 h2),.g 21 [((!y2.2),false)] (.call _ _ _ _ _ (AEs.refl _) (fun _=>Z4 s1.depth 0 60)),.g 26 [(_,false)] (.call _ _ _ _ _ (AEs.refl _) (fun q=>Zta (bF q.1 h3))),.g 27 [(_,false)] (.call _ _ _ _ _ (AEs.refl _) (fun q=>Zhd (bF q.1 h4))),.g 33 [((((!y2.2) || (!(impl_within s1.depth 0 60))) || (!b4)),false)] (.ln _ _ fun _=>lm s1.ends eEnd)] fun _=>?_
 refine Wh_iH H (fun H=>?_) fun H=>?_
 .refine wP ?_
  replace H:=sI H; subst H
  exact wE [(2,.d)]
 .refine wG [.u 38 (.ln _ _ fun _=>lm s1.runs (eRunT .rd))] fun q5=>?_
  refine wR (fun (i6:Nat) (v6:Unit)=>⟨[(1,.ptr 1 0),(37,.sl .rd 13 (s1.runs.map (eRunT .rd))),(38,.int .i64 (s1.runs.length:Int)),(39,.int .i64 (i6:Int))],[],[(1,(ZE .rd s1).cells)],[]⟩) H (fun i6 x6 v6 I m k6 hxv6 hiv6 H N52=>?_) (fun v6 I m H=>?_)
  .unfold Zu2 at H
   refine wP ?_
   refine wt (ltT hiv6) ?_
   refine wG [.u 41 (.ix _ _ _ fun _=>Z0 (eRunT .rd) (Z2 hxv6)),.u 45 (.ln _ _ fun _=>lm x6.nodes eI)] fun q7=>?_
   refine wR (fun (i8:Nat) (v8:Unit)=>⟨[(1,.ptr 1 0),(6,.ptr 6 0),(37,.sl .rd 13 (s1.runs.map (eRunT .rd))),(38,.int .i64 (s1.runs.length:Int)),(39,.int .i64 (i6:Int)),(44,.sl .rd 1 (x6.nodes.map eI)),(45,.int .i64 (x6.nodes.length:Int)),(46,.int .i64 (i8:Int))],[],[(1,(ZE .rd s1).cells),(6,(eRunT .rd x6).cells)],[]⟩) H (fun i8 x8 v8 I m k8 hxv8 hiv8 H N35=>?_) (fun v8 I m H=>?_)
   .unfold Z64 at H
    refine wP ?_
    refine wt (ltT hiv8) ?_
    obtain ⟨e9,h9,H⟩:=bB H
    refine wG [.u 48 (.ix _ _ _ fun _=>Z0 eI (Z2 hxv8)),.u 53 (.ix _ _ _ fun _=>Z0 eBo h9)] fun _=>?_
    refine Wh_iH H (fun H=>?_) fun H=>?_
    .refine wP ?_
     replace H:=sI H; subst H
     exact wE [(2,.d)]
    .refine wG [.w 56 (wi .i64 rfl hiv8 q7.1)] fun _=>?_
     exact wT (N35 () H)
   .unfold Z54 at H
    refine wP ?_
    refine wf (ltF x6.nodes.length) ?_
    obtain ⟨b10,h10,H⟩:=bB H
    obtain ⟨n11,h11,H⟩:=bB H
    obtain ⟨n12,h12,H⟩:=bB H
    refine wG [.c 59 (Zi8 h10),.g 68 [(_,false)] (.call _ _ _ _ _ (AEs.refl _) (fun q=>Z3f (bF q.1 h11))),.g 69 [(_,false)] (.call _ _ _ _ _ (AEs.refl _) (fun q=>Zs4 (bF q.1 h12)))] fun _=>?_
    refine Wh_iH H (fun H=>?_) fun H=>?_
    .refine wP ?_
     replace H:=sI H; subst H
     exact wE [(2,.d)]
    .refine wG [.w 75 (wi .i64 rfl hiv6 q5.1)] fun _=>?_
     exact wT (N52 () H)
  .unfold Z44 at H
   refine wP ?_
   refine wf (ltF s1.runs.length) ?_
   refine wG [.u 78 (.ln _ _ fun _=>lm s1.ends eEnd)] fun q13=>?_
   refine wR (fun (i14:Nat) (v14:Unit)=>⟨[(1,.ptr 1 0),(77,.sl .rd 3 (s1.ends.map eEnd)),(78,.int .i64 (s1.ends.length:Int)),(79,.int .i64 (i14:Int))],[],[(1,(ZE .rd s1).cells)],[]⟩) H (fun i14 x14 v14 I m k14 hxv14 hiv14 H N74=>?_) (fun v14 I m H=>?_)
   .unfold Zt2 at H
    refine wP ?_
    refine wt (ltT hiv14) ?_
    refine wG [.u 81 (.ix _ _ _ fun _=>Z0 eEnd (Z2 hxv14)),.c 85 (Z4 x14.id 1 999),.g 92 [((!(impl_within x14.id 1 999)),false)] (.call _ _ _ _ _ (AEs.refl _) (fun _=>Z4 x14.t 0 s1.now)),.g 98 [(((!(impl_within x14.id 1 999)) || (!(impl_within x14.t 0 s1.now))),false)] (.call _ _ _ _ _ (AEs.refl _) (fun _=>Z4 x14.why 1 4))] fun _=>?_
    refine Wh_iH H (fun H=>?_) fun H=>?_
    .refine wP ?_
     replace H:=sI H; subst H
     exact wE [(2,.d)]
    .refine wG [.w 101 (wi .i64 rfl hiv14 q13.1)] fun _=>?_
     exact wT (N74 () H)
   .unfold Z34 at H
    refine wP ?_
    refine wf (ltF s1.ends.length) ?_
    refine wP ?_
    replace H:=sI H; subst H
    exact wE [(2,.d)]
theorem ZHg (r:Room) (j:Job) (from_ to_:Int) (nodes:List Int):Zz r j from_ to_ nodes = bif diffOk r j nodes then Z58 r j.need j.lic from_ to_ nodes else some ZN2:=by
 unfold Zz diffOk
 rw [ZB8,bS,Zy4]
 cases hr:roomOk r with
 | false=>rfl
 | true =>
  have hR:=Zc6.1 hr
  rw [Z29 hR.small.nodes]
  cases spec_JobOk j with
  | false=>rfl
  | true =>
   simp only [Bool.not_true,Bool.or_self,cond_false,Bool.true_and,bS]
   cases (decide ((nodes.length:Int) = j.nodes) && Zi r.topo nodes && decide nodes.Nodup) with
   | false=>rfl
   | true =>
    simp only [Bool.not_true,Bool.or_self,cond_false,cond_true]
    rw [ZHb hR.small,bS]
    unfold Z58 ZY ZX
    simp only [fun p f t v=>(Z59 p f t v).1]
    rfl
def idsOk (l:List Job):Bool:=decide (l.map Job.id).Nodup
noncomputable def queueOk (l:List Job):Bool:=decide (l.length <= 60) && l.all spec_JobOk && idsOk l
theorem ZIi {l:List Job} {i:Nat} {x:Job} (hx:l[i]? = some x):((l.take (i + 1)).map Job.id).Nodup ↔ ((l.take i).map Job.id).Nodup /\ ∀ y ∈ l.take i,y.id ≠ x.id:=by
 obtain ⟨hi,rfl⟩:=yB hx
 rw [List.take_succ_eq_append_getElem hi,List.map_append,List.nodup_append]
 constructor
 .intro h; exact ⟨h.1,fun y hy e=>h.2.2 _ (List.mem_map_of_mem hy) _ (List.mem_singleton.2 rfl) e⟩
 .intro h; exact ⟨h.1,by simp,fun a ha b hb e=>by
   obtain ⟨y,hy,rfl⟩:=List.mem_map.1 ha
   rw [show b = l[i].id by simpa using hb] at e
   exact h.2 y hy e⟩
theorem Z9f {γ:Type} {bd:Job -> Nat -> Unit -> (Unit -> Option γ) -> Option γ} {kk:Unit -> Option γ} {r:Option γ} {l:List Job}
  (hb:∀ i x k,l[i]? = some x -> bd x i () k = bif (!spec_JobOk x) || (l.take i).any (fun y=>y.id == x.id) then r else k ()):rgl bd kk l 0 () = bif l.all spec_JobOk && idsOk l then kk () else r:=by
 refine ZD1 (fun i (_:Unit)=>(∀ y ∈ l.take i,spec_JobOk y = true) /\ ((l.take i).map Job.id).Nodup) (fun o=>o = bif l.all spec_JobOk && idsOk l then kk () else r) (fun i x b k hx hI hk=>?_) (fun b hI=>?_) (by simp)
 .have hil:=(yB hx).1
  rw [hb i x k hx]
  cases hj:spec_JobOk x with
  | false =>
   have:l.all spec_JobOk = false:=List.all_eq_false.2 ⟨x,yE hx,by rw [hj]; simp⟩
   rw [this]; rfl
  | true =>
   cases hc:(l.take i).any (fun y=>y.id == x.id) with
   | true =>
    obtain ⟨y,hy,he⟩:=List.any_eq_true.1 hc
    have:idsOk l = false:=by
     unfold idsOk
     rw [decide_eq_false_iff_not]
     intro q
     have q2:((l.take (i + 1)).map Job.id).Nodup:=q.sublist ((List.take_sublist _ _).map _)
     exact ((ZIi hx).1 q2).2 y hy (by simpa using he)
    rw [this,Bool.and_false]; rfl
   | false =>
    refine hk () ⟨fun y hy=>?_,(ZIi hx).2 ⟨hI.2,fun y hy e=>?_⟩⟩
    .obtain ⟨hi,rfl⟩:=yB hx
     rw [List.take_succ_eq_append_getElem hi] at hy
     rcases List.mem_append.1 hy with hy | hy
     .exact hI.1 y hy
     .rw [List.mem_singleton.1 hy]; exact hj
    .have:=List.any_eq_false.1 hc y hy
     simp [e] at this
 .rw [List.take_of_length_le (Nat.le_refl _)] at hI
  rw [List.all_eq_true.2 hI.1]
  unfold idsOk
  rw [decide_eq_true hI.2]; rfl
theorem Zdc (l:List Job):spec_QueueOk l = some (queueOk l):=by
 unfold spec_QueueOk queueOk
 by_cases h:60 < l.length
 .simp [show (60:Int) < l.length by omega,show ¬ l.length <= 60 by omega]
 .rw [show decide ((60:Int) < (l.length:Int)) = false by simp; omega,show decide (l.length <= 60) = true by simp; omega]
  simp only [cond_false,Bool.true_and]
  rw [Z9f (r:=some false) (fun i x k hx=>?_)]
  .unfold ZY3
   cases (l.all spec_JobOk && idsOk l) <;> rfl
  .have hil:=(yB hx).1
   unfold ZZ3
   cases spec_JobOk x with
   | false=>rfl
   | true =>
    simp only [Bool.not_true,cond_false,Bool.false_or]
    have h:=ZT8 (bd:=ZC1 l i x k) (fun (i:Nat) (_:Unit)=>(i:Int)) (n:=i)
     (B:=fun m _ _ k=>bif (match l[m]? with | some e=>e.id == x.id | none=>false) then some false else k ()) (kk:=fun _=>k ()) (fun m st k hm=>by
      obtain ⟨e,he⟩:∃ e,l[m]? = some e:=⟨_,yA (by omega)⟩
      have hlt:(m:Int) < (i:Int):=by omega
      simp only [ZC1,hlt,decide_true,cond_true,Zc,he,bS,Zw1 (n:=m) (by omega)])
     (fun m st k hm=>by
      have hlt:¬ (m:Int) < (i:Int):=by omega
      simp only [ZC1,hlt,decide_false,cond_false]) 9223372036854775807 0 () (by omega)
    refine h.trans ?_
    rw [ZK1 (r:=some false) (p:=fun (m:Nat)=>match l[m]? with | some e=>e.id == x.id | none=>false) (fun m _ i k=>rfl)]
    have e:(List.range' 0 (i - 0)).any (fun (m:Nat)=>match l[m]? with | some e=>e.id == x.id | none=>false) = (l.take i).any (fun y=>y.id == x.id):=by
     rw [Bool.eq_iff_iff,List.any_eq_true,List.any_eq_true]
     constructor
     .rintro ⟨m,hm,hq⟩
      obtain ⟨j,hj,rfl⟩:=List.mem_range'.1 hm
      have hlt:0 + 1 * j < l.length:=by omega
      rw [yA hlt] at hq
      exact ⟨_,List.mem_take_iff_getElem.2 ⟨0 + 1 * j,by omega,rfl⟩,hq⟩
     .rintro ⟨y,hy,hq⟩
      obtain ⟨m,hm,rfl⟩:=List.mem_take_iff_getElem.1 hy
      exact ⟨m,List.mem_range'.2 ⟨m,by omega,by omega⟩,by rw [yA (by omega)]; exact hq⟩
    rw [e]
theorem Z7i (l:List Job) (c:Job):Z1 l c = some (l.any fun y=>y.id == c.id):=by
 unfold Z1 Z5
 have:∃ r:Int,rgl (Z3 c) Zb l 0 () = some r /\ decide (0 <= r) = l.any fun y=>y.id == c.id:=by
  refine ZD1 (fun i (_:Unit)=>∀ y ∈ l.take i,(y.id == c.id) = false) (fun o=>∃ r:Int,o = some r /\ decide (0 <= r) = l.any fun y=>y.id == c.id) (fun i x b k hx hI hk=>?_) (fun b hI=>?_) (by simp)
  .unfold Z3 impl_QueueOk_1
   cases h:(x.id == c.id) with
   | true=>exact ⟨i,rfl,by rw [List.any_eq_true.2 ⟨x,yE hx,h⟩]; simp⟩
   | false =>
    refine hk () fun y hy=>?_
    obtain ⟨hi,rfl⟩:=yB hx
    rw [List.take_succ_eq_append_getElem hi] at hy
    rcases List.mem_append.1 hy with hy | hy
    .exact hI y hy
    .rw [List.mem_singleton.1 hy]; exact h
  .rw [List.take_of_length_le (Nat.le_refl _)] at hI
   exact ⟨-1,rfl,by rw [List.any_eq_false.2 fun y hy=>by rw [hI y hy]; simp]; rfl⟩
 obtain ⟨r,h1,h2⟩:=this
 rw [h1,bS,h2]
theorem Zid (l:List Job):impl_QueueOk l = some (queueOk l):=by
 unfold impl_QueueOk queueOk
 rw [Z9f (r:=some false) (fun i x k hx=>?_)]
 .unfold Z74
  have e:decide ((l.length:Int) <= 60) = decide (l.length <= 60):=by rw [Bool.eq_iff_iff]; simp; omega
  rw [e]
  cases l.all spec_JobOk <;> cases idsOk l <;> cases decide (l.length <= 60) <;> rfl
 .have hil:=(yB hx).1
  unfold Z84
  rw [Zy4,ZXg (by omega)]
  cases spec_JobOk x with
  | false=>rfl
  | true =>
   simp only [Bool.not_true,cond_false,bS,Z7i,Bool.false_or]
theorem Zjd (v:Vec):impl_ProfNew v = spec_ProfNew v:=rfl
def Z85 (t:Topo) (up:List Bool) (lic:Vec):Room:=⟨t,up,t.nodes.map fun x=>(spec_ProfNew x.cap).1,(spec_ProfNew lic).1⟩
theorem Zqf {v:Vec} (h:spec_VecOk v = true):ProfP (spec_ProfNew v).1:=by
 unfold spec_ProfNew
 rw [h]
 simp only [Bool.not_true,cond_false]
 exact ⟨by simp,by simp,fun x hx=>by simp at hx; rw [← hx],fun x hx=>by simp at hx; subst hx; exact ⟨rfl,h⟩,fun i x y hx hy=>by simp at hy⟩
theorem ZMa {t:Topo} (h:TopoP t) {up:List Bool} (hu:up.length = t.nodes.length) {lic:Vec} (hl:spec_VecOk lic = true):RoomP (Z85 t up lic) :=
  ⟨h,hu,by simp [Z85],fun p hp=>by
    obtain ⟨x,hx,rfl⟩:=List.mem_map.1 hp
    exact Zqf (h.node x hx).2.2.2,Zqf hl⟩
theorem ZLg {t:Topo} (h:TopoP t) {up:List Bool} (hu:up.length = t.nodes.length) (lic:Vec):impl_empty t up lic = some (Z85 t up lic):=by
 have:=h.tree.le; have:=h.nodes
 unfold impl_empty impl_copyTopo impl_copyInts
 rw [Z8 (by simp; omega),bS,bS,Z8 (by simp; omega),bS,bS,Z8 (by simp; omega),bS]
 rw [Za1 (bd:=ZW5) (bs:=24) (p:=fun _=>true) (f:=fun x=>(spec_ProfNew x.cap).1) (fun x hx i b k=>rfl) (by simp; omega)]
 unfold ZV5 Z85
 simp [List.filter_eq_self.2,Zjd]
theorem ZXa (s:State):spec_l06Empty s = some (bif topoOk s.topo && decide (s.up.length = s.topo.nodes.length) && spec_VecOk s.lic then (Z85 s.topo s.up s.lic,true) else ZN2):=by
 unfold spec_l06Empty
 rw [Zc2,bS,Z2g]
 cases ht:topoOk s.topo with
 | false=>rfl
 | true =>
 cases hu:decide (s.up.length = s.topo.nodes.length) with
 | false=>rfl
 | true =>
 cases hl:spec_VecOk s.lic with
 | false=>rfl
 | true =>
  have h:=Z86.1 ht
  have hu:=of_decide_eq_true hu
  have:=h.nodes
  simp only [Bool.not_true,Bool.or_self,cond_false,Bool.and_self,cond_true]
  rw [Za1 (bd:=Zb3) (bs:=24) (p:=fun _=>true) (f:=fun x=>(spec_ProfNew x.cap).1) (fun x hx i b k=>rfl) (by simp; omega)]
  unfold Za3
  rw [show (s.topo.nodes.filter fun _=>true) = s.topo.nodes from List.filter_eq_self.2 fun _ _=>rfl,List.nil_append]
  have hR:=ZMa h hu hl
  unfold Z85 at hR
  rw [Zn7 hR.small,bS]
  rfl
def runOk (s:State) (x:Run):Bool:=time x.t && decide (x.t <= s.now) && decide (s.now < x.t + x.job.wall) && decide (x.t + x.job.wall <= 1000000000)
noncomputable def Z88 (s:State) (x:Run) (v:Room):Option (Room × Bool):=bif diffOk v x.job x.nodes && runOk s x then Z58 v x.job.need x.job.lic s.now (x.t + x.job.wall) x.nodes else some ZN2
theorem ZAf {s:State} (hs:time s.now = true) (x:Run) (i:Nat) (v:Room) (k:Room -> Option (Room × Bool)):ZI2 s x i v k = (Z88 s x v).bind fun y=>bif !y.2 then some ZN2 else k y.1:=by
 have hn:=Zt3.1 hs
 unfold ZI2 Z88
 rw [Zl7,bS,Zl1]
 cases hd:diffOk v x.job x.nodes with
 | false=>rfl
 | true =>
  have hj:spec_JobOk x.job = true:=by unfold diffOk at hd; simp only [yD] at hd; exact hd.1.1.1.2
  have hj':=ZN3.1 hj
  unfold runOk
  by_cases ht:time x.t = true /\ x.t <= s.now
  .have ht1:=Zt3.1 ht.1
   rw [ht.1,Zh1 (n:=x.t + x.job.wall) (by omega),show decide (s.now < x.t) = false by simp; omega,show decide (x.t <= s.now) = true by simpa using ht.2]
   by_cases h3:s.now < x.t + x.job.wall
   .rw [show decide (x.t + x.job.wall <= s.now) = false by simp; omega,show decide (s.now < x.t + x.job.wall) = true by simpa using h3]
    by_cases h4:x.t + x.job.wall <= 1000000000
    .rw [show decide (1000000000 < x.t + x.job.wall) = false by simp; omega,show decide (x.t + x.job.wall <= 1000000000) = true by simpa using h4]
     simp only [Bool.not_true,Bool.or_self,cond_false,Bool.and_self,cond_true]
     rw [Zh1 (n:=x.t + x.job.wall - s.now) (by omega),Zbc]
     have e:diffOk v ⟨x.job.id,x.job.prio,x.job.nodes,x.job.need,x.job.lic,x.t + x.job.wall - s.now,x.job.level⟩ x.nodes = true:=by
      have hj2:spec_JobOk ⟨x.job.id,x.job.prio,x.job.nodes,x.job.need,x.job.lic,x.t + x.job.wall - s.now,x.job.level⟩ = true:=by
       rw [ZN3]; simp only; refine ⟨hj'.1,hj'.2.1,hj'.2.2.1,hj'.2.2.2.1,hj'.2.2.2.2.1,by omega,hj'.2.2.2.2.2.2⟩
      unfold diffOk at hd ⊢
      rw [hj] at hd
      rw [hj2]; exact hd
     rw [e,hs]
     simp only [Bool.and_self,cond_true]
     rw [show s.now + (x.t + x.job.wall - s.now) = x.t + x.job.wall by omega,Zh1 (by omega)]
     rfl
    .rw [show decide (1000000000 < x.t + x.job.wall) = true by simp; omega,show decide (x.t + x.job.wall <= 1000000000) = false by simpa using h4]
     simp [ZN2]
   .rw [show decide (x.t + x.job.wall <= s.now) = true by simp; omega,show decide (s.now < x.t + x.job.wall) = false by simpa using h3]
    simp [ZN2]
  .have:(time x.t && decide (x.t <= s.now)) = false:=by
    rw [Bool.eq_false_iff]; intro q; simp only [yD,decide_eq_true_eq] at q; exact ht q
   rw [this]
   have h2:(!(time x.t) || decide (s.now < x.t)) = true:=by
    cases hx:time x.t with
    | false=>rfl
    | true =>
     have:¬ x.t <= s.now:=fun q=>ht ⟨hx,q⟩
     simp; omega
   simp only [Bool.not_true,Bool.false_or,h2,Bool.true_or,cond_true,Bool.false_and,Bool.and_false,cond_false,bS]
   rfl
theorem ZGg {s:State} (hs:time s.now = true) (x:Run) (i:Nat) (v:Room) (k:Room -> Option (Room × Bool)):Z03 s x i v k = (Z88 s x v).bind fun y=>bif !y.2 then some ZN2 else k y.1:=by
 have hn:=Zt3.1 hs
 unfold Z03 Z88
 rw [Zy4,ZHg]
 cases hj:spec_JobOk x.job with
 | false =>
  have hd:diffOk v x.job x.nodes = false:=by unfold diffOk; rw [hj]; simp
  rw [hd]; rfl
 | true =>
  have hj':=ZN3.1 hj
  by_cases h1:0 <= x.t /\ x.t <= s.now
  .rw [Zh1 (n:=x.t + x.job.wall) (by omega),Zh1 (n:=s.now + 1) (by omega)]
   have e1:impl_within x.t 0 s.now = true:=by simp [impl_within]; exact h1
   have e2:impl_within (x.t + x.job.wall) (s.now + 1) 1000000000 = (decide (s.now < x.t + x.job.wall) && decide (x.t + x.job.wall <= 1000000000)):=by
    unfold impl_within; congr 1
   have e3:time x.t = true:=by rw [Zt3]; omega
   unfold runOk
   rw [e1,e2,e3,show decide (x.t <= s.now) = true by simpa using h1.2]
   simp only [Bool.not_true,Bool.false_or,Bool.and_self,Bool.true_and]
   cases (decide (s.now < x.t + x.job.wall) && decide (x.t + x.job.wall <= 1000000000)) <;> cases diffOk v x.job x.nodes <;> rfl
  .have e1:impl_within x.t 0 s.now = false:=by
    unfold impl_within; rw [Bool.eq_false_iff]; intro q; simp only [yD,decide_eq_true_eq] at q; exact h1 q
   have e2:runOk s x = false:=by
    unfold runOk; rw [Bool.eq_false_iff]; intro q; simp only [yD,decide_eq_true_eq,Zt3] at q; exact h1 ⟨q.1.1.1.1,q.1.1.2⟩
   rw [e1,e2]
   simp [ZN2]
noncomputable def Zj9 (s:State):Option (Room × Bool):=rgl (fun x _ v k=>(Z88 s x v).bind fun y=>bif !y.2 then some ZN2 else k y.1) (fun v=>some (v,true)) s.runs 0 (Z85 s.topo s.up s.lic)
noncomputable def Zm6 (s:State):Bool:=topoOk s.topo && decide (s.up.length = s.topo.nodes.length) && spec_VecOk s.lic && time s.now
theorem Zp8 (s:State):spec_RoomOf s = bif Zm6 s then Zj9 s else some ZN2:=by
 unfold spec_RoomOf Zm6
 rw [ZXa,bS,Zl1]
 cases (topoOk s.topo && decide (s.up.length = s.topo.nodes.length) && spec_VecOk s.lic) with
 | false=>rfl
 | true =>
  cases hs:time s.now with
  | false=>rfl
  | true =>
   simp only [cond_true,Bool.not_true,Bool.or_self,cond_false,Bool.and_self]
   unfold Zj9
   exact Zm9 (fun i x b k _=>ZAf hs x i b k) fun b=>rfl
theorem ZD8 (s:State):impl_RoomOf s = spec_RoomOf s:=by
 rw [Zp8]
 unfold impl_RoomOf Zm6
 rw [ZZ5,Zc2,bS,Z2g,Z12,ZU5]
 cases ht:topoOk s.topo with
 | false=>rfl
 | true =>
 cases hu:decide (s.up.length = s.topo.nodes.length) with
 | false=>rfl
 | true =>
 cases hl:spec_VecOk s.lic with
 | false=>rfl
 | true =>
 cases hs:time s.now with
 | false=>rfl
 | true =>
  simp only [Bool.not_true,Bool.or_self,cond_false,Bool.and_self,cond_true]
  rw [ZLg (Z86.1 ht) (of_decide_eq_true hu),bS]
  unfold Zj9
  exact Zm9 (fun i x b k _=>ZGg hs x i b k) fun b=>rfl
structure RunsP (s:State):Prop where
 job:∀ x ∈ s.runs,spec_JobOk x.job = true /\ (x.nodes.length:Int) = x.job.nodes /\ Zi s.topo x.nodes = true /\ x.nodes.Nodup /\ runOk s x = true
theorem ZNf {s:State} (h:Zm6 s = true):∃ q,Zj9 s = some q /\ (q.2 = true -> RoomP q.1 /\ q.1.topo = s.topo /\ q.1.up = s.up /\ RunsP s):=by
 unfold Zm6 at h
 simp only [yD,decide_eq_true_eq,Z86] at h
 unfold Zj9
 refine ZD1 (fun i (v:Room)=>RoomP v /\ v.topo = s.topo /\ v.up = s.up /\ ∀ x ∈ s.runs.take i,spec_JobOk x.job = true /\ (x.nodes.length:Int) = x.job.nodes /\ Zi s.topo x.nodes = true /\ x.nodes.Nodup /\ runOk s x = true) (fun o=>∃ q:Room × Bool,o = some q /\ (q.2 = true -> RoomP q.1 /\ q.1.topo = s.topo /\ q.1.up = s.up /\ RunsP s)) (fun i x v k hx hI hk=>?_) (fun v hI=>?_) ⟨ZMa h.1.1.1 h.1.1.2 h.1.2,rfl,rfl,by simp⟩
 .obtain ⟨h1,h2,h3,h4⟩:=hI
  unfold Z88
  cases hd:(diffOk v x.job x.nodes && runOk s x) with
  | false=>exact ⟨ZN2,rfl,fun h=>by cases h⟩
  | true =>
   simp only [yD] at hd
   have hd1:=hd.1
   unfold diffOk at hd1
   simp only [yD,decide_eq_true_eq] at hd1
   obtain ⟨q,q1,q2⟩:=Zyf h1 x.job.need x.job.lic s.now (x.t + x.job.wall) hd1.1.2
   simp only [cond_true]
   rw [q1,bS]
   cases hq:q.2 with
   | false=>exact ⟨ZN2,rfl,fun h=>by cases h⟩
   | true =>
    obtain ⟨a1,a2,a3⟩:=q2 hq
    refine hk q.1 ⟨a1,a2.trans h2,a3.trans h3,fun y hy=>?_⟩
    obtain ⟨hi,rfl⟩:=yB hx
    rw [List.take_succ_eq_append_getElem hi] at hy
    rcases List.mem_append.1 hy with hy | hy
    .exact h4 y hy
    .rw [List.mem_singleton.1 hy]
     exact ⟨hd1.1.1.1.2,hd1.1.1.2,by rw [← h2]; exact hd1.1.2,hd1.2,hd.2⟩
 .obtain ⟨h1,h2,h3,h4⟩:=hI
  rw [List.take_of_length_le (Nat.le_refl _)] at h4
  exact ⟨_,rfl,fun _=>⟨h1,h2,h3,⟨h4⟩⟩⟩
theorem Z07 (s:State):∃ q,spec_RoomOf s = some q /\ (q.2 = true -> Zm6 s = true /\ RoomP q.1 /\ q.1.topo = s.topo /\ q.1.up = s.up /\ RunsP s):=by
 rw [Zp8]
 cases h:Zm6 s with
 | false=>exact ⟨ZN2,rfl,fun h=>by cases h⟩
 | true =>
  obtain ⟨q,h1,h2⟩:=ZNf h
  exact ⟨q,h1,fun h=>⟨rfl,h2 h⟩⟩
def allJobs (s:State):List Job:=s.queue ++ s.runs.map Run.job
theorem Z6c {s:State} (h:s.queue.length + s.runs.length <= 1048576):spec_l06Jobs s = some (allJobs s):=by
 unfold spec_l06Jobs
 rw [Z8 (by simp; omega),bS,Za1 (bd:=ZS3) (bs:=88) (p:=fun _=>true) (f:=Run.job) (fun x hx i b k=>rfl) (by simp; omega)]
 unfold ZR3 allJobs
 simp [List.filter_eq_self.2]
theorem Zua (s:State):impl_State_all s = spec_l06Jobs s:=rfl
def AscP (l:List Int):Prop:=∀ (i:Nat) (x y:Int),l[i]? = some x -> l[i + 1]? = some y -> x < y
open Classical in
noncomputable def ascB (l:List Int):Bool:=decide (AscP l)
theorem Z2c {l:List Int}:ascB l = true ↔ AscP l:=by unfold ascB; simp
theorem Zj8 {l:List Int} (hl:l.length <= 1048576):impl_areAscending l = some (ascB l):=by
 unfold impl_areAscending
 have h:=ZT8 (bd:=ZL l) (fun (i:Nat) (_:Unit)=>((i + 1:Nat):Int)) (n:=l.length - 1)
  (B:=fun x _ _ k=>bif (match l[x]?,l[x + 1]? with | some a,some b=>decide (b <= a) | _,_=>true) then some false else k ()) (kk:=fun _=>some true) (fun i st k hi=>by
   obtain ⟨a,ha⟩:∃ e,l[i]? = some e:=⟨_,yA (by omega)⟩
   obtain ⟨b,hb⟩:∃ e,l[i + 1]? = some e:=⟨_,yA (by omega)⟩
   have hlt:((i + 1:Nat):Int) < (l.length:Int):=by omega
   simp only [ZL,hlt,decide_true,cond_true,ZQb (n:=i + 1) (by omega) (by omega),Nat.add_sub_cancel,Zc,ha,hb,bS,Zw1 (n:=i + 1) (by omega)])
  (fun i st k hi=>by
   have hlt:¬ ((i + 1:Nat):Int) < (l.length:Int):=by omega
   simp only [ZL,hlt,decide_false,cond_false]) 9223372036854775807 0 () (by omega)
 refine h.trans ?_
 rw [ZK1 (r:=some false) (p:=fun (x:Nat)=>match l[x]?,l[x + 1]? with | some a,some b=>decide (b <= a) | _,_=>true) (fun x _ i k=>rfl)]
 cases hany:(List.range' 0 (l.length - 1 - 0)).any (fun (x:Nat)=>match l[x]?,l[x + 1]? with | some a,some b=>decide (b <= a) | _,_=>true) with
 | true =>
  obtain ⟨x,hx,hq⟩:=List.any_eq_true.1 hany
  obtain ⟨j,hj,rfl⟩:=List.mem_range'.1 hx
  obtain ⟨a,ha⟩:∃ e,l[0 + 1 * j]? = some e:=⟨_,yA (by omega)⟩
  obtain ⟨b,hb⟩:∃ e,l[0 + 1 * j + 1]? = some e:=⟨_,yA (by omega)⟩
  rw [ha,hb] at hq
  have:ascB l = false:=by
   rw [Bool.eq_false_iff]
   intro q
   have:=Z2c.1 q _ a b ha hb
   simp at hq; omega
  rw [this]; rfl
 | false =>
  have:ascB l = true:=Z2c.2 fun i x y hx hy=>by
   have hlt:=(yB hy).1
   have:=List.any_eq_false.1 hany i (List.mem_range'.2 ⟨i,by omega,by omega⟩)
   rw [hx,hy] at this
   simpa using this
  rw [this]; rfl
noncomputable def lowN (t:Topo) (l:List Int):Nat:=((spec_Lowest t l).getD 0).toNat
theorem ZPj {t:Topo} {l:List Int} (h:Zi t l = true) (hne:l ≠ []):lowN t l < t.parents.length /\ spec_Lowest t l = some (lowN t l:Int) /\ impl_Lowest t l = some (lowN t l:Int):=by
 obtain ⟨s,h1,h2,h3⟩:=Z9i h hne
 have:lowN t l = s:=by unfold lowN; rw [h2]; simp
 rw [this]; exact ⟨h1,h2,h3⟩
def isUp (s:State) (n:Int):Bool:=(idx s.up n).getD false
noncomputable def runFit (s:State) (x:Run):Bool:=x.nodes.all (isUp s) && ascB x.nodes && decide (lev s.topo (lowN s.topo x.nodes) <= x.job.level)
def endOk (s:State) (e:End):Bool:=(decide (1 <= e.id) && decide (e.id <= 999)) && (decide (0 <= e.t) && decide (e.t <= s.now)) && (decide (1 <= e.why) && decide (e.why <= 4))
noncomputable def stateOk (s:State):Bool:=((spec_RoomOf s).getD ZN2).2 && (decide (0 <= s.depth) && decide (s.depth <= 60)) && queueOk (allJobs s) && decide (s.ends.length <= 300) && s.runs.all (runFit s) && s.ends.all (endOk s)
theorem Zph {a b:Int}:decide (b < a) = !decide (a <= b):=by rw [Bool.eq_iff_iff]; simp
theorem Zch {s:State} (_:TopoP s.topo) (hu:s.up.length = s.topo.nodes.length) (hR:RunsP s) {x:Run} (hx:x ∈ s.runs) :
  x.nodes ≠ [] /\ Zi s.topo x.nodes = true /\ x.nodes.length <= 24 /\ ∀ n ∈ x.nodes,∃ b,idx s.up n = some b:=by
 obtain ⟨h1,h2,h3,_,_⟩:=hR.job x hx
 have hj:=(ZN3.1 h1).2.2.1
 refine ⟨fun e=>by rw [e] at h2; simp at h2; omega,h3,by omega,fun n hn=>?_⟩
 have:=(Zf.1 h3).2 n hn
 obtain ⟨b,q,_⟩:=ZZb (l:=s.up) (i:=n) this.1 (by rw [hu]; exact this.2)
 exact ⟨b,q⟩
theorem Zzf {s:State} (hT:TopoP s.topo) (hu:s.up.length = s.topo.nodes.length) (hR:RunsP s) {x:Run} (hx:x ∈ s.runs) (k:Unit -> Option Bool) (i:Nat):Zn2 s x i () k = bif !runFit s x then some false else k ():=by
 obtain ⟨h1,h2,h3,h4⟩:=Zch hT hu hR hx
 obtain ⟨l1,l2,l3⟩:=ZPj h2 h1
 unfold Zn2
 have hk:ZQ s x k () = bif decide (lev s.topo (lowN s.topo x.nodes) <= x.job.level) then k () else some false:=by
  unfold ZQ
  rw [l2,bS,Zd1 hT l1,bS,Zph]
  cases decide (lev s.topo (lowN s.topo x.nodes) <= x.job.level) <;> rfl
 have:rgl (Zo2 s x) (ZQ s x k) x.nodes 0 () = bif x.nodes.all (isUp s) && ascB x.nodes then ZQ s x k () else some false:=by
  refine ZD1 (fun i (_:Unit)=>(∀ j n,j < i -> x.nodes[j]? = some n -> isUp s n = true) /\ ∀ j a b,j + 1 < i -> x.nodes[j]? = some a -> x.nodes[j + 1]? = some b -> a < b) (fun o=>o = bif x.nodes.all (isUp s) && ascB x.nodes then ZQ s x k () else some false) (fun i n b kc hi hI hkc=>?_) (fun b hI=>?_) ⟨fun j n h=>by omega,fun j a b h=>by omega⟩
  .have hil:=(yB hi).1
   obtain ⟨u,hu'⟩:=h4 n (yE hi)
   have hup:isUp s n = u:=by unfold isUp; rw [hu']; rfl
   unfold Zo2
   rw [hu',bS]
   cases u with
   | false =>
    have:x.nodes.all (isUp s) = false:=List.all_eq_false.2 ⟨n,yE hi,by rw [hup]; simp⟩
    rw [this]; rfl
   | true =>
    have new:∀ j m,j < i + 1 -> x.nodes[j]? = some m -> isUp s m = true:=by
     intro j m hj hm
     by_cases e:j = i
     .subst e; rw [hi] at hm; cases hm; exact hup
     .exact hI.1 j m (by omega) hm
    by_cases h0:i = 0
    .subst h0
     exact hkc () ⟨new,fun j a b hj=>by omega⟩
    .have hgt:decide ((0:Int) < (i:Int)) = true:=by simp; omega
     obtain ⟨q,hq⟩:∃ q,x.nodes[i - 1]? = some q:=⟨_,yA (by omega)⟩
     rw [hgt,ZQb (by omega) (by omega)]
     simp only [Bool.not_true,cond_false,cond_true,Bool.false_or,Bool.true_and,Zc,hq,bS]
     by_cases h5:n <= q
     .have:ascB x.nodes = false:=by
       rw [Bool.eq_false_iff]
       intro w
       have:=Z2c.1 w (i - 1) q n hq (by rw [show i - 1 + 1 = i by omega]; exact hi)
       omega
      rw [this,Bool.and_false]; simp [h5]
     .simp only [h5,decide_false,cond_false]
      refine hkc () ⟨new,fun j a b hj ha hb=>?_⟩
      by_cases e:j + 1 = i
      .have:j = i - 1:=by omega
       subst this
       rw [hq] at ha; cases ha
       rw [show i - 1 + 1 = i by omega,hi] at hb; cases hb
       omega
      .exact hI.2 j a b (by omega) ha hb
  .have e1:x.nodes.all (isUp s) = true:=List.all_eq_true.2 fun n hn=>by
    obtain ⟨j,hj⟩:=List.getElem?_of_mem hn
    exact hI.1 j n (yB hj).1 hj
   have e2:ascB x.nodes = true:=Z2c.2 fun j a b ha hb=>hI.2 j a b (yB hb).1 ha hb
   rw [e1,e2]; rfl
 rw [this,hk]
 unfold runFit
 cases x.nodes.all (isUp s) <;> cases ascB x.nodes <;> cases decide (lev s.topo (lowN s.topo x.nodes) <= x.job.level) <;> rfl
theorem impl_run {s:State} (hT:TopoP s.topo) (hu:s.up.length = s.topo.nodes.length) (hR:RunsP s) {x:Run} (hx:x ∈ s.runs) (k:Unit -> Option Bool) (i:Nat):Zu2 s x i () k = bif !runFit s x then some false else k ():=by
 obtain ⟨h1,h2,h3,h4⟩:=Zch hT hu hR hx
 obtain ⟨l1,l2,l3⟩:=ZPj h2 h1
 unfold Zu2
 rw [ZK1 (r:=some false) (p:=fun n=>!isUp s n) (fun n hn i k=>by
  obtain ⟨u,hu'⟩:=h4 n hn
  unfold Z64 isUp
  rw [hu',bS]; rfl),← List.not_all_eq_any_not]
 unfold Z54
 rw [Zj8 (by omega),bS]
 unfold runFit
 cases x.nodes.all (isUp s) with
 | false=>rfl
 | true =>
 cases ascB x.nodes with
 | false=>rfl
 | true =>
  simp only [Bool.not_true,cond_false,l3,bS,ZW2 hT l1,Bool.false_or,Bool.true_and,Zph]
theorem Zhj {s:State} (hs:s.queue.length + s.runs.length <= 1048576):spec_StateOk s = some (stateOk s) /\ impl_StateOk s = some (stateOk s):=by
 obtain ⟨q,h1,h2⟩:=Z07 s
 unfold spec_StateOk impl_StateOk stateOk
 rw [ZD8,h1,bS,bS,Zua,Z6c hs,Option.getD_some]
 have e1:(decide (s.depth < 0) || decide (60 < s.depth)) = !(decide (0 <= s.depth) && decide (s.depth <= 60)):=by rw [Bool.eq_iff_iff]; simp
 have e2:impl_within s.depth 0 60 = (decide (0 <= s.depth) && decide (s.depth <= 60)):=rfl
 have e3:decide ((300:Int) < (s.ends.length:Int)) = !decide (s.ends.length <= 300):=by rw [Bool.eq_iff_iff]; simp; omega
 rw [Bool.or_assoc,e1,e2,e3]
 cases hq:q.2 with
 | false=>exact ⟨rfl,rfl⟩
 | true =>
 obtain ⟨a1,a2,a3,a4,a5⟩:=h2 hq
 have hT:TopoP s.topo:=by rw [← a3]; exact a2.topo
 have hu:s.up.length = s.topo.nodes.length:=by rw [← a3,← a4]; exact a2.up
 cases (decide (0 <= s.depth) && decide (s.depth <= 60)) with
 | false=>exact ⟨rfl,rfl⟩
 | true =>
 simp only [Bool.not_true,Bool.or_self,cond_false,bS,Zdc,Zid,Bool.false_or,Bool.true_and]
 cases queueOk (allJobs s) with
 | false=>exact ⟨rfl,rfl⟩
 | true =>
 cases decide (s.ends.length <= 300) with
 | false=>exact ⟨rfl,rfl⟩
 | true =>
 simp only [Bool.not_true,Bool.or_self,cond_false,Bool.true_and]
 rw [ZK1 (r:=some false) (p:=fun x=>!runFit s x) (fun x hx i k=>Zzf hT hu a5 hx k i),ZK1 (r:=some false) (p:=fun x=>!runFit s x) (fun x hx i k=>impl_run hT hu a5 hx k i),← List.not_all_eq_any_not]
 unfold ZX3 Z44
 have f1:∀ e:End,((((((decide (e.id < 1)) || (decide (999 < e.id))) || (decide (e.t < 0))) || (decide (s.now < e.t))) || (decide (e.why < 1))) || (decide (4 < e.why))) = !endOk s e:=by
  intro e; unfold endOk; rw [Bool.eq_iff_iff]; simp; omega
 have f2:∀ e:End,(((!(impl_within e.id 1 999)) || (!(impl_within e.t 0 s.now))) || (!(impl_within e.why 1 4))) = !endOk s e:=by
  intro e; unfold endOk impl_within
  cases (decide (1 <= e.id) && decide (e.id <= 999)) <;> cases (decide (0 <= e.t) && decide (e.t <= s.now)) <;> cases (decide (1 <= e.why) && decide (e.why <= 4)) <;> rfl
 rw [ZK1 (bd:=Zm2 s) (r:=some false) (p:=fun e=>!endOk s e) (fun e he i k=>by unfold Zm2; rw [f1]),ZK1 (bd:=Zt2 s) (r:=some false) (p:=fun e=>!endOk s e) (fun e he i k=>by unfold Zt2; rw [f2]),← List.not_all_eq_any_not]
 unfold ZW3 Z34
 cases s.runs.all (runFit s) <;> cases s.ends.all (endOk s) <;> exact ⟨rfl,rfl⟩
def Zne:L :=
sR [.bx 2 (.t 0),.bx 3 (.t 1),.mv 4 (cB false)]
 (.seq (sR [lD 10 2 11 true,cQ 11 ZH8 [10],.un 12 (.t 11)]
 (.cond (.t 12) (.seq (rE 4 (cB false))
 gR)
 .skip))
 (sR [lD 14 2 11 true,cQ 15 ZJ6 [14],mV 13 15,eX 16 13 0,eX 17 13 1,.al 5 [.nl,.nl,.nl,.nl,.nl],.st (.t 5) (.t 16) 5,mV 6 17]
 (sR [lD 19 5 5 true,lD 20 3 11 true,fA 21 2 7,lD 22 21 1 false,cQ 23 ZV7 [19,20,22],mV 18 23,eX 24 18 0,eX 25 18 1,eX 26 18 2,mV 7 24,mV 8 25,mV 9 26]
 (sR [mV 27 9,mV 28 27,.g 28 true (mV 29 7),.g 28 true (fA 30 2 7),.g 28 true (lD 31 30 1 false),.g 28 true (bI 32 .eql 29 31),.pk 33 (.t 28) (.t 32) (cB false),mV 4 33]
 gR))))
def spec_CanNow (s1:State) (j2:Job):Option Bool :=
 (spec_StateOk s1).bind fun b3=>bif (!b3) then (some false) else ((spec_RoomOf s1).bind fun y4=>(spec_Earliest y4.1 j2 s1.now).bind fun y5=>some (y5.2.2 && (y5.1 == s1.now)))
theorem ZMd {s1:State} {j2:Job} {r:Bool} (H:spec_CanNow s1 j2 = some r):Snd Tryz.prog ZP9 [ZE .rd s1,eJob j2] (.bool r) []:=by
 refine wS Zne [.t 4] ?_
 unfold spec_CanNow at H
 obtain ⟨b3,h3,H⟩:=bB H
 refine wG [.c 11 (Z9c h3)] fun _=>?_
 refine Wh_iH H (fun H=>?_) fun H=>?_
 .refine wP ?_
  replace H:=sI H; subst H
  exact wE [(4,.d)]
 .obtain ⟨y4,h4,H⟩:=bB H
  obtain ⟨y5,h5,H⟩:=bB H
  refine wG [.c 15 (Zo8 h4),.u 23 (.call _ _ _ _ _ (AEs.of (xs:=[.agg [.sl .rd 1 (y4.1.topo.parents.map eI),.sl .rd 4 (y4.1.topo.nodes.map eNode),.sl .rd 1 (y4.1.up.map eBo),.sl .rd 1 (y4.1.profs.map (Z7 .nw)),.sl .rd 4 (y4.1.lics.map ePt)],.agg [.int .i64 j2.id,.int .i64 j2.prio,.int .i64 j2.nodes,.int .i64 j2.need.a,.int .i64 j2.need.b,.int .i64 j2.need.c,.int .i64 j2.lic.a,.int .i64 j2.lic.b,.int .i64 j2.lic.c,.int .i64 j2.wall,.int .i64 j2.level],.int .i64 s1.now]) (by simp)) (fun _=>Z8b h5))] fun _=>?_
  replace H:=sI H; subst H
  exact wE [(4,.d)]
def ZSe:L :=
sR [.bx 2 (.t 0),.bx 3 (.t 1),.mv 4 (cB false)]
 (.seq (sR [lD 10 2 11 true,cQ 11 ZQ8 [10],.un 12 (.t 11)]
 (.cond (.t 12) (.seq (rE 4 (cB false))
 gR)
 .skip))
 (sR [lD 14 2 11 true,cQ 15 ZW6 [14],mV 13 15,eX 16 13 0,eX 17 13 1,.al 5 [.nl,.nl,.nl,.nl,.nl],.st (.t 5) (.t 16) 5,mV 6 17]
 (sR [lD 19 5 5 true,lD 20 3 11 true,fA 21 2 7,lD 22 21 1 false,cQ 23 Z48 [19,20,22],mV 18 23,eX 24 18 0,eX 25 18 1,eX 26 18 2,mV 7 24,mV 8 25,mV 9 26]
 (sR [mV 27 9,mV 28 27,.g 28 true (mV 29 7),.g 28 true (fA 30 2 7),.g 28 true (lD 31 30 1 false),.g 28 true (bI 32 .eql 29 31),.pk 33 (.t 28) (.t 32) (cB false),mV 4 33]
 gR))))
def impl_CanNow (s1:State) (j2:Job):Option Bool :=
 (impl_StateOk s1).bind fun b3=>bif (!b3) then (some false) else ((impl_RoomOf s1).bind fun y4=>(impl_Earliest y4.1 j2 s1.now).bind fun y5=>some (y5.2.2 && (y5.1 == s1.now)))
theorem Z4f {s1:State} {j2:Job} {r:Bool} (H:impl_CanNow s1 j2 = some r):Snd Tryz.prog Z2a [ZE .rd s1,eJob j2] (.bool r) []:=by
 refine wS ZSe [.t 4] ?_
 unfold impl_CanNow at H
 obtain ⟨b3,h3,H⟩:=bB H
 refine wG [.c 11 (Zgd h3)] fun _=>?_
 refine Wh_iH H (fun H=>?_) fun H=>?_
 .refine wP ?_
  replace H:=sI H; subst H
  exact wE [(4,.d)]
 .obtain ⟨y4,h4,H⟩:=bB H
  obtain ⟨y5,h5,H⟩:=bB H
  refine wG [.c 15 (ZC8 h4),.u 23 (.call _ _ _ _ _ (AEs.of (xs:=[.agg [.sl .rd 1 (y4.1.topo.parents.map eI),.sl .rd 4 (y4.1.topo.nodes.map eNode),.sl .rd 1 (y4.1.up.map eBo),.sl .rd 1 (y4.1.profs.map (Z7 .nw)),.sl .rd 4 (y4.1.lics.map ePt)],.agg [.int .i64 j2.id,.int .i64 j2.prio,.int .i64 j2.nodes,.int .i64 j2.need.a,.int .i64 j2.need.b,.int .i64 j2.need.c,.int .i64 j2.lic.a,.int .i64 j2.lic.b,.int .i64 j2.lic.c,.int .i64 j2.wall,.int .i64 j2.level],.int .i64 s1.now]) (by simp)) (fun _=>ZMb h5))] fun _=>?_
  replace H:=sI H; subst H
  exact wE [(4,.d)]
theorem Zvk {s:State} (hs:s.queue.length + s.runs.length <= 1048576) (j:Job):∃ b,spec_CanNow s j = some b /\ impl_CanNow s j = some b:=by
 obtain ⟨h1,h2⟩:=Zhj hs
 unfold spec_CanNow impl_CanNow
 rw [h1,h2,ZD8,bS,bS]
 cases stateOk s with
 | false=>exact ⟨false,rfl,rfl⟩
 | true =>
  obtain ⟨q,hq,_⟩:=Z07 s
  simp only [Bool.not_true,cond_false,hq,bS,Zai,Z67]
  exact ⟨_,rfl,rfl⟩
def Zmg:L :=
sR [.bx 1 (.t 0),.al 2 [.int .i64 0,.int .i64 0,.int .i64 0]]
 (sR [.al 3 [.int .i64 0,.int .i64 0,.int .i64 0]]
 (sR [fA 4 1 0,lD 5 4 1 false,fA 6 3 0,.st (.t 6) (.t 5) 1]
 (sR [fA 7 1 1,lD 8 7 1 false,fA 9 3 1,.st (.t 9) (.t 8) 1]
 (sR [fA 10 1 2,lD 11 10 1 false,fA 12 3 2,.st (.t 12) (.t 11) 1]
 (sR [lD 13 3 3 true,.st (.t 2) (.t 13) 3]
 gR)))))
def Zn5 (a1:Vec):Option Vec :=
 some a1
theorem Zoc {a1:Vec} {r:Vec} (H:Zn5 a1 = some r):Snd Tryz.prog ZA2 [eVec a1] (eVec r) []:=by
 refine wS Zmg [.c 2 3 true] ?_
 unfold Zn5 at H
 refine wP ?_
 replace H:=sI H; subst H
 exact wN [(2,.d)] [(2,[])] [] [] [] []
def laws_toVec (a1:Vec):Vec :=
 a1
theorem Zqh (a1:Vec):Zn5 a1 = some (laws_toVec a1):=by
 unfold Zn5 laws_toVec
 first | rfl | simp only [Zd]
theorem Zi4 (a1:Vec):Snd Tryz.prog ZA2 [eVec a1] (eVec (laws_toVec a1)) []:=Zoc (Zqh a1)
def Zrg:L :=
sR [.bx 2 (.t 0),.bx 3 (.t 1),.mv 4 (cB false)]
 (.seq (sR [fA 5 2 0,lD 6 5 1 false,fA 7 3 0,lD 8 7 1 false,bI 9 .neq 6 8]
 (.cond (.t 9) (.seq (rE 4 (cB false))
 gR)
 .skip))
 (.seq (sR [fA 10 2 1,lD 11 10 1 false,fA 12 3 1,lD 13 12 1 false,bI 14 .neq 11 13]
 (.cond (.t 14) (.seq (rE 4 (cB false))
 gR)
 .skip))
 (.seq (sR [fA 15 2 2,lD 16 15 1 false,fA 17 3 2,lD 18 17 1 false,bI 19 .neq 16 18]
 (.cond (.t 19) (.seq (rE 4 (cB false))
 gR)
 .skip))
 (.seq (rE 4 (cB true))
 gR))))
def Zr5 (a1:Vec) (b2:Vec):Option Bool :=
 bif (a1.a != b2.a) then (some false) else (bif (a1.b != b2.b) then (some false) else (bif (a1.c != b2.c) then (some false) else (some true)))
theorem ZBc {a1:Vec} {b2:Vec} {r:Bool} (H:Zr5 a1 b2 = some r):Snd Tryz.prog ZC2 [eVec a1,eVec b2] (.bool r) []:=by
 refine wS Zrg [.t 4] ?_
 unfold Zr5 at H
 refine wP ?_
 refine Wh_iH H (fun H=>?_) fun H=>?_
 .refine wP ?_
  replace H:=sI H; subst H
  exact wE [(4,.d)]
 .refine wP ?_
  refine Wh_iH H (fun H=>?_) fun H=>?_
  .refine wP ?_
   replace H:=sI H; subst H
   exact wE [(4,.d)]
  .refine wP ?_
   refine Wh_iH H (fun H=>?_) fun H=>?_
   .refine wP ?_
    replace H:=sI H; subst H
    exact wE [(4,.d)]
   .refine wP ?_
    replace H:=sI H; subst H
    exact wE [(4,.d)]
def laws_eqVec (a1:Vec) (b2:Vec):Bool :=
 bif (a1.a != b2.a) then (false) else (bif (a1.b != b2.b) then (false) else (bif (a1.c != b2.c) then (false) else (true)))
theorem Zuh (a1:Vec) (b2:Vec):Zr5 a1 b2 = some (laws_eqVec a1 b2):=by
 unfold Zr5 laws_eqVec
 first | rfl | simp only [Zd]
theorem Zp4 (a1:Vec) (b2:Vec):Snd Tryz.prog ZC2 [eVec a1,eVec b2] (.bool (laws_eqVec a1 b2)) []:=ZBc (Zuh a1 b2)
def Zse:L :=
sR [.mv 2 (.c (.nl))]
 (sR [mV 5 0,.ln 6 (.t 5),.ms 7 1 8 [.int .i64 0] (.t 6),mV 3 7]
 (.seq (.seq (rE 4 (kI 0))
 (.blk 0 (.loop (.gw (.seq (sR [mV 8 4,mV 9 0,.ln 10 (.t 9),bI 11 .lss 8 10]
 (.cond (.t 11) .skip
 (.exit 0)))
 (.seq (.blk 1 (.reg [mV 14 3,mV 15 4,mV 16 0,mV 17 4,iA 18 16 17 1,lD 19 18 1 false,iA 20 14 15 1,.st (.t 20) (.t 19) 1]))
 (.reg [mV 12 4,.bi 13 .add (.t 12) (kI 1),mV 4 13])))))))
 (sR [mV 21 3,mV 2 21]
 gR)))
def ZQ2 (a1:List Int) (v4:Int × (List Int)) (k4:(Int × (List Int)) -> Option (List Int)):Option (List Int) :=
 bif (decide (v4.1 < (a1.length:Int))) then ((idx a1 v4.1).bind fun e6=>(idx v4.2 v4.1).bind fun _=>k4 ((w64 (v4.1 + 1)),(v4.2.set v4.1.toNat e6))) else (some v4.2)
def laws_toIntS (a1:List Int):Option (List Int) :=
 (mkL 8 (a1.length:Int) 0).bind fun xs2=>whl (ZQ2 a1) 9223372036854775807 (0,xs2)
theorem Zs8 {a1:List Int} {r:(List Int)} (H:laws_toIntS a1 = some r):Snd Tryz.prog ZL6 [.sl .rd 1 (a1.map eI)] (.sl .nw 1 (r.map eI)) []:=by
 refine wS Zse [.t 2] ?_
 unfold laws_toIntS at H
 obtain ⟨xs2,h2,H⟩:=bB H
 refine wG [.u 6 (.ln _ _ fun _=>lm a1 eI),.u 7 (.ms _ _ _ _ fun _=>ZX8 eI h2)] fun q3=>?_
 refine wW (fun (v4:Int × (List Int))=>⟨[(0,.sl .rd 1 (a1.map eI)),(3,.sref 7),(4,.int .i64 v4.1)],[],[],[(7,⟨1,v4.2.map eI,false⟩)]⟩) H (fun v4 I m k4 H N13=>?_)
 unfold ZQ2 at H
 refine wG [.u 10 (.ln _ _ fun _=>lm a1 eI)] fun q5=>?_
 refine Wh_iH H (fun H=>?_) fun H=>?_
 .obtain ⟨e6,h6,H⟩:=bB H
  obtain ⟨e7,h7,H⟩:=bB H
  refine wG [.u 18 (.ix _ _ _ fun _=>Z0 eI h6),.u 20 (.ix _ _ _ fun _=>Z0 eI h7),.u 1000000 (.sto _ _ _ (eI e6) _ (fun _=>gm eI (Z71 h7)) (fun _=>Zq6 ..))] fun _=>?_
  exact wT (N13 _ H)
 .refine wP ?_
  replace H:=sI H; subst H
  exact wN [(2,.f)] [] [] [7] [] [⟨_,nw_I v4.2⟩]
def Zqe:L :=
sR [.bx 1 (.t 0),.al 2 [.int .i64 0,.int .i64 0,.int .i64 0,.int .i64 0]]
 (sR [.al 3 [.int .i64 0,.int .i64 0,.int .i64 0,.int .i64 0]]
 (sR [fA 4 1 0,lD 5 4 1 false,fA 6 3 0,.st (.t 6) (.t 5) 1]
 (sR [fA 7 1 1,lD 8 7 3 true,cQ 9 ZA2 [8],fA 10 3 1,.st (.t 10) (.t 9) 3]
 (sR [lD 11 3 4 true,.st (.t 2) (.t 11) 4]
 gR))))
def Zj4 (a1:Node):Option Node :=
 some (Node.mk a1.leaf (laws_toVec a1.cap))
theorem Zab {a1:Node} {r:Node} (H:Zj4 a1 = some r):Snd Tryz.prog ZK6 [eNode a1] (eNode r) []:=by
 refine wS Zqe [.c 2 4 true] ?_
 unfold Zj4 at H
 refine wG [.c 9 (Zi4 a1.cap)] fun _=>?_
 replace H:=sI H; subst H
 exact wN [(2,.d)] [(2,[])] [] [] [] []
def laws_toNode (a1:Node):Node :=
 (Node.mk a1.leaf (laws_toVec a1.cap))
theorem Z6g (a1:Node):Zj4 a1 = some (laws_toNode a1):=by
 unfold Zj4 laws_toNode
 first | rfl | simp only [Zd]
theorem ZTd (a1:Node):Snd Tryz.prog ZK6 [eNode a1] (eNode (laws_toNode a1)) []:=Zab (Z6g a1)
def Z1d:L :=
sR [.mv 2 (.c (.nl))]
 (sR [mV 5 0,.ln 6 (.t 5),.ms 7 4 32 [.int .i64 0,.int .i64 0,.int .i64 0,.int .i64 0] (.t 6),mV 3 7]
 (.seq (.seq (rE 4 (kI 0))
 (.blk 0 (.loop (.gw (.seq (sR [mV 8 4,mV 9 0,.ln 10 (.t 9),bI 11 .lss 8 10]
 (.cond (.t 11) .skip
 (.exit 0)))
 (.seq (.blk 1 (.reg [mV 14 3,mV 15 4,mV 16 0,mV 17 4,iA 18 16 17 4,lD 19 18 4 true,cQ 20 ZK6 [19],iA 21 14 15 4,.st (.t 21) (.t 20) 4]))
 (.reg [mV 12 4,.bi 13 .add (.t 12) (kI 1),mV 4 13])))))))
 (sR [mV 22 3,mV 2 22]
 gR)))
def Zp2 (a1:List Node) (v4:Int × (List Node)) (k4:(Int × (List Node)) -> Option (List Node)):Option (List Node) :=
 bif (decide (v4.1 < (a1.length:Int))) then ((idx a1 v4.1).bind fun e6=>(idx v4.2 v4.1).bind fun _=>k4 ((w64 (v4.1 + 1)),(v4.2.set v4.1.toNat (Node.mk ((laws_toNode e6).leaf) ((laws_toNode e6).cap))))) else (some v4.2)
def laws_toNodeS (a1:List Node):Option (List Node) :=
 (mkL 32 (a1.length:Int) (Node.mk 0 (Vec.mk 0 0 0))).bind fun xs2=>whl (Zp2 a1) 9223372036854775807 (0,xs2)
theorem Zqc {a1:List Node} {r:(List Node)} (H:laws_toNodeS a1 = some r):Snd Tryz.prog ZK8 [.sl .rd 4 (a1.map eNode)] (.sl .nw 4 (r.map eNode)) []:=by
 refine wS Z1d [.t 2] ?_
 unfold laws_toNodeS at H
 obtain ⟨xs2,h2,H⟩:=bB H
 refine wG [.u 6 (.ln _ _ fun _=>lm a1 eNode),.u 7 (.ms _ _ _ _ fun _=>ZX8 eNode h2)] fun q3=>?_
 refine wW (fun (v4:Int × (List Node))=>⟨[(0,.sl .rd 4 (a1.map eNode)),(3,.sref 7),(4,.int .i64 v4.1)],[],[],[(7,⟨4,v4.2.map eNode,false⟩)]⟩) H (fun v4 I m k4 H N13=>?_)
 unfold Zp2 at H
 refine wG [.u 10 (.ln _ _ fun _=>lm a1 eNode)] fun q5=>?_
 refine Wh_iH H (fun H=>?_) fun H=>?_
 .obtain ⟨e6,h6,H⟩:=bB H
  obtain ⟨e7,h7,H⟩:=bB H
  refine wG [.u 18 (.ix _ _ _ fun _=>Z0 eNode h6),.c 20 (ZTd e6),.u 21 (.ix _ _ _ fun _=>Z0 eNode h7),.u 1000000 (.sto _ _ _ (eNode (Node.mk ((laws_toNode e6).leaf) ((laws_toNode e6).cap))) _ (fun _=>gm eNode (Z71 h7)) (fun _=>Zq6 ..))] fun _=>?_
  exact wT (N13 _ H)
 .refine wP ?_
  replace H:=sI H; subst H
  exact wN [(2,.f)] [] [] [7] [] [⟨_,ZT v4.2⟩]
def Zoe:L :=
sR [.bx 1 (.t 0),.al 2 [.nl,.nl]]
 (sR [.al 3 [.nl,.nl]]
 (sR [fA 4 1 0,lD 5 4 1 false,cQ 6 ZL6 [5],fA 7 3 0,.st (.t 7) (.t 6) 1]
 (sR [fA 8 1 1,lD 9 8 1 false,cQ 10 ZK8 [9],fA 11 3 1,.st (.t 11) (.t 10) 1]
 (sR [lD 12 3 2 true,.st (.t 2) (.t 12) 2]
 gR))))
def laws_toTopo (a1:Topo):Option Topo :=
 (laws_toIntS a1.parents).bind fun y2=>(laws_toNodeS a1.nodes).bind fun y3=>some (Topo.mk y2 y3)
theorem ZPd {a1:Topo} {r:Topo} (H:laws_toTopo a1 = some r):Snd Tryz.prog ZQ9 [Ze .rd a1] (Ze .nw r) []:=by
 refine wS Zoe [.c 2 2 true] ?_
 unfold laws_toTopo at H
 obtain ⟨y2,h2,H⟩:=bB H
 obtain ⟨y3,h3,H⟩:=bB H
 refine wG [.c 6 (Zs8 h2),.c 10 (Zqc h3)] fun _=>?_
 replace H:=sI H; subst H
 exact wN [(2,.d)] [(2,[])] [] [] [] [⟨_,nw_I y2⟩,⟨_,ZT y3⟩]
def Zxe:L :=
.seq (rE 4 (kI 0))
 (sR [mV 5 1,mV 6 0,.ln 7 (.t 6),bI 8 .sub 5 7,mV 1 8]
 (.seq (sR [mV 9 1,.bi 10 .lss (.t 9) (kI 0)]
 (.cond (.t 10) (.seq (rE 4 (kI (-1)))
 gR)
 .skip))
 (sR [mV 11 1,mV 4 11]
 gR)))
def Zn4 (a1:List Int) (left2:Int):Option Int :=
 bif (decide ((w64 (left2 - (a1.length:Int))) < 0)) then (some (-1)) else (some (w64 (left2 - (a1.length:Int))))
theorem Zdb {a1:List Int} {left2:Int} {r:Int} (H:Zn4 a1 left2 = some r):Snd Tryz.prog ZC4 [.sl .rd 1 (a1.map eI),.int .i64 left2] (.int .i64 r) []:=by
 refine wS Zxe [.t 4] ?_
 unfold Zn4 at H
 refine wG [.u 7 (.ln _ _ fun _=>lm a1 eI)] fun q3=>?_
 refine Wh_iH H (fun H=>?_) fun H=>?_
 .refine wP ?_
  replace H:=sI H; subst H
  exact wE [(4,.d)]
 .refine wP ?_
  replace H:=sI H; subst H
  exact wE [(4,.d)]
def laws_szIntS (a1:List Int) (left2:Int):Int :=
 bif (decide ((w64 (left2 - (a1.length:Int))) < 0)) then ((-1)) else ((w64 (left2 - (a1.length:Int))))
theorem Zbg (a1:List Int) (left2:Int):Zn4 a1 left2 = some (laws_szIntS a1 left2):=by
 unfold Zn4 laws_szIntS
 first | rfl | simp only [Zd]
theorem Zu8 (a1:List Int) (left2:Int):Snd Tryz.prog ZC4 [.sl .rd 1 (a1.map eI),.int .i64 left2] (.int .i64 (laws_szIntS a1 left2)) []:=Zdb (Zbg a1 left2)
def Z4d:L :=
.seq (rE 4 (kI 0))
 (sR [mV 5 1,mV 6 0,.ln 7 (.t 6),bI 8 .sub 5 7,mV 1 8]
 (.seq (sR [mV 9 1,.bi 10 .lss (.t 9) (kI 0)]
 (.cond (.t 10) (.seq (rE 4 (kI (-1)))
 gR)
 .skip))
 (sR [mV 11 1,mV 4 11]
 gR)))
def Zz3 (a1:List Node) (left2:Int):Option Int :=
 bif (decide ((w64 (left2 - (a1.length:Int))) < 0)) then (some (-1)) else (some (w64 (left2 - (a1.length:Int))))
theorem Zia {a1:List Node} {left2:Int} {r:Int} (H:Zz3 a1 left2 = some r):Snd Tryz.prog Z66 [.sl .rd 4 (a1.map eNode),.int .i64 left2] (.int .i64 r) []:=by
 refine wS Z4d [.t 4] ?_
 unfold Zz3 at H
 refine wG [.u 7 (.ln _ _ fun _=>lm a1 eNode)] fun q3=>?_
 refine Wh_iH H (fun H=>?_) fun H=>?_
 .refine wP ?_
  replace H:=sI H; subst H
  exact wE [(4,.d)]
 .refine wP ?_
  replace H:=sI H; subst H
  exact wE [(4,.d)]
def laws_szNodeS (a1:List Node) (left2:Int):Int :=
 bif (decide ((w64 (left2 - (a1.length:Int))) < 0)) then ((-1)) else ((w64 (left2 - (a1.length:Int))))
theorem Z1e (a1:List Node) (left2:Int):Zz3 a1 left2 = some (laws_szNodeS a1 left2):=by
 unfold Zz3 laws_szNodeS
 first | rfl | simp only [Zd]
theorem Zzc (a1:List Node) (left2:Int):Snd Tryz.prog Z66 [.sl .rd 4 (a1.map eNode),.int .i64 left2] (.int .i64 (laws_szNodeS a1 left2)) []:=Zia (Z1e a1 left2)
def Zue:L :=
sR [.bx 2 (.t 0),.mv 4 (kI 0)]
 (sR [fA 5 2 0,lD 6 5 1 false,mV 7 1,cQ 8 ZC4 [6,7],mV 1 8]
 (.seq (sR [mV 9 1,.bi 10 .lss (.t 9) (kI 0)]
 (.cond (.t 10) (.seq (rE 4 (kI (-1)))
 gR)
 .skip))
 (sR [fA 11 2 1,lD 12 11 1 false,mV 13 1,cQ 14 Z66 [12,13],mV 1 14]
 (.seq (sR [mV 15 1,.bi 16 .lss (.t 15) (kI 0)]
 (.cond (.t 16) (.seq (rE 4 (kI (-1)))
 gR)
 .skip))
 (sR [mV 17 1,mV 4 17]
 gR)))))
def Zl4 (a1:Topo) (left2:Int):Option Int :=
 bif (decide ((laws_szIntS a1.parents left2) < 0)) then (some (-1)) else (bif (decide ((laws_szNodeS a1.nodes (laws_szIntS a1.parents left2)) < 0)) then (some (-1)) else (some (laws_szNodeS a1.nodes (laws_szIntS a1.parents left2))))
theorem Zbb {a1:Topo} {left2:Int} {r:Int} (H:Zl4 a1 left2 = some r):Snd Tryz.prog ZM6 [Ze .rd a1,.int .i64 left2] (.int .i64 r) []:=by
 refine wS Zue [.t 4] ?_
 unfold Zl4 at H
 refine wG [.c 8 (Zu8 a1.parents left2)] fun _=>?_
 refine Wh_iH H (fun H=>?_) fun H=>?_
 .refine wP ?_
  replace H:=sI H; subst H
  exact wE [(4,.d)]
 .refine wG [.u 14 (.call _ _ _ _ _ (AEs.refl _) (fun _=>Zzc a1.nodes (laws_szIntS a1.parents left2)))] fun _=>?_
  refine Wh_iH H (fun H=>?_) fun H=>?_
  .refine wP ?_
   replace H:=sI H; subst H
   exact wE [(4,.d)]
  .refine wP ?_
   replace H:=sI H; subst H
   exact wE [(4,.d)]
def laws_szTopo (a1:Topo) (left2:Int):Int :=
 bif (decide ((laws_szIntS a1.parents left2) < 0)) then ((-1)) else (bif (decide ((laws_szNodeS a1.nodes (laws_szIntS a1.parents left2)) < 0)) then ((-1)) else ((laws_szNodeS a1.nodes (laws_szIntS a1.parents left2))))
theorem Z8g (a1:Topo) (left2:Int):Zl4 a1 left2 = some (laws_szTopo a1 left2):=by
 unfold Zl4 laws_szTopo
 first | rfl | simp only [Zd]
theorem ZYd (a1:Topo) (left2:Int):Snd Tryz.prog ZM6 [Ze .rd a1,.int .i64 left2] (.int .i64 (laws_szTopo a1 left2)) []:=Zbb (Z8g a1 left2)
def ZDe:L :=
.seq (rE 4 (cB false))
 (.seq (sR [mV 6 0,.ln 7 (.t 6),mV 8 1,.ln 9 (.t 8),bI 10 .neq 7 9]
 (.cond (.t 10) (.seq (rE 4 (cB false))
 gR)
 .skip))
 (.seq (.seq (rE 5 (kI 0))
 (.blk 0 (.loop (.gw (.seq (sR [mV 11 5,mV 12 0,.ln 13 (.t 12),bI 14 .lss 11 13]
 (.cond (.t 14) .skip
 (.exit 0)))
 (.seq (.blk 1 (.seq (.rq 9 [mV 17 0,mV 18 5,iA 19 17 18 1,lD 20 19 1 false,mV 21 1,mV 22 5,iA 23 21 22 1,lD 24 23 1 false,bI 25 .neq 20 24])
 (.cond (.t 25) (.seq (rE 4 (cB false))
 gR)
 .skip)))
 (.reg [mV 15 5,.bi 16 .add (.t 15) (kI 1),mV 5 16])))))))
 (.seq (rE 4 (cB true))
 gR)))
def ZU2 (a1:List Int) (b2:List Int) (v4:Int) (k4:Int -> Option Bool):Option Bool :=
 bif (decide (v4 < (a1.length:Int))) then ((idx a1 v4).bind fun e6=>(idx b2 v4).bind fun e7=>bif (e6 != e7) then (some false) else (k4 (w64 (v4 + 1)))) else (some true)
def laws_eqIntS (a1:List Int) (b2:List Int):Option Bool :=
 bif ((a1.length:Int) != (b2.length:Int)) then (some false) else (whl (ZU2 a1 b2) 9223372036854775807 0)
theorem Zv8 {a1:List Int} {b2:List Int} {r:Bool} (H:laws_eqIntS a1 b2 = some r):Snd Tryz.prog ZQ6 [.sl .rd 1 (a1.map eI),.sl .rd 1 (b2.map eI)] (.bool r) []:=by
 refine wS ZDe [.t 4] ?_
 unfold laws_eqIntS at H
 refine wG [.u 7 (.ln _ _ fun _=>lm a1 eI),.u 9 (.ln _ _ fun _=>lm b2 eI)] fun q3=>?_
 refine Wh_iH H (fun H=>?_) fun H=>?_
 .refine wP ?_
  replace H:=sI H; subst H
  exact wE [(4,.d)]
 .refine wP ?_
  refine wW (fun (v4:Int)=>⟨[(0,.sl .rd 1 (a1.map eI)),(1,.sl .rd 1 (b2.map eI)),(5,.int .i64 v4)],[],[],[]⟩) H (fun v4 I m k4 H N25=>?_)
  unfold ZU2 at H
  refine wG [.u 13 (.ln _ _ fun _=>lm a1 eI)] fun q5=>?_
  refine Wh_iH H (fun H=>?_) fun H=>?_
  .obtain ⟨e6,h6,H⟩:=bB H
   obtain ⟨e7,h7,H⟩:=bB H
   refine wG [.u 19 (.ix _ _ _ fun _=>Z0 eI h6),.u 23 (.ix _ _ _ fun _=>Z0 eI h7)] fun _=>?_
   refine Wh_iH H (fun H=>?_) fun H=>?_
   .refine wP ?_
    replace H:=sI H; subst H
    exact wE [(4,.d)]
   .refine wP ?_
    exact wT (N25 _ H)
  .refine wP ?_
   replace H:=sI H; subst H
   exact wE [(4,.d)]
def ZBe:L :=
sR [.bx 2 (.t 0),.bx 3 (.t 1),.mv 4 (cB false)]
 (.seq (sR [fA 5 2 0,lD 6 5 1 false,fA 7 3 0,lD 8 7 1 false,bI 9 .neq 6 8]
 (.cond (.t 9) (.seq (rE 4 (cB false))
 gR)
 .skip))
 (.seq (sR [fA 10 2 1,lD 11 10 3 true,fA 12 3 1,lD 13 12 3 true,cQ 14 ZC2 [11,13],.un 15 (.t 14)]
 (.cond (.t 15) (.seq (rE 4 (cB false))
 gR)
 .skip))
 (.seq (rE 4 (cB true))
 gR)))
def Zq4 (a1:Node) (b2:Node):Option Bool :=
 bif (a1.leaf != b2.leaf) then (some false) else (bif (!(laws_eqVec a1.cap b2.cap)) then (some false) else (some true))
theorem Zib {a1:Node} {b2:Node} {r:Bool} (H:Zq4 a1 b2 = some r):Snd Tryz.prog ZP6 [eNode a1,eNode b2] (.bool r) []:=by
 refine wS ZBe [.t 4] ?_
 unfold Zq4 at H
 refine wP ?_
 refine Wh_iH H (fun H=>?_) fun H=>?_
 .refine wP ?_
  replace H:=sI H; subst H
  exact wE [(4,.d)]
 .refine wG [.c 14 (Zp4 a1.cap b2.cap)] fun _=>?_
  refine Wh_iH H (fun H=>?_) fun H=>?_
  .refine wP ?_
   replace H:=sI H; subst H
   exact wE [(4,.d)]
  .refine wP ?_
   replace H:=sI H; subst H
   exact wE [(4,.d)]
def laws_eqNode (a1:Node) (b2:Node):Bool :=
 bif (a1.leaf != b2.leaf) then (false) else (bif (!(laws_eqVec a1.cap b2.cap)) then (false) else (true))
theorem Zeg (a1:Node) (b2:Node):Zq4 a1 b2 = some (laws_eqNode a1 b2):=by
 unfold Zq4 laws_eqNode
 first | rfl | simp only [Zd]
theorem Z7e (a1:Node) (b2:Node):Snd Tryz.prog ZP6 [eNode a1,eNode b2] (.bool (laws_eqNode a1 b2)) []:=Zib (Zeg a1 b2)
def Z7d:L :=
.seq (rE 4 (cB false))
 (.seq (sR [mV 6 0,.ln 7 (.t 6),mV 8 1,.ln 9 (.t 8),bI 10 .neq 7 9]
 (.cond (.t 10) (.seq (rE 4 (cB false))
 gR)
 .skip))
 (.seq (.seq (rE 5 (kI 0))
 (.blk 0 (.loop (.gw (.seq (sR [mV 11 5,mV 12 0,.ln 13 (.t 12),bI 14 .lss 11 13]
 (.cond (.t 14) .skip
 (.exit 0)))
 (.seq (.blk 1 (.seq (.rq 10 [mV 17 0,mV 18 5,iA 19 17 18 4,lD 20 19 4 true,mV 21 1,mV 22 5,iA 23 21 22 4,lD 24 23 4 true,cQ 25 ZP6 [20,24],.un 26 (.t 25)])
 (.cond (.t 26) (.seq (rE 4 (cB false))
 gR)
 .skip)))
 (.reg [mV 15 5,.bi 16 .add (.t 15) (kI 1),mV 5 16])))))))
 (.seq (rE 4 (cB true))
 gR)))
def Zr2 (a1:List Node) (b2:List Node) (v4:Int) (k4:Int -> Option Bool):Option Bool :=
 bif (decide (v4 < (a1.length:Int))) then ((idx a1 v4).bind fun e6=>(idx b2 v4).bind fun e7=>bif (!(laws_eqNode e6 e7)) then (some false) else (k4 (w64 (v4 + 1)))) else (some true)
def laws_eqNodeS (a1:List Node) (b2:List Node):Option Bool :=
 bif ((a1.length:Int) != (b2.length:Int)) then (some false) else (whl (Zr2 a1 b2) 9223372036854775807 0)
theorem ZEc {a1:List Node} {b2:List Node} {r:Bool} (H:laws_eqNodeS a1 b2 = some r):Snd Tryz.prog ZO8 [.sl .rd 4 (a1.map eNode),.sl .rd 4 (b2.map eNode)] (.bool r) []:=by
 refine wS Z7d [.t 4] ?_
 unfold laws_eqNodeS at H
 refine wG [.u 7 (.ln _ _ fun _=>lm a1 eNode),.u 9 (.ln _ _ fun _=>lm b2 eNode)] fun q3=>?_
 refine Wh_iH H (fun H=>?_) fun H=>?_
 .refine wP ?_
  replace H:=sI H; subst H
  exact wE [(4,.d)]
 .refine wP ?_
  refine wW (fun (v4:Int)=>⟨[(0,.sl .rd 4 (a1.map eNode)),(1,.sl .rd 4 (b2.map eNode)),(5,.int .i64 v4)],[],[],[]⟩) H (fun v4 I m k4 H N25=>?_)
  unfold Zr2 at H
  refine wG [.u 13 (.ln _ _ fun _=>lm a1 eNode)] fun q5=>?_
  refine Wh_iH H (fun H=>?_) fun H=>?_
  .obtain ⟨e6,h6,H⟩:=bB H
   obtain ⟨e7,h7,H⟩:=bB H
   refine wG [.u 19 (.ix _ _ _ fun _=>Z0 eNode h6),.u 23 (.ix _ _ _ fun _=>Z0 eNode h7),.c 25 (Z7e e6 e7)] fun _=>?_
   refine Wh_iH H (fun H=>?_) fun H=>?_
   .refine wP ?_
    replace H:=sI H; subst H
    exact wE [(4,.d)]
   .refine wP ?_
    exact wT (N25 _ H)
  .refine wP ?_
   replace H:=sI H; subst H
   exact wE [(4,.d)]
def Zze:L :=
sR [.bx 2 (.t 0),.bx 3 (.t 1),.mv 4 (cB false)]
 (.seq (sR [fA 5 2 0,lD 6 5 1 false,fA 7 3 0,lD 8 7 1 false,cQ 9 ZQ6 [6,8],.un 10 (.t 9)]
 (.cond (.t 10) (.seq (rE 4 (cB false))
 gR)
 .skip))
 (.seq (sR [fA 11 2 1,lD 12 11 1 false,fA 13 3 1,lD 14 13 1 false,cQ 15 ZO8 [12,14],.un 16 (.t 15)]
 (.cond (.t 16) (.seq (rE 4 (cB false))
 gR)
 .skip))
 (.seq (rE 4 (cB true))
 gR)))
def laws_eqTopo (a1:Topo) (b2:Topo):Option Bool :=
 (laws_eqIntS a1.parents b2.parents).bind fun b3=>bif (!b3) then (some false) else ((laws_eqNodeS a1.nodes b2.nodes).bind fun b4=>bif (!b4) then (some false) else (some true))
theorem Z5e {a1:Topo} {b2:Topo} {r:Bool} (H:laws_eqTopo a1 b2 = some r):Snd Tryz.prog ZV9 [Ze .rd a1,Ze .rd b2] (.bool r) []:=by
 refine wS Zze [.t 4] ?_
 unfold laws_eqTopo at H
 obtain ⟨b3,h3,H⟩:=bB H
 refine wG [.c 9 (Zv8 h3)] fun _=>?_
 refine Wh_iH H (fun H=>?_) fun H=>?_
 .refine wP ?_
  replace H:=sI H; subst H
  exact wE [(4,.d)]
 .obtain ⟨b4,h4,H⟩:=bB H
  refine wG [.c 15 (ZEc h4)] fun _=>?_
  refine Wh_iH H (fun H=>?_) fun H=>?_
  .refine wP ?_
   replace H:=sI H; subst H
   exact wE [(4,.d)]
  .refine wP ?_
   replace H:=sI H; subst H
   exact wE [(4,.d)]
def Zog:L :=
sR [.bx 1 (.t 0),.al 2 [.int .i64 0,.int .i64 0,.int .i64 0,.int .i64 0,.int .i64 0,.int .i64 0,.int .i64 0,.int .i64 0,.int .i64 0,.int .i64 0,.int .i64 0]]
 (sR [.al 3 [.int .i64 0,.int .i64 0,.int .i64 0,.int .i64 0,.int .i64 0,.int .i64 0,.int .i64 0,.int .i64 0,.int .i64 0,.int .i64 0,.int .i64 0]]
 (sR [fA 4 1 0,lD 5 4 1 false,fA 6 3 0,.st (.t 6) (.t 5) 1]
 (sR [fA 7 1 1,lD 8 7 1 false,fA 9 3 1,.st (.t 9) (.t 8) 1]
 (sR [fA 10 1 2,lD 11 10 1 false,fA 12 3 2,.st (.t 12) (.t 11) 1]
 (sR [fA 13 1 3,lD 14 13 3 true,cQ 15 ZA2 [14],fA 16 3 3,.st (.t 16) (.t 15) 3]
 (sR [fA 17 1 6,lD 18 17 3 true,cQ 19 ZA2 [18],fA 20 3 6,.st (.t 20) (.t 19) 3]
 (sR [fA 21 1 9,lD 22 21 1 false,fA 23 3 9,.st (.t 23) (.t 22) 1]
 (sR [fA 24 1 10,lD 25 24 1 false,fA 26 3 10,.st (.t 26) (.t 25) 1]
 (sR [lD 27 3 11 true,.st (.t 2) (.t 27) 11]
 gR)))))))))
def Zo5 (a1:Job):Option Job :=
 some (Job.mk a1.id a1.prio a1.nodes (laws_toVec a1.need) (laws_toVec a1.lic) a1.wall a1.level)
theorem Zsc {a1:Job} {r:Job} (H:Zo5 a1 = some r):Snd Tryz.prog ZB2 [eJob a1] (eJob r) []:=by
 refine wS Zog [.c 2 11 true] ?_
 unfold Zo5 at H
 refine wG [.c 15 (Zi4 a1.need),.c 19 (Zi4 a1.lic)] fun _=>?_
 replace H:=sI H; subst H
 exact wN [(2,.d)] [(2,[])] [] [] [] []
def laws_toJob (a1:Job):Job :=
 (Job.mk a1.id a1.prio a1.nodes (laws_toVec a1.need) (laws_toVec a1.lic) a1.wall a1.level)
theorem Zrh (a1:Job):Zo5 a1 = some (laws_toJob a1):=by
 unfold Zo5 laws_toJob
 first | rfl | simp only [Zd]
theorem Zk4 (a1:Job):Snd Tryz.prog ZB2 [eJob a1] (eJob (laws_toJob a1)) []:=Zsc (Zrh a1)
def Z2d:L :=
sR [.mv 2 (.c (.nl))]
 (sR [mV 5 0,.ln 6 (.t 5),.ms 7 1 1 [.bool false] (.t 6),mV 3 7]
 (.seq (.seq (rE 4 (kI 0))
 (.blk 0 (.loop (.gw (.seq (sR [mV 8 4,mV 9 0,.ln 10 (.t 9),bI 11 .lss 8 10]
 (.cond (.t 11) .skip
 (.exit 0)))
 (.seq (.blk 1 (.reg [mV 14 3,mV 15 4,mV 16 0,mV 17 4,iA 18 16 17 1,lD 19 18 1 false,iA 20 14 15 1,.st (.t 20) (.t 19) 1]))
 (.reg [mV 12 4,.bi 13 .add (.t 12) (kI 1),mV 4 13])))))))
 (sR [mV 21 3,mV 2 21]
 gR)))
def Zq2 (a1:List Bool) (v4:Int × (List Bool)) (k4:(Int × (List Bool)) -> Option (List Bool)):Option (List Bool) :=
 bif (decide (v4.1 < (a1.length:Int))) then ((idx a1 v4.1).bind fun e6=>(idx v4.2 v4.1).bind fun _=>k4 ((w64 (v4.1 + 1)),(v4.2.set v4.1.toNat e6))) else (some v4.2)
def laws_toBoolS (a1:List Bool):Option (List Bool) :=
 (mkL 1 (a1.length:Int) false).bind fun xs2=>whl (Zq2 a1) 9223372036854775807 (0,xs2)
theorem Zuc {a1:List Bool} {r:(List Bool)} (H:laws_toBoolS a1 = some r):Snd Tryz.prog ZL8 [.sl .rd 1 (a1.map eBo)] (.sl .nw 1 (r.map eBo)) []:=by
 refine wS Z2d [.t 2] ?_
 unfold laws_toBoolS at H
 obtain ⟨xs2,h2,H⟩:=bB H
 refine wG [.u 6 (.ln _ _ fun _=>lm a1 eBo),.u 7 (.ms _ _ _ _ fun _=>ZX8 eBo h2)] fun q3=>?_
 refine wW (fun (v4:Int × (List Bool))=>⟨[(0,.sl .rd 1 (a1.map eBo)),(3,.sref 7),(4,.int .i64 v4.1)],[],[],[(7,⟨1,v4.2.map eBo,false⟩)]⟩) H (fun v4 I m k4 H N13=>?_)
 unfold Zq2 at H
 refine wG [.u 10 (.ln _ _ fun _=>lm a1 eBo)] fun q5=>?_
 refine Wh_iH H (fun H=>?_) fun H=>?_
 .obtain ⟨e6,h6,H⟩:=bB H
  obtain ⟨e7,h7,H⟩:=bB H
  refine wG [.u 18 (.ix _ _ _ fun _=>Z0 eBo h6),.u 20 (.ix _ _ _ fun _=>Z0 eBo h7),.u 1000000 (.sto _ _ _ (eBo e6) _ (fun _=>gm eBo (Z71 h7)) (fun _=>Zq6 ..))] fun _=>?_
  exact wT (N13 _ H)
 .refine wP ?_
  replace H:=sI H; subst H
  exact wN [(2,.f)] [] [] [7] [] [⟨_,nw_Bo v4.2⟩]
def Z5d:L :=
.seq (rE 4 (kI 0))
 (sR [mV 5 1,mV 6 0,.ln 7 (.t 6),bI 8 .sub 5 7,mV 1 8]
 (.seq (sR [mV 9 1,.bi 10 .lss (.t 9) (kI 0)]
 (.cond (.t 10) (.seq (rE 4 (kI (-1)))
 gR)
 .skip))
 (sR [mV 11 1,mV 4 11]
 gR)))
def ZA3 (a1:List Bool) (left2:Int):Option Int :=
 bif (decide ((w64 (left2 - (a1.length:Int))) < 0)) then (some (-1)) else (some (w64 (left2 - (a1.length:Int))))
theorem Zja {a1:List Bool} {left2:Int} {r:Int} (H:ZA3 a1 left2 = some r):Snd Tryz.prog Z76 [.sl .rd 1 (a1.map eBo),.int .i64 left2] (.int .i64 r) []:=by
 refine wS Z5d [.t 4] ?_
 unfold ZA3 at H
 refine wG [.u 7 (.ln _ _ fun _=>lm a1 eBo)] fun q3=>?_
 refine Wh_iH H (fun H=>?_) fun H=>?_
 .refine wP ?_
  replace H:=sI H; subst H
  exact wE [(4,.d)]
 .refine wP ?_
  replace H:=sI H; subst H
  exact wE [(4,.d)]
def laws_szBoolS (a1:List Bool) (left2:Int):Int :=
 bif (decide ((w64 (left2 - (a1.length:Int))) < 0)) then ((-1)) else ((w64 (left2 - (a1.length:Int))))
theorem Z4e (a1:List Bool) (left2:Int):ZA3 a1 left2 = some (laws_szBoolS a1 left2):=by
 unfold ZA3 laws_szBoolS
 first | rfl | simp only [Zd]
theorem ZAc (a1:List Bool) (left2:Int):Snd Tryz.prog Z76 [.sl .rd 1 (a1.map eBo),.int .i64 left2] (.int .i64 (laws_szBoolS a1 left2)) []:=Zja (Z4e a1 left2)
def Z8d:L :=
.seq (rE 4 (cB false))
 (.seq (sR [mV 6 0,.ln 7 (.t 6),mV 8 1,.ln 9 (.t 8),bI 10 .neq 7 9]
 (.cond (.t 10) (.seq (rE 4 (cB false))
 gR)
 .skip))
 (.seq (.seq (rE 5 (kI 0))
 (.blk 0 (.loop (.gw (.seq (sR [mV 11 5,mV 12 0,.ln 13 (.t 12),bI 14 .lss 11 13]
 (.cond (.t 14) .skip
 (.exit 0)))
 (.seq (.blk 1 (.seq (.rq 9 [mV 17 0,mV 18 5,iA 19 17 18 1,lD 20 19 1 false,mV 21 1,mV 22 5,iA 23 21 22 1,lD 24 23 1 false,.eb 25 true (.t 20) (.t 24)])
 (.cond (.t 25) (.seq (rE 4 (cB false))
 gR)
 .skip)))
 (.reg [mV 15 5,.bi 16 .add (.t 15) (kI 1),mV 5 16])))))))
 (.seq (rE 4 (cB true))
 gR)))
def Zs2 (a1:List Bool) (b2:List Bool) (v4:Int) (k4:Int -> Option Bool):Option Bool :=
 bif (decide (v4 < (a1.length:Int))) then ((idx a1 v4).bind fun e6=>(idx b2 v4).bind fun e7=>bif (!(e6 == e7)) then (some false) else (k4 (w64 (v4 + 1)))) else (some true)
def laws_eqBoolS (a1:List Bool) (b2:List Bool):Option Bool :=
 bif ((a1.length:Int) != (b2.length:Int)) then (some false) else (whl (Zs2 a1 b2) 9223372036854775807 0)
theorem ZIc {a1:List Bool} {b2:List Bool} {r:Bool} (H:laws_eqBoolS a1 b2 = some r):Snd Tryz.prog ZP8 [.sl .rd 1 (a1.map eBo),.sl .rd 1 (b2.map eBo)] (.bool r) []:=by
 refine wS Z8d [.t 4] ?_
 unfold laws_eqBoolS at H
 refine wG [.u 7 (.ln _ _ fun _=>lm a1 eBo),.u 9 (.ln _ _ fun _=>lm b2 eBo)] fun q3=>?_
 refine Wh_iH H (fun H=>?_) fun H=>?_
 .refine wP ?_
  replace H:=sI H; subst H
  exact wE [(4,.d)]
 .refine wP ?_
  refine wW (fun (v4:Int)=>⟨[(0,.sl .rd 1 (a1.map eBo)),(1,.sl .rd 1 (b2.map eBo)),(5,.int .i64 v4)],[],[],[]⟩) H (fun v4 I m k4 H N25=>?_)
  unfold Zs2 at H
  refine wG [.u 13 (.ln _ _ fun _=>lm a1 eBo)] fun q5=>?_
  refine Wh_iH H (fun H=>?_) fun H=>?_
  .obtain ⟨e6,h6,H⟩:=bB H
   obtain ⟨e7,h7,H⟩:=bB H
   refine wG [.u 19 (.ix _ _ _ fun _=>Z0 eBo h6),.u 23 (.ix _ _ _ fun _=>Z0 eBo h7)] fun _=>?_
   refine Wh_iH H (fun H=>?_) fun H=>?_
   .refine wP ?_
    replace H:=sI H; subst H
    exact wE [(4,.d)]
   .refine wP ?_
    exact wT (N25 _ H)
  .refine wP ?_
   replace H:=sI H; subst H
   exact wE [(4,.d)]
def Zre:L :=
sR [.mv 2 (.c (.nl))]
 (sR [mV 5 0,.ln 6 (.t 5),.ms 7 11 88 [.int .i64 0,.int .i64 0,.int .i64 0,.int .i64 0,.int .i64 0,.int .i64 0,.int .i64 0,.int .i64 0,.int .i64 0,.int .i64 0,.int .i64 0] (.t 6),mV 3 7]
 (.seq (.seq (rE 4 (kI 0))
 (.blk 0 (.loop (.gw (.seq (sR [mV 8 4,mV 9 0,.ln 10 (.t 9),bI 11 .lss 8 10]
 (.cond (.t 11) .skip
 (.exit 0)))
 (.seq (.blk 1 (.reg [mV 14 3,mV 15 4,mV 16 0,mV 17 4,iA 18 16 17 11,lD 19 18 11 true,cQ 20 ZB2 [19],iA 21 14 15 11,.st (.t 21) (.t 20) 11]))
 (.reg [mV 12 4,.bi 13 .add (.t 12) (kI 1),mV 4 13])))))))
 (sR [mV 22 3,mV 2 22]
 gR)))
def ZP2 (a1:List Job) (v4:Int × (List Job)) (k4:(Int × (List Job)) -> Option (List Job)):Option (List Job) :=
 bif (decide (v4.1 < (a1.length:Int))) then ((idx a1 v4.1).bind fun e6=>(idx v4.2 v4.1).bind fun _=>k4 ((w64 (v4.1 + 1)),(v4.2.set v4.1.toNat (Job.mk ((laws_toJob e6).id) ((laws_toJob e6).prio) ((laws_toJob e6).nodes) ((laws_toJob e6).need) ((laws_toJob e6).lic) ((laws_toJob e6).wall) ((laws_toJob e6).level))))) else (some v4.2)
def laws_toJobS (a1:List Job):Option (List Job) :=
 (mkL 88 (a1.length:Int) (Job.mk 0 0 0 (Vec.mk 0 0 0) (Vec.mk 0 0 0) 0 0)).bind fun xs2=>whl (ZP2 a1) 9223372036854775807 (0,xs2)
theorem ZUd {a1:List Job} {r:(List Job)} (H:laws_toJobS a1 = some r):Snd Tryz.prog ZS9 [.sl .rd 11 (a1.map eJob)] (.sl .nw 11 (r.map eJob)) []:=by
 refine wS Zre [.t 2] ?_
 unfold laws_toJobS at H
 obtain ⟨xs2,h2,H⟩:=bB H
 refine wG [.u 6 (.ln _ _ fun _=>lm a1 eJob),.u 7 (.ms _ _ _ _ fun _=>ZX8 eJob h2)] fun q3=>?_
 refine wW (fun (v4:Int × (List Job))=>⟨[(0,.sl .rd 11 (a1.map eJob)),(3,.sref 7),(4,.int .i64 v4.1)],[],[],[(7,⟨11,v4.2.map eJob,false⟩)]⟩) H (fun v4 I m k4 H N13=>?_)
 unfold ZP2 at H
 refine wG [.u 10 (.ln _ _ fun _=>lm a1 eJob)] fun q5=>?_
 refine Wh_iH H (fun H=>?_) fun H=>?_
 .obtain ⟨e6,h6,H⟩:=bB H
  obtain ⟨e7,h7,H⟩:=bB H
  refine wG [.u 18 (.ix _ _ _ fun _=>Z0 eJob h6),.c 20 (Zk4 e6),.u 21 (.ix _ _ _ fun _=>Z0 eJob h7),.u 1000000 (.sto _ _ _ (eJob (Job.mk ((laws_toJob e6).id) ((laws_toJob e6).prio) ((laws_toJob e6).nodes) ((laws_toJob e6).need) ((laws_toJob e6).lic) ((laws_toJob e6).wall) ((laws_toJob e6).level))) _ (fun _=>gm eJob (Z71 h7)) (fun _=>Zq6 ..))] fun _=>?_
  exact wT (N13 _ H)
 .refine wP ?_
  replace H:=sI H; subst H
  exact wN [(2,.f)] [] [] [7] [] [⟨_,Zxi v4.2⟩]
def Zwe:L :=
.seq (rE 4 (kI 0))
 (sR [mV 5 1,mV 6 0,.ln 7 (.t 6),bI 8 .sub 5 7,mV 1 8]
 (.seq (sR [mV 9 1,.bi 10 .lss (.t 9) (kI 0)]
 (.cond (.t 10) (.seq (rE 4 (kI (-1)))
 gR)
 .skip))
 (sR [mV 11 1,mV 4 11]
 gR)))
def Zm4 (a1:List Job) (left2:Int):Option Int :=
 bif (decide ((w64 (left2 - (a1.length:Int))) < 0)) then (some (-1)) else (some (w64 (left2 - (a1.length:Int))))
theorem Zcb {a1:List Job} {left2:Int} {r:Int} (H:Zm4 a1 left2 = some r):Snd Tryz.prog ZN6 [.sl .rd 11 (a1.map eJob),.int .i64 left2] (.int .i64 r) []:=by
 refine wS Zwe [.t 4] ?_
 unfold Zm4 at H
 refine wG [.u 7 (.ln _ _ fun _=>lm a1 eJob)] fun q3=>?_
 refine Wh_iH H (fun H=>?_) fun H=>?_
 .refine wP ?_
  replace H:=sI H; subst H
  exact wE [(4,.d)]
 .refine wP ?_
  replace H:=sI H; subst H
  exact wE [(4,.d)]
def laws_szJobS (a1:List Job) (left2:Int):Int :=
 bif (decide ((w64 (left2 - (a1.length:Int))) < 0)) then ((-1)) else ((w64 (left2 - (a1.length:Int))))
theorem Zag (a1:List Job) (left2:Int):Zm4 a1 left2 = some (laws_szJobS a1 left2):=by
 unfold Zm4 laws_szJobS
 first | rfl | simp only [Zd]
theorem Z2e (a1:List Job) (left2:Int):Snd Tryz.prog ZN6 [.sl .rd 11 (a1.map eJob),.int .i64 left2] (.int .i64 (laws_szJobS a1 left2)) []:=Zcb (Zag a1 left2)
def Ztg:L :=
sR [.bx 2 (.t 0),.bx 3 (.t 1),.mv 4 (cB false)]
 (.seq (sR [fA 5 2 0,lD 6 5 1 false,fA 7 3 0,lD 8 7 1 false,bI 9 .neq 6 8]
 (.cond (.t 9) (.seq (rE 4 (cB false))
 gR)
 .skip))
 (.seq (sR [fA 10 2 1,lD 11 10 1 false,fA 12 3 1,lD 13 12 1 false,bI 14 .neq 11 13]
 (.cond (.t 14) (.seq (rE 4 (cB false))
 gR)
 .skip))
 (.seq (sR [fA 15 2 2,lD 16 15 1 false,fA 17 3 2,lD 18 17 1 false,bI 19 .neq 16 18]
 (.cond (.t 19) (.seq (rE 4 (cB false))
 gR)
 .skip))
 (.seq (sR [fA 20 2 3,lD 21 20 3 true,fA 22 3 3,lD 23 22 3 true,cQ 24 ZC2 [21,23],.un 25 (.t 24)]
 (.cond (.t 25) (.seq (rE 4 (cB false))
 gR)
 .skip))
 (.seq (sR [fA 26 2 6,lD 27 26 3 true,fA 28 3 6,lD 29 28 3 true,cQ 30 ZC2 [27,29],.un 31 (.t 30)]
 (.cond (.t 31) (.seq (rE 4 (cB false))
 gR)
 .skip))
 (.seq (sR [fA 32 2 9,lD 33 32 1 false,fA 34 3 9,lD 35 34 1 false,bI 36 .neq 33 35]
 (.cond (.t 36) (.seq (rE 4 (cB false))
 gR)
 .skip))
 (.seq (sR [fA 37 2 10,lD 38 37 1 false,fA 39 3 10,lD 40 39 1 false,bI 41 .neq 38 40]
 (.cond (.t 41) (.seq (rE 4 (cB false))
 gR)
 .skip))
 (.seq (rE 4 (cB true))
 gR))))))))
def Zs5 (a1:Job) (b2:Job):Option Bool :=
 bif (a1.id != b2.id) then (some false) else (bif (a1.prio != b2.prio) then (some false) else (bif (a1.nodes != b2.nodes) then (some false) else (bif (!(laws_eqVec a1.need b2.need)) then (some false) else (bif (!(laws_eqVec a1.lic b2.lic)) then (some false) else (bif (a1.wall != b2.wall) then (some false) else (bif (a1.level != b2.level) then (some false) else (some true)))))))
theorem ZFc {a1:Job} {b2:Job} {r:Bool} (H:Zs5 a1 b2 = some r):Snd Tryz.prog ZE5 [eJob a1,eJob b2] (.bool r) []:=by
 refine wS Ztg [.t 4] ?_
 unfold Zs5 at H
 refine wP ?_
 refine Wh_iH H (fun H=>?_) fun H=>?_
 .refine wP ?_
  replace H:=sI H; subst H
  exact wE [(4,.d)]
 .refine wP ?_
  refine Wh_iH H (fun H=>?_) fun H=>?_
  .refine wP ?_
   replace H:=sI H; subst H
   exact wE [(4,.d)]
  .refine wP ?_
   refine Wh_iH H (fun H=>?_) fun H=>?_
   .refine wP ?_
    replace H:=sI H; subst H
    exact wE [(4,.d)]
   .refine wG [.c 24 (Zp4 a1.need b2.need)] fun _=>?_
    refine Wh_iH H (fun H=>?_) fun H=>?_
    .refine wP ?_
     replace H:=sI H; subst H
     exact wE [(4,.d)]
    .refine wG [.c 30 (Zp4 a1.lic b2.lic)] fun _=>?_
     refine Wh_iH H (fun H=>?_) fun H=>?_
     .refine wP ?_
      replace H:=sI H; subst H
      exact wE [(4,.d)]
     .refine wP ?_
      refine Wh_iH H (fun H=>?_) fun H=>?_
      .refine wP ?_
       replace H:=sI H; subst H
       exact wE [(4,.d)]
      .refine wP ?_
       refine Wh_iH H (fun H=>?_) fun H=>?_
       .refine wP ?_
        replace H:=sI H; subst H
        exact wE [(4,.d)]
       .refine wP ?_
        replace H:=sI H; subst H
        exact wE [(4,.d)]
def laws_eqJob (a1:Job) (b2:Job):Bool :=
 bif (a1.id != b2.id) then (false) else (bif (a1.prio != b2.prio) then (false) else (bif (a1.nodes != b2.nodes) then (false) else (bif (!(laws_eqVec a1.need b2.need)) then (false) else (bif (!(laws_eqVec a1.lic b2.lic)) then (false) else (bif (a1.wall != b2.wall) then (false) else (bif (a1.level != b2.level) then (false) else (true)))))))
theorem Zvh (a1:Job) (b2:Job):Zs5 a1 b2 = some (laws_eqJob a1 b2):=by
 unfold Zs5 laws_eqJob
 first | rfl | simp only [Zd]
theorem Zq9 (a1:Job) (b2:Job):Snd Tryz.prog ZE5 [eJob a1,eJob b2] (.bool (laws_eqJob a1 b2)) []:=ZFc (Zvh a1 b2)
def ZCe:L :=
.seq (rE 4 (cB false))
 (.seq (sR [mV 6 0,.ln 7 (.t 6),mV 8 1,.ln 9 (.t 8),bI 10 .neq 7 9]
 (.cond (.t 10) (.seq (rE 4 (cB false))
 gR)
 .skip))
 (.seq (.seq (rE 5 (kI 0))
 (.blk 0 (.loop (.gw (.seq (sR [mV 11 5,mV 12 0,.ln 13 (.t 12),bI 14 .lss 11 13]
 (.cond (.t 14) .skip
 (.exit 0)))
 (.seq (.blk 1 (.seq (.rq 10 [mV 17 0,mV 18 5,iA 19 17 18 11,lD 20 19 11 true,mV 21 1,mV 22 5,iA 23 21 22 11,lD 24 23 11 true,cQ 25 ZE5 [20,24],.un 26 (.t 25)])
 (.cond (.t 26) (.seq (rE 4 (cB false))
 gR)
 .skip)))
 (.reg [mV 15 5,.bi 16 .add (.t 15) (kI 1),mV 5 16])))))))
 (.seq (rE 4 (cB true))
 gR)))
def ZT2 (a1:List Job) (b2:List Job) (v4:Int) (k4:Int -> Option Bool):Option Bool :=
 bif (decide (v4 < (a1.length:Int))) then ((idx a1 v4).bind fun e6=>(idx b2 v4).bind fun e7=>bif (!(laws_eqJob e6 e7)) then (some false) else (k4 (w64 (v4 + 1)))) else (some true)
def laws_eqJobS (a1:List Job) (b2:List Job):Option Bool :=
 bif ((a1.length:Int) != (b2.length:Int)) then (some false) else (whl (ZT2 a1 b2) 9223372036854775807 0)
theorem Z8e {a1:List Job} {b2:List Job} {r:Bool} (H:laws_eqJobS a1 b2 = some r):Snd Tryz.prog ZX9 [.sl .rd 11 (a1.map eJob),.sl .rd 11 (b2.map eJob)] (.bool r) []:=by
 refine wS ZCe [.t 4] ?_
 unfold laws_eqJobS at H
 refine wG [.u 7 (.ln _ _ fun _=>lm a1 eJob),.u 9 (.ln _ _ fun _=>lm b2 eJob)] fun q3=>?_
 refine Wh_iH H (fun H=>?_) fun H=>?_
 .refine wP ?_
  replace H:=sI H; subst H
  exact wE [(4,.d)]
 .refine wP ?_
  refine wW (fun (v4:Int)=>⟨[(0,.sl .rd 11 (a1.map eJob)),(1,.sl .rd 11 (b2.map eJob)),(5,.int .i64 v4)],[],[],[]⟩) H (fun v4 I m k4 H N25=>?_)
  unfold ZT2 at H
  refine wG [.u 13 (.ln _ _ fun _=>lm a1 eJob)] fun q5=>?_
  refine Wh_iH H (fun H=>?_) fun H=>?_
  .obtain ⟨e6,h6,H⟩:=bB H
   obtain ⟨e7,h7,H⟩:=bB H
   refine wG [.u 19 (.ix _ _ _ fun _=>Z0 eJob h6),.u 23 (.ix _ _ _ fun _=>Z0 eJob h7),.c 25 (Zq9 e6 e7)] fun _=>?_
   refine Wh_iH H (fun H=>?_) fun H=>?_
   .refine wP ?_
    replace H:=sI H; subst H
    exact wE [(4,.d)]
   .refine wP ?_
    exact wT (N25 _ H)
  .refine wP ?_
   replace H:=sI H; subst H
   exact wE [(4,.d)]
def Zng:L :=
sR [.bx 1 (.t 0),.al 2 [.int .i64 0,.int .i64 0,.int .i64 0,.int .i64 0,.int .i64 0,.int .i64 0,.int .i64 0,.int .i64 0,.int .i64 0,.int .i64 0,.int .i64 0,.int .i64 0,.nl]]
 (sR [.al 3 [.int .i64 0,.int .i64 0,.int .i64 0,.int .i64 0,.int .i64 0,.int .i64 0,.int .i64 0,.int .i64 0,.int .i64 0,.int .i64 0,.int .i64 0,.int .i64 0,.nl]]
 (sR [fA 4 1 0,lD 5 4 11 true,cQ 6 ZB2 [5],fA 7 3 0,.st (.t 7) (.t 6) 11]
 (sR [fA 8 1 11,lD 9 8 1 false,fA 10 3 11,.st (.t 10) (.t 9) 1]
 (sR [fA 11 1 12,lD 12 11 1 false,cQ 13 ZL6 [12],fA 14 3 12,.st (.t 14) (.t 13) 1]
 (sR [lD 15 3 13 true,.st (.t 2) (.t 15) 13]
 gR)))))
def laws_toRun (a1:Run):Option Run :=
 (laws_toIntS a1.nodes).bind fun y2=>some (Run.mk (Job.mk ((laws_toJob a1.job).id) ((laws_toJob a1.job).prio) ((laws_toJob a1.job).nodes) ((laws_toJob a1.job).need) ((laws_toJob a1.job).lic) ((laws_toJob a1.job).wall) ((laws_toJob a1.job).level)) a1.t y2)
theorem Z4g {a1:Run} {r:Run} (H:laws_toRun a1 = some r):Snd Tryz.prog ZSa [eRunT .rd a1] (eRunT .nw r) []:=by
 refine wS Zng [.c 2 13 true] ?_
 unfold laws_toRun at H
 obtain ⟨y2,h2,H⟩:=bB H
 refine wG [.c 6 (Zk4 a1.job),.c 13 (Zs8 h2)] fun _=>?_
 replace H:=sI H; subst H
 exact wN [(2,.d)] [(2,[])] [] [] [] [⟨_,nw_I y2⟩]
def Zpe:L :=
sR [.mv 2 (.c (.nl))]
 (sR [mV 5 0,.ln 6 (.t 5),.ms 7 13 120 [.int .i64 0,.int .i64 0,.int .i64 0,.int .i64 0,.int .i64 0,.int .i64 0,.int .i64 0,.int .i64 0,.int .i64 0,.int .i64 0,.int .i64 0,.int .i64 0,.sl .nw 1 []] (.t 6),mV 3 7]
 (.seq (.seq (rE 4 (kI 0))
 (.blk 0 (.loop (.gw (.seq (sR [mV 8 4,mV 9 0,.ln 10 (.t 9),bI 11 .lss 8 10]
 (.cond (.t 11) .skip
 (.exit 0)))
 (.seq (.blk 1 (.reg [mV 14 3,mV 15 4,mV 16 0,mV 17 4,iA 18 16 17 13,lD 19 18 13 true,cQ 20 ZSa [19],iA 21 14 15 13,.st (.t 21) (.t 20) 13]))
 (.reg [mV 12 4,.bi 13 .add (.t 12) (kI 1),mV 4 13])))))))
 (sR [mV 22 3,mV 2 22]
 gR)))
def ZO2 (a1:List Run) (v4:Int × (List Run)) (k4:(Int × (List Run)) -> Option (List Run)):Option (List Run) :=
 bif (decide (v4.1 < (a1.length:Int))) then ((idx a1 v4.1).bind fun e6=>(laws_toRun e6).bind fun y7=>(idx v4.2 v4.1).bind fun _=>k4 ((w64 (v4.1 + 1)),(v4.2.set v4.1.toNat y7))) else (some v4.2)
def laws_toRunS (a1:List Run):Option (List Run) :=
 (mkL 120 (a1.length:Int) (Run.mk (Job.mk 0 0 0 (Vec.mk 0 0 0) (Vec.mk 0 0 0) 0 0) 0 [])).bind fun xs2=>whl (ZO2 a1) 9223372036854775807 (0,xs2)
theorem ZRd {a1:List Run} {r:(List Run)} (H:laws_toRunS a1 = some r):Snd Tryz.prog ZR9 [.sl .rd 13 (a1.map (eRunT .rd))] (.sl .nw 13 (r.map (eRunT .nw))) []:=by
 refine wS Zpe [.t 2] ?_
 unfold laws_toRunS at H
 obtain ⟨xs2,h2,H⟩:=bB H
 refine wG [.u 6 (.ln _ _ fun _=>lm a1 (eRunT .rd)),.u 7 (.ms _ _ _ _ fun _=>ZX8 (eRunT .nw) h2)] fun q3=>?_
 refine wW (fun (v4:Int × (List Run))=>⟨[(0,.sl .rd 13 (a1.map (eRunT .rd))),(3,.sref 7),(4,.int .i64 v4.1)],[],[],[(7,⟨13,v4.2.map (eRunT .nw),false⟩)]⟩) H (fun v4 I m k4 H N13=>?_)
 unfold ZO2 at H
 refine wG [.u 10 (.ln _ _ fun _=>lm a1 (eRunT .rd))] fun q5=>?_
 refine Wh_iH H (fun H=>?_) fun H=>?_
 .obtain ⟨e6,h6,H⟩:=bB H
  obtain ⟨y7,h7,H⟩:=bB H
  obtain ⟨e8,h8,H⟩:=bB H
  refine wG [.u 18 (.ix _ _ _ fun _=>Z0 (eRunT .rd) h6),.c 20 (Z4g h7),.u 21 (.ix _ _ _ fun _=>Z0 (eRunT .nw) h8),.u 1000000 (.sto _ _ _ (eRunT .nw y7) _ (fun _=>gm (eRunT .nw) (Z71 h8)) (fun _=>Zq6 ..))] fun _=>?_
  exact wT (N13 _ H)
 .refine wP ?_
  replace H:=sI H; subst H
  exact wN [(2,.f)] [] [] [7] [] [⟨_,ZGj v4.2⟩]
def Zpg:L :=
sR [.bx 1 (.t 0),.al 2 [.int .i64 0,.int .i64 0,.int .i64 0]]
 (sR [.al 3 [.int .i64 0,.int .i64 0,.int .i64 0]]
 (sR [fA 4 1 0,lD 5 4 1 false,fA 6 3 0,.st (.t 6) (.t 5) 1]
 (sR [fA 7 1 1,lD 8 7 1 false,fA 9 3 1,.st (.t 9) (.t 8) 1]
 (sR [fA 10 1 2,lD 11 10 1 false,fA 12 3 2,.st (.t 12) (.t 11) 1]
 (sR [lD 13 3 3 true,.st (.t 2) (.t 13) 3]
 gR)))))
def Zp5 (a1:End):Option End :=
 some a1
theorem Ztc {a1:End} {r:End} (H:Zp5 a1 = some r):Snd Tryz.prog ZW7 [eEnd a1] (eEnd r) []:=by
 refine wS Zpg [.c 2 3 true] ?_
 unfold Zp5 at H
 refine wP ?_
 replace H:=sI H; subst H
 exact wN [(2,.d)] [(2,[])] [] [] [] []
def laws_toEnd (a1:End):End :=
 a1
theorem Zsh (a1:End):Zp5 a1 = some (laws_toEnd a1):=by
 unfold Zp5 laws_toEnd
 first | rfl | simp only [Zd]
theorem Z7g (a1:End):Snd Tryz.prog ZW7 [eEnd a1] (eEnd (laws_toEnd a1)) []:=Ztc (Zsh a1)
def Zte:L :=
sR [.mv 2 (.c (.nl))]
 (sR [mV 5 0,.ln 6 (.t 5),.ms 7 3 24 [.int .i64 0,.int .i64 0,.int .i64 0] (.t 6),mV 3 7]
 (.seq (.seq (rE 4 (kI 0))
 (.blk 0 (.loop (.gw (.seq (sR [mV 8 4,mV 9 0,.ln 10 (.t 9),bI 11 .lss 8 10]
 (.cond (.t 11) .skip
 (.exit 0)))
 (.seq (.blk 1 (.reg [mV 14 3,mV 15 4,mV 16 0,mV 17 4,iA 18 16 17 3,lD 19 18 3 true,cQ 20 ZW7 [19],iA 21 14 15 3,.st (.t 21) (.t 20) 3]))
 (.reg [mV 12 4,.bi 13 .add (.t 12) (kI 1),mV 4 13])))))))
 (sR [mV 22 3,mV 2 22]
 gR)))
def ZR2 (a1:List End) (v4:Int × (List End)) (k4:(Int × (List End)) -> Option (List End)):Option (List End) :=
 bif (decide (v4.1 < (a1.length:Int))) then ((idx a1 v4.1).bind fun e6=>(idx v4.2 v4.1).bind fun _=>k4 ((w64 (v4.1 + 1)),(v4.2.set v4.1.toNat (laws_toEnd e6)))) else (some v4.2)
def laws_toEndS (a1:List End):Option (List End) :=
 (mkL 24 (a1.length:Int) (End.mk 0 0 0)).bind fun xs2=>whl (ZR2 a1) 9223372036854775807 (0,xs2)
theorem ZWd {a1:List End} {r:(List End)} (H:laws_toEndS a1 = some r):Snd Tryz.prog ZT9 [.sl .rd 3 (a1.map eEnd)] (.sl .nw 3 (r.map eEnd)) []:=by
 refine wS Zte [.t 2] ?_
 unfold laws_toEndS at H
 obtain ⟨xs2,h2,H⟩:=bB H
 refine wG [.u 6 (.ln _ _ fun _=>lm a1 eEnd),.u 7 (.ms _ _ _ _ fun _=>ZX8 eEnd h2)] fun q3=>?_
 refine wW (fun (v4:Int × (List End))=>⟨[(0,.sl .rd 3 (a1.map eEnd)),(3,.sref 7),(4,.int .i64 v4.1)],[],[],[(7,⟨3,v4.2.map eEnd,false⟩)]⟩) H (fun v4 I m k4 H N13=>?_)
 unfold ZR2 at H
 refine wG [.u 10 (.ln _ _ fun _=>lm a1 eEnd)] fun q5=>?_
 refine Wh_iH H (fun H=>?_) fun H=>?_
 .obtain ⟨e6,h6,H⟩:=bB H
  obtain ⟨e7,h7,H⟩:=bB H
  refine wG [.u 18 (.ix _ _ _ fun _=>Z0 eEnd h6),.c 20 (Z7g e6),.u 21 (.ix _ _ _ fun _=>Z0 eEnd h7),.u 1000000 (.sto _ _ _ (eEnd (laws_toEnd e6)) _ (fun _=>gm eEnd (Z71 h7)) (fun _=>Zq6 ..))] fun _=>?_
  exact wT (N13 _ H)
 .refine wP ?_
  replace H:=sI H; subst H
  exact wN [(2,.f)] [] [] [7] [] [⟨_,nw_End v4.2⟩]
def Z0d:L :=
sR [.bx 1 (.t 0),.al 2 [.nl,.nl,.nl,.int .i64 0,.int .i64 0,.int .i64 0,.int .i64 0,.int .i64 0,.nl,.nl,.nl]]
 (sR [.al 3 [.nl,.nl,.nl,.int .i64 0,.int .i64 0,.int .i64 0,.int .i64 0,.int .i64 0,.nl,.nl,.nl]]
 (sR [fA 4 1 0,lD 5 4 2 true,cQ 6 ZQ9 [5],fA 7 3 0,.st (.t 7) (.t 6) 2]
 (sR [fA 8 1 2,lD 9 8 1 false,cQ 10 ZL8 [9],fA 11 3 2,.st (.t 11) (.t 10) 1]
 (sR [fA 12 1 3,lD 13 12 3 true,cQ 14 ZA2 [13],fA 15 3 3,.st (.t 15) (.t 14) 3]
 (sR [fA 16 1 6,lD 17 16 1 false,fA 18 3 6,.st (.t 18) (.t 17) 1]
 (sR [fA 19 1 7,lD 20 19 1 false,fA 21 3 7,.st (.t 21) (.t 20) 1]
 (sR [fA 22 1 8,lD 23 22 1 false,cQ 24 ZS9 [23],fA 25 3 8,.st (.t 25) (.t 24) 1]
 (sR [fA 26 1 9,lD 27 26 1 false,cQ 28 ZR9 [27],fA 29 3 9,.st (.t 29) (.t 28) 1]
 (sR [fA 30 1 10,lD 31 30 1 false,cQ 32 ZT9 [31],fA 33 3 10,.st (.t 33) (.t 32) 1]
 (sR [lD 34 3 11 true,.st (.t 2) (.t 34) 11]
 gR))))))))))
def laws_toState (a1:State):Option State :=
 (laws_toTopo a1.topo).bind fun y2=>(laws_toBoolS a1.up).bind fun y3=>(laws_toJobS a1.queue).bind fun y4=>(laws_toRunS a1.runs).bind fun y5=>(laws_toEndS a1.ends).bind fun y6=>some (State.mk y2 y3 (laws_toVec a1.lic) a1.depth a1.now y4 y5 y6)
theorem ZT4 {a1:State} {r:State} (H:laws_toState a1 = some r):Snd Tryz.prog ZH3 [ZE .rd a1] (ZE .nw r) []:=by
 refine wS Z0d [.c 2 11 true] ?_
 unfold laws_toState at H
 obtain ⟨y2,h2,H⟩:=bB H
 obtain ⟨y3,h3,H⟩:=bB H
 obtain ⟨y4,h4,H⟩:=bB H
 obtain ⟨y5,h5,H⟩:=bB H
 obtain ⟨y6,h6,H⟩:=bB H
 refine wG [.c 6 (ZPd h2),.c 10 (Zuc h3),.c 14 (Zi4 a1.lic),.c 24 (ZUd h4),.c 28 (ZRd h5),.c 32 (ZWd h6)] fun _=>?_
 replace H:=sI H; subst H
 exact wN [(2,.d)] [(2,[])] [] [] [] [⟨_,nw_I y2.parents⟩,⟨_,ZT y2.nodes⟩,⟨_,nw_Bo y3⟩,⟨_,Zxi y4⟩,⟨_,ZGj y5⟩,⟨_,nw_End y6⟩]
def Zqg:L :=
sR [.bx 2 (.t 0),.mv 4 (kI 0)]
 (sR [fA 5 2 12,lD 6 5 1 false,mV 7 1,cQ 8 ZC4 [6,7],mV 1 8]
 (.seq (sR [mV 9 1,.bi 10 .lss (.t 9) (kI 0)]
 (.cond (.t 10) (.seq (rE 4 (kI (-1)))
 gR)
 .skip))
 (sR [mV 11 1,mV 4 11]
 gR)))
def Zq5 (a1:Run) (left2:Int):Option Int :=
 bif (decide ((laws_szIntS a1.nodes left2) < 0)) then (some (-1)) else (some (laws_szIntS a1.nodes left2))
theorem Zyc {a1:Run} {left2:Int} {r:Int} (H:Zq5 a1 left2 = some r):Snd Tryz.prog ZX7 [eRunT .rd a1,.int .i64 left2] (.int .i64 r) []:=by
 refine wS Zqg [.t 4] ?_
 unfold Zq5 at H
 refine wG [.c 8 (Zu8 a1.nodes left2)] fun _=>?_
 refine Wh_iH H (fun H=>?_) fun H=>?_
 .refine wP ?_
  replace H:=sI H; subst H
  exact wE [(4,.d)]
 .refine wP ?_
  replace H:=sI H; subst H
  exact wE [(4,.d)]
def laws_szRun (a1:Run) (left2:Int):Int :=
 bif (decide ((laws_szIntS a1.nodes left2) < 0)) then ((-1)) else ((laws_szIntS a1.nodes left2))
theorem Zth (a1:Run) (left2:Int):Zq5 a1 left2 = some (laws_szRun a1 left2):=by
 unfold Zq5 laws_szRun
 first | rfl | simp only [Zd]
theorem Z9g (a1:Run) (left2:Int):Snd Tryz.prog ZX7 [eRunT .rd a1,.int .i64 left2] (.int .i64 (laws_szRun a1 left2)) []:=Zyc (Zth a1 left2)
def Zve:L :=
.seq (rE 4 (kI 0))
 (sR [mV 6 1,mV 7 0,.ln 8 (.t 7),bI 9 .sub 6 8,mV 1 9]
 (.seq (sR [mV 10 1,.bi 11 .lss (.t 10) (kI 0)]
 (.cond (.t 11) (.seq (rE 4 (kI (-1)))
 gR)
 .skip))
 (.seq (.seq (rE 5 (kI 0))
 (.blk 0 (.loop (.gw (.seq (sR [mV 12 5,mV 13 0,.ln 14 (.t 13),bI 15 .lss 12 14]
 (.cond (.t 15) .skip
 (.exit 0)))
 (.seq (.blk 1 (sR [mV 18 0,mV 19 5,iA 20 18 19 13,lD 21 20 13 true,mV 22 1,cQ 23 ZX7 [21,22],mV 1 23]
 (sR [mV 24 1,.bi 25 .lss (.t 24) (kI 0)]
 (.cond (.t 25) (.seq (rE 4 (kI (-1)))
 gR)
 .skip))))
 (.reg [mV 16 5,.bi 17 .add (.t 16) (kI 1),mV 5 17])))))))
 (sR [mV 26 1,mV 4 26]
 gR))))
def ZU4 (a1:List Run) (v4:Int × Int) (k4:(Int × Int) -> Option Int):Option Int :=
 bif (decide (v4.2 < (a1.length:Int))) then ((idx a1 v4.2).bind fun e6=>bif (decide ((laws_szRun e6 v4.1) < 0)) then (some (-1)) else (k4 ((laws_szRun e6 v4.1),(w64 (v4.2 + 1))))) else (some v4.1)
def laws_szRunS (a1:List Run) (left2:Int):Option Int :=
 bif (decide ((w64 (left2 - (a1.length:Int))) < 0)) then (some (-1)) else (whl (ZU4 a1) 9223372036854775807 ((w64 (left2 - (a1.length:Int))),0))
theorem Z0e {a1:List Run} {left2:Int} {r:Int} (H:laws_szRunS a1 left2 = some r):Snd Tryz.prog ZU9 [.sl .rd 13 (a1.map (eRunT .rd)),.int .i64 left2] (.int .i64 r) []:=by
 refine wS Zve [.t 4] ?_
 unfold laws_szRunS at H
 refine wG [.u 8 (.ln _ _ fun _=>lm a1 (eRunT .rd))] fun q3=>?_
 refine Wh_iH H (fun H=>?_) fun H=>?_
 .refine wP ?_
  replace H:=sI H; subst H
  exact wE [(4,.d)]
 .refine wP ?_
  refine wW (fun (v4:Int × Int)=>⟨[(0,.sl .rd 13 (a1.map (eRunT .rd))),(1,.int .i64 v4.1),(5,.int .i64 v4.2)],[],[],[]⟩) H (fun v4 I m k4 H N28=>?_)
  unfold ZU4 at H
  refine wG [.u 14 (.ln _ _ fun _=>lm a1 (eRunT .rd))] fun q5=>?_
  refine Wh_iH H (fun H=>?_) fun H=>?_
  .obtain ⟨e6,h6,H⟩:=bB H
   refine wG [.u 20 (.ix _ _ _ fun _=>Z0 (eRunT .rd) h6),.c 23 (Z9g e6 v4.1)] fun _=>?_
   refine Wh_iH H (fun H=>?_) fun H=>?_
   .refine wP ?_
    replace H:=sI H; subst H
    exact wE [(4,.d)]
   .refine wP ?_
    exact wT (N28 _ H)
  .refine wP ?_
   replace H:=sI H; subst H
   exact wE [(4,.d)]
def Zye:L :=
.seq (rE 4 (kI 0))
 (sR [mV 5 1,mV 6 0,.ln 7 (.t 6),bI 8 .sub 5 7,mV 1 8]
 (.seq (sR [mV 9 1,.bi 10 .lss (.t 9) (kI 0)]
 (.cond (.t 10) (.seq (rE 4 (kI (-1)))
 gR)
 .skip))
 (sR [mV 11 1,mV 4 11]
 gR)))
def Zo4 (a1:List End) (left2:Int):Option Int :=
 bif (decide ((w64 (left2 - (a1.length:Int))) < 0)) then (some (-1)) else (some (w64 (left2 - (a1.length:Int))))
theorem Zeb {a1:List End} {left2:Int} {r:Int} (H:Zo4 a1 left2 = some r):Snd Tryz.prog ZO6 [.sl .rd 3 (a1.map eEnd),.int .i64 left2] (.int .i64 r) []:=by
 refine wS Zye [.t 4] ?_
 unfold Zo4 at H
 refine wG [.u 7 (.ln _ _ fun _=>lm a1 eEnd)] fun q3=>?_
 refine Wh_iH H (fun H=>?_) fun H=>?_
 .refine wP ?_
  replace H:=sI H; subst H
  exact wE [(4,.d)]
 .refine wP ?_
  replace H:=sI H; subst H
  exact wE [(4,.d)]
def laws_szEndS (a1:List End) (left2:Int):Int :=
 bif (decide ((w64 (left2 - (a1.length:Int))) < 0)) then ((-1)) else ((w64 (left2 - (a1.length:Int))))
theorem Zcg (a1:List End) (left2:Int):Zo4 a1 left2 = some (laws_szEndS a1 left2):=by
 unfold Zo4 laws_szEndS
 first | rfl | simp only [Zd]
theorem Z3e (a1:List End) (left2:Int):Snd Tryz.prog ZO6 [.sl .rd 3 (a1.map eEnd),.int .i64 left2] (.int .i64 (laws_szEndS a1 left2)) []:=Zeb (Zcg a1 left2)
def Z3d:L :=
sR [.bx 2 (.t 0),.mv 4 (kI 0)]
 (sR [fA 5 2 0,lD 6 5 2 true,mV 7 1,cQ 8 ZM6 [6,7],mV 1 8]
 (.seq (sR [mV 9 1,.bi 10 .lss (.t 9) (kI 0)]
 (.cond (.t 10) (.seq (rE 4 (kI (-1)))
 gR)
 .skip))
 (sR [fA 11 2 2,lD 12 11 1 false,mV 13 1,cQ 14 Z76 [12,13],mV 1 14]
 (.seq (sR [mV 15 1,.bi 16 .lss (.t 15) (kI 0)]
 (.cond (.t 16) (.seq (rE 4 (kI (-1)))
 gR)
 .skip))
 (sR [fA 17 2 8,lD 18 17 1 false,mV 19 1,cQ 20 ZN6 [18,19],mV 1 20]
 (.seq (sR [mV 21 1,.bi 22 .lss (.t 21) (kI 0)]
 (.cond (.t 22) (.seq (rE 4 (kI (-1)))
 gR)
 .skip))
 (sR [fA 23 2 9,lD 24 23 1 false,mV 25 1,cQ 26 ZU9 [24,25],mV 1 26]
 (.seq (sR [mV 27 1,.bi 28 .lss (.t 27) (kI 0)]
 (.cond (.t 28) (.seq (rE 4 (kI (-1)))
 gR)
 .skip))
 (sR [fA 29 2 10,lD 30 29 1 false,mV 31 1,cQ 32 ZO6 [30,31],mV 1 32]
 (.seq (sR [mV 33 1,.bi 34 .lss (.t 33) (kI 0)]
 (.cond (.t 34) (.seq (rE 4 (kI (-1)))
 gR)
 .skip))
 (sR [mV 35 1,mV 4 35]
 gR)))))))))))
def laws_szState (a1:State) (left2:Int):Option Int :=
 bif (decide ((laws_szTopo a1.topo left2) < 0)) then (some (-1)) else (bif (decide ((laws_szBoolS a1.up (laws_szTopo a1.topo left2)) < 0)) then (some (-1)) else (bif (decide ((laws_szJobS a1.queue (laws_szBoolS a1.up (laws_szTopo a1.topo left2))) < 0)) then (some (-1)) else ((laws_szRunS a1.runs (laws_szJobS a1.queue (laws_szBoolS a1.up (laws_szTopo a1.topo left2)))).bind fun n3=>bif (decide (n3 < 0)) then (some (-1)) else (bif (decide ((laws_szEndS a1.ends n3) < 0)) then (some (-1)) else (some (laws_szEndS a1.ends n3))))))
theorem Zwc {a1:State} {left2:Int} {r:Int} (H:laws_szState a1 left2 = some r):Snd Tryz.prog ZM8 [ZE .rd a1,.int .i64 left2] (.int .i64 r) []:=by
 refine wS Z3d [.t 4] ?_
 unfold laws_szState at H
 refine wG [.c 8 (ZYd a1.topo left2)] fun _=>?_
 refine Wh_iH H (fun H=>?_) fun H=>?_
 .refine wP ?_
  replace H:=sI H; subst H
  exact wE [(4,.d)]
 .refine wG [.u 14 (.call _ _ _ _ _ (AEs.refl _) (fun _=>ZAc a1.up (laws_szTopo a1.topo left2)))] fun _=>?_
  refine Wh_iH H (fun H=>?_) fun H=>?_
  .refine wP ?_
   replace H:=sI H; subst H
   exact wE [(4,.d)]
  .refine wG [.u 20 (.call _ _ _ _ _ (AEs.refl _) (fun _=>Z2e a1.queue (laws_szBoolS a1.up (laws_szTopo a1.topo left2))))] fun _=>?_
   refine Wh_iH H (fun H=>?_) fun H=>?_
   .refine wP ?_
    replace H:=sI H; subst H
    exact wE [(4,.d)]
   .obtain ⟨n3,h3,H⟩:=bB H
    refine wG [.c 26 (Z0e h3)] fun _=>?_
    refine Wh_iH H (fun H=>?_) fun H=>?_
    .refine wP ?_
     replace H:=sI H; subst H
     exact wE [(4,.d)]
    .refine wG [.c 32 (Z3e a1.ends n3)] fun _=>?_
     refine Wh_iH H (fun H=>?_) fun H=>?_
     .refine wP ?_
      replace H:=sI H; subst H
      exact wE [(4,.d)]
     .refine wP ?_
      replace H:=sI H; subst H
      exact wE [(4,.d)]
def Zsg:L :=
sR [.bx 2 (.t 0),.bx 3 (.t 1),.mv 4 (cB false)]
 (.seq (sR [fA 5 2 0,lD 6 5 11 true,fA 7 3 0,lD 8 7 11 true,cQ 9 ZE5 [6,8],.un 10 (.t 9)]
 (.cond (.t 10) (.seq (rE 4 (cB false))
 gR)
 .skip))
 (.seq (sR [fA 11 2 11,lD 12 11 1 false,fA 13 3 11,lD 14 13 1 false,bI 15 .neq 12 14]
 (.cond (.t 15) (.seq (rE 4 (cB false))
 gR)
 .skip))
 (.seq (sR [fA 16 2 12,lD 17 16 1 false,fA 18 3 12,lD 19 18 1 false,cQ 20 ZQ6 [17,19],.un 21 (.t 20)]
 (.cond (.t 21) (.seq (rE 4 (cB false))
 gR)
 .skip))
 (.seq (rE 4 (cB true))
 gR))))
def laws_eqRun (a1:Run) (b2:Run):Option Bool :=
 bif (!(laws_eqJob a1.job b2.job)) then (some false) else (bif (a1.t != b2.t) then (some false) else ((laws_eqIntS a1.nodes b2.nodes).bind fun b3=>bif (!b3) then (some false) else (some true)))
theorem Zdg {a1:Run} {b2:Run} {r:Bool} (H:laws_eqRun a1 b2 = some r):Snd Tryz.prog ZTa [eRunT .rd a1,eRunT .rd b2] (.bool r) []:=by
 refine wS Zsg [.t 4] ?_
 unfold laws_eqRun at H
 refine wG [.c 9 (Zq9 a1.job b2.job)] fun _=>?_
 refine Wh_iH H (fun H=>?_) fun H=>?_
 .refine wP ?_
  replace H:=sI H; subst H
  exact wE [(4,.d)]
 .refine wP ?_
  refine Wh_iH H (fun H=>?_) fun H=>?_
  .refine wP ?_
   replace H:=sI H; subst H
   exact wE [(4,.d)]
  .obtain ⟨b3,h3,H⟩:=bB H
   refine wG [.c 20 (Zv8 h3)] fun _=>?_
   refine Wh_iH H (fun H=>?_) fun H=>?_
   .refine wP ?_
    replace H:=sI H; subst H
    exact wE [(4,.d)]
   .refine wP ?_
    replace H:=sI H; subst H
    exact wE [(4,.d)]
def ZAe:L :=
.seq (rE 4 (cB false))
 (.seq (sR [mV 6 0,.ln 7 (.t 6),mV 8 1,.ln 9 (.t 8),bI 10 .neq 7 9]
 (.cond (.t 10) (.seq (rE 4 (cB false))
 gR)
 .skip))
 (.seq (.seq (rE 5 (kI 0))
 (.blk 0 (.loop (.gw (.seq (sR [mV 11 5,mV 12 0,.ln 13 (.t 12),bI 14 .lss 11 13]
 (.cond (.t 14) .skip
 (.exit 0)))
 (.seq (.blk 1 (.seq (.rq 10 [mV 17 0,mV 18 5,iA 19 17 18 13,lD 20 19 13 true,mV 21 1,mV 22 5,iA 23 21 22 13,lD 24 23 13 true,cQ 25 ZTa [20,24],.un 26 (.t 25)])
 (.cond (.t 26) (.seq (rE 4 (cB false))
 gR)
 .skip)))
 (.reg [mV 15 5,.bi 16 .add (.t 15) (kI 1),mV 5 16])))))))
 (.seq (rE 4 (cB true))
 gR)))
def ZS2 (a1:List Run) (b2:List Run) (v4:Int) (k4:Int -> Option Bool):Option Bool :=
 bif (decide (v4 < (a1.length:Int))) then ((idx a1 v4).bind fun e6=>(idx b2 v4).bind fun e7=>(laws_eqRun e6 e7).bind fun b8=>bif (!b8) then (some false) else (k4 (w64 (v4 + 1)))) else (some true)
def laws_eqRunS (a1:List Run) (b2:List Run):Option Bool :=
 bif ((a1.length:Int) != (b2.length:Int)) then (some false) else (whl (ZS2 a1 b2) 9223372036854775807 0)
theorem Z6e {a1:List Run} {b2:List Run} {r:Bool} (H:laws_eqRunS a1 b2 = some r):Snd Tryz.prog ZW9 [.sl .rd 13 (a1.map (eRunT .rd)),.sl .rd 13 (b2.map (eRunT .rd))] (.bool r) []:=by
 refine wS ZAe [.t 4] ?_
 unfold laws_eqRunS at H
 refine wG [.u 7 (.ln _ _ fun _=>lm a1 (eRunT .rd)),.u 9 (.ln _ _ fun _=>lm b2 (eRunT .rd))] fun q3=>?_
 refine Wh_iH H (fun H=>?_) fun H=>?_
 .refine wP ?_
  replace H:=sI H; subst H
  exact wE [(4,.d)]
 .refine wP ?_
  refine wW (fun (v4:Int)=>⟨[(0,.sl .rd 13 (a1.map (eRunT .rd))),(1,.sl .rd 13 (b2.map (eRunT .rd))),(5,.int .i64 v4)],[],[],[]⟩) H (fun v4 I m k4 H N25=>?_)
  unfold ZS2 at H
  refine wG [.u 13 (.ln _ _ fun _=>lm a1 (eRunT .rd))] fun q5=>?_
  refine Wh_iH H (fun H=>?_) fun H=>?_
  .obtain ⟨e6,h6,H⟩:=bB H
   obtain ⟨e7,h7,H⟩:=bB H
   obtain ⟨b8,h8,H⟩:=bB H
   refine wG [.u 19 (.ix _ _ _ fun _=>Z0 (eRunT .rd) h6),.u 23 (.ix _ _ _ fun _=>Z0 (eRunT .rd) h7),.c 25 (Zdg h8)] fun _=>?_
   refine Wh_iH H (fun H=>?_) fun H=>?_
   .refine wP ?_
    replace H:=sI H; subst H
    exact wE [(4,.d)]
   .refine wP ?_
    exact wT (N25 _ H)
  .refine wP ?_
   replace H:=sI H; subst H
   exact wE [(4,.d)]
def Zug:L :=
sR [.bx 2 (.t 0),.bx 3 (.t 1),.mv 4 (cB false)]
 (.seq (sR [fA 5 2 0,lD 6 5 1 false,fA 7 3 0,lD 8 7 1 false,bI 9 .neq 6 8]
 (.cond (.t 9) (.seq (rE 4 (cB false))
 gR)
 .skip))
 (.seq (sR [fA 10 2 1,lD 11 10 1 false,fA 12 3 1,lD 13 12 1 false,bI 14 .neq 11 13]
 (.cond (.t 14) (.seq (rE 4 (cB false))
 gR)
 .skip))
 (.seq (sR [fA 15 2 2,lD 16 15 1 false,fA 17 3 2,lD 18 17 1 false,bI 19 .neq 16 18]
 (.cond (.t 19) (.seq (rE 4 (cB false))
 gR)
 .skip))
 (.seq (rE 4 (cB true))
 gR))))
def Zt5 (a1:End) (b2:End):Option Bool :=
 bif (a1.id != b2.id) then (some false) else (bif (a1.t != b2.t) then (some false) else (bif (a1.why != b2.why) then (some false) else (some true)))
theorem ZHc {a1:End} {b2:End} {r:Bool} (H:Zt5 a1 b2 = some r):Snd Tryz.prog ZY7 [eEnd a1,eEnd b2] (.bool r) []:=by
 refine wS Zug [.t 4] ?_
 unfold Zt5 at H
 refine wP ?_
 refine Wh_iH H (fun H=>?_) fun H=>?_
 .refine wP ?_
  replace H:=sI H; subst H
  exact wE [(4,.d)]
 .refine wP ?_
  refine Wh_iH H (fun H=>?_) fun H=>?_
  .refine wP ?_
   replace H:=sI H; subst H
   exact wE [(4,.d)]
  .refine wP ?_
   refine Wh_iH H (fun H=>?_) fun H=>?_
   .refine wP ?_
    replace H:=sI H; subst H
    exact wE [(4,.d)]
   .refine wP ?_
    replace H:=sI H; subst H
    exact wE [(4,.d)]
def laws_eqEnd (a1:End) (b2:End):Bool :=
 bif (a1.id != b2.id) then (false) else (bif (a1.t != b2.t) then (false) else (bif (a1.why != b2.why) then (false) else (true)))
theorem Zwh (a1:End) (b2:End):Zt5 a1 b2 = some (laws_eqEnd a1 b2):=by
 unfold Zt5 laws_eqEnd
 first | rfl | simp only [Zd]
theorem Zfg (a1:End) (b2:End):Snd Tryz.prog ZY7 [eEnd a1,eEnd b2] (.bool (laws_eqEnd a1 b2)) []:=ZHc (Zwh a1 b2)
def ZEe:L :=
.seq (rE 4 (cB false))
 (.seq (sR [mV 6 0,.ln 7 (.t 6),mV 8 1,.ln 9 (.t 8),bI 10 .neq 7 9]
 (.cond (.t 10) (.seq (rE 4 (cB false))
 gR)
 .skip))
 (.seq (.seq (rE 5 (kI 0))
 (.blk 0 (.loop (.gw (.seq (sR [mV 11 5,mV 12 0,.ln 13 (.t 12),bI 14 .lss 11 13]
 (.cond (.t 14) .skip
 (.exit 0)))
 (.seq (.blk 1 (.seq (.rq 10 [mV 17 0,mV 18 5,iA 19 17 18 3,lD 20 19 3 true,mV 21 1,mV 22 5,iA 23 21 22 3,lD 24 23 3 true,cQ 25 ZY7 [20,24],.un 26 (.t 25)])
 (.cond (.t 26) (.seq (rE 4 (cB false))
 gR)
 .skip)))
 (.reg [mV 15 5,.bi 16 .add (.t 15) (kI 1),mV 5 16])))))))
 (.seq (rE 4 (cB true))
 gR)))
def ZV2 (a1:List End) (b2:List End) (v4:Int) (k4:Int -> Option Bool):Option Bool :=
 bif (decide (v4 < (a1.length:Int))) then ((idx a1 v4).bind fun e6=>(idx b2 v4).bind fun e7=>bif (!(laws_eqEnd e6 e7)) then (some false) else (k4 (w64 (v4 + 1)))) else (some true)
def laws_eqEndS (a1:List End) (b2:List End):Option Bool :=
 bif ((a1.length:Int) != (b2.length:Int)) then (some false) else (whl (ZV2 a1 b2) 9223372036854775807 0)
theorem Z9e {a1:List End} {b2:List End} {r:Bool} (H:laws_eqEndS a1 b2 = some r):Snd Tryz.prog ZY9 [.sl .rd 3 (a1.map eEnd),.sl .rd 3 (b2.map eEnd)] (.bool r) []:=by
 refine wS ZEe [.t 4] ?_
 unfold laws_eqEndS at H
 refine wG [.u 7 (.ln _ _ fun _=>lm a1 eEnd),.u 9 (.ln _ _ fun _=>lm b2 eEnd)] fun q3=>?_
 refine Wh_iH H (fun H=>?_) fun H=>?_
 .refine wP ?_
  replace H:=sI H; subst H
  exact wE [(4,.d)]
 .refine wP ?_
  refine wW (fun (v4:Int)=>⟨[(0,.sl .rd 3 (a1.map eEnd)),(1,.sl .rd 3 (b2.map eEnd)),(5,.int .i64 v4)],[],[],[]⟩) H (fun v4 I m k4 H N25=>?_)
  unfold ZV2 at H
  refine wG [.u 13 (.ln _ _ fun _=>lm a1 eEnd)] fun q5=>?_
  refine Wh_iH H (fun H=>?_) fun H=>?_
  .obtain ⟨e6,h6,H⟩:=bB H
   obtain ⟨e7,h7,H⟩:=bB H
   refine wG [.u 19 (.ix _ _ _ fun _=>Z0 eEnd h6),.u 23 (.ix _ _ _ fun _=>Z0 eEnd h7),.c 25 (Zfg e6 e7)] fun _=>?_
   refine Wh_iH H (fun H=>?_) fun H=>?_
   .refine wP ?_
    replace H:=sI H; subst H
    exact wE [(4,.d)]
   .refine wP ?_
    exact wT (N25 _ H)
  .refine wP ?_
   replace H:=sI H; subst H
   exact wE [(4,.d)]
def Z6d:L :=
sR [.bx 2 (.t 0),.bx 3 (.t 1),.mv 4 (cB false)]
 (.seq (sR [fA 5 2 0,lD 6 5 2 true,fA 7 3 0,lD 8 7 2 true,cQ 9 ZV9 [6,8],.un 10 (.t 9)]
 (.cond (.t 10) (.seq (rE 4 (cB false))
 gR)
 .skip))
 (.seq (sR [fA 11 2 2,lD 12 11 1 false,fA 13 3 2,lD 14 13 1 false,cQ 15 ZP8 [12,14],.un 16 (.t 15)]
 (.cond (.t 16) (.seq (rE 4 (cB false))
 gR)
 .skip))
 (.seq (sR [fA 17 2 3,lD 18 17 3 true,fA 19 3 3,lD 20 19 3 true,cQ 21 ZC2 [18,20],.un 22 (.t 21)]
 (.cond (.t 22) (.seq (rE 4 (cB false))
 gR)
 .skip))
 (.seq (sR [fA 23 2 6,lD 24 23 1 false,fA 25 3 6,lD 26 25 1 false,bI 27 .neq 24 26]
 (.cond (.t 27) (.seq (rE 4 (cB false))
 gR)
 .skip))
 (.seq (sR [fA 28 2 7,lD 29 28 1 false,fA 30 3 7,lD 31 30 1 false,bI 32 .neq 29 31]
 (.cond (.t 32) (.seq (rE 4 (cB false))
 gR)
 .skip))
 (.seq (sR [fA 33 2 8,lD 34 33 1 false,fA 35 3 8,lD 36 35 1 false,cQ 37 ZX9 [34,36],.un 38 (.t 37)]
 (.cond (.t 38) (.seq (rE 4 (cB false))
 gR)
 .skip))
 (.seq (sR [fA 39 2 9,lD 40 39 1 false,fA 41 3 9,lD 42 41 1 false,cQ 43 ZW9 [40,42],.un 44 (.t 43)]
 (.cond (.t 44) (.seq (rE 4 (cB false))
 gR)
 .skip))
 (.seq (sR [fA 45 2 10,lD 46 45 1 false,fA 47 3 10,lD 48 47 1 false,cQ 49 ZY9 [46,48],.un 50 (.t 49)]
 (.cond (.t 50) (.seq (rE 4 (cB false))
 gR)
 .skip))
 (.seq (rE 4 (cB true))
 gR)))))))))
def laws_eqState (a1:State) (b2:State):Option Bool :=
 (laws_eqTopo a1.topo b2.topo).bind fun b3=>bif (!b3) then (some false) else ((laws_eqBoolS a1.up b2.up).bind fun b4=>bif (!b4) then (some false) else (bif (!(laws_eqVec a1.lic b2.lic)) then (some false) else (bif (a1.depth != b2.depth) then (some false) else (bif (a1.now != b2.now) then (some false) else ((laws_eqJobS a1.queue b2.queue).bind fun b5=>bif (!b5) then (some false) else ((laws_eqRunS a1.runs b2.runs).bind fun b6=>bif (!b6) then (some false) else ((laws_eqEndS a1.ends b2.ends).bind fun b7=>bif (!b7) then (some false) else (some true))))))))
theorem ZCc {a1:State} {b2:State} {r:Bool} (H:laws_eqState a1 b2 = some r):Snd Tryz.prog ZN8 [ZE .rd a1,ZE .rd b2] (.bool r) []:=by
 refine wS Z6d [.t 4] ?_
 unfold laws_eqState at H
 obtain ⟨b3,h3,H⟩:=bB H
 refine wG [.c 9 (Z5e h3)] fun _=>?_
 refine Wh_iH H (fun H=>?_) fun H=>?_
 .refine wP ?_
  replace H:=sI H; subst H
  exact wE [(4,.d)]
 .obtain ⟨b4,h4,H⟩:=bB H
  refine wG [.c 15 (ZIc h4)] fun _=>?_
  refine Wh_iH H (fun H=>?_) fun H=>?_
  .refine wP ?_
   replace H:=sI H; subst H
   exact wE [(4,.d)]
  .refine wG [.c 21 (Zp4 a1.lic b2.lic)] fun _=>?_
   refine Wh_iH H (fun H=>?_) fun H=>?_
   .refine wP ?_
    replace H:=sI H; subst H
    exact wE [(4,.d)]
   .refine wP ?_
    refine Wh_iH H (fun H=>?_) fun H=>?_
    .refine wP ?_
     replace H:=sI H; subst H
     exact wE [(4,.d)]
    .refine wP ?_
     refine Wh_iH H (fun H=>?_) fun H=>?_
     .refine wP ?_
      replace H:=sI H; subst H
      exact wE [(4,.d)]
     .obtain ⟨b5,h5,H⟩:=bB H
      refine wG [.c 37 (Z8e h5)] fun _=>?_
      refine Wh_iH H (fun H=>?_) fun H=>?_
      .refine wP ?_
       replace H:=sI H; subst H
       exact wE [(4,.d)]
      .obtain ⟨b6,h6,H⟩:=bB H
       refine wG [.c 43 (Z6e h6)] fun _=>?_
       refine Wh_iH H (fun H=>?_) fun H=>?_
       .refine wP ?_
        replace H:=sI H; subst H
        exact wE [(4,.d)]
       .obtain ⟨b7,h7,H⟩:=bB H
        refine wG [.c 49 (Z9e h7)] fun _=>?_
        refine Wh_iH H (fun H=>?_) fun H=>?_
        .refine wP ?_
         replace H:=sI H; subst H
         exact wE [(4,.d)]
        .refine wP ?_
         replace H:=sI H; subst H
         exact wE [(4,.d)]
end Go.Proofs.YtodafdoninblmaaGreat
namespace Go.Proofs.YtodafdoninblmaaGreat.Eng
open Go Go.RowKit
def CE (a b:AV):Prop:=AE a b /\ (a.one = true -> b.one = true)
def CEs (l m:List AV):Prop:=l.length = m.length /\ ∀ (i:Nat) (a b:AV),l[i]? = some a -> m[i]? = some b -> CE a b
theorem CE.refl (a:AV):CE a a:=⟨AE.refl a,id⟩
theorem CEs.refl (l:List AV):CEs l l:=⟨rfl,fun i a b h h'=>by rw [h] at h'; cases h'; exact .refl a⟩
theorem CEs.one {a b:AV} (h:CE a b):CEs [a] [b]:=⟨rfl,fun i x y hx hy=>by
 cases i with
 | zero=>simp at hx hy; subst hx; subst hy; exact h
 | succ i=>simp at hx⟩
theorem CEs.append {l1 l2 m1 m2:List AV} (h1:CEs l1 m1) (h2:CEs l2 m2):CEs (l1 ++ l2) (m1 ++ m2):=by
 refine ⟨by rw [List.length_append,List.length_append,h1.1,h2.1],fun i a b ha hb=>?_⟩
 by_cases hi:i < l1.length
 .rw [List.getElem?_append_left hi] at ha
  rw [List.getElem?_append_left (by rw [← h1.1]; exact hi)] at hb
  exact h1.2 i a b ha hb
 .rw [List.getElem?_append_right (by omega)] at ha
  rw [List.getElem?_append_right (by rw [← h1.1]; omega),← h1.1] at hb
  exact h2.2 _ a b ha hb
theorem CEs.flat {α:Type} {E:α -> AV}:∀ {es:List AV} {ys:List α},es.length = ys.length -> (∀ (i:Nat) (x:AV) (y:α),es[i]? = some x -> ys[i]? = some y -> CEs x.cells (E y).cells) -> CEs (Eng.flat es) (Eng.flat (ys.map E))
 | [],[],_,_=>CEs.refl []
 | x :: es,y :: ys,hl,h=>by
  have h0:=h 0 x y rfl rfl
  have h1:=CEs.flat (es:=es) (ys:=ys) (by simpa using hl) fun i x y hx hy=>h (i + 1) x y (by simpa using hx) (by simpa using hy)
  simpa [Eng.flat] using h0.append h1
 | [],_ :: _,hl,_=>by simp at hl
 | _ :: _,[],hl,_=>by simp at hl
theorem AE.agg {cs ds:List AV} (h:CEs cs ds):AE (.agg cs) (.agg ds):=by
 intro w S v hr
 cases hr with
 | agg _ vs hl h1 h2 =>
  refine .agg ds vs (by rw [← h.1,hl]) (fun b hb=>?_) fun i b u hb hu=>?_
  .obtain ⟨i,hi⟩:=List.getElem?_of_mem hb
   have hlt:i < cs.length:=by rw [h.1]; exact (yB hi).1
   exact (h.2 i cs[i] b (yA hlt) hi).2 (h1 _ (List.getElem_mem hlt))
  .have hlt:i < cs.length:=by rw [h.1]; exact (yB hb).1
   exact (h.2 i cs[i] b (yA hlt) hb).1 w S u (h2 i _ u (yA hlt) hu)
theorem AE.nl {sz:Nat}:AE .nl (.sl .rd sz []):=by
 intro w S v hr
 cases hr
 exact .sl0 _ _ _ _ fun _ _=>trivial
theorem AE.sl {g:Tag} {sz:Nat} {es ds:List AV} (hl:es.length = ds.length) (hs:∀ e ∈ ds,e.cells.length = sz) (h:CEs (Eng.flat es) (Eng.flat ds)):AE (.sl g sz es) (.sl g sz ds):=by
 intro w S v hr
 cases hr with
 | sl0 _ _ a c ho =>
  cases ds with
  | nil=>exact .sl0 _ _ _ _ ho
  | cons _ _=>simp at hl
 | sl _ _ _ b o c cv hc hm _ hw ho h2 =>
  rw [hl]
  have hx:∀ (j:Nat) (d:AV),(Eng.flat ds)[j]? = some d -> ∃ e,(Eng.flat es)[j]? = some e /\ CE e d:=fun j d hj=>by
   have hlt:j < (Eng.flat es).length:=by rw [h.1]; exact (yB hj).1
   exact ⟨_,yA hlt,h.2 j _ d (yA hlt) hj⟩
  refine .sl g sz ds b o c cv (by rw [← hl]; exact hc) hm hs (fun j d hj=>?_) ho fun j d hj=>?_
  .obtain ⟨e,he,hce⟩:=hx j d hj
   obtain ⟨q1,q2,q3,_⟩:=hw j e he
   exact ⟨q1,q2,hce.2 q3,trivial⟩
  .obtain ⟨e,he,hce⟩:=hx j d hj
   exact hce.1 w S _ (h2 j e he)
theorem Snd.wkS {P:Program} {f:FuncId} {xs1 xs2:List AV} {res:AV} {rows:List Row} (h:Snd P f xs2 res rows) (hae:AEs xs1 xs2):Snd P f xs1 res rows:=by
 intro w S N vs hS hl hr
 have hal:=hae.1
 refine h w S TT vs hS (by omega) fun i b v hb hv=>?_
 have hi:i < xs1.length:=by have:=(yB hb).1; omega
 exact hae.2 w S i _ b v (yA hi) hb ((hr i _ v (yA hi) hv).mono (fun _ _ h=>h) ⟨fun _ _ _ _ _ _ _ _=>trivial,fun _ _ _ _=>trivial⟩ fun _ _ _=>rfl)
def EncOf {α:Type} (τ:Ty) (e:α -> List AV) (W:α -> Prop):Prop:=∀ l,τ.ok l -> ∃ y,CEs l (e y) /\ W y
def Zl {α:Type} (τs:List Ty) (e:α -> List AV) (W:α -> Prop):Prop:=∀ l,okL τs l -> ∃ y,CEs l (e y) /\ W y
def FitL {α:Type} (W:α -> Prop) (l:List α):Prop:=l.length <= maxLen /\ ∀ x ∈ l,W x
def FitT {α:Type} (_:α):Prop:=True
section
variable {α β:Type}
theorem EncOf.int (k:IntKind):EncOf (.int k) (fun n:Int=>[.int k n]) FitT:=by
 intro l h
 obtain ⟨n,rfl,_⟩:=h
 exact ⟨n,.refl _,trivial⟩
theorem EncOf.bool:EncOf .bool (fun n:Bool=>[.bool n]) FitT:=by
 intro l h
 obtain ⟨n,rfl⟩:=h
 exact ⟨n,.refl _,trivial⟩
theorem Zl.nil:Zl [] (fun _:Unit=>[]) FitT:=by
 intro l h
 simp only [okL] at h
 subst h
 exact ⟨(),.refl _,trivial⟩
theorem Zl.cons {f:Ty} {fs:List Ty} {e1:α -> List AV} {e2:β -> List AV} {W1:α -> Prop} {W2:β -> Prop} (h1:EncOf f e1 W1) (h2:Zl fs e2 W2):Zl (f :: fs) (fun p:α × β=>e1 p.1 ++ e2 p.2) (fun p=>W1 p.1 /\ W2 p.2):=by
 intro l h
 simp only [okL] at h
 obtain ⟨l1,l2,rfl,q1,q2⟩:=h
 obtain ⟨y1,c1,w1⟩:=h1 l1 q1
 obtain ⟨y2,c2,w2⟩:=h2 l2 q2
 exact ⟨(y1,y2),c1.append c2,w1,w2⟩
theorem Zl.st {fs:List Ty} {e:α -> List AV} {W:α -> Prop} (h:Zl fs e W) (g:α -> β) {e':β -> List AV} {W':β -> Prop} (he:∀ x,e x = e' (g x)) (hW:∀ x,W x -> W' (g x)):EncOf (.st fs) e' W':=by
 intro l hl
 simp only [Ty.ok] at hl
 obtain ⟨y,c,w⟩:=h l hl
 exact ⟨g y,he y ▸ c,hW y w⟩
theorem exL {R:AV -> α -> Prop}:∀ {es:List AV},(∀ x ∈ es,∃ y,R x y) -> ∃ ys:List α,es.length = ys.length /\ ∀ (i:Nat) (x:AV) (y:α),es[i]? = some x -> ys[i]? = some y -> R x y
 | [],_=>⟨[],rfl,fun i x y h=>by simp at h⟩
 | x :: es,h=>by
  obtain ⟨y,hy⟩:=h x (List.mem_cons_self ..)
  obtain ⟨ys,hl,hys⟩:=exL (es:=es) fun z hz=>h z (List.mem_cons_of_mem _ hz)
  refine ⟨y :: ys,by simp [hl],fun i a b ha hb=>?_⟩
  cases i with
  | zero=>simp at ha hb; subst ha; subst hb; exact hy
  | succ i=>exact hys i a b (by simpa using ha) (by simpa using hb)
theorem EncOf.sl {τ:Ty} {e:α -> List AV} {W:α -> Prop} (h:EncOf τ e W) (E:α -> AV) (hE:∀ y,(E y).cells = e y) {n:Nat} (hn:τ.size = n):EncOf (.sl τ) (fun l:List α=>[.sl .rd n (l.map E)]) (FitL W):=by
 intro l hl
 simp only [Ty.ok] at hl
 rcases hl with rfl | ⟨es,rfl,hm,h2⟩
 .exact ⟨[],.one ⟨AE.nl,fun _=>rfl⟩,Nat.zero_le _,fun x hx=>by simp at hx⟩
 .obtain ⟨ys,hys,hR⟩:=exL (α:=α) (R:=fun x y=>CEs x.cells (E y).cells /\ W y /\ x.cells.length = τ.size) (es:=es) fun x hx=>by
   obtain ⟨a1,_,a3⟩:=h2 x hx
   obtain ⟨y,c,w⟩:=h _ a3
   exact ⟨y,(hE y).symm ▸ c,w,a1⟩
  have get:∀ y ∈ ys,∃ (i:Nat) (x:AV),es[i]? = some x /\ ys[i]? = some y:=fun y hy=>by
   obtain ⟨i,hi⟩:=List.getElem?_of_mem hy
   exact ⟨i,_,yA (by rw [hys]; exact (yB hi).1),hi⟩
  refine ⟨ys,.one ⟨?_,fun _=>rfl⟩,by rw [← hys]; exact hm,fun y hy=>?_⟩
  .rw [hn]
   refine AE.sl (by simpa using hys) (fun d hd=>?_) (CEs.flat hys fun i x y hx hy=>(hR i x y hx hy).1)
   obtain ⟨y,hy,rfl⟩:=List.mem_map.1 hd
   obtain ⟨i,x,hx,hy'⟩:=get y hy
   have:=hR i x y hx hy'
   rw [← this.1.1,this.2.2,hn]
  .obtain ⟨i,x,hx,hy'⟩:=get y hy
   exact (hR i x y hx hy').2.1
theorem EncOf.okV_st {fs:List Ty} {e:α -> List AV} {W:α -> Prop} (h:EncOf (.st fs) e W) {a:AV} (ha:(Ty.st fs).okV a):∃ y,AE a (.agg (e y)) /\ W y:=by
 obtain ⟨cs,rfl,hc⟩:=ha
 obtain ⟨y,c,w⟩:=h cs (by simpa only [Ty.ok] using hc)
 exact ⟨y,.agg c,w⟩
end
end Go.Proofs.YtodafdoninblmaaGreat.Eng
namespace Go.Proofs.YtodafdoninblmaaGreat
open Go Go.RowKit Eng
def tyVec:Ty:=.st [.int .i64,.int .i64,.int .i64]
def ZEh (x:Vec):Prop:=FitT x.a /\ FitT x.b /\ FitT x.c /\ True
theorem ofVec:EncOf tyVec (fun x:Vec=>(eVec x).cells) ZEh:=Zl.st (Zl.cons (EncOf.int .i64) (Zl.cons (EncOf.int .i64) (Zl.cons (EncOf.int .i64) Zl.nil))) (fun p=>⟨p.1,p.2.1,p.2.2.1⟩) (fun _=>by rfl) (fun _ h=>by exact h)
def tyNode:Ty:=.st [.int .i64,tyVec]
def Z9k (x:Node):Prop:=FitT x.leaf /\ ZEh x.cap /\ True
theorem ofNode:EncOf tyNode (fun x:Node=>(eNode x).cells) Z9k:=Zl.st (Zl.cons (EncOf.int .i64) (Zl.cons ofVec Zl.nil)) (fun p=>⟨p.1,p.2.1⟩) (fun _=>by rfl) (fun _ h=>by exact h)
def tyTopo:Ty:=.st [.sl (.int .i64),.sl tyNode]
def Z7k (x:Topo):Prop:=(FitL FitT) x.parents /\ (FitL Z9k) x.nodes /\ True
theorem ofTopo:EncOf tyTopo (fun x:Topo=>(Ze .rd x).cells) Z7k:=Zl.st (Zl.cons (EncOf.sl (EncOf.int .i64) eI (fun _=>rfl) rfl) (Zl.cons (EncOf.sl ofNode eNode (fun _=>rfl) rfl) Zl.nil)) (fun p=>⟨p.1,p.2.1⟩) (fun _=>by rfl) (fun _ h=>by exact h)
def tyJob:Ty:=.st [.int .i64,.int .i64,.int .i64,tyVec,tyVec,.int .i64,.int .i64]
def ZQi (x:Job):Prop:=FitT x.id /\ FitT x.prio /\ FitT x.nodes /\ ZEh x.need /\ ZEh x.lic /\ FitT x.wall /\ FitT x.level /\ True
theorem ofJob:EncOf tyJob (fun x:Job=>(eJob x).cells) ZQi:=Zl.st (Zl.cons (EncOf.int .i64) (Zl.cons (EncOf.int .i64) (Zl.cons (EncOf.int .i64) (Zl.cons ofVec (Zl.cons ofVec (Zl.cons (EncOf.int .i64) (Zl.cons (EncOf.int .i64) Zl.nil))))))) (fun p=>⟨p.1,p.2.1,p.2.2.1,p.2.2.2.1,p.2.2.2.2.1,p.2.2.2.2.2.1,p.2.2.2.2.2.2.1⟩) (fun _=>by rfl) (fun _ h=>by exact h)
def tyRun:Ty:=.st [tyJob,.int .i64,.sl (.int .i64)]
def Z8k (x:Run):Prop:=ZQi x.job /\ FitT x.t /\ (FitL FitT) x.nodes /\ True
theorem ofRun:EncOf tyRun (fun x:Run=>(eRunT .rd x).cells) Z8k:=Zl.st (Zl.cons ofJob (Zl.cons (EncOf.int .i64) (Zl.cons (EncOf.sl (EncOf.int .i64) eI (fun _=>rfl) rfl) Zl.nil))) (fun p=>⟨p.1,p.2.1,p.2.2.1⟩) (fun _=>by rfl) (fun _ h=>by exact h)
def tyEnd:Ty:=.st [.int .i64,.int .i64,.int .i64]
def fitEnd (x:End):Prop:=FitT x.id /\ FitT x.t /\ FitT x.why /\ True
theorem ofEnd:EncOf tyEnd (fun x:End=>(eEnd x).cells) fitEnd:=Zl.st (Zl.cons (EncOf.int .i64) (Zl.cons (EncOf.int .i64) (Zl.cons (EncOf.int .i64) Zl.nil))) (fun p=>⟨p.1,p.2.1,p.2.2.1⟩) (fun _=>by rfl) (fun _ h=>by exact h)
def Zwf:Ty:=.st [tyTopo,.sl .bool,tyVec,.int .i64,.int .i64,.sl tyJob,.sl tyRun,.sl tyEnd]
def ZG9 (x:State):Prop:=Z7k x.topo /\ (FitL FitT) x.up /\ ZEh x.lic /\ FitT x.depth /\ FitT x.now /\ (FitL ZQi) x.queue /\ (FitL Z8k) x.runs /\ (FitL fitEnd) x.ends /\ True
theorem ofState:EncOf Zwf (fun x:State=>(ZE .rd x).cells) ZG9:=Zl.st (Zl.cons ofTopo (Zl.cons (EncOf.sl EncOf.bool eBo (fun _=>rfl) rfl) (Zl.cons ofVec (Zl.cons (EncOf.int .i64) (Zl.cons (EncOf.int .i64) (Zl.cons (EncOf.sl ofJob eJob (fun _=>rfl) rfl) (Zl.cons (EncOf.sl ofRun (eRunT .rd) (fun _=>rfl) rfl) (Zl.cons (EncOf.sl ofEnd eEnd (fun _=>rfl) rfl) Zl.nil)))))))) (fun p=>⟨p.1,p.2.1,p.2.2.1,p.2.2.2.1,p.2.2.2.2.1,p.2.2.2.2.2.1,p.2.2.2.2.2.2.1,p.2.2.2.2.2.2.2.1⟩) (fun _=>by rfl) (fun _ h=>by exact h)
section
variable {α:Type}
theorem set_take {a ys:List α} {i:Nat} {x:α} (hx:a[i]? = some x) (hl:ys.length = a.length) (h:ys.take i = a.take i):(ys.set i x).take (i + 1) = a.take (i + 1):=by
 have hi:=(yB hx).1
 apply List.ext_getElem?
 intro j
 by_cases hj:j < i + 1
 .rw [List.getElem?_take_of_lt hj,List.getElem?_take_of_lt hj,List.getElem?_set]
  by_cases e:i = j
  .subst e; rw [if_pos rfl,if_pos (by omega),hx]
  .rw [if_neg e]
   have:=congrArg (fun l:List α=>l[j]?) h
   rwa [List.getElem?_take_of_lt (by omega),List.getElem?_take_of_lt (by omega)] at this
 .rw [List.getElem?_eq_none (by simp; omega),List.getElem?_eq_none (by simp; omega)]
theorem Zg8 {bd:Int × List α -> (Int × List α -> Option (List α)) -> Option (List α)} {a:List α} (hm:a.length < 9223372036854775807)
  (h1:∀ (i:Nat) ys k x,a[i]? = some x -> ys.length = a.length -> bd ((i:Int),ys) k = k (((i + 1:Nat):Int),ys.set i x)) (h2:∀ ys k,bd ((a.length:Int),ys) k = some ys) {ys:List α} (hy:ys.length = a.length):whl bd 9223372036854775807 (0,ys) = some a:=by
 refine ZU8 (fun _ o=>o = some a) (fun b=>a.length - b.1.toNat) (fun b=>∃ i:Nat,b.1 = (i:Int) /\ i <= a.length /\ b.2.length = a.length /\ b.2.take i = a.take i) ?_ 9223372036854775807 (0,ys) ⟨0,rfl,Nat.zero_le _,hy,rfl⟩ (by simp only; omega)
 rintro ⟨n,zs⟩ k ⟨i,hi,hle,hz,ht⟩ hk
 simp only at hi hz ht hk
 subst hi
 by_cases h:i < a.length
 .rw [h1 i zs k a[i] (yA h) hz]
  exact hk _ ⟨i + 1,rfl,h,by simp [hz],set_take (yA h) hz ht⟩ (by simp only; omega)
 .have:i = a.length:=by omega
  subst this
  rw [h2]
  rw [List.take_length,← hz,List.take_length] at ht
  rw [ht]
theorem Zga {bs:Nat} {n:Nat} {z:α} (h:bs * n <= 140737488355328) (h':n <= 9223372036854775807):mkL bs (n:Int) z = some (List.replicate n z):=by
 unfold mkL
 have e:(bs:Int) * (n:Int) = ((bs * n:Nat):Int):=by rw [Int.natCast_mul]
 rw [if_pos ⟨by omega,by omega,by omega⟩]
 simp
theorem Zmf {bd:Int -> (Int -> Option Bool) -> Option Bool} {n:Nat} (hm:n < 9223372036854775807) (h1:∀ (i:Nat) k,i < n -> bd (i:Int) k = k ((i + 1:Nat):Int)) (h2:∀ k,bd (n:Int) k = some true):whl bd 9223372036854775807 0 = some true:=by
 refine ZU8 (fun _ o=>o = some true) (fun b=>n - b.toNat) (fun b=>∃ i:Nat,b = (i:Int) /\ i <= n) ?_ 9223372036854775807 0 ⟨0,rfl,Nat.zero_le _⟩ (by omega)
 rintro _ k ⟨i,rfl,hle⟩ hk
 by_cases h:i < n
 .rw [h1 i k h]
  exact hk _ ⟨i + 1,rfl,h⟩ (by omega)
 .have:i = n:=by omega
  subst this
  exact h2 k
theorem Zk6 {n:Nat}:¬ ((n:Int) < (n:Int)):=by omega
end
theorem Zt8 {l:List Int} (h:l.length <= 1048576):laws_toIntS l = some l:=by
 unfold laws_toIntS
 rw [Zga (by omega) (by omega),bS]
 refine Zg8 (by omega) (fun i ys k x hx hl=>?_) (fun ys k=>?_) (by simp)
 .have hi:=(yB hx).1
  have hlt:(i:Int) < (l.length:Int):=by omega
  obtain ⟨y,hy⟩:∃ y,ys[i]? = some y:=⟨_,yA (by omega)⟩
  simp only [ZQ2,hlt,decide_true,cond_true,Zc,hx,hy,bS,Zw1 (n:=i) (by omega),Int.toNat_natCast]
 .simp only [ZQ2,Zk6,decide_false,cond_false]
theorem Zrc {l:List Node} (h:l.length <= 1048576):laws_toNodeS l = some l:=by
 unfold laws_toNodeS
 rw [Zga (by omega) (by omega),bS]
 refine Zg8 (by omega) (fun i ys k x hx hl=>?_) (fun ys k=>?_) (by simp)
 .have hi:=(yB hx).1
  have hlt:(i:Int) < (l.length:Int):=by omega
  obtain ⟨y,hy⟩:∃ y,ys[i]? = some y:=⟨_,yA (by omega)⟩
  simp only [Zp2,hlt,decide_true,cond_true,Zc,hx,hy,bS,Zw1 (n:=i) (by omega),Int.toNat_natCast]
  rfl
 .simp only [Zp2,Zk6,decide_false,cond_false]
theorem Zvc {l:List Bool} (h:l.length <= 1048576):laws_toBoolS l = some l:=by
 unfold laws_toBoolS
 rw [Zga (by omega) (by omega),bS]
 refine Zg8 (by omega) (fun i ys k x hx hl=>?_) (fun ys k=>?_) (by simp)
 .have hi:=(yB hx).1
  have hlt:(i:Int) < (l.length:Int):=by omega
  obtain ⟨y,hy⟩:∃ y,ys[i]? = some y:=⟨_,yA (by omega)⟩
  simp only [Zq2,hlt,decide_true,cond_true,Zc,hx,hy,bS,Zw1 (n:=i) (by omega),Int.toNat_natCast]
 .simp only [Zq2,Zk6,decide_false,cond_false]
theorem ZVd {l:List Job} (h:l.length <= 1048576):laws_toJobS l = some l:=by
 unfold laws_toJobS
 rw [Zga (by omega) (by omega),bS]
 refine Zg8 (by omega) (fun i ys k x hx hl=>?_) (fun ys k=>?_) (by simp)
 .have hi:=(yB hx).1
  have hlt:(i:Int) < (l.length:Int):=by omega
  obtain ⟨y,hy⟩:∃ y,ys[i]? = some y:=⟨_,yA (by omega)⟩
  simp only [ZP2,hlt,decide_true,cond_true,Zc,hx,hy,bS,Zw1 (n:=i) (by omega),Int.toNat_natCast]
  rfl
 .simp only [ZP2,Zk6,decide_false,cond_false]
theorem ZXd {l:List End} (h:l.length <= 1048576):laws_toEndS l = some l:=by
 unfold laws_toEndS
 rw [Zga (by omega) (by omega),bS]
 refine Zg8 (by omega) (fun i ys k x hx hl=>?_) (fun ys k=>?_) (by simp)
 .have hi:=(yB hx).1
  have hlt:(i:Int) < (l.length:Int):=by omega
  obtain ⟨y,hy⟩:∃ y,ys[i]? = some y:=⟨_,yA (by omega)⟩
  simp only [ZR2,hlt,decide_true,cond_true,Zc,hx,hy,bS,Zw1 (n:=i) (by omega),Int.toNat_natCast]
  rfl
 .simp only [ZR2,Zk6,decide_false,cond_false]
theorem ZQd {t:Topo} (h1:t.parents.length <= 1048576) (h2:t.nodes.length <= 1048576):laws_toTopo t = some t:=by
 unfold laws_toTopo
 rw [Zt8 h1,bS,Zrc h2,bS]
theorem Z5g {x:Run} (h:x.nodes.length <= 1048576):laws_toRun x = some x:=by
 unfold laws_toRun
 rw [Zt8 h,bS]
 rfl
theorem ZSd {l:List Run} (h:l.length <= 1048576) (hn:∀ x ∈ l,x.nodes.length <= 1048576):laws_toRunS l = some l:=by
 unfold laws_toRunS
 rw [Zga (by omega) (by omega),bS]
 refine Zg8 (by omega) (fun i ys k x hx hl=>?_) (fun ys k=>?_) (by simp)
 .have hi:=(yB hx).1
  have hlt:(i:Int) < (l.length:Int):=by omega
  obtain ⟨y,hy⟩:∃ y,ys[i]? = some y:=⟨_,yA (by omega)⟩
  simp only [ZO2,hlt,decide_true,cond_true,Zc,hx,hy,bS,Zw1 (n:=i) (by omega),Int.toNat_natCast,Z5g (hn x (yE hx))]
 .simp only [ZO2,Zk6,decide_false,cond_false]
structure SizedS (s:State):Prop where
 parents:s.topo.parents.length <= 1048576
 nodes:s.topo.nodes.length <= 1048576
 up:s.up.length <= 1048576
 jobs:s.queue.length + s.runs.length <= 1048576
 run:∀ x ∈ s.runs,x.nodes.length <= 1048576
 ends:s.ends.length <= 1048576
theorem Zpc {s:State} (h:SizedS s):laws_toState s = some s:=by
 have:=h.jobs
 unfold laws_toState
 rw [ZQd h.parents h.nodes,bS,Zvc h.up,bS,ZVd (by omega),bS,ZSd (by omega) h.run,bS,ZXd h.ends,bS]
 rfl
theorem Z23 {α:Type} [BEq α] [LawfulBEq α] (a:α):(a != a) = false:=by simp
theorem ZV4 (v:Vec):laws_eqVec v v = true:=by simp [laws_eqVec]
theorem Zhb (v:Node):laws_eqNode v v = true:=by simp [laws_eqNode,ZV4]
theorem Zy7 (v:Job):laws_eqJob v v = true:=by simp [laws_eqJob,ZV4]
theorem ZGc (v:End):laws_eqEnd v v = true:=by simp [laws_eqEnd]
theorem Z87 {l:List Int} (h:l.length <= 1048576):laws_eqIntS l l = some true:=by
 unfold laws_eqIntS
 rw [Z23,cond_false]
 refine Zmf (n:=l.length) (by omega) (fun i k hi=>?_) (fun k=>?_)
 .have hlt:(i:Int) < (l.length:Int):=by omega
  obtain ⟨x,hx⟩:∃ x,l[i]? = some x:=⟨_,yA hi⟩
  simp only [ZU2,hlt,decide_true,cond_true,Zc,hx,bS,Zw1 (n:=i) (by omega),Z23,cond_false]
 .simp only [ZU2,Zk6,decide_false,cond_false]
theorem Zla {l:List Node} (h:l.length <= 1048576):laws_eqNodeS l l = some true:=by
 unfold laws_eqNodeS
 rw [Z23,cond_false]
 refine Zmf (n:=l.length) (by omega) (fun i k hi=>?_) (fun k=>?_)
 .have hlt:(i:Int) < (l.length:Int):=by omega
  obtain ⟨x,hx⟩:∃ x,l[i]? = some x:=⟨_,yA hi⟩
  simp only [Zr2,hlt,decide_true,cond_true,Zc,hx,bS,Zw1 (n:=i) (by omega),Zhb,Bool.not_true,cond_false]
 .simp only [Zr2,Zk6,decide_false,cond_false]
theorem Zma {l:List Bool} (h:l.length <= 1048576):laws_eqBoolS l l = some true:=by
 unfold laws_eqBoolS
 rw [Z23,cond_false]
 refine Zmf (n:=l.length) (by omega) (fun i k hi=>?_) (fun k=>?_)
 .have hlt:(i:Int) < (l.length:Int):=by omega
  obtain ⟨x,hx⟩:∃ x,l[i]? = some x:=⟨_,yA hi⟩
  simp only [Zs2,hlt,decide_true,cond_true,Zc,hx,bS,Zw1 (n:=i) (by omega),beq_self_eq_true,Bool.not_true,cond_false]
 .simp only [Zs2,Zk6,decide_false,cond_false]
theorem Zjb {l:List Job} (h:l.length <= 1048576):laws_eqJobS l l = some true:=by
 unfold laws_eqJobS
 rw [Z23,cond_false]
 refine Zmf (n:=l.length) (by omega) (fun i k hi=>?_) (fun k=>?_)
 .have hlt:(i:Int) < (l.length:Int):=by omega
  obtain ⟨x,hx⟩:∃ x,l[i]? = some x:=⟨_,yA hi⟩
  simp only [ZT2,hlt,decide_true,cond_true,Zc,hx,bS,Zw1 (n:=i) (by omega),Zy7,Bool.not_true,cond_false]
 .simp only [ZT2,Zk6,decide_false,cond_false]
theorem Zkb {l:List End} (h:l.length <= 1048576):laws_eqEndS l l = some true:=by
 unfold laws_eqEndS
 rw [Z23,cond_false]
 refine Zmf (n:=l.length) (by omega) (fun i k hi=>?_) (fun k=>?_)
 .have hlt:(i:Int) < (l.length:Int):=by omega
  obtain ⟨x,hx⟩:∃ x,l[i]? = some x:=⟨_,yA hi⟩
  simp only [ZV2,hlt,decide_true,cond_true,Zc,hx,bS,Zw1 (n:=i) (by omega),ZGc,Bool.not_true,cond_false]
 .simp only [ZV2,Zk6,decide_false,cond_false]
theorem Zfb {t:Topo} (h1:t.parents.length <= 1048576) (h2:t.nodes.length <= 1048576):laws_eqTopo t t = some true:=by
 unfold laws_eqTopo
 rw [Z87 h1,bS,Zla h2]
 rfl
theorem ZDc {x:Run} (h:x.nodes.length <= 1048576):laws_eqRun x x = some true:=by
 unfold laws_eqRun
 rw [Zy7,Z87 h,Z23]
 rfl
theorem Zgb {l:List Run} (h:l.length <= 1048576) (hn:∀ x ∈ l,x.nodes.length <= 1048576):laws_eqRunS l l = some true:=by
 unfold laws_eqRunS
 rw [Z23,cond_false]
 refine Zmf (n:=l.length) (by omega) (fun i k hi=>?_) (fun k=>?_)
 .have hlt:(i:Int) < (l.length:Int):=by omega
  obtain ⟨x,hx⟩:∃ x,l[i]? = some x:=⟨_,yA hi⟩
  simp only [ZS2,hlt,decide_true,cond_true,Zc,hx,bS,Zw1 (n:=i) (by omega),ZDc (hn x (yE hx)),Bool.not_true,cond_false]
 .simp only [ZS2,Zk6,decide_false,cond_false]
theorem Zka {s:State} (h:SizedS s):laws_eqState s s = some true:=by
 have:=h.jobs
 unfold laws_eqState
 rw [Zfb h.parents h.nodes,Zma h.up,ZV4,Z23,Z23,Zjb (by omega),Zgb (by omega) h.run,Zkb h.ends]
 rfl
theorem sz_eq {n:Int} {c:Nat} (h0:0 <= n) (h:n <= 1048576) (hc:c <= maxLen):(bif decide (w64 (n - (c:Int)) < 0) then (-1:Int) else w64 (n - (c:Int))) = szr n c:=by
 have hm:maxLen = 9223372036854775807:=rfl
 rw [Zh1 (by omega)]
 unfold szr
 by_cases q:n < c
 .rw [if_pos q,show decide (n - (c:Int) < 0) = true by rw [decide_eq_true_eq]; omega]; rfl
 .rw [if_neg q,show decide (n - (c:Int) < 0) = false by rw [decide_eq_false_iff_not]; omega]; rfl
theorem ZV8 {n:Int} {c:Nat}:(szr n c < 0) \/ (0 <= szr n c /\ (c:Int) <= n /\ szr n c = n - c):=by
 unfold szr; split
 .exact .inl (by omega)
 .exact .inr (by omega)
theorem szRun_eq {x:Run} {n:Int} (h0:0 <= n) (h:n <= 1048576) (hc:x.nodes.length <= maxLen):laws_szRun x n = szr n x.nodes.length:=by
 unfold laws_szRun laws_szIntS
 rw [sz_eq h0 h hc]
 rcases ZV8 (n:=n) (c:=x.nodes.length) with q | q
 .have:szr n x.nodes.length = -1:=by unfold szr at q ⊢; split <;> omega
  rw [this]; rfl
 .have:decide (szr n x.nodes.length < 0) = false:=by simp; omega
  rw [this]; rfl
theorem Ztj {l:List Run} {n:Int} (h0:0 <= n) (h:n <= 1048576) (hc:FitL Z8k l):∃ r,laws_szRunS l n = some r /\ r <= n /\ (0 <= r -> (l.length:Int) + r <= n /\ ∀ x ∈ l,x.nodes.length <= 1048576):=by
 have hm:maxLen = 9223372036854775807:=rfl
 obtain ⟨c1,c2⟩:=hc
 unfold laws_szRunS
 rw [Zh1 (by omega)]
 by_cases q:n - (l.length:Int) < 0
 .exact ⟨-1,by simp [q],by omega,fun h=>by omega⟩
 .simp only [q,decide_false,cond_false]
  refine ZU8 (fun _ o=>∃ r,o = some r /\ r <= n /\ (0 <= r -> (l.length:Int) + r <= n /\ ∀ x ∈ l,x.nodes.length <= 1048576)) (fun b=>l.length - b.2.toNat) (fun b=>∃ i:Nat,b.2 = (i:Int) /\ i <= l.length /\ 0 <= b.1 /\ (l.length:Int) + b.1 <= n /\ ∀ j x,j < i -> l[j]? = some x -> x.nodes.length <= 1048576) ?_ 9223372036854775807 (n - (l.length:Int),0) ⟨0,rfl,Nat.zero_le _,by simp only; omega,by simp only; omega,fun j x hj=>by omega⟩ (by simp only; omega)
  rintro ⟨m,_⟩ k ⟨i,rfl,hi,hm0,hmn,hall⟩ hk
  simp only at hm0 hmn hk
  unfold ZU4
  by_cases hlt:i < l.length
  .have hlt':(i:Int) < (l.length:Int):=by omega
   have hx:l[i]? = some l[i]:=yA hlt
   simp only [hlt',decide_true,cond_true,Zc,hx,bS,Zw1 (n:=i) (by omega)]
   rw [szRun_eq hm0 (by omega) (c2 _ (List.getElem_mem hlt)).2.2.1.1]
   rcases ZV8 (n:=m) (c:=l[i].nodes.length) with q | q
   .simp only [q,decide_true,cond_true]
    exact ⟨-1,rfl,by omega,fun h=>by omega⟩
   .have:¬ szr m l[i].nodes.length < 0:=by omega
    simp only [this,decide_false,cond_false]
    refine hk _ ⟨i + 1,rfl,hlt,q.1,by simp only; omega,fun j x hj hx'=>?_⟩ (by simp only; omega)
    by_cases e:j = i
    .subst e; rw [hx] at hx'; cases hx'; omega
    .exact hall j x (by omega) hx'
  .have:i = l.length:=by omega
   subst this
   simp only [Zk6,decide_false,cond_false]
   exact ⟨m,rfl,by omega,fun _=>⟨hmn,fun x hx=>by
    obtain ⟨j,hj⟩:=List.getElem?_of_mem hx
    exact hall j x (yB hj).1 hj⟩⟩
theorem ZZd {s:State} (hf:ZG9 s) {n:Int} (hn0:0 <= n) (hn:n <= 1048576):∃ r,laws_szState s n = some r /\ (r < 0 \/ (SizedS s /\ r <= n)):=by
 obtain ⟨⟨p1,p2,_⟩,p3,_,_,_,p4,p5,p6,_⟩:=hf
 have no:∀ {c:Prop} [Decidable c],c -> (decide c) = true:=fun h=>by simp [h]
 have nn:∀ {c:Prop} [Decidable c],¬ c -> (decide c) = false:=fun h=>by simp [h]
 have bad:∃ r,(some (-1):Option Int) = some r /\ (r < 0 \/ (SizedS s /\ r <= n)):=⟨-1,rfl,.inl (by omega)⟩
 unfold laws_szState
 have e1:laws_szIntS s.topo.parents n = szr n s.topo.parents.length:=sz_eq hn0 hn p1.1
 have et:laws_szTopo s.topo n < 0 \/ (s.topo.parents.length <= 1048576 /\ s.topo.nodes.length <= 1048576 /\ 0 <= laws_szTopo s.topo n /\ laws_szTopo s.topo n <= n):=by
  unfold laws_szTopo
  rw [e1]
  rcases ZV8 (n:=n) (c:=s.topo.parents.length) with q | q
  .rw [no q,cond_true]; exact .inl (by omega)
  .rw [nn (by omega),cond_false]
   have e2:laws_szNodeS s.topo.nodes (szr n s.topo.parents.length) = szr (szr n s.topo.parents.length) s.topo.nodes.length:=sz_eq q.1 (by omega) p2.1
   rw [e2]
   rcases ZV8 (n:=szr n s.topo.parents.length) (c:=s.topo.nodes.length) with q' | q'
   .rw [no q',cond_true]; exact .inl (by omega)
   .rw [nn (by omega),cond_false]
    exact .inr (by omega)
 generalize laws_szTopo s.topo n = m0 at et ⊢
 rcases et with q | q
 .rw [no q,cond_true]; exact bad
 rw [nn (by omega),cond_false]
 have e3:laws_szBoolS s.up m0 = szr m0 s.up.length:=sz_eq (by omega) (by omega) p3.1
 rw [e3]
 rcases ZV8 (n:=m0) (c:=s.up.length) with r | r
 .rw [no r,cond_true]; exact bad
 rw [nn (by omega),cond_false]
 generalize szr m0 s.up.length = m1 at r ⊢
 have e4:laws_szJobS s.queue m1 = szr m1 s.queue.length:=sz_eq (by omega) (by omega) p4.1
 rw [e4]
 rcases ZV8 (n:=m1) (c:=s.queue.length) with t | t
 .rw [no t,cond_true]; exact bad
 rw [nn (by omega),cond_false]
 generalize szr m1 s.queue.length = m2 at t ⊢
 obtain ⟨m3,e5,u1,u2⟩:=Ztj (n:=m2) (by omega) (by omega) p5
 rw [e5,bS]
 by_cases u:m3 < 0
 .rw [no u,cond_true]; exact bad
 rw [nn u,cond_false]
 have u':=u2 (by omega)
 have e6:laws_szEndS s.ends m3 = szr m3 s.ends.length:=sz_eq (by omega) (by omega) p6.1
 rw [e6]
 rcases ZV8 (n:=m3) (c:=s.ends.length) with v | v
 .rw [no v,cond_true]; exact bad
 rw [nn (by omega),cond_false]
 exact ⟨_,rfl,.inr ⟨⟨q.1,q.2.1,by omega,by omega,u'.2,by omega⟩,by omega⟩⟩
theorem Zxc {s:State} (hf:ZG9 s):∃ r,laws_szState s 1048576 = some r /\ (r < 0 \/ SizedS s):=by
 obtain ⟨r,h1,h2⟩:=ZZd hf (n:=1048576) (by omega) (by omega)
 exact ⟨r,h1,h2.imp id And.left⟩
end Go.Proofs.YtodafdoninblmaaGreat
namespace Go.Proofs.YtodafdoninblmaaGreat
open Go Go.RowKit Eng
def ZA7:L :=
sR [.bx 2 (.t 0),.bx 3 (.t 1),.mv 4 (cB false)]
 (.seq (rE 5 (kI 1048576))
 (sR [lD 9 2 11 true,mV 10 5,cQ 11 ZM8 [9,10],mV 5 11]
 (.seq (sR [mV 12 5,.bi 13 .lss (.t 12) (kI 0)]
 (.cond (.t 13) (.seq (rE 4 (cB true))
 gR)
 .skip))
 (.seq (.rq 6 [lD 14 2 11 true,cQ 15 ZH3 [14],lD 16 3 11 true,cQ 17 ZB2 [16],cQ 18 ZP9 [15,17],mV 6 18])
 (sR [lD 19 2 11 true,cQ 20 ZH3 [19],.al 7 [.nl,.nl,.nl,.int .i64 0,.int .i64 0,.int .i64 0,.int .i64 0,.int .i64 0,.nl,.nl,.nl],.st (.t 7) (.t 20) 11]
 (.seq (.rq 5 [lD 21 7 11 true,lD 22 3 11 true,cQ 23 ZB2 [22],cQ 24 Z2a [21,23],mV 8 24])
 (.seq (sR [mV 25 8,mV 26 6,.eb 27 true (.t 25) (.t 26)]
 (.cond (.t 27) (.seq (rE 4 (cB false))
 gR)
 .skip))
 (.seq (.seq (.rq 5 [lD 28 7 11 true,lD 29 2 11 true,cQ 30 ZH3 [29],cQ 31 ZN8 [28,30],.un 32 (.t 31)])
 (.cond (.t 32) (.seq (rE 4 (cB false))
 gR)
 .skip))
 (.seq (rE 4 (cB true))
 gR)))))))))
def laws_FnExactCanNow (aS1:State) (aJ2:Job):Option Bool :=
 (laws_szState aS1 1048576).bind fun n3=>bif (decide (n3 < 0)) then (some true) else ((laws_toState aS1).bind fun y4=>(spec_CanNow y4 (Job.mk ((laws_toJob aJ2).id) ((laws_toJob aJ2).prio) ((laws_toJob aJ2).nodes) ((laws_toJob aJ2).need) ((laws_toJob aJ2).lic) ((laws_toJob aJ2).wall) ((laws_toJob aJ2).level))).bind fun b5=>(laws_toState aS1).bind fun y6=>(impl_CanNow y6 (Job.mk ((laws_toJob aJ2).id) ((laws_toJob aJ2).prio) ((laws_toJob aJ2).nodes) ((laws_toJob aJ2).need) ((laws_toJob aJ2).lic) ((laws_toJob aJ2).wall) ((laws_toJob aJ2).level))).bind fun b7=>bif (!(b7 == b5)) then (some false) else ((laws_toState aS1).bind fun y8=>(laws_eqState y6 y8).bind fun b9=>bif (!b9) then (some false) else (some true)))
theorem Zz7 {aS1:State} {aJ2:Job} {r:Bool} (H:laws_FnExactCanNow aS1 aJ2 = some r):Snd Tryz.prog Za2 [ZE .rd aS1,eJob aJ2] (.bool r) []:=by
 refine wS ZA7 [.t 4] ?_
 unfold laws_FnExactCanNow at H
 obtain ⟨n3,h3,H⟩:=bB H
 refine wG [.c 11 (Zwc h3)] fun _=>?_
 refine Wh_iH H (fun H=>?_) fun H=>?_
 .refine wP ?_
  replace H:=sI H; subst H
  exact wE [(4,.d)]
 .obtain ⟨y4,h4,H⟩:=bB H
  obtain ⟨b5,h5,H⟩:=bB H
  obtain ⟨y6,h6,H⟩:=bB H
  obtain ⟨b7,h7,H⟩:=bB H
  refine wG [.c 15 (ZT4 h4),.c 17 (Zk4 aJ2),.u 18 (.call _ _ _ _ _ (AEs.of (xs:=[.agg [.sl .rd 1 (y4.topo.parents.map eI),.sl .rd 4 (y4.topo.nodes.map eNode),.sl .rd 1 (y4.up.map eBo),.int .i64 y4.lic.a,.int .i64 y4.lic.b,.int .i64 y4.lic.c,.int .i64 y4.depth,.int .i64 y4.now,.sl .rd 11 (y4.queue.map eJob),.sl .rd 13 (y4.runs.map (eRunT .nw)),.sl .rd 3 (y4.ends.map eEnd)],.agg [.int .i64 ((laws_toJob aJ2).id),.int .i64 ((laws_toJob aJ2).prio),.int .i64 ((laws_toJob aJ2).nodes),.int .i64 (((laws_toJob aJ2).need).a),.int .i64 (((laws_toJob aJ2).need).b),.int .i64 (((laws_toJob aJ2).need).c),.int .i64 (((laws_toJob aJ2).lic).a),.int .i64 (((laws_toJob aJ2).lic).b),.int .i64 (((laws_toJob aJ2).lic).c),.int .i64 ((laws_toJob aJ2).wall),.int .i64 ((laws_toJob aJ2).level)]]) (by simp)) (fun _=>ZMd h5)),.c 20 (ZT4 h6),.c 23 (Zk4 aJ2),.u 24 (.call _ _ _ _ _ (AEs.of (xs:=[.agg [.sl .rd 1 (y6.topo.parents.map eI),.sl .rd 4 (y6.topo.nodes.map eNode),.sl .rd 1 (y6.up.map eBo),.int .i64 y6.lic.a,.int .i64 y6.lic.b,.int .i64 y6.lic.c,.int .i64 y6.depth,.int .i64 y6.now,.sl .rd 11 (y6.queue.map eJob),.sl .rd 13 (y6.runs.map (eRunT .nw)),.sl .rd 3 (y6.ends.map eEnd)],.agg [.int .i64 ((laws_toJob aJ2).id),.int .i64 ((laws_toJob aJ2).prio),.int .i64 ((laws_toJob aJ2).nodes),.int .i64 (((laws_toJob aJ2).need).a),.int .i64 (((laws_toJob aJ2).need).b),.int .i64 (((laws_toJob aJ2).need).c),.int .i64 (((laws_toJob aJ2).lic).a),.int .i64 (((laws_toJob aJ2).lic).b),.int .i64 (((laws_toJob aJ2).lic).c),.int .i64 ((laws_toJob aJ2).wall),.int .i64 ((laws_toJob aJ2).level)]]) (by simp)) (fun _=>Z4f h7))] fun _=>?_
  refine Wh_iH H (fun H=>?_) fun H=>?_
  .refine wP ?_
   replace H:=sI H; subst H
   exact wE [(4,.d)]
  .obtain ⟨y8,h8,H⟩:=bB H
   obtain ⟨b9,h9,H⟩:=bB H
   refine wG [.c 30 (ZT4 h8),.u 31 (.call _ _ _ _ _ (AEs.of (xs:=[.agg [.sl .rd 1 (y6.topo.parents.map eI),.sl .rd 4 (y6.topo.nodes.map eNode),.sl .rd 1 (y6.up.map eBo),.int .i64 y6.lic.a,.int .i64 y6.lic.b,.int .i64 y6.lic.c,.int .i64 y6.depth,.int .i64 y6.now,.sl .rd 11 (y6.queue.map eJob),.sl .rd 13 (y6.runs.map (eRunT .nw)),.sl .rd 3 (y6.ends.map eEnd)],.agg [.sl .rd 1 (y8.topo.parents.map eI),.sl .rd 4 (y8.topo.nodes.map eNode),.sl .rd 1 (y8.up.map eBo),.int .i64 y8.lic.a,.int .i64 y8.lic.b,.int .i64 y8.lic.c,.int .i64 y8.depth,.int .i64 y8.now,.sl .rd 11 (y8.queue.map eJob),.sl .rd 13 (y8.runs.map (eRunT .nw)),.sl .rd 3 (y8.ends.map eEnd)]]) (by simp)) (fun _=>ZCc h9))] fun _=>?_
   refine Wh_iH H (fun H=>?_) fun H=>?_
   .refine wP ?_
    replace H:=sI H; subst H
    exact wE [(4,.d)]
   .refine wP ?_
    replace H:=sI H; subst H
    exact wE [(4,.d)]
theorem Ztk {a:AV} (h:Zwf.okV a):∃ s,AE a (ZE .rd s) /\ ZG9 s:=EncOf.okV_st ofState h
theorem Job_of2 {a:AV} (h:tyJob.okV a):∃ j,AE a (eJob j) /\ ZQi j:=EncOf.okV_st ofJob h
theorem ZBd {s:State} (hf:ZG9 s) (j:Job):laws_FnExactCanNow s j = some true:=by
 unfold laws_FnExactCanNow
 obtain ⟨r,h1,h2⟩:=Zxc hf
 rw [h1,bS]
 by_cases hr:r < 0
 .simp [hr]
 have hS:SizedS s:=h2.resolve_left hr
 obtain ⟨b,q1,q2⟩:=Zvk hS.jobs j
 have hj:laws_toJob j = j:=rfl
 simp only [hr,decide_false,cond_false,Zpc hS,hj,bS,q1,q2,Zka hS,Bool.not_true,beq_self_eq_true]
theorem ZOb (xs:List AV) (h:okVs [Zwf,tyJob] xs):Snd Tryz.prog Za2 xs (.bool true) []:=by
 obtain ⟨a,_,rfl,ha,b,_,rfl,hb,rfl⟩:=h
 obtain ⟨s,ha,hf⟩:=Ztk ha
 obtain ⟨j,hb,_⟩:=Job_of2 hb
 exact (Zz7 (ZBd hf j)).wkS (.cons ha (.cons hb .nil))
end Go.Proofs.YtodafdoninblmaaGreat
