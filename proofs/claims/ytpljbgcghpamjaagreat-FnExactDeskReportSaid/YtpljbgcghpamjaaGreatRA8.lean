/-
  Lemmas, part 8: the engine that steps through the code, the walks of functions, and the laws of what they compute.
-/
import Derived.Test.YtpljbgcghpamjaaGreatRA7
namespace Go.Proofs.YtpljbgcghpamjaaGreat
open Go Go.RowKit Eng
def ZNf:L :=
.seq (rE 2 (cB false))
 (.seq (sR [mV 6 0,.ln 7 (.t 6),.bi 8 .gtr (.t 7) (kI 60)]
 (.cond (.t 8) (.seq (rE 2 (cB false))
 gR)
 .skip))
 (.seq (sR [mV 9 0,.ln 10 (.t 9),.mv 11 (kI 0)]
 (.blk 0 (.loop (.gw (sR [bI 12 .lss 11 10]
 (.seq (.cond (.t 12) .skip
 (.exit 0))
 (.seq (.blk 1 (sR [mV 13 11,iA 14 9 11 11,lD 15 14 11 true,.al 4 [.int .i64 0,.int .i64 0,.int .i64 0,.int .i64 0,.int .i64 0,.int .i64 0,.int .i64 0,.int .i64 0,.int .i64 0,.int .i64 0,.int .i64 0],mV 3 13,.st (.t 4) (.t 15) 11]
 (.seq (sR [lD 16 4 11 true,cQ 17 ZF4 [16],.un 18 (.t 17)]
 (.cond (.t 18) (.seq (rE 2 (cB false))
 gR)
 .skip))
 (.seq (rE 5 (kI 0))
 (.blk 2 (.loop (.gw (.seq (sR [mV 19 5,mV 20 3,bI 21 .lss 19 20]
 (.cond (.t 21) .skip
 (.exit 2)))
 (.seq (.blk 3 (.seq (.rq 8 [mV 24 0,mV 25 5,iA 26 24 25 11,fA 27 26 0,lD 28 27 1 false,fA 29 4 0,lD 30 29 1 false,bI 31 .eql 28 30])
 (.cond (.t 31) (.seq (rE 2 (cB false))
 gR)
 .skip)))
 (.reg [mV 22 5,.bi 23 .add (.t 22) (kI 1),mV 5 23]))))))))))
 (.reg [.bi 32 .add (.t 11) (kI 1),mV 11 32]))))))))
 (.seq (rE 2 (cB true))
 gR)))
def Z32 (l1:List Job) (i4:Nat) (x4:Job) (k4:Unit -> Option Bool) (v5:Int) (k5:Int -> Option Bool):Option Bool :=
 bif (decide (v5 < (i4:Int))) then ((idx l1 v5).bind fun e6=>bif (e6.id == x4.id) then (some false) else (k5 (w64 (v5 + 1)))) else (k4 ())
def ZO4 (l1:List Job) (x4:Job) (i4:Nat) (_:Unit) (k4:Unit -> Option Bool):Option Bool :=
 bif (!(spec_JobOk x4)) then (some false) else (whl (Z32 l1 i4 x4 k4) 9223372036854775807 0)
def ZN4 (_:Unit):Option Bool :=
 some true
def spec_QueueOk (l1:List Job):Option Bool :=
 bif (decide (60 < (l1.length:Int))) then (some false) else (rgl (ZO4 l1) ZN4 l1 0 ())
theorem ZRe {l1:List Job} {r:Bool} (H:spec_QueueOk l1 = some r):Snd Tryz.prog Zta [.sl .rd 11 (l1.map eJob)] (.bool r) []:=by
 refine wS ZNf [.t 2] ?_
 unfold spec_QueueOk at H
 refine wG [.u 7 (.ln _ _ fun _=>lm l1 eJob)] fun q2=>?_
 refine Wh_iH H (fun H=>?_) fun H=>?_
 .refine wP ?_
  replace H:=sI H; subst H
  exact wE [(2,.d)]
 .refine wG [.u 10 (.ln _ _ fun _=>lm l1 eJob)] fun q3=>?_
  refine wR (fun (i4:Nat) (v4:Unit)=>⟨[(0,.sl .rd 11 (l1.map eJob)),(9,.sl .rd 11 (l1.map eJob)),(10,.int .i64 (l1.length:Int)),(11,.int .i64 (i4:Int))],[],[],[]⟩) H (fun i4 x4 v4 I m k4 hxv4 hiv4 H N48=>?_) (fun v4 I m H=>?_)
  .unfold ZO4 at H
   refine wP ?_
   refine wt (ltT hiv4) ?_
   refine wG [.u 14 (.ix _ _ _ fun _=>Z0 eJob (Z2 hxv4)),.c 17 (ZW7 x4)] fun _=>?_
   refine Wh_iH H (fun H=>?_) fun H=>?_
   .refine wP ?_
    replace H:=sI H; subst H
    exact wE [(2,.d)]
   .refine wP ?_
    refine wW (fun (v5:Int)=>⟨[(0,.sl .rd 11 (l1.map eJob)),(3,.int .i64 (i4:Int)),(4,.ptr 4 0),(5,.int .i64 v5),(9,.sl .rd 11 (l1.map eJob)),(10,.int .i64 (l1.length:Int)),(11,.int .i64 (i4:Int))],[],[(4,(eJob x4).cells)],[]⟩) H (fun v5 I m k5 H N38=>?_)
    unfold Z32 at H
    refine wP ?_
    refine Wh_iH H (fun H=>?_) fun H=>?_
    .obtain ⟨e6,h6,H⟩:=bB H
     refine wG [.u 26 (.ix _ _ _ fun _=>Z0 eJob h6)] fun _=>?_
     refine Wh_iH H (fun H=>?_) fun H=>?_
     .refine wP ?_
      replace H:=sI H; subst H
      exact wE [(2,.d)]
     .refine wP ?_
      exact wT (N38 _ H)
    .refine wG [.w 32 (wi .i64 rfl hiv4 q2.1)] fun _=>?_
     exact wT (N48 () H)
  .unfold ZN4 at H
   refine wP ?_
   refine wf (ltF l1.length) ?_
   refine wP ?_
   replace H:=sI H; subst H
   exact wE [(2,.d)]
def ZIc:L :=
sR [.bx 2 (.t 0),.mv 3 (cB false)]
 (sR [fA 4 2 0,lD 5 4 1 false,fA 6 1 0,lD 7 6 1 false,bI 8 .eql 5 7,mV 3 8]
 gR)
def Z33 (k1:Job) (x2:Job):Option Bool :=
 some (k1.id == x2.id)
theorem ZTa {k1:Job} {x2:Job} {r:Bool} (H:Z33 k1 x2 = some r):Snd Tryz.prog Zq1 [eJob k1,.ept (eJob x2) 0] (.bool r) []:=by
 refine wS ZIc [.t 3] ?_
 unfold Z33 at H
 refine wP ?_
 replace H:=sI H; subst H
 exact wE [(3,.d)]
def impl_QueueOk_1 (k1:Job) (x2:Job):Bool :=
 (k1.id == x2.id)
theorem Zoe (k1:Job) (x2:Job):Z33 k1 x2 = some (impl_QueueOk_1 k1 x2):=by
 unfold Z33 impl_QueueOk_1
 first | rfl | simp only [Z7]
theorem ZOc (k1:Job) (x2:Job):Snd Tryz.prog Zq1 [eJob k1,.ept (eJob x2) 0] (.bool (impl_QueueOk_1 k1 x2)) []:=ZTa (Zoe k1 x2)
def Zi1:L :=
.seq (rE 4 (kI 0))
 (.seq (sR [mV 6 0,.ln 7 (.t 6),.mv 8 (kI 0)]
 (.blk 0 (.loop (.gw (sR [bI 9 .lss 8 7]
 (.seq (.cond (.t 9) .skip
 (.exit 0))
 (.seq (.blk 1 (sR [mV 10 8,mV 5 10]
 (sR [mV 11 1,mV 12 0,mV 13 5,iA 14 12 13 11,lD 15 14 11 true,.cc 16 (.t 11) [(.t 15)]]
 (.cond (.t 16) (sR [mV 17 5,mV 4 17]
 gR)
 .skip))))
 (.reg [.bi 18 .add (.t 8) (kI 1),mV 8 18]))))))))
 (.seq (rE 4 (kI (-1)))
 gR))
def Zb (c2:Job) (x4:Job) (i4:Nat) (_:Unit) (k4:Unit -> Option Int):Option Int :=
 bif (impl_QueueOk_1 x4 c2) then (some (i4:Int)) else (k4 ())
def Zk (_:Unit):Option Int :=
 some (-1)
def Ze (s1:List Job) (c2:Job):Option Int :=
 rgl (Zb c2) Zk s1 0 ()
theorem Zh1 {s1:List Job} {c2:Job} {r:Int} (H:Ze s1 c2 = some r):Snd Tryz.prog Zf1 [.sl .rd 11 (s1.map eJob),.fn Zq1 [.ept (eJob c2) 0]] (.int .i64 r) []:=by
 refine wS Zi1 [.t 4] ?_
 unfold Ze at H
 refine wG [.u 7 (.ln _ _ fun _=>lm s1 eJob)] fun q3=>?_
 refine wR (fun (i4:Nat) (v4:Unit)=>⟨[(0,.sl .rd 11 (s1.map eJob)),(1,.fn Zq1 [.ept (eJob c2) 0]),(7,.int .i64 (s1.length:Int)),(8,.int .i64 (i4:Int))],[],[],[]⟩) H (fun i4 x4 v4 I m k4 hxv4 hiv4 H N20=>?_) (fun v4 I m H=>?_)
 .unfold Zb at H
  refine wP ?_
  refine wt (ltT hiv4) ?_
  refine wG [.u 14 (.ix _ _ _ fun _=>Z0 eJob (Z2 hxv4)),.u 16 (.clsr _ _ _ _ _ (AEs.refl _) (by kernel_rfl) (fun _=>ZOc x4 c2))] fun _=>?_
  refine Wh_iH H (fun H=>?_) fun H=>?_
  .refine wP ?_
   replace H:=sI H; subst H
   exact wE [(4,.d)]
  .refine wG [.w 18 (wi .i64 rfl hiv4 q3.1)] fun _=>?_
   exact wT (N20 () H)
 .unfold Zk at H
  refine wP ?_
  refine wf (ltF s1.length) ?_
  refine wP ?_
  replace H:=sI H; subst H
  exact wE [(4,.d)]
def Z21:L :=
.seq (rE 4 (cB false))
 (sR [mV 5 0,mV 6 1,cQ 7 Zf1 [5,6],.bi 8 .geq (.t 7) (kI 0),mV 4 8]
 gR)
def Z6 (s1:List Job) (c2:Job):Option Bool :=
 (Ze s1 c2).bind fun n3=>some (decide (0 <= n3))
theorem Z01 {s1:List Job} {c2:Job} {r:Bool} (H:Z6 s1 c2 = some r):Snd Tryz.prog ZT [.sl .rd 11 (s1.map eJob),.fn Zq1 [.ept (eJob c2) 0]] (.bool r) []:=by
 refine wS Z21 [.t 4] ?_
 unfold Z6 at H
 obtain ⟨n3,h3,H⟩:=bB H
 refine wG [.c 7 (Zh1 h3)] fun _=>?_
 replace H:=sI H; subst H
 exact wE [(4,.d)]
def Zcg:L :=
.seq (rE 2 (cB false))
 (.seq (sR [mV 5 0,.ln 6 (.t 5),.mv 7 (kI 0)]
 (.blk 0 (.loop (.gw (sR [bI 8 .lss 7 6]
 (.seq (.cond (.t 8) .skip
 (.exit 0))
 (.seq (.blk 1 (sR [mV 9 7,iA 10 5 7 11,lD 11 10 11 true,.al 4 [.int .i64 0,.int .i64 0,.int .i64 0,.int .i64 0,.int .i64 0,.int .i64 0,.int .i64 0,.int .i64 0,.int .i64 0,.int .i64 0,.int .i64 0],mV 3 9,.st (.t 4) (.t 11) 11]
 (sR [.fb 4,lD 12 4 11 true,cQ 13 Zk3 [12],.un 14 (.t 13),mV 15 14,.g 15 false (mV 16 0),.g 15 false (mV 17 3),.g 15 false (.sc 18 (.t 16) none (some (.t 17)) 11),.g 15 false (.mf 19 Zq1 [(.t 4)]),.g 15 false (cQ 20 ZT [18,19]),.pk 21 (.t 15) (cB true) (.t 20)]
 (.cond (.t 21) (.seq (rE 2 (cB false))
 gR)
 .skip))))
 (.reg [.bi 22 .add (.t 7) (kI 1),mV 7 22]))))))))
 (sR [mV 23 0,.ln 24 (.t 23),.bi 25 .leq (.t 24) (kI 60),mV 2 25]
 gR))
def ZY4 (l1:List Job) (x3:Job) (i3:Nat) (_:Unit) (k3:Unit -> Option Bool):Option Bool :=
 (bif (!(impl_JobOk x3)) then some default else (cutL l1 none (some (i3:Int)))).bind fun xs4=>(bif (!(impl_JobOk x3)) then some default else (Z6 xs4 x3)).bind fun b5=>bif ((!(impl_JobOk x3)) || b5) then (some false) else (k3 ())
def ZX4 (l1:List Job) (_:Unit):Option Bool :=
 some (decide ((l1.length:Int) <= 60))
def impl_QueueOk (l1:List Job):Option Bool :=
 rgl (ZY4 l1) (ZX4 l1) l1 0 ()
theorem Zog {l1:List Job} {r:Bool} (H:impl_QueueOk l1 = some r):Snd Tryz.prog ZDa [.sl .rd 11 (l1.map eJob)] (.bool r) []:=by
 refine wS Zcg [.t 2] ?_
 unfold impl_QueueOk at H
 refine wG [.u 6 (.ln _ _ fun _=>lm l1 eJob)] fun q2=>?_
 refine wR (fun (i3:Nat) (v3:Unit)=>⟨[(0,.sl .rd 11 (l1.map eJob)),(5,.sl .rd 11 (l1.map eJob)),(6,.int .i64 (l1.length:Int)),(7,.int .i64 (i3:Int))],[],[],[]⟩) H (fun i3 x3 v3 I m k3 hxv3 hiv3 H N20=>?_) (fun v3 I m H=>?_)
 .unfold ZY4 at H
  refine wP ?_
  refine wt (ltT hiv3) ?_
  obtain ⟨xs4,h4,H⟩:=bB H
  obtain ⟨b5,h5,H⟩:=bB H
  refine wG [.u 10 (.ix _ _ _ fun _=>Z0 eJob (Z2 hxv3)),.c 13 (Zn5 x3),.g 18 [(_,false)] (.sc _ _ _ _ fun q=>ZCe eJob (bF q.1 h4)),.g 20 [(_,false)] (.call _ _ _ _ _ (AEs.refl _) (fun q=>Z01 (bF q.1 h5)))] fun _=>?_
  refine Wh_iH H (fun H=>?_) fun H=>?_
  .refine wP ?_
   replace H:=sI H; subst H
   exact wE [(2,.d)]
  .refine wG [.w 22 (wi .i64 rfl hiv3 q2.1)] fun _=>?_
   exact wT (N20 () H)
 .unfold ZX4 at H
  refine wP ?_
  refine wf (ltF l1.length) ?_
  refine wG [.u 24 (.ln _ _ fun _=>lm l1 eJob)] fun q6=>?_
  replace H:=sI H; subst H
  exact wE [(2,.d)]
def ZXd:L :=
sR [.bx 1 (.t 0),.al 2 [.nl,.nl,.nl,.nl,.nl],.mv 3 (cB false)]
 (sR [fA 9 1 0,lD 10 9 2 true,fA 11 1 2,lD 12 11 1 false,.bd 13 [.nl,.nl,.nl,.nl,.nl] [(0,2,(.t 10)),(2,1,(.t 12))],.al 4 [.nl,.nl,.nl,.nl,.nl],.st (.t 4) (.t 13) 5]
 (.seq (sR [fA 14 1 0,lD 15 14 2 true,cQ 16 Zq5 [15],.un 17 (.t 16),mV 18 17,.g 18 false (fA 19 1 2),.g 18 false (lD 20 19 1 false),.g 18 false (.ln 21 (.t 20)),.g 18 false (fA 22 1 0),.g 18 false (fA 23 22 1),.g 18 false (lD 24 23 1 false),.g 18 false (.ln 25 (.t 24)),.g 18 false (bI 26 .neq 21 25),.pk 27 (.t 18) (cB true) (.t 26),mV 28 27,.g 28 false (fA 29 1 3),.g 28 false (lD 30 29 3 true),.g 28 false (cQ 31 Zr [30]),.g 28 false (.un 32 (.t 31)),.pk 33 (.t 28) (cB true) (.t 32)]
 (.cond (.t 33) (sR [.bd 34 [.nl,.nl,.nl,.nl,.nl] [],.st (.t 2) (.t 34) 5,.mv 3 (cB false)]
 gR)
 .skip))
 (.seq (sR [fA 35 1 0,fA 36 35 1,lD 37 36 1 false,.ln 38 (.t 37),.mv 39 (kI 0)]
 (.blk 0 (.loop (.gw (sR [bI 40 .lss 39 38]
 (.seq (.cond (.t 40) .skip
 (.exit 0))
 (.seq (.blk 1 (sR [iA 41 37 39 4,lD 42 41 4 true,.al 6 [.int .i64 0,.int .i64 0,.int .i64 0,.int .i64 0],.st (.t 6) (.t 42) 4]
 (sR [fA 44 6 1,lD 45 44 3 true,cQ 46 ZA4 [45],mV 43 46,eX 47 43 0,eX 48 43 1,.al 7 [.nl],.st (.t 7) (.t 47) 1,mV 8 48]
 (.reg [fA 49 4 3,lD 50 49 1 false,lD 51 7 1 true,.bs 52 1 [(.t 51)] false,.ap 53 (.t 50) (.t 52) 1 24,fA 54 4 3,.st (.t 54) (.t 53) 1]))))
 (.reg [.bi 55 .add (.t 39) (kI 1),mV 39 55]))))))))
 (sR [fA 57 1 3,lD 58 57 3 true,cQ 59 ZA4 [58],mV 56 59,eX 60 56 0,eX 61 56 1,fA 62 4 4,.st (.t 62) (.t 60) 1]
 (sR [lD 63 4 5 true,cQ 64 Zh7 [63],.st (.t 2) (.t 64) 5,.mv 3 (cB true)]
 gR)))))
def ZY3 (x4:Node) (_:Nat) (v4:(List (List Pt))) (k4:(List (List Pt)) -> Option (Room × Bool)):Option (Room × Bool) :=
 (appL 24 v4 [(spec_ProfNew x4.cap).1]).bind fun xs5=>k4 xs5
def ZX3 (s1:State) (v4:(List (List Pt))):Option (Room × Bool) :=
 (spec_l04Copy (Room.mk s1.topo s1.up v4 ((spec_ProfNew s1.lic).1))).bind fun y6=>some (y6,true)
def spec_l06Empty (s1:State):Option (Room × Bool) :=
 (spec_TopoOk s1.topo).bind fun b2=>bif (((!b2) || ((s1.up.length:Int) != (s1.topo.nodes.length:Int))) || (!(spec_VecOk s1.lic))) then (some ((Room.mk (Topo.mk [] []) [] [] []),false)) else (rgl ZY3 (ZX3 s1) s1.topo.nodes 0 [])
theorem Zld {s1:State} {r:Room × Bool} (H:spec_l06Empty s1 = some r):Snd Tryz.prog ZE9 [Z31 .rd s1] (.tup [ZN3 .nw r.1,.bool r.2]) []:=by
 refine wS ZXd [.c 2 5 true,.t 3] ?_
 unfold spec_l06Empty at H
 obtain ⟨b2,h2,H⟩:=bB H
 refine wG [.c 16 (ZO6 h2),.g 21 [((!b2),false)] (.ln _ _ fun _=>lm s1.up eBo),.g 25 [((!b2),false)] (.ln _ _ fun _=>lm s1.topo.nodes eNode),.g 31 [(((!b2) || ((s1.up.length:Int) != (s1.topo.nodes.length:Int))),false)] (.call _ _ _ _ _ (AEs.refl _) (fun _=>Zs s1.lic))] fun _=>?_
 refine Wh_iH H (fun H=>?_) fun H=>?_
 .refine wP ?_
  replace H:=sI H; subst H
  exact wN [(2,.d),(3,.d)] [(2,[.n 1,.n 4,.n 1,.n 1,.n 4])] [] [] [] [⟨_,nw_I ([]:List Int)⟩,⟨_,ZQ ([]:List Node)⟩,⟨_,nw_Bo ([]:List Bool)⟩,⟨_,ZN ([]:List (List Pt))⟩,⟨_,nw_Pt ([]:List Pt)⟩]
 .refine wG [.u 38 (.ln _ _ fun _=>lm s1.topo.nodes eNode)] fun q3=>?_
  refine ZEg (fun (i4:Nat) (v4:(List (List Pt)))=>⟨[(1,.ptr 1 0),(2,.ptr 2 0),(4,.ptr 4 0),(37,.sl .rd 4 (s1.topo.nodes.map eNode)),(38,.int .i64 (s1.topo.nodes.length:Int)),(39,.int .i64 (i4:Int))],[],[(1,(Z31 .rd s1).cells),(2,[.nl,.nl,.nl,.nl,.nl]),(4,[.sl .rd 1 (s1.topo.parents.map eI),.sl .rd 4 (s1.topo.nodes.map eNode),.sl .rd 1 (s1.up.map eBo),.sref 246000,.nl])],[(246000,⟨1,v4.map (Zo .nw),false⟩)]⟩) [] [(4,[.d,.d,.d,.z 246000,.d])] [(246000,(none,1))] [] (by kernel_rfl) (by kernel_rfl) H (fun i4 x4 v4 I m k4 hxv4 hiv4 H N24=>?_) (fun v4 I m H=>?_)
  .unfold ZY3 at H
   refine wP ?_
   refine wt (ltT hiv4) ?_
   obtain ⟨xs5,h5,H⟩:=bB H
   refine wG [.u 41 (.ix _ _ _ fun _=>Z0 eNode (Z2 hxv4)),.c 46 (Z69 x4.cap),.u 53 (.ap _ _ _ _ fun _=>Zq (Zo .nw) h5),.w 55 (wi .i64 rfl hiv4 q3.1)] fun _=>?_
   exact wT (N24 _ H)
  .unfold ZX3 at H
   refine wP ?_
   refine wf (ltF s1.topo.nodes.length) ?_
   obtain ⟨y6,h6,H⟩:=bB H
   refine wG [.c 59 (Z69 s1.lic),.u 64 (.call _ _ _ _ _ (AEs.of (xs:=[.agg [.sl .rd 1 (s1.topo.parents.map eI),.sl .rd 4 (s1.topo.nodes.map eNode),.sl .rd 1 (s1.up.map eBo),.sl .rd 1 (v4.map (Zo .nw)),.sl .rd 4 (((spec_ProfNew s1.lic).1).map ePt)]]) (by simp)) (fun _=>ZW8 h6))] fun _=>?_
   replace H:=sI H; subst H
   exact wN [(2,.d),(3,.d)] [(2,[])] [] [] [] [⟨_,nw_I y6.topo.parents⟩,⟨_,ZQ y6.topo.nodes⟩,⟨_,nw_Bo y6.up⟩,⟨_,ZN y6.profs⟩,⟨_,nw_Pt y6.lics⟩]
def ZHh:L :=
sR [.bx 1 (.t 0),.al 2 [.nl,.nl,.nl,.nl,.nl],.mv 3 (cB false)]
 (sR [lD 13 1 11 true,cQ 14 ZE9 [13],mV 12 14,eX 15 12 0,eX 16 12 1,.al 4 [.nl,.nl,.nl,.nl,.nl],.st (.t 4) (.t 15) 5,mV 5 16]
 (.seq (sR [mV 17 5,.un 18 (.t 17),mV 19 18,.g 19 false (fA 20 1 7),.g 19 false (lD 21 20 1 false),.g 19 false (cQ 22 ZO [21]),.g 19 false (.un 23 (.t 22)),.pk 24 (.t 19) (cB true) (.t 23)]
 (.cond (.t 24) (sR [.bd 25 [.nl,.nl,.nl,.nl,.nl] [],.st (.t 2) (.t 25) 5,.mv 3 (cB false)]
 gR)
 .skip))
 (.seq (sR [fA 26 1 9,lD 27 26 1 false,.ln 28 (.t 27),.mv 29 (kI 0)]
 (.blk 0 (.loop (.gw (sR [bI 30 .lss 29 28]
 (.seq (.cond (.t 30) .skip
 (.exit 0))
 (.seq (.blk 1 (sR [iA 31 27 29 13,lD 32 31 13 true,.al 7 [.int .i64 0,.int .i64 0,.int .i64 0,.int .i64 0,.int .i64 0,.int .i64 0,.int .i64 0,.int .i64 0,.int .i64 0,.int .i64 0,.int .i64 0,.int .i64 0,.nl],.st (.t 7) (.t 32) 13]
 (sR [fA 33 7 11,lD 34 33 1 false,fA 35 7 0,fA 36 35 9,lD 37 36 1 false,bI 38 .add 34 37,mV 8 38]
 (.seq (sR [lD 39 4 5 true,fA 40 7 0,lD 41 40 11 true,fA 42 7 12,lD 43 42 1 false,cQ 44 Zg7 [39,41,43],.un 45 (.t 44),mV 46 45,.g 46 false (fA 47 7 11),.g 46 false (lD 48 47 1 false),.g 46 false (cQ 49 ZO [48]),.g 46 false (.un 50 (.t 49)),.pk 51 (.t 46) (cB true) (.t 50),mV 52 51,.g 52 false (fA 53 7 11),.g 52 false (lD 54 53 1 false),.g 52 false (fA 55 1 7),.g 52 false (lD 56 55 1 false),.g 52 false (bI 57 .gtr 54 56),.pk 58 (.t 52) (cB true) (.t 57),mV 59 58,.g 59 false (mV 60 8),.g 59 false (fA 61 1 7),.g 59 false (lD 62 61 1 false),.g 59 false (bI 63 .leq 60 62),.pk 64 (.t 59) (cB true) (.t 63),mV 65 64,.g 65 false (mV 66 8),.g 65 false (.bi 67 .gtr (.t 66) (kI 1000000000)),.pk 68 (.t 65) (cB true) (.t 67)]
 (.cond (.t 68) (sR [.bd 69 [.nl,.nl,.nl,.nl,.nl] [],.st (.t 2) (.t 69) 5,.mv 3 (cB false)]
 gR)
 .skip))
 (sR [fA 70 7 0,lD 71 70 11 true,.al 9 [.int .i64 0,.int .i64 0,.int .i64 0,.int .i64 0,.int .i64 0,.int .i64 0,.int .i64 0,.int .i64 0,.int .i64 0,.int .i64 0,.int .i64 0],.st (.t 9) (.t 71) 11]
 (sR [mV 72 8,fA 73 1 7,lD 74 73 1 false,bI 75 .sub 72 74,fA 76 9 9,.st (.t 76) (.t 75) 1]
 (sR [lD 78 4 5 true,lD 79 9 11 true,fA 80 1 7,lD 81 80 1 false,fA 82 7 12,lD 83 82 1 false,cQ 84 Zsa [78,79,81,83],mV 77 84,eX 85 77 0,eX 86 77 1,.al 10 [.nl,.nl,.nl,.nl,.nl],.st (.t 10) (.t 85) 5,mV 11 86]
 (.seq (sR [mV 87 11,.un 88 (.t 87)]
 (.cond (.t 88) (sR [.bd 89 [.nl,.nl,.nl,.nl,.nl] [],.st (.t 2) (.t 89) 5,.mv 3 (cB false)]
 gR)
 .skip))
 (.reg [lD 90 10 5 true,.st (.t 4) (.t 90) 5])))))))))
 (.reg [.bi 91 .add (.t 29) (kI 1),mV 29 91]))))))))
 (sR [lD 92 4 5 true,.st (.t 2) (.t 92) 5,.mv 3 (cB true)]
 gR))))
def Zo3 (s1:State) (x4:Run) (_:Nat) (v4:Room) (k4:Room -> Option (Room × Bool)):Option (Room × Bool) :=
 (spec_l04Diff v4 x4.job x4.nodes).bind fun b5=>bif (((((!b5) || (!(spec_l01Time x4.t))) || (decide (s1.now < x4.t))) || (decide ((w64 (x4.t + x4.job.wall)) <= s1.now))) || (decide (1000000000 < (w64 (x4.t + x4.job.wall))))) then (some ((Room.mk (Topo.mk [] []) [] [] []),false)) else ((spec_Reserve v4 (Job.mk x4.job.id x4.job.prio x4.job.nodes x4.job.need x4.job.lic (w64 ((w64 (x4.t + x4.job.wall)) - s1.now)) x4.job.level) s1.now x4.nodes).bind fun y6=>bif (!y6.2) then (some ((Room.mk (Topo.mk [] []) [] [] []),false)) else (k4 y6.1))
def Z39 (v4:Room):Option (Room × Bool) :=
 some (v4,true)
def spec_RoomOf (s1:State):Option (Room × Bool) :=
 (spec_l06Empty s1).bind fun y2=>bif ((!y2.2) || (!(spec_l01Time s1.now))) then (some ((Room.mk (Topo.mk [] []) [] [] []),false)) else (rgl (Zo3 s1) Z39 s1.runs 0 y2.1)
theorem ZRg {s1:State} {r:Room × Bool} (H:spec_RoomOf s1 = some r):Snd Tryz.prog ZKb [Z31 .rd s1] (.tup [ZN3 .nw r.1,.bool r.2]) []:=by
 refine wS ZHh [.c 2 5 true,.t 3] ?_
 unfold spec_RoomOf at H
 obtain ⟨y2,h2,H⟩:=bB H
 refine wG [.c 14 (Zld h2),.g 22 [((!y2.2),false)] (.call _ _ _ _ _ (AEs.refl _) (fun _=>Zj1 s1.now))] fun _=>?_
 refine Wh_iH H (fun H=>?_) fun H=>?_
 .refine wP ?_
  replace H:=sI H; subst H
  exact wN [(2,.d),(3,.d)] [(2,[.n 1,.n 4,.n 1,.n 1,.n 4])] [] [] [] [⟨_,nw_I ([]:List Int)⟩,⟨_,ZQ ([]:List Node)⟩,⟨_,nw_Bo ([]:List Bool)⟩,⟨_,ZN ([]:List (List Pt))⟩,⟨_,nw_Pt ([]:List Pt)⟩]
 .refine wG [.u 28 (.ln _ _ fun _=>lm s1.runs (eRunT .rd))] fun q3=>?_
  refine wR (fun (i4:Nat) (v4:Room)=>⟨[(1,.ptr 1 0),(2,.ptr 2 0),(4,.ptr 4 0),(27,.sl .rd 13 (s1.runs.map (eRunT .rd))),(28,.int .i64 (s1.runs.length:Int)),(29,.int .i64 (i4:Int))],[],[(1,(Z31 .rd s1).cells),(2,[.nl,.nl,.nl,.nl,.nl]),(4,(ZN3 .nw v4).cells)],[]⟩) H (fun i4 x4 v4 I m k4 hxv4 hiv4 H N46=>?_) (fun v4 I m H=>?_)
  .unfold Zo3 at H
   refine wP ?_
   refine wt (ltT hiv4) ?_
   obtain ⟨b5,h5,H⟩:=bB H
   refine wG [.u 31 (.ix _ _ _ fun _=>Z0 (eRunT .rd) (Z2 hxv4)),.u 44 (.call _ _ _ _ _ (AEs.of (xs:=[.agg [.sl .rd 1 (v4.topo.parents.map eI),.sl .rd 4 (v4.topo.nodes.map eNode),.sl .rd 1 (v4.up.map eBo),.sl .rd 1 (v4.profs.map (Zo .nw)),.sl .rd 4 (v4.lics.map ePt)],.agg [.int .i64 x4.job.id,.int .i64 x4.job.prio,.int .i64 x4.job.nodes,.int .i64 x4.job.need.a,.int .i64 x4.job.need.b,.int .i64 x4.job.need.c,.int .i64 x4.job.lic.a,.int .i64 x4.job.lic.b,.int .i64 x4.job.lic.c,.int .i64 x4.job.wall,.int .i64 x4.job.level],.sl .rd 1 (x4.nodes.map eI)]) (by simp)) (fun _=>ZU8 h5)),.g 49 [((!b5),false)] (.call _ _ _ _ _ (AEs.refl _) (fun _=>Zj1 x4.t))] fun _=>?_
   refine Wh_iH H (fun H=>?_) fun H=>?_
   .refine wP ?_
    replace H:=sI H; subst H
    exact wN [(2,.d),(3,.d)] [(2,[.n 1,.n 4,.n 1,.n 1,.n 4])] [] [] [] [⟨_,nw_I ([]:List Int)⟩,⟨_,ZQ ([]:List Node)⟩,⟨_,nw_Bo ([]:List Bool)⟩,⟨_,ZN ([]:List (List Pt))⟩,⟨_,nw_Pt ([]:List Pt)⟩]
   .obtain ⟨y6,h6,H⟩:=bB H
    refine wG [.u 84 (.call _ _ _ _ _ (AEs.of (xs:=[.agg [.sl .rd 1 (v4.topo.parents.map eI),.sl .rd 4 (v4.topo.nodes.map eNode),.sl .rd 1 (v4.up.map eBo),.sl .rd 1 (v4.profs.map (Zo .nw)),.sl .rd 4 (v4.lics.map ePt)],.agg [.int .i64 x4.job.id,.int .i64 x4.job.prio,.int .i64 x4.job.nodes,.int .i64 x4.job.need.a,.int .i64 x4.job.need.b,.int .i64 x4.job.need.c,.int .i64 x4.job.lic.a,.int .i64 x4.job.lic.b,.int .i64 x4.job.lic.c,.int .i64 (w64 ((w64 (x4.t + x4.job.wall)) - s1.now)),.int .i64 x4.job.level],.int .i64 s1.now,.sl .rd 1 (x4.nodes.map eI)]) (by simp)) (fun _=>ZPe h6))] fun _=>?_
    refine Wh_iH H (fun H=>?_) fun H=>?_
    .refine wP ?_
     replace H:=sI H; subst H
     exact wN [(2,.d),(3,.d)] [(2,[.n 1,.n 4,.n 1,.n 1,.n 4])] [] [] [] [⟨_,nw_I ([]:List Int)⟩,⟨_,ZQ ([]:List Node)⟩,⟨_,nw_Bo ([]:List Bool)⟩,⟨_,ZN ([]:List (List Pt))⟩,⟨_,nw_Pt ([]:List Pt)⟩]
    .refine wG [.w 91 (wi .i64 rfl hiv4 q3.1)] fun _=>?_
     exact wT (N46 _ H)
  .unfold Z39 at H
   refine wP ?_
   refine wf (ltF s1.runs.length) ?_
   refine wP ?_
   replace H:=sI H; subst H
   exact wN [(2,.d),(3,.d)] [(2,[])] [] [] [] [⟨_,nw_I v4.topo.parents⟩,⟨_,ZQ v4.topo.nodes⟩,⟨_,nw_Bo v4.up⟩,⟨_,ZN v4.profs⟩,⟨_,nw_Pt v4.lics⟩]
def ZEf:L :=
sR [.bx 1 (.t 0),.mv 2 (.c (.nl))]
 (sR [.bs 6 11 [] true,fA 7 1 8,lD 8 7 1 false,.ap 9 (.t 6) (.t 8) 11 88,mV 3 9]
 (.seq (sR [fA 10 1 9,lD 11 10 1 false,.ln 12 (.t 11),.mv 13 (kI 0)]
 (.blk 0 (.loop (.gw (sR [bI 14 .lss 13 12]
 (.seq (.cond (.t 14) .skip
 (.exit 0))
 (.seq (.blk 1 (sR [iA 15 11 13 13,lD 16 15 13 true,.al 5 [.int .i64 0,.int .i64 0,.int .i64 0,.int .i64 0,.int .i64 0,.int .i64 0,.int .i64 0,.int .i64 0,.int .i64 0,.int .i64 0,.int .i64 0,.int .i64 0,.nl],.st (.t 5) (.t 16) 13]
 (.reg [mV 17 3,fA 18 5 0,lD 19 18 11 true,.bs 20 11 [(.t 19)] false,.ap 21 (.t 17) (.t 20) 11 88,mV 3 21])))
 (.reg [.bi 22 .add (.t 13) (kI 1),mV 13 22]))))))))
 (sR [mV 23 3,mV 2 23]
 gR)))
def ZH4 (x4:Run) (_:Nat) (v4:(List Job)) (k4:(List Job) -> Option (List Job)):Option (List Job) :=
 (appL 88 v4 [x4.job]).bind fun xs5=>k4 xs5
def ZG4 (v4:(List Job)):Option (List Job) :=
 some v4
def spec_l06Jobs (s1:State):Option (List Job) :=
 (appL 88 ([]:List Job) s1.queue).bind fun xs2=>rgl ZH4 ZG4 s1.runs 0 xs2
theorem Zy5 {s1:State} {r:(List Job)} (H:spec_l06Jobs s1 = some r):Snd Tryz.prog Zy4 [Z31 .rd s1] (.sl .nw 11 (r.map eJob)) []:=by
 refine wS ZEf [.t 2] ?_
 unfold spec_l06Jobs at H
 obtain ⟨xs2,h2,H⟩:=bB H
 refine wG [.u 9 (.ap _ _ _ _ fun _=>Zq eJob h2),.u 12 (.ln _ _ fun _=>lm s1.runs (eRunT .rd))] fun q3=>?_
 refine wR (fun (i4:Nat) (v4:(List Job))=>⟨[(3,.sref 6),(11,.sl .rd 13 (s1.runs.map (eRunT .rd))),(12,.int .i64 (s1.runs.length:Int)),(13,.int .i64 (i4:Int))],[],[],[(6,⟨11,v4.map eJob,false⟩)]⟩) H (fun i4 x4 v4 I m k4 hxv4 hiv4 H N15=>?_) (fun v4 I m H=>?_)
 .unfold ZH4 at H
  refine wP ?_
  refine wt (ltT hiv4) ?_
  obtain ⟨xs5,h5,H⟩:=bB H
  refine wG [.u 15 (.ix _ _ _ fun _=>Z0 (eRunT .rd) (Z2 hxv4)),.u 21 (.ap _ _ _ _ fun _=>Zq eJob h5),.w 22 (wi .i64 rfl hiv4 q3.1)] fun _=>?_
  exact wT (N15 _ H)
 .unfold ZG4 at H
  refine wP ?_
  refine wf (ltF s1.runs.length) ?_
  refine wP ?_
  replace H:=sI H; subst H
  exact wN [(2,.f)] [] [] [6] [] [⟨_,Zjl v4⟩]
def ZLf:L :=
sR [.bx 1 (.t 0),.mv 2 (cB false)]
 (sR [lD 12 1 11 true,cQ 13 ZKb [12],mV 11 13,eX 14 11 0,eX 15 11 1,.al 3 [.nl,.nl,.nl,.nl,.nl],.st (.t 3) (.t 14) 5,mV 4 15]
 (.seq (sR [mV 16 4,.un 17 (.t 16),mV 18 17,.g 18 false (fA 19 1 6),.g 18 false (lD 20 19 1 false),.g 18 false (.bi 21 .lss (.t 20) (kI 0)),.pk 22 (.t 18) (cB true) (.t 21),mV 23 22,.g 23 false (fA 24 1 6),.g 23 false (lD 25 24 1 false),.g 23 false (.bi 26 .gtr (.t 25) (kI 60)),.pk 27 (.t 23) (cB true) (.t 26),mV 28 27,.g 28 false (lD 29 1 11 true),.g 28 false (cQ 30 Zy4 [29]),.g 28 false (cQ 31 Zta [30]),.g 28 false (.un 32 (.t 31)),.pk 33 (.t 28) (cB true) (.t 32),mV 34 33,.g 34 false (fA 35 1 10),.g 34 false (lD 36 35 1 false),.g 34 false (.ln 37 (.t 36)),.g 34 false (.bi 38 .gtr (.t 37) (kI 300)),.pk 39 (.t 34) (cB true) (.t 38)]
 (.cond (.t 39) (.seq (rE 2 (cB false))
 gR)
 .skip))
 (.seq (sR [fA 40 1 9,lD 41 40 1 false,.ln 42 (.t 41),.mv 43 (kI 0)]
 (.blk 0 (.loop (.gw (sR [bI 44 .lss 43 42]
 (.seq (.cond (.t 44) .skip
 (.exit 0))
 (.seq (.blk 1 (sR [iA 45 41 43 13,lD 46 45 13 true,.al 6 [.int .i64 0,.int .i64 0,.int .i64 0,.int .i64 0,.int .i64 0,.int .i64 0,.int .i64 0,.int .i64 0,.int .i64 0,.int .i64 0,.int .i64 0,.int .i64 0,.nl],.st (.t 6) (.t 46) 13]
 (.seq (sR [fA 47 6 12,lD 48 47 1 false,.ln 49 (.t 48),.mv 50 (kI 0)]
 (.blk 2 (.loop (.gw (sR [bI 51 .lss 50 49]
 (.seq (.cond (.t 51) .skip
 (.exit 2))
 (.seq (.blk 3 (sR [mV 52 50,iA 53 48 50 1,lD 54 53 1 false,mV 7 52,mV 8 54]
 (sR [fA 55 1 2,lD 56 55 1 false,mV 57 8,iA 58 56 57 1,lD 59 58 1 false,.un 60 (.t 59),mV 61 60,.g 61 false (mV 62 7),.g 61 false (.bi 63 .gtr (.t 62) (kI 0)),.g 61 false (mV 64 63),.g 64 true (fA 65 6 12),.g 64 true (lD 66 65 1 false),.g 64 true (mV 67 7),.g 64 true (.bi 68 .sub (.t 67) (kI 1)),.g 64 true (iA 69 66 68 1),.g 64 true (lD 70 69 1 false),.g 64 true (mV 71 8),.g 64 true (bI 72 .geq 70 71),.g 61 false (.pk 73 (.t 64) (.t 72) (cB false)),.pk 74 (.t 61) (cB true) (.t 73)]
 (.cond (.t 74) (.seq (rE 2 (cB false))
 gR)
 .skip))))
 (.reg [.bi 75 .add (.t 50) (kI 1),mV 50 75]))))))))
 (.seq (.rq 12 [fA 76 1 0,lD 77 76 2 true,fA 78 1 0,lD 79 78 2 true,fA 80 6 12,lD 81 80 1 false,cQ 82 ZLb [79,81],cQ 83 Zm1 [77,82],fA 84 6 0,fA 85 84 10,lD 86 85 1 false,bI 87 .gtr 83 86])
 (.cond (.t 87) (.seq (rE 2 (cB false))
 gR)
 .skip)))))
 (.reg [.bi 88 .add (.t 43) (kI 1),mV 43 88]))))))))
 (.seq (sR [fA 89 1 10,lD 90 89 1 false,.ln 91 (.t 90),.mv 92 (kI 0)]
 (.blk 4 (.loop (.gw (sR [bI 93 .lss 92 91]
 (.seq (.cond (.t 93) .skip
 (.exit 4))
 (.seq (.blk 5 (sR [iA 94 90 92 3,lD 95 94 3 true,.al 10 [.int .i64 0,.int .i64 0,.int .i64 0],.st (.t 10) (.t 95) 3]
 (sR [fA 96 10 0,lD 97 96 1 false,.bi 98 .lss (.t 97) (kI 1),mV 99 98,.g 99 false (fA 100 10 0),.g 99 false (lD 101 100 1 false),.g 99 false (.bi 102 .gtr (.t 101) (kI 999)),.pk 103 (.t 99) (cB true) (.t 102),mV 104 103,.g 104 false (fA 105 10 1),.g 104 false (lD 106 105 1 false),.g 104 false (.bi 107 .lss (.t 106) (kI 0)),.pk 108 (.t 104) (cB true) (.t 107),mV 109 108,.g 109 false (fA 110 10 1),.g 109 false (lD 111 110 1 false),.g 109 false (fA 112 1 7),.g 109 false (lD 113 112 1 false),.g 109 false (bI 114 .gtr 111 113),.pk 115 (.t 109) (cB true) (.t 114),mV 116 115,.g 116 false (fA 117 10 2),.g 116 false (lD 118 117 1 false),.g 116 false (.bi 119 .lss (.t 118) (kI 1)),.pk 120 (.t 116) (cB true) (.t 119),mV 121 120,.g 121 false (fA 122 10 2),.g 121 false (lD 123 122 1 false),.g 121 false (.bi 124 .gtr (.t 123) (kI 4)),.pk 125 (.t 121) (cB true) (.t 124)]
 (.cond (.t 125) (.seq (rE 2 (cB false))
 gR)
 .skip))))
 (.reg [.bi 126 .add (.t 92) (kI 1),mV 92 126]))))))))
 (.seq (rE 2 (cB true))
 gR)))))
def ZR2 (s1:State) (x6:Run) (x8:Int) (i8:Nat) (_:Unit) (k8:Unit -> Option Bool):Option Bool :=
 (idx s1.up x8).bind fun e9=>(bif (!e9) then some default else (bif (decide (0 < (i8:Int))) then (idx x6.nodes (w64 ((i8:Int) - 1))) else some default)).bind fun e10=>bif ((!e9) || ((decide (0 < (i8:Int))) && (decide (x8 <= e10)))) then (some false) else (k8 ())
def ZZ (s1:State) (x6:Run) (k6:Unit -> Option Bool) (_:Unit):Option Bool :=
 (spec_Lowest s1.topo x6.nodes).bind fun n11=>(spec_l02Level s1.topo n11).bind fun n12=>bif (decide (x6.job.level < n12)) then (some false) else (k6 ())
def ZP2 (s1:State) (x14:End) (_:Nat) (_:Unit) (k14:Unit -> Option Bool):Option Bool :=
 bif ((((((decide (x14.id < 1)) || (decide (999 < x14.id))) || (decide (x14.t < 0))) || (decide (s1.now < x14.t))) || (decide (x14.why < 1))) || (decide (4 < x14.why))) then (some false) else (k14 ())
def ZL4 (_:Unit):Option Bool :=
 some true
def ZQ2 (s1:State) (x6:Run) (_:Nat) (_:Unit) (k6:Unit -> Option Bool):Option Bool :=
 rgl (ZR2 s1 x6) (ZZ s1 x6 k6) x6.nodes 0 ()
def ZM4 (s1:State) (_:Unit):Option Bool :=
 rgl (ZP2 s1) ZL4 s1.ends 0 ()
def spec_StateOk (s1:State):Option Bool :=
 (spec_RoomOf s1).bind fun y2=>(bif (((!y2.2) || (decide (s1.depth < 0))) || (decide (60 < s1.depth))) then some default else (spec_l06Jobs s1)).bind fun y3=>(bif (((!y2.2) || (decide (s1.depth < 0))) || (decide (60 < s1.depth))) then some default else (spec_QueueOk y3)).bind fun b4=>bif (((((!y2.2) || (decide (s1.depth < 0))) || (decide (60 < s1.depth))) || (!b4)) || (decide (300 < (s1.ends.length:Int)))) then (some false) else (rgl (ZQ2 s1) (ZM4 s1) s1.runs 0 ())
theorem ZOe {s1:State} {r:Bool} (H:spec_StateOk s1 = some r):Snd Tryz.prog Zra [Z31 .rd s1] (.bool r) []:=by
 refine wS ZLf [.t 2] ?_
 unfold spec_StateOk at H
 obtain ⟨y2,h2,H⟩:=bB H
 obtain ⟨y3,h3,H⟩:=bB H
 obtain ⟨b4,h4,H⟩:=bB H
 refine wG [.c 13 (ZRg h2),.g 30 [(_,false)] (.call _ _ _ _ _ (AEs.refl _) (fun q=>Zy5 (bF q.1 h3))),.g 31 [(_,false)] (.call _ _ _ _ _ (AEs.refl _) (fun q=>ZRe (bF q.1 h4))),.g 37 [(((((!y2.2) || (decide (s1.depth < 0))) || (decide (60 < s1.depth))) || (!b4)),false)] (.ln _ _ fun _=>lm s1.ends eEnd)] fun _=>?_
 refine Wh_iH H (fun H=>?_) fun H=>?_
 .refine wP ?_
  replace H:=sI H; subst H
  exact wE [(2,.d)]
 .refine wG [.u 42 (.ln _ _ fun _=>lm s1.runs (eRunT .rd))] fun q5=>?_
  refine wR (fun (i6:Nat) (v6:Unit)=>⟨[(1,.ptr 1 0),(41,.sl .rd 13 (s1.runs.map (eRunT .rd))),(42,.int .i64 (s1.runs.length:Int)),(43,.int .i64 (i6:Int))],[],[(1,(Z31 .rd s1).cells)],[]⟩) H (fun i6 x6 v6 I m k6 hxv6 hiv6 H N51=>?_) (fun v6 I m H=>?_)
  .unfold ZQ2 at H
   refine wP ?_
   refine wt (ltT hiv6) ?_
   refine wG [.u 45 (.ix _ _ _ fun _=>Z0 (eRunT .rd) (Z2 hxv6)),.u 49 (.ln _ _ fun _=>lm x6.nodes eI)] fun q7=>?_
   refine wR (fun (i8:Nat) (v8:Unit)=>⟨[(1,.ptr 1 0),(6,.ptr 6 0),(41,.sl .rd 13 (s1.runs.map (eRunT .rd))),(42,.int .i64 (s1.runs.length:Int)),(43,.int .i64 (i6:Int)),(48,.sl .rd 1 (x6.nodes.map eI)),(49,.int .i64 (x6.nodes.length:Int)),(50,.int .i64 (i8:Int))],[],[(1,(Z31 .rd s1).cells),(6,(eRunT .rd x6).cells)],[]⟩) H (fun i8 x8 v8 I m k8 hxv8 hiv8 H N34=>?_) (fun v8 I m H=>?_)
   .unfold ZR2 at H
    refine wP ?_
    refine wt (ltT hiv8) ?_
    obtain ⟨e9,h9,H⟩:=bB H
    obtain ⟨e10,h10,H⟩:=bB H
    refine wG [.u 53 (.ix _ _ _ fun _=>Z0 eI (Z2 hxv8)),.u 58 (.ix _ _ _ fun _=>Z0 eBo h9),.g 69 [(_,true),(_,false)] (.ix _ _ _ fun q=>Z0 eI (bT q.1 (bF q.2.1 h10)))] fun _=>?_
    refine Wh_iH H (fun H=>?_) fun H=>?_
    .refine wP ?_
     replace H:=sI H; subst H
     exact wE [(2,.d)]
    .refine wG [.w 75 (wi .i64 rfl hiv8 q7.1)] fun _=>?_
     exact wT (N34 () H)
   .unfold ZZ at H
    refine wP ?_
    refine wf (ltF x6.nodes.length) ?_
    obtain ⟨n11,h11,H⟩:=bB H
    obtain ⟨n12,h12,H⟩:=bB H
    refine wG [.c 82 (ZTg h11),.c 83 (ZO2 h12)] fun _=>?_
    refine Wh_iH H (fun H=>?_) fun H=>?_
    .refine wP ?_
     replace H:=sI H; subst H
     exact wE [(2,.d)]
    .refine wG [.w 88 (wi .i64 rfl hiv6 q5.1)] fun _=>?_
     exact wT (N51 () H)
  .unfold ZM4 at H
   refine wP ?_
   refine wf (ltF s1.runs.length) ?_
   refine wG [.u 91 (.ln _ _ fun _=>lm s1.ends eEnd)] fun q13=>?_
   refine wR (fun (i14:Nat) (v14:Unit)=>⟨[(1,.ptr 1 0),(90,.sl .rd 3 (s1.ends.map eEnd)),(91,.int .i64 (s1.ends.length:Int)),(92,.int .i64 (i14:Int))],[],[(1,(Z31 .rd s1).cells)],[]⟩) H (fun i14 x14 v14 I m k14 hxv14 hiv14 H N73=>?_) (fun v14 I m H=>?_)
   .unfold ZP2 at H
    refine wP ?_
    refine wt (ltT hiv14) ?_
    refine wG [.u 94 (.ix _ _ _ fun _=>Z0 eEnd (Z2 hxv14))] fun _=>?_
    refine Wh_iH H (fun H=>?_) fun H=>?_
    .refine wP ?_
     replace H:=sI H; subst H
     exact wE [(2,.d)]
    .refine wG [.w 126 (wi .i64 rfl hiv14 q13.1)] fun _=>?_
     exact wT (N73 () H)
   .unfold ZL4 at H
    refine wP ?_
    refine wf (ltF s1.ends.length) ?_
    refine wP ?_
    replace H:=sI H; subst H
    exact wE [(2,.d)]
def Zlk:L :=
sR [.bx 3 (.t 0),.bx 5 (.t 2),.al 6 [.nl,.nl,.nl,.nl,.nl]]
 (sR [lD 12 3 2 true,cQ 13 Z06 [12],mV 14 1,.ap 15 (.c (.nl)) (.t 14) 1 1,.bd 16 [.nl,.nl,.nl,.nl,.nl] [(0,2,(.t 13)),(2,1,(.t 15))],.al 7 [.nl,.nl,.nl,.nl,.nl],.st (.t 7) (.t 16) 5]
 (.seq (sR [fA 17 3 1,lD 18 17 1 false,.ln 19 (.t 18),.mv 20 (kI 0)]
 (.blk 0 (.loop (.gw (sR [bI 21 .lss 20 19]
 (.seq (.cond (.t 21) .skip
 (.exit 0))
 (.seq (.blk 1 (sR [iA 22 18 20 4,lD 23 22 4 true,.al 9 [.int .i64 0,.int .i64 0,.int .i64 0,.int .i64 0],.st (.t 9) (.t 23) 4]
 (sR [fA 25 9 1,lD 26 25 3 true,cQ 27 ZB4 [26],mV 24 27,eX 28 24 0,eX 29 24 1,.al 10 [.nl],.st (.t 10) (.t 28) 1,mV 11 29]
 (.reg [fA 30 7 3,lD 31 30 1 false,lD 32 10 1 true,.bs 33 1 [(.t 32)] false,.ap 34 (.t 31) (.t 33) 1 24,fA 35 7 3,.st (.t 35) (.t 34) 1]))))
 (.reg [.bi 36 .add (.t 20) (kI 1),mV 20 36]))))))))
 (sR [lD 38 5 3 true,cQ 39 ZB4 [38],mV 37 39,eX 40 37 0,eX 41 37 1,fA 42 7 4,.st (.t 42) (.t 40) 1]
 (sR [lD 43 7 5 true,.st (.t 6) (.t 43) 5]
 gR))))
def Z27 (x7:Node) (_:Nat) (v7:(List (List Pt))) (k7:(List (List Pt)) -> Option Room):Option Room :=
 (appL 24 v7 [(impl_ProfNew x7.cap).1]).bind fun xs8=>k7 xs8
def Z17 (lic3:Vec) (y4:Topo) (xs5:List Bool) (v7:(List (List Pt))):Option Room :=
 some (Room.mk y4 xs5 v7 ((impl_ProfNew lic3).1))
def impl_empty (t1:Topo) (up2:List Bool) (lic3:Vec):Option Room :=
 (impl_copyTopo t1).bind fun y4=>(appL 1 ([]:List Bool) up2).bind fun xs5=>rgl Z27 (Z17 lic3 y4 xs5) t1.nodes 0 []
theorem ZCk {t1:Topo} {up2:List Bool} {lic3:Vec} {r:Room} (H:impl_empty t1 up2 lic3 = some r):Snd Tryz.prog Zgd [ZF .rd t1,.sl .rd 1 (up2.map eBo),eVec lic3] (ZN3 .nw r) []:=by
 refine wS Zlk [.c 6 5 true] ?_
 unfold impl_empty at H
 obtain ⟨y4,h4,H⟩:=bB H
 obtain ⟨xs5,h5,H⟩:=bB H
 refine wG [.c 13 (ZG8 h4),.u 15 (.ap _ _ _ _ fun _=>Zq eBo h5),.u 19 (.ln _ _ fun _=>lm t1.nodes eNode)] fun q6=>?_
 refine ZEg (fun (i7:Nat) (v7:(List (List Pt)))=>⟨[(5,.ptr 5 0),(6,.ptr 6 0),(7,.ptr 7 0),(18,.sl .rd 4 (t1.nodes.map eNode)),(19,.int .i64 (t1.nodes.length:Int)),(20,.int .i64 (i7:Int))],[],[(5,(eVec lic3).cells),(6,[.nl,.nl,.nl,.nl,.nl]),(7,[.sl .nw 1 (y4.parents.map eI),.sl .nw 4 (y4.nodes.map eNode),.sref 15,.sref 574001,.nl])],[(15,⟨1,xs5.map eBo,false⟩),(574001,⟨1,v7.map (Zo .nw),false⟩)]⟩) [] [(7,[.d,.d,.d,.z 574001,.d])] [(574001,(none,1))] [] (by kernel_rfl) (by kernel_rfl) H (fun i7 x7 v7 I m k7 hxv7 hiv7 H N17=>?_) (fun v7 I m H=>?_)
 .unfold Z27 at H
  refine wP ?_
  refine wt (ltT hiv7) ?_
  obtain ⟨xs8,h8,H⟩:=bB H
  refine wG [.u 22 (.ix _ _ _ fun _=>Z0 eNode (Z2 hxv7)),.c 27 (Zp9 x7.cap),.u 34 (.ap _ _ _ _ fun _=>Zq (Zo .nw) h8),.w 36 (wi .i64 rfl hiv7 q6.1)] fun _=>?_
  exact wT (N17 _ H)
 .unfold Z17 at H
  refine wP ?_
  refine wf (ltF t1.nodes.length) ?_
  refine wG [.c 39 (Zp9 lic3)] fun _=>?_
  replace H:=sI H; subst H
  exact wN [(6,.d)] [(6,[.d,.d,.f,.f,.d])] [] [15,574001] [] [⟨_,nw_I y4.parents⟩,⟨_,ZQ y4.nodes⟩,⟨_,nw_Bo xs5⟩,⟨_,ZN v7⟩,⟨_,nw_Pt ((impl_ProfNew lic3).1)⟩]
def ZK5:L :=
sR [.bx 6 (.t 0),.bx 7 (.t 1),.al 12 [.nl,.nl,.nl,.nl,.nl],.mv 13 (cB false)]
 (.seq (sR [lD 21 6 5 true,cQ 22 Z3c [21],.un 23 (.t 22),mV 24 23,.g 24 false (lD 25 7 11 true),.g 24 false (cQ 26 Zk3 [25]),.g 24 false (.un 27 (.t 26)),.pk 28 (.t 24) (cB true) (.t 27),mV 29 28,.g 29 false (fA 30 6 0),.g 29 false (lD 31 30 2 true),.g 29 false (lD 32 7 11 true),.g 29 false (mV 33 4),.g 29 false (cQ 34 ZI6 [31,32,33]),.g 29 false (.un 35 (.t 34)),.pk 36 (.t 29) (cB true) (.t 35)]
 (.cond (.t 36) (sR [.bd 37 [.nl,.nl,.nl,.nl,.nl] [],.st (.t 12) (.t 37) 5,.mv 13 (cB false)]
 gR)
 .skip))
 (sR [lD 38 6 5 true,.cl 39 ZT9 [(.t 38)],.al 14 [.nl,.nl,.nl,.nl,.nl],.st (.t 14) (.t 39) 5]
 (.seq (sR [mV 40 4,.ln 41 (.t 40),.mv 42 (kI 0)]
 (.blk 0 (.loop (.gw (sR [bI 43 .lss 42 41]
 (.seq (.cond (.t 43) .skip
 (.exit 0))
 (.seq (.blk 1 (sR [iA 44 40 42 1,lD 45 44 1 false,mV 16 45]
 (.seq (.rz [(14,17,[.nl])] [(0,false,mV 47 5),
 (3,false,mV 50 16),
 (6,false,mV 53 2),
 (7,false,mV 54 3),
 (8,false,fA 55 7 3),
 (9,false,lD 56 55 3 true),
 (1,true,fA 48 14 3),
 (2,true,lD 49 48 1 false),
 (4,true,iA 51 49 50 1),
 (5,true,lD 52 51 1 true),
 (10,false,.cc 57 (.t 47) [(.t 52),(.t 53),(.t 54),(.t 56)]),
 (11,false,mV 46 57),
 (12,false,eX 58 46 0),
 (13,false,eX 59 46 1)]
 [.st (.t 17) (.t 58) 1,mV 18 59])
 (.seq (sR [mV 60 18,.un 61 (.t 60)]
 (.cond (.t 61) (sR [.bd 62 [.nl,.nl,.nl,.nl,.nl] [],.st (.t 12) (.t 62) 5,.mv 13 (cB false)]
 gR)
 .skip))
 (.reg [fA 63 14 3,lD 64 63 1 false,mV 65 16,lD 66 17 1 true,iA 67 64 65 1,.st (.t 67) (.t 66) 1])))))
 (.reg [.bi 68 .add (.t 42) (kI 1),mV 42 68]))))))))
 (sR [mV 70 5,fA 71 14 4,lD 72 71 1 true,mV 73 2,mV 74 3,fA 75 7 6,lD 76 75 3 true,.cc 77 (.t 70) [(.t 72),(.t 73),(.t 74),(.t 76)],mV 69 77,eX 78 69 0,eX 79 69 1,.al 19 [.nl],.st (.t 19) (.t 78) 1,mV 20 79]
 (.seq (sR [mV 80 20,.un 81 (.t 80)]
 (.cond (.t 81) (sR [.bd 82 [.nl,.nl,.nl,.nl,.nl] [],.st (.t 12) (.t 82) 5,.mv 13 (cB false)]
 gR)
 .skip))
 (sR [lD 83 19 1 true,fA 84 14 4,.st (.t 84) (.t 83) 1]
 (sR [lD 85 14 5 true,.st (.t 12) (.t 85) 5,.mv 13 (cB true)]
 gR)))))))
def Zc1 (j2:Job) (from3:Int) (to4:Int) (x10:Int) (_:Nat) (v10:(List (List Pt))) (k10:(List (List Pt)) -> Option (Room × Bool)):Option (Room × Bool) :=
 (idx v10 x10).bind fun e11=>(impl_ProfTake e11 from3 to4 j2.need).bind fun y12=>bif (!y12.2) then (some ((Room.mk (Topo.mk [] []) [] [] []),false)) else (k10 (v10.set x10.toNat y12.1))
def Zb1 (j2:Job) (from3:Int) (to4:Int) (y8:Room) (v10:(List (List Pt))):Option (Room × Bool) :=
 (impl_ProfTake y8.lics from3 to4 j2.lic).bind fun y13=>bif (!y13.2) then (some ((Room.mk (Topo.mk [] []) [] [] []),false)) else (some ((Room.mk y8.topo y8.up v10 y13.1),true))
def ZG (r1:Room) (j2:Job) (from3:Int) (to4:Int) (nodes5:List Int):Option (Room × Bool) :=
 (impl_RoomOk r1).bind fun b6=>(bif ((!b6) || (!(impl_JobOk j2))) then some default else (impl_areJobNodes r1.topo j2 nodes5)).bind fun b7=>bif (((!b6) || (!(impl_JobOk j2))) || (!b7)) then (some ((Room.mk (Topo.mk [] []) [] [] []),false)) else ((impl_copyRoom r1).bind fun y8=>rgl (Zc1 j2 from3 to4) (Zb1 j2 from3 to4 y8) nodes5 0 y8.profs)
theorem ZM5 {r1:Room} {j2:Job} {from3:Int} {to4:Int} {nodes5:List Int} {r:Room × Bool} (H:ZG r1 j2 from3 to4 nodes5 = some r):Snd Tryz.prog Zfd [ZN3 .rd r1,eJob j2,.int .i64 from3,.int .i64 to4,.sl .rd 1 (nodes5.map eI),.fn Zl2 []] (.tup [ZN3 .nw r.1,.bool r.2]) []:=by
 refine wS ZK5 [.c 12 5 true,.t 13] ?_
 unfold ZG at H
 obtain ⟨b6,h6,H⟩:=bB H
 obtain ⟨b7,h7,H⟩:=bB H
 refine wG [.c 22 (Zzi h6),.g 26 [((!b6),false)] (.call _ _ _ _ _ (AEs.refl _) (fun _=>Zn5 j2)),.g 34 [(_,false)] (.call _ _ _ _ _ (AEs.refl _) (fun q=>ZRa (bF q.1 h7)))] fun _=>?_
 refine Wh_iH H (fun H=>?_) fun H=>?_
 .refine wP ?_
  replace H:=sI H; subst H
  exact wN [(12,.d),(13,.d)] [(12,[.n 1,.n 4,.n 1,.n 1,.n 4])] [] [] [] [⟨_,nw_I ([]:List Int)⟩,⟨_,ZQ ([]:List Node)⟩,⟨_,nw_Bo ([]:List Bool)⟩,⟨_,ZN ([]:List (List Pt))⟩,⟨_,nw_Pt ([]:List Pt)⟩]
 .obtain ⟨y8,h8,H⟩:=bB H
  refine wG [.c 39 (Zje h8),.u 41 (.ln _ _ fun _=>lm nodes5 eI)] fun q9=>?_
  refine wR (fun (i10:Nat) (v10:(List (List Pt)))=>⟨[(2,.int .i64 from3),(3,.int .i64 to4),(5,.fn Zl2 []),(7,.ptr 7 0),(12,.ptr 12 0),(14,.ptr 14 0),(40,.sl .rd 1 (nodes5.map eI)),(41,.int .i64 (nodes5.length:Int)),(42,.int .i64 (i10:Int))],[],[(7,(eJob j2).cells),(12,[.nl,.nl,.nl,.nl,.nl]),(14,[.sl .nw 1 (y8.topo.parents.map eI),.sl .nw 4 (y8.topo.nodes.map eNode),.sl .nw 1 (y8.up.map eBo),.sref 40000,.sl .nw 4 (y8.lics.map ePt)])],[(40000,⟨1,v10.map (Zo .nw),false⟩)]⟩) H (fun i10 x10 v10 I m k10 hxv10 hiv10 H N32=>?_) (fun v10 I m H=>?_)
  .unfold Zc1 at H
   refine wP ?_
   refine wt (ltT hiv10) ?_
   obtain ⟨e11,h11,H⟩:=bB H
   obtain ⟨y12,h12,H⟩:=bB H
   refine wG [.u 44 (.ix _ _ _ fun _=>Z0 eI (Z2 hxv10)),.u 51 (.ix _ _ _ fun _=>Z0 (Zo .nw) h11),.u 52 (.el _ _ _ fun _=>gm (Zo .nw) (Zw1 h11)),.u 57 (.clsr _ _ _ _ _ (AEs.refl _) (by kernel_rfl) (fun _=>ZL8 h12))] fun _=>?_
   refine Wh_iH H (fun H=>?_) fun H=>?_
   .refine wP ?_
    replace H:=sI H; subst H
    exact wN [(12,.d),(13,.d)] [(12,[.n 1,.n 4,.n 1,.n 1,.n 4])] [] [] [] [⟨_,nw_I ([]:List Int)⟩,⟨_,ZQ ([]:List Node)⟩,⟨_,nw_Bo ([]:List Bool)⟩,⟨_,ZN ([]:List (List Pt))⟩,⟨_,nw_Pt ([]:List Pt)⟩]
   .refine wG [.u 67 (.ix _ _ _ fun _=>Z0 (Zo .nw) h11),.u 1000000 (.sto _ _ _ (Zo .nw y12.1) _ (fun _=>gm (Zo .nw) (Zw1 h11)) (fun _=>ZS4 ..)),.w 68 (wi .i64 rfl hiv10 q9.1)] fun _=>?_
    exact wT (N32 _ H)
  .unfold Zb1 at H
   refine wP ?_
   refine wf (ltF nodes5.length) ?_
   obtain ⟨y13,h13,H⟩:=bB H
   refine wG [.u 77 (.clsr _ _ _ _ _ (AEs.refl _) (by kernel_rfl) (fun _=>ZL8 h13))] fun _=>?_
   refine Wh_iH H (fun H=>?_) fun H=>?_
   .refine wP ?_
    replace H:=sI H; subst H
    exact wN [(12,.d),(13,.d)] [(12,[.n 1,.n 4,.n 1,.n 1,.n 4])] [] [] [] [⟨_,nw_I ([]:List Int)⟩,⟨_,ZQ ([]:List Node)⟩,⟨_,nw_Bo ([]:List Bool)⟩,⟨_,ZN ([]:List (List Pt))⟩,⟨_,nw_Pt ([]:List Pt)⟩]
   .refine wP ?_
    replace H:=sI H; subst H
    exact wN [(12,.d),(13,.d)] [(12,[.d,.d,.d,.f,.d])] [] [40000] [] [⟨_,nw_I y8.topo.parents⟩,⟨_,ZQ y8.topo.nodes⟩,⟨_,nw_Bo y8.up⟩,⟨_,ZN v10⟩,⟨_,nw_Pt y13.1⟩]
def Zli:L :=
sR [.bx 1 (.t 0),.al 2 [.nl,.nl,.nl,.nl,.nl],.mv 3 (cB false)]
 (.seq (sR [fA 9 1 0,lD 10 9 2 true,cQ 11 Zu5 [10],.un 12 (.t 11),mV 13 12,.g 13 false (fA 14 1 2),.g 13 false (lD 15 14 1 false),.g 13 false (.ln 16 (.t 15)),.g 13 false (fA 17 1 0),.g 13 false (fA 18 17 1),.g 13 false (lD 19 18 1 false),.g 13 false (.ln 20 (.t 19)),.g 13 false (bI 21 .neq 16 20),.pk 22 (.t 13) (cB true) (.t 21),mV 23 22,.g 23 false (fA 24 1 3),.g 23 false (lD 25 24 3 true),.g 23 false (cQ 26 Zu [25]),.g 23 false (.un 27 (.t 26)),.pk 28 (.t 23) (cB true) (.t 27),mV 29 28,.g 29 false (fA 30 1 7),.g 29 false (lD 31 30 1 false),.g 29 false (cQ 32 Z12 [31]),.g 29 false (.un 33 (.t 32)),.pk 34 (.t 29) (cB true) (.t 33)]
 (.cond (.t 34) (sR [.bd 35 [.nl,.nl,.nl,.nl,.nl] [],.st (.t 2) (.t 35) 5,.mv 3 (cB false)]
 gR)
 .skip))
 (sR [fA 36 1 0,lD 37 36 2 true,fA 38 1 2,lD 39 38 1 false,fA 40 1 3,lD 41 40 3 true,cQ 42 Zgd [37,39,41],.al 4 [.nl,.nl,.nl,.nl,.nl],.st (.t 4) (.t 42) 5]
 (.seq (sR [fA 43 1 9,lD 44 43 1 false,.ln 45 (.t 44),.mv 46 (kI 0)]
 (.blk 0 (.loop (.gw (sR [bI 47 .lss 46 45]
 (.seq (.cond (.t 47) .skip
 (.exit 0))
 (.seq (.blk 1 (sR [iA 48 44 46 13,lD 49 48 13 true,.al 6 [.int .i64 0,.int .i64 0,.int .i64 0,.int .i64 0,.int .i64 0,.int .i64 0,.int .i64 0,.int .i64 0,.int .i64 0,.int .i64 0,.int .i64 0,.int .i64 0,.nl],.st (.t 6) (.t 49) 13]
 (.seq (sR [fA 50 6 0,lD 51 50 11 true,cQ 52 Zk3 [51],.un 53 (.t 52),mV 54 53,.g 54 false (fA 55 6 11),.g 54 false (lD 56 55 1 false),.g 54 false (fA 57 1 7),.g 54 false (lD 58 57 1 false),.g 54 false (.cq 59 Z5 [(.t 56),(kI 0),(.t 58)]),.g 54 false (.un 60 (.t 59)),.pk 61 (.t 54) (cB true) (.t 60),mV 62 61,.g 62 false (fA 63 6 11),.g 62 false (lD 64 63 1 false),.g 62 false (fA 65 6 0),.g 62 false (fA 66 65 9),.g 62 false (lD 67 66 1 false),.g 62 false (bI 68 .add 64 67),.g 62 false (fA 69 1 7),.g 62 false (lD 70 69 1 false),.g 62 false (.bi 71 .add (.t 70) (kI 1)),.g 62 false (.cq 72 Z5 [(.t 68),(.t 71),(kI 1000000000)]),.g 62 false (.un 73 (.t 72)),.pk 74 (.t 62) (cB true) (.t 73)]
 (.cond (.t 74) (sR [.bd 75 [.nl,.nl,.nl,.nl,.nl] [],.st (.t 2) (.t 75) 5,.mv 3 (cB false)]
 gR)
 .skip))
 (sR [lD 77 4 5 true,fA 78 6 0,lD 79 78 11 true,fA 80 1 7,lD 81 80 1 false,fA 82 6 11,lD 83 82 1 false,fA 84 6 0,fA 85 84 9,lD 86 85 1 false,bI 87 .add 83 86,fA 88 6 12,lD 89 88 1 false,.cq 90 Zfd [(.t 77),(.t 79),(.t 81),(.t 87),(.t 89),(.c (.fn Zl2 []))],mV 76 90,eX 91 76 0,eX 92 76 1,.al 7 [.nl,.nl,.nl,.nl,.nl],.st (.t 7) (.t 91) 5,mV 8 92]
 (.seq (sR [mV 93 8,.un 94 (.t 93)]
 (.cond (.t 94) (sR [.bd 95 [.nl,.nl,.nl,.nl,.nl] [],.st (.t 2) (.t 95) 5,.mv 3 (cB false)]
 gR)
 .skip))
 (.reg [lD 96 7 5 true,.st (.t 4) (.t 96) 5]))))))
 (.reg [.bi 97 .add (.t 46) (kI 1),mV 46 97]))))))))
 (sR [lD 98 4 5 true,.st (.t 2) (.t 98) 5,.mv 3 (cB true)]
 gR))))
def ZL3 (s1:State) (x5:Run) (_:Nat) (v5:Room) (k5:Room -> Option (Room × Bool)):Option (Room × Bool) :=
 bif (((!(impl_JobOk x5.job)) || (!(impl_within x5.t 0 s1.now))) || (!(impl_within (w64 (x5.t + x5.job.wall)) (w64 (s1.now + 1)) 1000000000))) then (some ((Room.mk (Topo.mk [] []) [] [] []),false)) else ((ZG v5 x5.job s1.now (w64 (x5.t + x5.job.wall)) x5.nodes).bind fun y6=>bif (!y6.2) then (some ((Room.mk (Topo.mk [] []) [] [] []),false)) else (k5 y6.1))
def Zm9 (v5:Room):Option (Room × Bool) :=
 some (v5,true)
def impl_RoomOf (s1:State):Option (Room × Bool) :=
 (impl_TopoOk s1.topo).bind fun b2=>bif ((((!b2) || ((s1.up.length:Int) != (s1.topo.nodes.length:Int))) || (!(impl_VecOk s1.lic))) || (!(impl_isTime s1.now))) then (some ((Room.mk (Topo.mk [] []) [] [] []),false)) else ((impl_empty s1.topo s1.up s1.lic).bind fun y3=>rgl (ZL3 s1) Zm9 s1.runs 0 y3)
theorem ZBi {s1:State} {r:Room × Bool} (H:impl_RoomOf s1 = some r):Snd Tryz.prog Z4c [Z31 .rd s1] (.tup [ZN3 .nw r.1,.bool r.2]) []:=by
 refine wS Zli [.c 2 5 true,.t 3] ?_
 unfold impl_RoomOf at H
 obtain ⟨b2,h2,H⟩:=bB H
 refine wG [.c 11 (Z57 h2),.g 16 [((!b2),false)] (.ln _ _ fun _=>lm s1.up eBo),.g 20 [((!b2),false)] (.ln _ _ fun _=>lm s1.topo.nodes eNode),.g 26 [(((!b2) || ((s1.up.length:Int) != (s1.topo.nodes.length:Int))),false)] (.call _ _ _ _ _ (AEs.refl _) (fun _=>Zv s1.lic)),.g 32 [((((!b2) || ((s1.up.length:Int) != (s1.topo.nodes.length:Int))) || (!(impl_VecOk s1.lic))),false)] (.call _ _ _ _ _ (AEs.refl _) (fun _=>ZK2 s1.now))] fun _=>?_
 refine Wh_iH H (fun H=>?_) fun H=>?_
 .refine wP ?_
  replace H:=sI H; subst H
  exact wN [(2,.d),(3,.d)] [(2,[.n 1,.n 4,.n 1,.n 1,.n 4])] [] [] [] [⟨_,nw_I ([]:List Int)⟩,⟨_,ZQ ([]:List Node)⟩,⟨_,nw_Bo ([]:List Bool)⟩,⟨_,ZN ([]:List (List Pt))⟩,⟨_,nw_Pt ([]:List Pt)⟩]
 .obtain ⟨y3,h3,H⟩:=bB H
  refine wG [.c 42 (ZCk h3),.u 45 (.ln _ _ fun _=>lm s1.runs (eRunT .rd))] fun q4=>?_
  refine wR (fun (i5:Nat) (v5:Room)=>⟨[(1,.ptr 1 0),(2,.ptr 2 0),(4,.ptr 4 0),(44,.sl .rd 13 (s1.runs.map (eRunT .rd))),(45,.int .i64 (s1.runs.length:Int)),(46,.int .i64 (i5:Int))],[],[(1,(Z31 .rd s1).cells),(2,[.nl,.nl,.nl,.nl,.nl]),(4,(ZN3 .nw v5).cells)],[]⟩) H (fun i5 x5 v5 I m k5 hxv5 hiv5 H N40=>?_) (fun v5 I m H=>?_)
  .unfold ZL3 at H
   refine wP ?_
   refine wt (ltT hiv5) ?_
   refine wG [.u 48 (.ix _ _ _ fun _=>Z0 (eRunT .rd) (Z2 hxv5)),.c 52 (Zn5 x5.job),.g 59 [((!(impl_JobOk x5.job)),false)] (.call _ _ _ _ _ (AEs.refl _) (fun _=>Z3 x5.t 0 s1.now)),.g 72 [(((!(impl_JobOk x5.job)) || (!(impl_within x5.t 0 s1.now))),false)] (.call _ _ _ _ _ (AEs.refl _) (fun _=>Z3 (w64 (x5.t + x5.job.wall)) (w64 (s1.now + 1)) 1000000000))] fun _=>?_
   refine Wh_iH H (fun H=>?_) fun H=>?_
   .refine wP ?_
    replace H:=sI H; subst H
    exact wN [(2,.d),(3,.d)] [(2,[.n 1,.n 4,.n 1,.n 1,.n 4])] [] [] [] [⟨_,nw_I ([]:List Int)⟩,⟨_,ZQ ([]:List Node)⟩,⟨_,nw_Bo ([]:List Bool)⟩,⟨_,ZN ([]:List (List Pt))⟩,⟨_,nw_Pt ([]:List Pt)⟩]
   .obtain ⟨y6,h6,H⟩:=bB H
    refine wG [.u 90 (.call _ _ _ _ _ (AEs.of (xs:=[.agg [.sl .rd 1 (v5.topo.parents.map eI),.sl .rd 4 (v5.topo.nodes.map eNode),.sl .rd 1 (v5.up.map eBo),.sl .rd 1 (v5.profs.map (Zo .nw)),.sl .rd 4 (v5.lics.map ePt)],.agg [.int .i64 x5.job.id,.int .i64 x5.job.prio,.int .i64 x5.job.nodes,.int .i64 x5.job.need.a,.int .i64 x5.job.need.b,.int .i64 x5.job.need.c,.int .i64 x5.job.lic.a,.int .i64 x5.job.lic.b,.int .i64 x5.job.lic.c,.int .i64 x5.job.wall,.int .i64 x5.job.level],.int .i64 s1.now,.int .i64 (w64 (x5.t + x5.job.wall)),.sl .rd 1 (x5.nodes.map eI),.fn Zl2 []]) (by simp)) (fun _=>ZM5 h6))] fun _=>?_
    refine Wh_iH H (fun H=>?_) fun H=>?_
    .refine wP ?_
     replace H:=sI H; subst H
     exact wN [(2,.d),(3,.d)] [(2,[.n 1,.n 4,.n 1,.n 1,.n 4])] [] [] [] [⟨_,nw_I ([]:List Int)⟩,⟨_,ZQ ([]:List Node)⟩,⟨_,nw_Bo ([]:List Bool)⟩,⟨_,ZN ([]:List (List Pt))⟩,⟨_,nw_Pt ([]:List Pt)⟩]
    .refine wG [.w 97 (wi .i64 rfl hiv5 q4.1)] fun _=>?_
     exact wT (N40 _ H)
  .unfold Zm9 at H
   refine wP ?_
   refine wf (ltF s1.runs.length) ?_
   refine wP ?_
   replace H:=sI H; subst H
   exact wN [(2,.d),(3,.d)] [(2,[])] [] [] [] [⟨_,nw_I v5.topo.parents⟩,⟨_,ZQ v5.topo.nodes⟩,⟨_,nw_Bo v5.up⟩,⟨_,ZN v5.profs⟩,⟨_,nw_Pt v5.lics⟩]
def ZHc:L :=
sR [.bx 1 (.t 0),.mv 2 (.c (.nl))]
 (sR [.bs 6 11 [] true,fA 7 1 8,lD 8 7 1 false,.ap 9 (.t 6) (.t 8) 11 88,mV 3 9]
 (.seq (sR [fA 10 1 9,lD 11 10 1 false,.ln 12 (.t 11),.mv 13 (kI 0)]
 (.blk 0 (.loop (.gw (sR [bI 14 .lss 13 12]
 (.seq (.cond (.t 14) .skip
 (.exit 0))
 (.seq (.blk 1 (sR [iA 15 11 13 13,lD 16 15 13 true,.al 5 [.int .i64 0,.int .i64 0,.int .i64 0,.int .i64 0,.int .i64 0,.int .i64 0,.int .i64 0,.int .i64 0,.int .i64 0,.int .i64 0,.int .i64 0,.int .i64 0,.nl],.st (.t 5) (.t 16) 13]
 (.reg [mV 17 3,fA 18 5 0,lD 19 18 11 true,.bs 20 11 [(.t 19)] false,.ap 21 (.t 17) (.t 20) 11 88,mV 3 21])))
 (.reg [.bi 22 .add (.t 13) (kI 1),mV 13 22]))))))))
 (sR [mV 23 3,mV 2 23]
 gR)))
def Zu6 (x4:Run) (_:Nat) (v4:(List Job)) (k4:(List Job) -> Option (List Job)):Option (List Job) :=
 (appL 88 v4 [x4.job]).bind fun xs5=>k4 xs5
def Zt6 (v4:(List Job)):Option (List Job) :=
 some v4
def impl_State_all (s1:State):Option (List Job) :=
 (appL 88 ([]:List Job) s1.queue).bind fun xs2=>rgl Zu6 Zt6 s1.runs 0 xs2
theorem Z84 {s1:State} {r:(List Job)} (H:impl_State_all s1 = some r):Snd Tryz.prog Z63 [Z31 .rd s1] (.sl .nw 11 (r.map eJob)) []:=by
 refine wS ZHc [.t 2] ?_
 unfold impl_State_all at H
 obtain ⟨xs2,h2,H⟩:=bB H
 refine wG [.u 9 (.ap _ _ _ _ fun _=>Zq eJob h2),.u 12 (.ln _ _ fun _=>lm s1.runs (eRunT .rd))] fun q3=>?_
 refine wR (fun (i4:Nat) (v4:(List Job))=>⟨[(3,.sref 6),(11,.sl .rd 13 (s1.runs.map (eRunT .rd))),(12,.int .i64 (s1.runs.length:Int)),(13,.int .i64 (i4:Int))],[],[],[(6,⟨11,v4.map eJob,false⟩)]⟩) H (fun i4 x4 v4 I m k4 hxv4 hiv4 H N15=>?_) (fun v4 I m H=>?_)
 .unfold Zu6 at H
  refine wP ?_
  refine wt (ltT hiv4) ?_
  obtain ⟨xs5,h5,H⟩:=bB H
  refine wG [.u 15 (.ix _ _ _ fun _=>Z0 (eRunT .rd) (Z2 hxv4)),.u 21 (.ap _ _ _ _ fun _=>Zq eJob h5),.w 22 (wi .i64 rfl hiv4 q3.1)] fun _=>?_
  exact wT (N15 _ H)
 .unfold Zt6 at H
  refine wP ?_
  refine wf (ltF s1.runs.length) ?_
  refine wP ?_
  replace H:=sI H; subst H
  exact wN [(2,.f)] [] [] [6] [] [⟨_,Zjl v4⟩]
def Zag:L :=
sR [.bx 1 (.t 0),.mv 2 (cB false)]
 (.seq (sR [lD 12 1 11 true,cQ 13 Z4c [12],mV 11 13,eX 14 11 0,eX 15 11 1,.al 3 [.nl,.nl,.nl,.nl,.nl],.st (.t 3) (.t 14) 5,mV 4 15]
 (sR [mV 16 4,.un 17 (.t 16),mV 18 17,.g 18 false (fA 19 1 6),.g 18 false (lD 20 19 1 false),.g 18 false (.cq 21 Z5 [(.t 20),(kI 0),(kI 60)]),.g 18 false (.un 22 (.t 21)),.pk 23 (.t 18) (cB true) (.t 22),mV 24 23,.g 24 false (lD 25 1 11 true),.g 24 false (cQ 26 Z63 [25]),.g 24 false (cQ 27 ZDa [26]),.g 24 false (.un 28 (.t 27)),.pk 29 (.t 24) (cB true) (.t 28),mV 30 29,.g 30 false (fA 31 1 10),.g 30 false (lD 32 31 1 false),.g 30 false (.ln 33 (.t 32)),.g 30 false (.bi 34 .gtr (.t 33) (kI 300)),.pk 35 (.t 30) (cB true) (.t 34)]
 (.cond (.t 35) (.seq (rE 2 (cB false))
 gR)
 .skip)))
 (.seq (sR [fA 36 1 9,lD 37 36 1 false,.ln 38 (.t 37),.mv 39 (kI 0)]
 (.blk 0 (.loop (.gw (sR [bI 40 .lss 39 38]
 (.seq (.cond (.t 40) .skip
 (.exit 0))
 (.seq (.blk 1 (sR [iA 41 37 39 13,lD 42 41 13 true,.al 6 [.int .i64 0,.int .i64 0,.int .i64 0,.int .i64 0,.int .i64 0,.int .i64 0,.int .i64 0,.int .i64 0,.int .i64 0,.int .i64 0,.int .i64 0,.int .i64 0,.nl],.st (.t 6) (.t 42) 13]
 (.seq (sR [fA 43 6 12,lD 44 43 1 false,.ln 45 (.t 44),.mv 46 (kI 0)]
 (.blk 2 (.loop (.gw (sR [bI 47 .lss 46 45]
 (.seq (.cond (.t 47) .skip
 (.exit 2))
 (.seq (.blk 3 (sR [iA 48 44 46 1,lD 49 48 1 false,mV 8 49]
 (sR [fA 50 1 2,lD 51 50 1 false,mV 52 8,iA 53 51 52 1,lD 54 53 1 false,.un 55 (.t 54)]
 (.cond (.t 55) (.seq (rE 2 (cB false))
 gR)
 .skip))))
 (.reg [.bi 56 .add (.t 46) (kI 1),mV 46 56]))))))))
 (.seq (.rq 18 [fA 57 6 12,lD 58 57 1 false,cQ 59 Z36 [58],.un 60 (.t 59),mV 61 60,.g 61 false (fA 62 1 0),.g 61 false (lD 63 62 2 true),.g 61 false (fA 64 1 0),.g 61 false (lD 65 64 2 true),.g 61 false (fA 66 6 12),.g 61 false (lD 67 66 1 false),.g 61 false (cQ 68 Z5c [65,67]),.g 61 false (cQ 69 ZG6 [63,68]),.g 61 false (fA 70 6 0),.g 61 false (fA 71 70 10),.g 61 false (lD 72 71 1 false),.g 61 false (bI 73 .gtr 69 72),.pk 74 (.t 61) (cB true) (.t 73)])
 (.cond (.t 74) (.seq (rE 2 (cB false))
 gR)
 .skip)))))
 (.reg [.bi 75 .add (.t 39) (kI 1),mV 39 75]))))))))
 (.seq (sR [fA 76 1 10,lD 77 76 1 false,.ln 78 (.t 77),.mv 79 (kI 0)]
 (.blk 4 (.loop (.gw (sR [bI 80 .lss 79 78]
 (.seq (.cond (.t 80) .skip
 (.exit 4))
 (.seq (.blk 5 (sR [iA 81 77 79 3,lD 82 81 3 true,.al 10 [.int .i64 0,.int .i64 0,.int .i64 0],.st (.t 10) (.t 82) 3]
 (sR [fA 83 10 0,lD 84 83 1 false,.cq 85 Z5 [(.t 84),(kI 1),(kI 999)],.un 86 (.t 85),mV 87 86,.g 87 false (fA 88 10 1),.g 87 false (lD 89 88 1 false),.g 87 false (fA 90 1 7),.g 87 false (lD 91 90 1 false),.g 87 false (.cq 92 Z5 [(.t 89),(kI 0),(.t 91)]),.g 87 false (.un 93 (.t 92)),.pk 94 (.t 87) (cB true) (.t 93),mV 95 94,.g 95 false (fA 96 10 2),.g 95 false (lD 97 96 1 false),.g 95 false (.cq 98 Z5 [(.t 97),(kI 1),(kI 4)]),.g 95 false (.un 99 (.t 98)),.pk 100 (.t 95) (cB true) (.t 99)]
 (.cond (.t 100) (.seq (rE 2 (cB false))
 gR)
 .skip))))
 (.reg [.bi 101 .add (.t 79) (kI 1),mV 79 101]))))))))
 (.seq (rE 2 (cB true))
 gR))))
def ZW4 (s1:State) (x8:Int) (_:Nat) (_:Unit) (k8:Unit -> Option Bool):Option Bool :=
 (idx s1.up x8).bind fun e9=>bif (!e9) then (some false) else (k8 ())
def ZV4 (s1:State) (x6:Run) (k6:Unit -> Option Bool) (_:Unit):Option Bool :=
 (impl_areAscending x6.nodes).bind fun b10=>(bif (!b10) then some default else (impl_Lowest s1.topo x6.nodes)).bind fun n11=>(bif (!b10) then some default else (impl_level s1.topo n11)).bind fun n12=>bif ((!b10) || (decide (x6.job.level < n12))) then (some false) else (k6 ())
def Z13 (s1:State) (x14:End) (_:Nat) (_:Unit) (k14:Unit -> Option Bool):Option Bool :=
 bif (((!(impl_within x14.id 1 999)) || (!(impl_within x14.t 0 s1.now))) || (!(impl_within x14.why 1 4))) then (some false) else (k14 ())
def ZT4 (_:Unit):Option Bool :=
 some true
def Z23 (s1:State) (x6:Run) (_:Nat) (_:Unit) (k6:Unit -> Option Bool):Option Bool :=
 rgl (ZW4 s1) (ZV4 s1 x6 k6) x6.nodes 0 ()
def ZU4 (s1:State) (_:Unit):Option Bool :=
 rgl (Z13 s1) ZT4 s1.ends 0 ()
def impl_StateOk (s1:State):Option Bool :=
 (impl_RoomOf s1).bind fun y2=>(bif ((!y2.2) || (!(impl_within s1.depth 0 60))) then some default else (impl_State_all s1)).bind fun y3=>(bif ((!y2.2) || (!(impl_within s1.depth 0 60))) then some default else (impl_QueueOk y3)).bind fun b4=>bif ((((!y2.2) || (!(impl_within s1.depth 0 60))) || (!b4)) || (decide (300 < (s1.ends.length:Int)))) then (some false) else (rgl (Z23 s1) (ZU4 s1) s1.runs 0 ())
theorem Zmg {s1:State} {r:Bool} (H:impl_StateOk s1 = some r):Snd Tryz.prog ZCa [Z31 .rd s1] (.bool r) []:=by
 refine wS Zag [.t 2] ?_
 unfold impl_StateOk at H
 obtain ⟨y2,h2,H⟩:=bB H
 obtain ⟨y3,h3,H⟩:=bB H
 obtain ⟨b4,h4,H⟩:=bB H
 refine wG [.c 13 (ZBi h2),.g 21 [((!y2.2),false)] (.call _ _ _ _ _ (AEs.refl _) (fun _=>Z3 s1.depth 0 60)),.g 26 [(_,false)] (.call _ _ _ _ _ (AEs.refl _) (fun q=>Z84 (bF q.1 h3))),.g 27 [(_,false)] (.call _ _ _ _ _ (AEs.refl _) (fun q=>Zog (bF q.1 h4))),.g 33 [((((!y2.2) || (!(impl_within s1.depth 0 60))) || (!b4)),false)] (.ln _ _ fun _=>lm s1.ends eEnd)] fun _=>?_
 refine Wh_iH H (fun H=>?_) fun H=>?_
 .refine wP ?_
  replace H:=sI H; subst H
  exact wE [(2,.d)]
 .refine wG [.u 38 (.ln _ _ fun _=>lm s1.runs (eRunT .rd))] fun q5=>?_
  refine wR (fun (i6:Nat) (v6:Unit)=>⟨[(1,.ptr 1 0),(37,.sl .rd 13 (s1.runs.map (eRunT .rd))),(38,.int .i64 (s1.runs.length:Int)),(39,.int .i64 (i6:Int))],[],[(1,(Z31 .rd s1).cells)],[]⟩) H (fun i6 x6 v6 I m k6 hxv6 hiv6 H N52=>?_) (fun v6 I m H=>?_)
  .unfold Z23 at H
   refine wP ?_
   refine wt (ltT hiv6) ?_
   refine wG [.u 41 (.ix _ _ _ fun _=>Z0 (eRunT .rd) (Z2 hxv6)),.u 45 (.ln _ _ fun _=>lm x6.nodes eI)] fun q7=>?_
   refine wR (fun (i8:Nat) (v8:Unit)=>⟨[(1,.ptr 1 0),(6,.ptr 6 0),(37,.sl .rd 13 (s1.runs.map (eRunT .rd))),(38,.int .i64 (s1.runs.length:Int)),(39,.int .i64 (i6:Int)),(44,.sl .rd 1 (x6.nodes.map eI)),(45,.int .i64 (x6.nodes.length:Int)),(46,.int .i64 (i8:Int))],[],[(1,(Z31 .rd s1).cells),(6,(eRunT .rd x6).cells)],[]⟩) H (fun i8 x8 v8 I m k8 hxv8 hiv8 H N35=>?_) (fun v8 I m H=>?_)
   .unfold ZW4 at H
    refine wP ?_
    refine wt (ltT hiv8) ?_
    obtain ⟨e9,h9,H⟩:=bB H
    refine wG [.u 48 (.ix _ _ _ fun _=>Z0 eI (Z2 hxv8)),.u 53 (.ix _ _ _ fun _=>Z0 eBo h9)] fun _=>?_
    refine Wh_iH H (fun H=>?_) fun H=>?_
    .refine wP ?_
     replace H:=sI H; subst H
     exact wE [(2,.d)]
    .refine wG [.w 56 (wi .i64 rfl hiv8 q7.1)] fun _=>?_
     exact wT (N35 () H)
   .unfold ZV4 at H
    refine wP ?_
    refine wf (ltF x6.nodes.length) ?_
    obtain ⟨b10,h10,H⟩:=bB H
    obtain ⟨n11,h11,H⟩:=bB H
    obtain ⟨n12,h12,H⟩:=bB H
    refine wG [.c 59 (Z8a h10),.g 68 [(_,false)] (.call _ _ _ _ _ (AEs.refl _) (fun q=>ZEi (bF q.1 h11))),.g 69 [(_,false)] (.call _ _ _ _ _ (AEs.refl _) (fun q=>Z48 (bF q.1 h12)))] fun _=>?_
    refine Wh_iH H (fun H=>?_) fun H=>?_
    .refine wP ?_
     replace H:=sI H; subst H
     exact wE [(2,.d)]
    .refine wG [.w 75 (wi .i64 rfl hiv6 q5.1)] fun _=>?_
     exact wT (N52 () H)
  .unfold ZU4 at H
   refine wP ?_
   refine wf (ltF s1.runs.length) ?_
   refine wG [.u 78 (.ln _ _ fun _=>lm s1.ends eEnd)] fun q13=>?_
   refine wR (fun (i14:Nat) (v14:Unit)=>⟨[(1,.ptr 1 0),(77,.sl .rd 3 (s1.ends.map eEnd)),(78,.int .i64 (s1.ends.length:Int)),(79,.int .i64 (i14:Int))],[],[(1,(Z31 .rd s1).cells)],[]⟩) H (fun i14 x14 v14 I m k14 hxv14 hiv14 H N74=>?_) (fun v14 I m H=>?_)
   .unfold Z13 at H
    refine wP ?_
    refine wt (ltT hiv14) ?_
    refine wG [.u 81 (.ix _ _ _ fun _=>Z0 eEnd (Z2 hxv14)),.c 85 (Z3 x14.id 1 999),.g 92 [((!(impl_within x14.id 1 999)),false)] (.call _ _ _ _ _ (AEs.refl _) (fun _=>Z3 x14.t 0 s1.now)),.g 98 [(((!(impl_within x14.id 1 999)) || (!(impl_within x14.t 0 s1.now))),false)] (.call _ _ _ _ _ (AEs.refl _) (fun _=>Z3 x14.why 1 4))] fun _=>?_
    refine Wh_iH H (fun H=>?_) fun H=>?_
    .refine wP ?_
     replace H:=sI H; subst H
     exact wE [(2,.d)]
    .refine wG [.w 101 (wi .i64 rfl hiv14 q13.1)] fun _=>?_
     exact wT (N74 () H)
   .unfold ZT4 at H
    refine wP ?_
    refine wf (ltF s1.ends.length) ?_
    refine wP ?_
    replace H:=sI H; subst H
    exact wE [(2,.d)]
def ZAh:L :=
.seq (rE 2 (cB false))
 (.seq (.seq (rE 3 (kI 0))
 (.blk 0 (.loop (.gw (.seq (sR [mV 4 3,mV 5 0,.ls 6 (.t 5),bI 7 .lss 4 6]
 (.cond (.t 7) .skip
 (.exit 0)))
 (.seq (.blk 1 (sR [mV 10 0,mV 11 3,.ix 12 (.t 10) (.t 11),.bi 13 .lss (.t 12) (.c (.int .u8 97)),mV 14 13,.g 14 false (mV 15 0),.g 14 false (mV 16 3),.g 14 false (.ix 17 (.t 15) (.t 16)),.g 14 false (.bi 18 .gtr (.t 17) (.c (.int .u8 122))),.pk 19 (.t 14) (cB true) (.t 18)]
 (.cond (.t 19) (.seq (rE 2 (cB false))
 gR)
 .skip)))
 (.reg [mV 8 3,.bi 9 .add (.t 8) (kI 1),mV 3 9])))))))
 (sR [mV 20 0,.ls 21 (.t 20),.bi 22 .geq (.t 21) (kI 1),mV 23 22,.g 23 true (mV 24 0),.g 23 true (.ls 25 (.t 24)),.g 23 true (.bi 26 .leq (.t 25) (kI 8)),.pk 27 (.t 23) (.t 26) (cB false),mV 2 27]
 gR))
def ZB5 (s1:Str) (v2:Int) (k2:Int -> Option Bool):Option Bool :=
 bif (decide (v2 < (s1.length:Int))) then ((idx s1 v2).bind fun c3=>bif ((decide ((c3.toNat:Int) < 97)) || (decide (122 < (c3.toNat:Int)))) then (some false) else (k2 (w64 (v2 + 1)))) else (some ((decide (1 <= (s1.length:Int))) && (decide ((s1.length:Int) <= 8))))
def spec_WordOk (s1:Str):Option Bool :=
 whl (ZB5 s1) 9223372036854775807 0
theorem ZM6 {s1:Str} {r:Bool} (H:spec_WordOk s1 = some r):Snd Tryz.prog Zp5 [.str s1] (.bool r) []:=by
 refine wS ZAh [.t 2] ?_
 unfold spec_WordOk at H
 refine wP ?_
 refine wW (fun (v2:Int)=>⟨[(0,.str s1),(3,.int .i64 v2)],[],[],[]⟩) H (fun v2 I m k2 H N18=>?_)
 unfold ZB5 at H
 refine wP ?_
 refine Wh_iH H (fun H=>?_) fun H=>?_
 .obtain ⟨c3,h3,H⟩:=bB H
  refine wG [.u 12 (.sx _ _ _ fun _=>h3),.g 17 [((decide ((c3.toNat:Int) < 97)),false)] (.sx _ _ _ fun _=>h3)] fun _=>?_
  refine Wh_iH H (fun H=>?_) fun H=>?_
  .refine wP ?_
   replace H:=sI H; subst H
   exact wE [(2,.d)]
  .refine wP ?_
   exact wT (N18 _ H)
 .refine wP ?_
  replace H:=sI H; subst H
  exact wE [(2,.d)]
def ZDf:L :=
.seq (rE 2 (cB false))
 (sR [mV 3 0,.bi 4 .geq (.t 3) (kI 0),mV 5 4,.g 5 true (mV 6 0),.g 5 true (.bi 7 .leq (.t 6) (kI 1000000000)),.pk 8 (.t 5) (.t 7) (cB false),mV 2 8]
 gR)
def Ze4 (n1:Int):Option Bool :=
 some ((decide (0 <= n1)) && (decide (n1 <= 1000000000)))
theorem Zbc {n1:Int} {r:Bool} (H:Ze4 n1 = some r):Snd Tryz.prog Ze7 [.int .i64 n1] (.bool r) []:=by
 refine wS ZDf [.t 2] ?_
 unfold Ze4 at H
 refine wP ?_
 replace H:=sI H; subst H
 exact wE [(2,.d)]
def spec_l11Used (n1:Int):Bool :=
 ((decide (0 <= n1)) && (decide (n1 <= 1000000000)))
theorem ZJg (n1:Int):Ze4 n1 = some (spec_l11Used n1):=by
 unfold Ze4 spec_l11Used
 first | rfl | simp only [Z7]
theorem ZMe (n1:Int):Snd Tryz.prog Ze7 [.int .i64 n1] (.bool (spec_l11Used n1)) []:=Zbc (ZJg n1)
def Zqb:L :=
.seq (rE 2 (cB false))
 (.seq (sR [mV 5 0,.ln 6 (.t 5),.bi 7 .gtr (.t 6) (kI 12)]
 (.cond (.t 7) (.seq (rE 2 (cB false))
 gR)
 .skip))
 (.seq (sR [mV 8 0,.ln 9 (.t 8),.mv 10 (kI 0)]
 (.blk 0 (.loop (.gw (sR [bI 11 .lss 10 9]
 (.seq (.cond (.t 11) .skip
 (.exit 0))
 (.seq (.blk 1 (sR [mV 12 10,iA 13 8 10 3,lD 14 13 3 true,.al 4 [.str [],.int .i64 0,.int .i64 0],mV 3 12,.st (.t 4) (.t 14) 3]
 (.seq (.rq 35 [fA 15 4 0,lD 16 15 1 false,cQ 17 Zp5 [16],.un 18 (.t 17),mV 19 18,.g 19 false (mV 20 3),.g 19 false (.bi 21 .gtr (.t 20) (kI 0)),.g 19 false (mV 22 21),.g 22 true (mV 23 0),.g 22 true (mV 24 3),.g 22 true (.bi 25 .sub (.t 24) (kI 1)),.g 22 true (iA 26 23 25 3),.g 22 true (fA 27 26 0),.g 22 true (lD 28 27 1 false),.g 22 true (fA 29 4 0),.g 22 true (lD 30 29 1 false),.g 22 true (bI 31 .geq 28 30),.g 19 false (.pk 32 (.t 22) (.t 31) (cB false)),.pk 33 (.t 19) (cB true) (.t 32),mV 34 33,.g 34 false (fA 35 4 1),.g 34 false (lD 36 35 1 false),.g 34 false (.bi 37 .lss (.t 36) (kI 1)),.pk 38 (.t 34) (cB true) (.t 37),mV 39 38,.g 39 false (fA 40 4 1),.g 39 false (lD 41 40 1 false),.g 39 false (.bi 42 .gtr (.t 41) (kI 1000)),.pk 43 (.t 39) (cB true) (.t 42),mV 44 43,.g 44 false (fA 45 4 2),.g 44 false (lD 46 45 1 false),.g 44 false (cQ 47 Ze7 [46]),.g 44 false (.un 48 (.t 47)),.pk 49 (.t 44) (cB true) (.t 48)])
 (.cond (.t 49) (.seq (rE 2 (cB false))
 gR)
 .skip))))
 (.reg [.bi 50 .add (.t 10) (kI 1),mV 10 50]))))))))
 (.seq (rE 2 (cB true))
 gR)))
def Zb3 (l1:List Account) (x4:Account) (i4:Nat) (_:Unit) (k4:Unit -> Option Bool):Option Bool :=
 (spec_WordOk x4.name).bind fun b5=>(bif (!b5) then some default else (bif (decide (0 < (i4:Int))) then (idx l1 (w64 ((i4:Int) - 1))) else some default)).bind fun e6=>bif (((((!b5) || ((decide (0 < (i4:Int))) && (!(Op.bytesLess e6.name x4.name)))) || (decide (x4.share < 1))) || (decide (1000 < x4.share))) || (!(spec_l11Used x4.used))) then (some false) else (k4 ())
def ZG5 (_:Unit):Option Bool :=
 some true
def spec_AccountsOk (l1:List Account):Option Bool :=
 bif (decide (12 < (l1.length:Int))) then (some false) else (rgl (Zb3 l1) ZG5 l1 0 ())
theorem Zb6 {l1:List Account} {r:Bool} (H:spec_AccountsOk l1 = some r):Snd Tryz.prog Zb4 [.sl .rd 3 (l1.map Z1)] (.bool r) []:=by
 refine wS Zqb [.t 2] ?_
 unfold spec_AccountsOk at H
 refine wG [.u 6 (.ln _ _ fun _=>lm l1 Z1)] fun q2=>?_
 refine Wh_iH H (fun H=>?_) fun H=>?_
 .refine wP ?_
  replace H:=sI H; subst H
  exact wE [(2,.d)]
 .refine wG [.u 9 (.ln _ _ fun _=>lm l1 Z1)] fun q3=>?_
  refine wR (fun (i4:Nat) (v4:Unit)=>⟨[(0,.sl .rd 3 (l1.map Z1)),(8,.sl .rd 3 (l1.map Z1)),(9,.int .i64 (l1.length:Int)),(10,.int .i64 (i4:Int))],[],[],[]⟩) H (fun i4 x4 v4 I m k4 hxv4 hiv4 H N27=>?_) (fun v4 I m H=>?_)
  .unfold Zb3 at H
   refine wP ?_
   refine wt (ltT hiv4) ?_
   obtain ⟨b5,h5,H⟩:=bB H
   obtain ⟨e6,h6,H⟩:=bB H
   refine wG [.u 13 (.ix _ _ _ fun _=>Z0 Z1 (Z2 hxv4)),.c 17 (ZM6 h5),.g 26 [(_,true),(_,false)] (.ix _ _ _ fun q=>Z0 Z1 (bT q.1 (bF q.2.1 h6))),.g 47 [(((((!b5) || ((decide (0 < (i4:Int))) && (!(Op.bytesLess e6.name x4.name)))) || (decide (x4.share < 1))) || (decide (1000 < x4.share))),false)] (.call _ _ _ _ _ (AEs.refl _) (fun _=>ZMe x4.used))] fun _=>?_
   refine Wh_iH H (fun H=>?_) fun H=>?_
   .refine wP ?_
    replace H:=sI H; subst H
    exact wE [(2,.d)]
   .refine wG [.w 50 (wi .i64 rfl hiv4 q2.1)] fun _=>?_
    exact wT (N27 () H)
  .unfold ZG5 at H
   refine wP ?_
   refine wf (ltF l1.length) ?_
   refine wP ?_
   replace H:=sI H; subst H
   exact wE [(2,.d)]
def ZDc:L :=
.seq (rE 4 (kI 0))
 (.seq (sR [mV 7 0,cQ 8 Zb4 [7],.un 9 (.t 8)]
 (.cond (.t 9) (.seq (rE 4 (kI (-1)))
 gR)
 .skip))
 (.seq (sR [mV 10 0,.ln 11 (.t 10),.mv 12 (kI 0)]
 (.blk 0 (.loop (.gw (sR [bI 13 .lss 12 11]
 (.seq (.cond (.t 13) .skip
 (.exit 0))
 (.seq (.blk 1 (sR [mV 14 12,iA 15 10 12 3,lD 16 15 3 true,.al 6 [.str [],.int .i64 0,.int .i64 0],mV 5 14,.st (.t 6) (.t 16) 3]
 (sR [fA 17 6 0,lD 18 17 1 false,mV 19 1,bI 20 .eql 18 19]
 (.cond (.t 20) (sR [mV 21 5,mV 4 21]
 gR)
 .skip))))
 (.reg [.bi 22 .add (.t 12) (kI 1),mV 12 22]))))))))
 (.seq (rE 4 (kI (-1)))
 gR)))
def Zr3 (name2:Str) (x5:Account) (i5:Nat) (_:Unit) (k5:Unit -> Option Int):Option Int :=
 bif (x5.name == name2) then (some (i5:Int)) else (k5 ())
def Zc6 (_:Unit):Option Int :=
 some (-1)
def spec_AccountAt (l1:List Account) (name2:Str):Option Int :=
 (spec_AccountsOk l1).bind fun b3=>bif (!b3) then (some (-1)) else (rgl (Zr3 name2) Zc6 l1 0 ())
theorem Zhc {l1:List Account} {name2:Str} {r:Int} (H:spec_AccountAt l1 name2 = some r):Snd Tryz.prog ZQ8 [.sl .rd 3 (l1.map Z1),.str name2] (.int .i64 r) []:=by
 refine wS ZDc [.t 4] ?_
 unfold spec_AccountAt at H
 obtain ⟨b3,h3,H⟩:=bB H
 refine wG [.c 8 (Zb6 h3)] fun _=>?_
 refine Wh_iH H (fun H=>?_) fun H=>?_
 .refine wP ?_
  replace H:=sI H; subst H
  exact wE [(4,.d)]
 .refine wG [.u 11 (.ln _ _ fun _=>lm l1 Z1)] fun q4=>?_
  refine wR (fun (i5:Nat) (v5:Unit)=>⟨[(1,.str name2),(10,.sl .rd 3 (l1.map Z1)),(11,.int .i64 (l1.length:Int)),(12,.int .i64 (i5:Int))],[],[],[]⟩) H (fun i5 x5 v5 I m k5 hxv5 hiv5 H N27=>?_) (fun v5 I m H=>?_)
  .unfold Zr3 at H
   refine wP ?_
   refine wt (ltT hiv5) ?_
   refine wG [.u 15 (.ix _ _ _ fun _=>Z0 Z1 (Z2 hxv5))] fun _=>?_
   refine Wh_iH H (fun H=>?_) fun H=>?_
   .refine wP ?_
    replace H:=sI H; subst H
    exact wE [(4,.d)]
   .refine wG [.w 22 (wi .i64 rfl hiv5 q4.1)] fun _=>?_
    exact wT (N27 () H)
  .unfold Zc6 at H
   refine wP ?_
   refine wf (ltF l1.length) ?_
   refine wP ?_
   replace H:=sI H; subst H
   exact wE [(4,.d)]
def Zfi:L :=
.seq (rE 2 (cB false))
 (.seq (.seq (rE 3 (kI 0))
 (.blk 0 (.loop (.gw (.seq (sR [mV 4 3,mV 5 0,.ls 6 (.t 5),bI 7 .lss 4 6]
 (.cond (.t 7) .skip
 (.exit 0)))
 (.seq (.blk 1 (sR [mV 10 0,mV 11 3,.ix 12 (.t 10) (.t 11),.bi 13 .lss (.t 12) (.c (.int .u8 97)),mV 14 13,.g 14 false (mV 15 0),.g 14 false (mV 16 3),.g 14 false (.ix 17 (.t 15) (.t 16)),.g 14 false (.bi 18 .gtr (.t 17) (.c (.int .u8 122))),.pk 19 (.t 14) (cB true) (.t 18)]
 (.cond (.t 19) (.seq (rE 2 (cB false))
 gR)
 .skip)))
 (.reg [mV 8 3,.bi 9 .add (.t 8) (kI 1),mV 3 9])))))))
 (sR [mV 20 0,.ls 21 (.t 20),.cq 22 Z5 [(.t 21),(kI 1),(kI 8)],mV 2 22]
 gR))
def Zk9 (s1:Str) (v2:Int) (k2:Int -> Option Bool):Option Bool :=
 bif (decide (v2 < (s1.length:Int))) then ((idx s1 v2).bind fun c3=>bif ((decide ((c3.toNat:Int) < 97)) || (decide (122 < (c3.toNat:Int)))) then (some false) else (k2 (w64 (v2 + 1)))) else (some (impl_within (s1.length:Int) 1 8))
def impl_WordOk (s1:Str):Option Bool :=
 whl (Zk9 s1) 9223372036854775807 0
theorem Z47 {s1:Str} {r:Bool} (H:impl_WordOk s1 = some r):Snd Tryz.prog Zt5 [.str s1] (.bool r) []:=by
 refine wS Zfi [.t 2] ?_
 unfold impl_WordOk at H
 refine wP ?_
 refine wW (fun (v2:Int)=>⟨[(0,.str s1),(3,.int .i64 v2)],[],[],[]⟩) H (fun v2 I m k2 H N18=>?_)
 unfold Zk9 at H
 refine wP ?_
 refine Wh_iH H (fun H=>?_) fun H=>?_
 .obtain ⟨c3,h3,H⟩:=bB H
  refine wG [.u 12 (.sx _ _ _ fun _=>h3),.g 17 [((decide ((c3.toNat:Int) < 97)),false)] (.sx _ _ _ fun _=>h3)] fun _=>?_
  refine Wh_iH H (fun H=>?_) fun H=>?_
  .refine wP ?_
   replace H:=sI H; subst H
   exact wE [(2,.d)]
  .refine wP ?_
   exact wT (N18 _ H)
 .refine wG [.u 22 (.call _ _ _ _ _ (AEs.refl _) (fun _=>Z3 (s1.length:Int) 1 8))] fun _=>?_
  replace H:=sI H; subst H
  exact wE [(2,.d)]
def Zwb:L :=
.seq (rE 2 (cB false))
 (.seq (sR [mV 5 0,.ln 6 (.t 5),.mv 7 (kI 0)]
 (.blk 0 (.loop (.gw (sR [bI 8 .lss 7 6]
 (.seq (.cond (.t 8) .skip
 (.exit 0))
 (.seq (.blk 1 (sR [mV 9 7,iA 10 5 7 3,lD 11 10 3 true,.al 4 [.str [],.int .i64 0,.int .i64 0],mV 3 9,.st (.t 4) (.t 11) 3]
 (.seq (.rq 31 [fA 12 4 0,lD 13 12 1 false,cQ 14 Zt5 [13],.un 15 (.t 14),mV 16 15,.g 16 false (fA 17 4 1),.g 16 false (lD 18 17 1 false),.g 16 false (.cq 19 Z5 [(.t 18),(kI 1),(kI 1000)]),.g 16 false (.un 20 (.t 19)),.pk 21 (.t 16) (cB true) (.t 20),mV 22 21,.g 22 false (fA 23 4 2),.g 22 false (lD 24 23 1 false),.g 22 false (.cq 25 Z5 [(.t 24),(kI 0),(kI 1000000000)]),.g 22 false (.un 26 (.t 25)),.pk 27 (.t 22) (cB true) (.t 26),mV 28 27,.g 28 false (mV 29 3),.g 28 false (.bi 30 .gtr (.t 29) (kI 0)),.g 28 false (mV 31 30),.g 31 true (mV 32 0),.g 31 true (mV 33 3),.g 31 true (.bi 34 .sub (.t 33) (kI 1)),.g 31 true (iA 35 32 34 3),.g 31 true (fA 36 35 0),.g 31 true (lD 37 36 1 false),.g 31 true (fA 38 4 0),.g 31 true (lD 39 38 1 false),.g 31 true (bI 40 .geq 37 39),.g 28 false (.pk 41 (.t 31) (.t 40) (cB false)),.pk 42 (.t 28) (cB true) (.t 41)])
 (.cond (.t 42) (.seq (rE 2 (cB false))
 gR)
 .skip))))
 (.reg [.bi 43 .add (.t 7) (kI 1),mV 7 43]))))))))
 (sR [mV 44 0,.ln 45 (.t 44),.bi 46 .leq (.t 45) (kI 12),mV 2 46]
 gR))
def Zg3 (l1:List Account) (x3:Account) (i3:Nat) (_:Unit) (k3:Unit -> Option Bool):Option Bool :=
 (impl_WordOk x3.name).bind fun b4=>(bif (((!b4) || (!(impl_within x3.share 1 1000))) || (!(impl_within x3.used 0 1000000000))) then some default else (bif (decide (0 < (i3:Int))) then (idx l1 (w64 ((i3:Int) - 1))) else some default)).bind fun e5=>bif ((((!b4) || (!(impl_within x3.share 1 1000))) || (!(impl_within x3.used 0 1000000000))) || ((decide (0 < (i3:Int))) && (!(Op.bytesLess e5.name x3.name)))) then (some false) else (k3 ())
def ZU5 (l1:List Account) (_:Unit):Option Bool :=
 some (decide ((l1.length:Int) <= 12))
def impl_AccountsOk (l1:List Account):Option Bool :=
 rgl (Zg3 l1) (ZU5 l1) l1 0 ()
theorem Zy6 {l1:List Account} {r:Bool} (H:impl_AccountsOk l1 = some r):Snd Tryz.prog Zc4 [.sl .rd 3 (l1.map Z1)] (.bool r) []:=by
 refine wS Zwb [.t 2] ?_
 unfold impl_AccountsOk at H
 refine wG [.u 6 (.ln _ _ fun _=>lm l1 Z1)] fun q2=>?_
 refine wR (fun (i3:Nat) (v3:Unit)=>⟨[(0,.sl .rd 3 (l1.map Z1)),(5,.sl .rd 3 (l1.map Z1)),(6,.int .i64 (l1.length:Int)),(7,.int .i64 (i3:Int))],[],[],[]⟩) H (fun i3 x3 v3 I m k3 hxv3 hiv3 H N20=>?_) (fun v3 I m H=>?_)
 .unfold Zg3 at H
  refine wP ?_
  refine wt (ltT hiv3) ?_
  obtain ⟨b4,h4,H⟩:=bB H
  obtain ⟨e5,h5,H⟩:=bB H
  refine wG [.u 10 (.ix _ _ _ fun _=>Z0 Z1 (Z2 hxv3)),.c 14 (Z47 h4),.g 19 [((!b4),false)] (.call _ _ _ _ _ (AEs.refl _) (fun _=>Z3 x3.share 1 1000)),.g 25 [(((!b4) || (!(impl_within x3.share 1 1000))),false)] (.call _ _ _ _ _ (AEs.refl _) (fun _=>Z3 x3.used 0 1000000000)),.g 35 [(_,true),(_,false)] (.ix _ _ _ fun q=>Z0 Z1 (bT q.1 (bF q.2.1 h5)))] fun _=>?_
  refine Wh_iH H (fun H=>?_) fun H=>?_
  .refine wP ?_
   replace H:=sI H; subst H
   exact wE [(2,.d)]
  .refine wG [.w 43 (wi .i64 rfl hiv3 q2.1)] fun _=>?_
   exact wT (N20 () H)
 .unfold ZU5 at H
  refine wP ?_
  refine wf (ltF l1.length) ?_
  refine wG [.u 45 (.ln _ _ fun _=>lm l1 Z1)] fun q6=>?_
  replace H:=sI H; subst H
  exact wE [(2,.d)]
def ZLc:L :=
.seq (rE 4 (kI 0))
 (.seq (sR [mV 7 0,cQ 8 Zc4 [7],.un 9 (.t 8)]
 (.cond (.t 9) (.seq (rE 4 (kI (-1)))
 gR)
 .skip))
 (.seq (sR [mV 10 0,.ln 11 (.t 10),.mv 12 (kI 0)]
 (.blk 0 (.loop (.gw (sR [bI 13 .lss 12 11]
 (.seq (.cond (.t 13) .skip
 (.exit 0))
 (.seq (.blk 1 (sR [mV 14 12,iA 15 10 12 3,lD 16 15 3 true,.al 6 [.str [],.int .i64 0,.int .i64 0],mV 5 14,.st (.t 6) (.t 16) 3]
 (sR [fA 17 6 0,lD 18 17 1 false,mV 19 1,bI 20 .eql 18 19]
 (.cond (.t 20) (sR [mV 21 5,mV 4 21]
 gR)
 .skip))))
 (.reg [.bi 22 .add (.t 12) (kI 1),mV 12 22]))))))))
 (.seq (rE 4 (kI (-1)))
 gR)))
def ZA6 (name2:Str) (x5:Account) (i5:Nat) (_:Unit) (k5:Unit -> Option Int):Option Int :=
 bif (x5.name == name2) then (some (i5:Int)) else (k5 ())
def Zz6 (_:Unit):Option Int :=
 some (-1)
def impl_AccountAt (l1:List Account) (name2:Str):Option Int :=
 (impl_AccountsOk l1).bind fun b3=>bif (!b3) then (some (-1)) else (rgl (ZA6 name2) Zz6 l1 0 ())
theorem ZTc {l1:List Account} {name2:Str} {r:Int} (H:impl_AccountAt l1 name2 = some r):Snd Tryz.prog ZS8 [.sl .rd 3 (l1.map Z1),.str name2] (.int .i64 r) []:=by
 refine wS ZLc [.t 4] ?_
 unfold impl_AccountAt at H
 obtain ⟨b3,h3,H⟩:=bB H
 refine wG [.c 8 (Zy6 h3)] fun _=>?_
 refine Wh_iH H (fun H=>?_) fun H=>?_
 .refine wP ?_
  replace H:=sI H; subst H
  exact wE [(4,.d)]
 .refine wG [.u 11 (.ln _ _ fun _=>lm l1 Z1)] fun q4=>?_
  refine wR (fun (i5:Nat) (v5:Unit)=>⟨[(1,.str name2),(10,.sl .rd 3 (l1.map Z1)),(11,.int .i64 (l1.length:Int)),(12,.int .i64 (i5:Int))],[],[],[]⟩) H (fun i5 x5 v5 I m k5 hxv5 hiv5 H N27=>?_) (fun v5 I m H=>?_)
  .unfold ZA6 at H
   refine wP ?_
   refine wt (ltT hiv5) ?_
   refine wG [.u 15 (.ix _ _ _ fun _=>Z0 Z1 (Z2 hxv5))] fun _=>?_
   refine Wh_iH H (fun H=>?_) fun H=>?_
   .refine wP ?_
    replace H:=sI H; subst H
    exact wE [(4,.d)]
   .refine wG [.w 22 (wi .i64 rfl hiv5 q4.1)] fun _=>?_
    exact wT (N27 () H)
  .unfold Zz6 at H
   refine wP ?_
   refine wf (ltF l1.length) ?_
   refine wP ?_
   replace H:=sI H; subst H
   exact wE [(4,.d)]
def Z0k:L :=
.seq (rE 2 (cB false))
 (sR [mV 3 0,.bi 4 .geq (.t 3) (kI 1),mV 5 4,.g 5 true (mV 6 0),.g 5 true (.bi 7 .leq (.t 6) (kI 999)),.pk 8 (.t 5) (.t 7) (cB false),mV 2 8]
 gR)
def Z86 (n1:Int):Option Bool :=
 some ((decide (1 <= n1)) && (decide (n1 <= 999)))
theorem ZLe {n1:Int} {r:Bool} (H:Z86 n1 = some r):Snd Tryz.prog ZC6 [.int .i64 n1] (.bool r) []:=by
 refine wS Z0k [.t 2] ?_
 unfold Z86 at H
 refine wP ?_
 replace H:=sI H; subst H
 exact wE [(2,.d)]
def spec_l12Id (n1:Int):Bool :=
 ((decide (1 <= n1)) && (decide (n1 <= 999)))
theorem Z7l (n1:Int):Z86 n1 = some (spec_l12Id n1):=by
 unfold Z86 spec_l12Id
 first | rfl | simp only [Z7]
theorem Z1b (n1:Int):Snd Tryz.prog ZC6 [.int .i64 n1] (.bool (spec_l12Id n1)) []:=ZLe (Z7l n1)
def ZCf:L :=
sR [.bx 2 (.t 0),.bx 3 (.t 1),.mv 4 (cB false)]
 (sR [fA 5 2 0,lD 6 5 1 false,fA 7 3 0,lD 8 7 1 false,bI 9 .lss 6 8,mV 10 9,.g 10 false (fA 11 2 0),.g 10 false (lD 12 11 1 false),.g 10 false (fA 13 3 0),.g 10 false (lD 14 13 1 false),.g 10 false (bI 15 .eql 12 14),.g 10 false (mV 16 15),.g 16 true (fA 17 2 1),.g 16 true (lD 18 17 1 false),.g 16 true (fA 19 3 1),.g 16 true (lD 20 19 1 false),.g 16 true (bI 21 .lss 18 20),.g 10 false (.pk 22 (.t 16) (.t 21) (cB false)),.pk 23 (.t 10) (cB true) (.t 22),mV 4 23]
 gR)
def Zd4 (a1:Dep) (b2:Dep):Option Bool :=
 some ((decide (a1.id < b2.id)) || ((a1.id == b2.id) && (decide (a1.for_ < b2.for_))))
theorem Zac {a1:Dep} {b2:Dep} {r:Bool} (H:Zd4 a1 b2 = some r):Snd Tryz.prog Zd7 [eDep a1,eDep b2] (.bool r) []:=by
 refine wS ZCf [.t 4] ?_
 unfold Zd4 at H
 refine wP ?_
 replace H:=sI H; subst H
 exact wE [(4,.d)]
def spec_l12Less (a1:Dep) (b2:Dep):Bool :=
 ((decide (a1.id < b2.id)) || ((a1.id == b2.id) && (decide (a1.for_ < b2.for_))))
theorem ZIg (a1:Dep) (b2:Dep):Zd4 a1 b2 = some (spec_l12Less a1 b2):=by
 unfold Zd4 spec_l12Less
 first | rfl | simp only [Z7]
theorem ZKe (a1:Dep) (b2:Dep):Snd Tryz.prog Zd7 [eDep a1,eDep b2] (.bool (spec_l12Less a1 b2)) []:=Zac (ZIg a1 b2)
def ZMh:L :=
.seq (rE 2 (cB false))
 (.seq (sR [mV 5 0,.ln 6 (.t 5),.bi 7 .gtr (.t 6) (kI 100)]
 (.cond (.t 7) (.seq (rE 2 (cB false))
 gR)
 .skip))
 (.seq (sR [mV 8 0,.ln 9 (.t 8),.mv 10 (kI 0)]
 (.blk 0 (.loop (.gw (sR [bI 11 .lss 10 9]
 (.seq (.cond (.t 11) .skip
 (.exit 0))
 (.seq (.blk 1 (sR [mV 12 10,iA 13 8 10 2,lD 14 13 2 true,.al 4 [.int .i64 0,.int .i64 0],mV 3 12,.st (.t 4) (.t 14) 2]
 (.seq (.rq 31 [fA 15 4 0,lD 16 15 1 false,cQ 17 ZC6 [16],.un 18 (.t 17),mV 19 18,.g 19 false (fA 20 4 1),.g 19 false (lD 21 20 1 false),.g 19 false (cQ 22 ZC6 [21]),.g 19 false (.un 23 (.t 22)),.pk 24 (.t 19) (cB true) (.t 23),mV 25 24,.g 25 false (fA 26 4 0),.g 25 false (lD 27 26 1 false),.g 25 false (fA 28 4 1),.g 25 false (lD 29 28 1 false),.g 25 false (bI 30 .eql 27 29),.pk 31 (.t 25) (cB true) (.t 30),mV 32 31,.g 32 false (mV 33 3),.g 32 false (.bi 34 .gtr (.t 33) (kI 0)),.g 32 false (mV 35 34),.g 35 true (mV 36 0),.g 35 true (mV 37 3),.g 35 true (.bi 38 .sub (.t 37) (kI 1)),.g 35 true (iA 39 36 38 2),.g 35 true (lD 40 39 2 true),.g 35 true (lD 41 4 2 true),.g 35 true (cQ 42 Zd7 [40,41]),.g 35 true (.un 43 (.t 42)),.g 32 false (.pk 44 (.t 35) (.t 43) (cB false)),.pk 45 (.t 32) (cB true) (.t 44)])
 (.cond (.t 45) (.seq (rE 2 (cB false))
 gR)
 .skip))))
 (.reg [.bi 46 .add (.t 10) (kI 1),mV 10 46]))))))))
 (.seq (rE 2 (cB true))
 gR)))
def ZF5 (l1:List Dep) (x4:Dep) (i4:Nat) (_:Unit) (k4:Unit -> Option Bool):Option Bool :=
 (bif (((!(spec_l12Id x4.id)) || (!(spec_l12Id x4.for_))) || (x4.id == x4.for_)) then some default else (bif (decide (0 < (i4:Int))) then (idx l1 (w64 ((i4:Int) - 1))) else some default)).bind fun e5=>bif ((((!(spec_l12Id x4.id)) || (!(spec_l12Id x4.for_))) || (x4.id == x4.for_)) || ((decide (0 < (i4:Int))) && (!(spec_l12Less e5 x4)))) then (some false) else (k4 ())
def Zc9 (_:Unit):Option Bool :=
 some true
def spec_DepsOk (l1:List Dep):Option Bool :=
 bif (decide (100 < (l1.length:Int))) then (some false) else (rgl (ZF5 l1) Zc9 l1 0 ())
theorem Zea {l1:List Dep} {r:Bool} (H:spec_DepsOk l1 = some r):Snd Tryz.prog Ze8 [.sl .rd 2 (l1.map eDep)] (.bool r) []:=by
 refine wS ZMh [.t 2] ?_
 unfold spec_DepsOk at H
 refine wG [.u 6 (.ln _ _ fun _=>lm l1 eDep)] fun q2=>?_
 refine Wh_iH H (fun H=>?_) fun H=>?_
 .refine wP ?_
  replace H:=sI H; subst H
  exact wE [(2,.d)]
 .refine wG [.u 9 (.ln _ _ fun _=>lm l1 eDep)] fun q3=>?_
  refine wR (fun (i4:Nat) (v4:Unit)=>⟨[(0,.sl .rd 2 (l1.map eDep)),(8,.sl .rd 2 (l1.map eDep)),(9,.int .i64 (l1.length:Int)),(10,.int .i64 (i4:Int))],[],[],[]⟩) H (fun i4 x4 v4 I m k4 hxv4 hiv4 H N27=>?_) (fun v4 I m H=>?_)
  .unfold ZF5 at H
   refine wP ?_
   refine wt (ltT hiv4) ?_
   obtain ⟨e5,h5,H⟩:=bB H
   refine wG [.u 13 (.ix _ _ _ fun _=>Z0 eDep (Z2 hxv4)),.c 17 (Z1b x4.id),.g 22 [((!(spec_l12Id x4.id)),false)] (.call _ _ _ _ _ (AEs.refl _) (fun _=>Z1b x4.for_)),.g 39 [(_,true),(_,false)] (.ix _ _ _ fun q=>Z0 eDep (bT q.1 (bF q.2.1 h5))),.g 42 [((decide (0 < (i4:Int))),true),((((!(spec_l12Id x4.id)) || (!(spec_l12Id x4.for_))) || (x4.id == x4.for_)),false)] (.call _ _ _ _ _ (AEs.refl _) (fun _=>ZKe e5 x4))] fun _=>?_
   refine Wh_iH H (fun H=>?_) fun H=>?_
   .refine wP ?_
    replace H:=sI H; subst H
    exact wE [(2,.d)]
   .refine wG [.w 46 (wi .i64 rfl hiv4 q2.1)] fun _=>?_
    exact wT (N27 () H)
  .unfold Zc9 at H
   refine wP ?_
   refine wf (ltF l1.length) ?_
   refine wP ?_
   replace H:=sI H; subst H
   exact wE [(2,.d)]
def ZWd:L :=
sR [.mv 4 (.c (.nl))]
 (sR [.bs 9 1 [] true,mV 5 9]
 (.seq (.seq (rE 6 (cB true))
 (.blk 0 (.loop (.gw (.seq (sR [mV 10 6]
 (.cond (.t 10) .skip
 (.exit 0)))
 (.blk 1 (.seq (rE 6 (cB false))
 (sR [mV 11 0,.ln 12 (.t 11),.mv 13 (kI 0)]
 (.blk 2 (.loop (.gw (sR [bI 14 .lss 13 12]
 (.seq (.cond (.t 14) .skip
 (.exit 2))
 (.seq (.blk 3 (sR [iA 15 11 13 2,lD 16 15 2 true,.al 8 [.int .i64 0,.int .i64 0],.st (.t 8) (.t 16) 2]
 (sR [fA 17 8 0,lD 18 17 1 false,mV 19 1,bI 20 .eql 18 19,mV 21 20,.g 21 false (mV 22 5),.g 21 false (fA 23 8 0),.g 21 false (lD 24 23 1 false),.g 21 false (cQ 25 Zy2 [22,24]),.pk 26 (.t 21) (cB true) (.t 25),mV 27 26,.g 27 true (mV 28 5),.g 27 true (fA 29 8 1),.g 27 true (lD 30 29 1 false),.g 27 true (cQ 31 Zy2 [28,30]),.g 27 true (.un 32 (.t 31)),.pk 33 (.t 27) (.t 32) (cB false)]
 (.cond (.t 33) (sR [mV 34 5,fA 35 8 1,lD 36 35 1 false,.bs 37 1 [(.t 36)] false,.ap 38 (.t 34) (.t 37) 1 8,mV 5 38]
 (rE 6 (cB true)))
 .skip))))
 (.reg [.bi 39 .add (.t 13) (kI 1),mV 13 39])))))))))))))))
 (sR [mV 40 5,mV 4 40]
 gR)))
def Zm2 (id2:Int) (x5:Dep) (_:Nat) (v5:Bool × (List Int)) (k5:(Bool × (List Int)) -> Option (List Int)):Option (List Int) :=
 (bif (x5.id == id2) then some default else (spec_l02Has v5.2 x5.id)).bind fun b6=>(bif ((x5.id == id2) || b6) then (spec_l02Has v5.2 x5.for_) else some default).bind fun b7=>bif (((x5.id == id2) || b6) && (!b7)) then ((appL 8 v5.2 [x5.for_]).bind fun xs8=>k5 (true,xs8)) else (k5 (v5.1,v5.2))
def ZA7 (k3:(Bool × (List Int)) -> Option (List Int)) (v5:Bool × (List Int)):Option (List Int) :=
 k3 (v5.1,v5.2)
def ZW3 (l1:List Dep) (id2:Int) (v3:Bool × (List Int)) (k3:(Bool × (List Int)) -> Option (List Int)):Option (List Int) :=
 bif v3.1 then (rgl (Zm2 id2) (ZA7 k3) l1 0 (false,v3.2)) else (some v3.2)
def spec_l12Reach (l1:List Dep) (id2:Int):Option (List Int) :=
 whl (ZW3 l1 id2) 9223372036854775807 (true,[])
theorem Zkd {l1:List Dep} {id2:Int} {r:(List Int)} (H:spec_l12Reach l1 id2 = some r):Snd Tryz.prog ZD9 [.sl .rd 2 (l1.map eDep),.int .i64 id2] (.sl .nw 1 (r.map eI)) []:=by
 refine wS ZWd [.t 4] ?_
 unfold spec_l12Reach at H
 refine wP ?_
 refine wW (fun (v3:Bool × (List Int))=>⟨[(0,.sl .rd 2 (l1.map eDep)),(1,.int .i64 id2),(5,.sref 9),(6,.bool v3.1)],[],[],[(9,⟨1,v3.2.map eI,false⟩)]⟩) H (fun v3 I m k3 H N34=>?_)
 unfold ZW3 at H
 refine wP ?_
 refine Wh_iH H (fun H=>?_) fun H=>?_
 .refine wG [.u 12 (.ln _ _ fun _=>lm l1 eDep)] fun q4=>?_
  refine wR (fun (i5:Nat) (v5:Bool × (List Int))=>⟨[(0,.sl .rd 2 (l1.map eDep)),(1,.int .i64 id2),(5,.sref 9),(6,.bool v5.1),(11,.sl .rd 2 (l1.map eDep)),(12,.int .i64 (l1.length:Int)),(13,.int .i64 (i5:Int))],[],[],[(9,⟨1,v5.2.map eI,false⟩)]⟩) H (fun i5 x5 v5 I m k5 hxv5 hiv5 H N28=>?_) (fun v5 I m H=>?_)
  .unfold Zm2 at H
   refine wP ?_
   refine wt (ltT hiv5) ?_
   obtain ⟨b6,h6,H⟩:=bB H
   obtain ⟨b7,h7,H⟩:=bB H
   refine wG [.u 15 (.ix _ _ _ fun _=>Z0 eDep (Z2 hxv5)),.g 25 [(_,false)] (.call _ _ _ _ _ (AEs.refl _) (fun q=>ZE2 (bF q.1 h6))),.g 31 [(_,true)] (.call _ _ _ _ _ (AEs.refl _) (fun q=>ZE2 (bT q.1 h7)))] fun _=>?_
   refine Wh_iH H (fun H=>?_) fun H=>?_
   .obtain ⟨xs8,h8,H⟩:=bB H
    refine wG [.u 38 (.ap _ _ _ _ fun _=>Zq eI h8),.w 39 (wi .i64 rfl hiv5 q4.1)] fun _=>?_
    exact wT (N28 _ H)
   .refine wG [.w 39 (wi .i64 rfl hiv5 q4.1)] fun _=>?_
    exact wT (N28 _ H)
  .unfold ZA7 at H
   refine wP ?_
   refine wf (ltF l1.length) ?_
   refine wP ?_
   exact wT (N34 _ H)
 .refine wP ?_
  replace H:=sI H; subst H
  exact wN [(4,.f)] [] [] [9] [] [⟨_,nw_I v3.2⟩]
def Z5k:L :=
.seq (rE 2 (cB false))
 (.seq (sR [mV 5 0,cQ 6 Ze8 [5],.un 7 (.t 6)]
 (.cond (.t 7) (.seq (rE 2 (cB false))
 gR)
 .skip))
 (.seq (sR [mV 8 0,.ln 9 (.t 8),.mv 10 (kI 0)]
 (.blk 0 (.loop (.gw (sR [bI 11 .lss 10 9]
 (.seq (.cond (.t 11) .skip
 (.exit 0))
 (.seq (.blk 1 (sR [iA 12 8 10 2,lD 13 12 2 true,.al 4 [.int .i64 0,.int .i64 0],.st (.t 4) (.t 13) 2]
 (.seq (.rq 7 [mV 14 0,fA 15 4 0,lD 16 15 1 false,cQ 17 ZD9 [14,16],fA 18 4 0,lD 19 18 1 false,cQ 20 Zy2 [17,19]])
 (.cond (.t 20) (.seq (rE 2 (cB true))
 gR)
 .skip))))
 (.reg [.bi 21 .add (.t 10) (kI 1),mV 10 21]))))))))
 (.seq (rE 2 (cB false))
 gR)))
def ZR6 (l1:List Dep) (x4:Dep) (_:Nat) (_:Unit) (k4:Unit -> Option Bool):Option Bool :=
 (spec_l12Reach l1 x4.id).bind fun y5=>(spec_l02Has y5 x4.id).bind fun b6=>bif b6 then (some true) else (k4 ())
def ZQ6 (_:Unit):Option Bool :=
 some false
def spec_Round (l1:List Dep):Option Bool :=
 (spec_DepsOk l1).bind fun b2=>bif (!b2) then (some false) else (rgl (ZR6 l1) ZQ6 l1 0 ())
theorem Znj {l1:List Dep} {r:Bool} (H:spec_Round l1 = some r):Snd Tryz.prog Zbd [.sl .rd 2 (l1.map eDep)] (.bool r) []:=by
 refine wS Z5k [.t 2] ?_
 unfold spec_Round at H
 obtain ⟨b2,h2,H⟩:=bB H
 refine wG [.c 6 (Zea h2)] fun _=>?_
 refine Wh_iH H (fun H=>?_) fun H=>?_
 .refine wP ?_
  replace H:=sI H; subst H
  exact wE [(2,.d)]
 .refine wG [.u 9 (.ln _ _ fun _=>lm l1 eDep)] fun q3=>?_
  refine wR (fun (i4:Nat) (v4:Unit)=>⟨[(0,.sl .rd 2 (l1.map eDep)),(8,.sl .rd 2 (l1.map eDep)),(9,.int .i64 (l1.length:Int)),(10,.int .i64 (i4:Int))],[],[],[]⟩) H (fun i4 x4 v4 I m k4 hxv4 hiv4 H N27=>?_) (fun v4 I m H=>?_)
  .unfold ZR6 at H
   refine wP ?_
   refine wt (ltT hiv4) ?_
   obtain ⟨y5,h5,H⟩:=bB H
   obtain ⟨b6,h6,H⟩:=bB H
   refine wG [.u 12 (.ix _ _ _ fun _=>Z0 eDep (Z2 hxv4)),.c 17 (Zkd h5),.c 20 (ZE2 h6)] fun _=>?_
   refine Wh_iH H (fun H=>?_) fun H=>?_
   .refine wP ?_
    replace H:=sI H; subst H
    exact wE [(2,.d)]
   .refine wG [.w 21 (wi .i64 rfl hiv4 q3.1)] fun _=>?_
    exact wT (N27 () H)
  .unfold ZQ6 at H
   refine wP ?_
   refine wf (ltF l1.length) ?_
   refine wP ?_
   replace H:=sI H; subst H
   exact wE [(2,.d)]
def Znk:L :=
sR [.bx 1 (.t 0),.mv 2 (cB false)]
 (sR [fA 3 1 0,lD 4 3 1 false,.cq 5 Z5 [(.t 4),(kI 1),(kI 999)],mV 6 5,.g 6 true (fA 7 1 1),.g 6 true (lD 8 7 1 false),.g 6 true (.cq 9 Z5 [(.t 8),(kI 1),(kI 999)]),.pk 10 (.t 6) (.t 9) (cB false),mV 11 10,.g 11 true (fA 12 1 0),.g 11 true (lD 13 12 1 false),.g 11 true (fA 14 1 1),.g 11 true (lD 15 14 1 false),.g 11 true (bI 16 .neq 13 15),.pk 17 (.t 11) (.t 16) (cB false),mV 2 17]
 gR)
def Zr6 (d1:Dep):Option Bool :=
 some (((impl_within d1.id 1 999) && (impl_within d1.for_ 1 999)) && (d1.id != d1.for_))
theorem Zig {d1:Dep} {r:Bool} (H:Zr6 d1 = some r):Snd Tryz.prog ZS9 [eDep d1] (.bool r) []:=by
 refine wS Znk [.t 2] ?_
 unfold Zr6 at H
 refine wG [.c 5 (Z3 d1.id 1 999),.g 9 [((impl_within d1.id 1 999),true)] (.call _ _ _ _ _ (AEs.refl _) (fun _=>Z3 d1.for_ 1 999))] fun _=>?_
 replace H:=sI H; subst H
 exact wE [(2,.d)]
def impl_depOk (d1:Dep):Bool :=
 (((impl_within d1.id 1 999) && (impl_within d1.for_ 1 999)) && (d1.id != d1.for_))
theorem ZCl (d1:Dep):Zr6 d1 = some (impl_depOk d1):=by
 unfold Zr6 impl_depOk
 first | rfl | simp only [Z7]
theorem ZEk (d1:Dep):Snd Tryz.prog ZS9 [eDep d1] (.bool (impl_depOk d1)) []:=Zig (ZCl d1)
def ZOa:L :=
sR [.bx 2 (.t 0),.bx 3 (.t 1),.mv 4 (kI 0)]
 (.seq (sR [fA 5 2 0,lD 6 5 1 false,fA 7 3 0,lD 8 7 1 false,bI 9 .neq 6 8]
 (.cond (.t 9) (sR [fA 10 2 0,lD 11 10 1 false,fA 12 3 0,lD 13 12 1 false,bI 14 .sub 11 13,mV 4 14]
 gR)
 .skip))
 (sR [fA 15 2 1,lD 16 15 1 false,fA 17 3 1,lD 18 17 1 false,bI 19 .sub 16 18,mV 4 19]
 gR))
def Z82 (a1:Dep) (b2:Dep):Option Int :=
 bif (a1.id != b2.id) then (some (w64 (a1.id - b2.id))) else (some (w64 (a1.for_ - b2.for_)))
theorem Zj9 {a1:Dep} {b2:Dep} {r:Int} (H:Z82 a1 b2 = some r):Snd Tryz.prog ZS3 [eDep a1,eDep b2] (.int .i64 r) []:=by
 refine wS ZOa [.t 4] ?_
 unfold Z82 at H
 refine wP ?_
 refine Wh_iH H (fun H=>?_) fun H=>?_
 .refine wP ?_
  replace H:=sI H; subst H
  exact wE [(4,.d)]
 .refine wP ?_
  replace H:=sI H; subst H
  exact wE [(4,.d)]
def impl_compareDeps (a1:Dep) (b2:Dep):Int :=
 bif (a1.id != b2.id) then ((w64 (a1.id - b2.id))) else ((w64 (a1.for_ - b2.for_)))
theorem Zyb (a1:Dep) (b2:Dep):Z82 a1 b2 = some (impl_compareDeps a1 b2):=by
 unfold Z82 impl_compareDeps
 first | rfl | simp only [Z7]
theorem ZQa (a1:Dep) (b2:Dep):Snd Tryz.prog ZS3 [eDep a1,eDep b2] (.int .i64 (impl_compareDeps a1 b2)) []:=Zj9 (Zyb a1 b2)
def Zqi:L :=
.seq (rE 2 (cB false))
 (.seq (sR [mV 5 0,.ln 6 (.t 5),.mv 7 (kI 0)]
 (.blk 0 (.loop (.gw (sR [bI 8 .lss 7 6]
 (.seq (.cond (.t 8) .skip
 (.exit 0))
 (.seq (.blk 1 (sR [mV 9 7,iA 10 5 7 2,lD 11 10 2 true,.al 4 [.int .i64 0,.int .i64 0],mV 3 9,.st (.t 4) (.t 11) 2]
 (.seq (.rq 17 [lD 12 4 2 true,cQ 13 ZS9 [12],.un 14 (.t 13),mV 15 14,.g 15 false (mV 16 3),.g 15 false (.bi 17 .gtr (.t 16) (kI 0)),.g 15 false (mV 18 17),.g 18 true (mV 19 0),.g 18 true (mV 20 3),.g 18 true (.bi 21 .sub (.t 20) (kI 1)),.g 18 true (iA 22 19 21 2),.g 18 true (lD 23 22 2 true),.g 18 true (lD 24 4 2 true),.g 18 true (cQ 25 ZS3 [23,24]),.g 18 true (.bi 26 .geq (.t 25) (kI 0)),.g 15 false (.pk 27 (.t 18) (.t 26) (cB false)),.pk 28 (.t 15) (cB true) (.t 27)])
 (.cond (.t 28) (.seq (rE 2 (cB false))
 gR)
 .skip))))
 (.reg [.bi 29 .add (.t 7) (kI 1),mV 7 29]))))))))
 (sR [mV 30 0,.ln 31 (.t 30),.bi 32 .leq (.t 31) (kI 100),mV 2 32]
 gR))
def ZT5 (l1:List Dep) (x3:Dep) (i3:Nat) (_:Unit) (k3:Unit -> Option Bool):Option Bool :=
 (bif (!(impl_depOk x3)) then some default else (bif (decide (0 < (i3:Int))) then (idx l1 (w64 ((i3:Int) - 1))) else some default)).bind fun e4=>bif ((!(impl_depOk x3)) || ((decide (0 < (i3:Int))) && (decide (0 <= (impl_compareDeps e4 x3))))) then (some false) else (k3 ())
def Zv9 (l1:List Dep) (_:Unit):Option Bool :=
 some (decide ((l1.length:Int) <= 100))
def impl_DepsOk (l1:List Dep):Option Bool :=
 rgl (ZT5 l1) (Zv9 l1) l1 0 ()
theorem Zoa {l1:List Dep} {r:Bool} (H:impl_DepsOk l1 = some r):Snd Tryz.prog Zr8 [.sl .rd 2 (l1.map eDep)] (.bool r) []:=by
 refine wS Zqi [.t 2] ?_
 unfold impl_DepsOk at H
 refine wG [.u 6 (.ln _ _ fun _=>lm l1 eDep)] fun q2=>?_
 refine wR (fun (i3:Nat) (v3:Unit)=>⟨[(0,.sl .rd 2 (l1.map eDep)),(5,.sl .rd 2 (l1.map eDep)),(6,.int .i64 (l1.length:Int)),(7,.int .i64 (i3:Int))],[],[],[]⟩) H (fun i3 x3 v3 I m k3 hxv3 hiv3 H N20=>?_) (fun v3 I m H=>?_)
 .unfold ZT5 at H
  refine wP ?_
  refine wt (ltT hiv3) ?_
  obtain ⟨e4,h4,H⟩:=bB H
  refine wG [.u 10 (.ix _ _ _ fun _=>Z0 eDep (Z2 hxv3)),.c 13 (ZEk x3),.g 22 [(_,true),(_,false)] (.ix _ _ _ fun q=>Z0 eDep (bT q.1 (bF q.2.1 h4))),.g 25 [((decide (0 < (i3:Int))),true),((!(impl_depOk x3)),false)] (.call _ _ _ _ _ (AEs.refl _) (fun _=>ZQa e4 x3))] fun _=>?_
  refine Wh_iH H (fun H=>?_) fun H=>?_
  .refine wP ?_
   replace H:=sI H; subst H
   exact wE [(2,.d)]
  .refine wG [.w 29 (wi .i64 rfl hiv3 q2.1)] fun _=>?_
   exact wT (N20 () H)
 .unfold Zv9 at H
  refine wP ?_
  refine wf (ltF l1.length) ?_
  refine wG [.u 31 (.ln _ _ fun _=>lm l1 eDep)] fun q5=>?_
  replace H:=sI H; subst H
  exact wE [(2,.d)]
def Zbg:L :=
sR [.bx 2 (.t 0),.mv 3 (cB false)]
 (sR [fA 4 2 0,lD 5 4 1 false,fA 6 1 1,lD 7 6 1 false,bI 8 .eql 5 7,mV 3 8]
 gR)
def Zu4 (x1:Dep) (x2:Dep):Option Bool :=
 some (x1.id == x2.for_)
theorem ZNc {x1:Dep} {x2:Dep} {r:Bool} (H:Zu4 x1 x2 = some r):Snd Tryz.prog Z52 [eDep x1,.ept (eDep x2) 0] (.bool r) []:=by
 refine wS Zbg [.t 3] ?_
 unfold Zu4 at H
 refine wP ?_
 replace H:=sI H; subst H
 exact wE [(3,.d)]
def impl_Round_1 (x1:Dep) (x2:Dep):Bool :=
 (x1.id == x2.for_)
theorem Zyi (x1:Dep) (x2:Dep):Zu4 x1 x2 = some (impl_Round_1 x1 x2):=by
 unfold Zu4 impl_Round_1
 first | rfl | simp only [Z7]
theorem Zng (x1:Dep) (x2:Dep):Snd Tryz.prog Z52 [eDep x1,.ept (eDep x2) 0] (.bool (impl_Round_1 x1 x2)) []:=ZNc (Zyi x1 x2)
def Zp1:L :=
.seq (rE 4 (kI 0))
 (.seq (sR [mV 6 0,.ln 7 (.t 6),.mv 8 (kI 0)]
 (.blk 0 (.loop (.gw (sR [bI 9 .lss 8 7]
 (.seq (.cond (.t 9) .skip
 (.exit 0))
 (.seq (.blk 1 (sR [mV 10 8,mV 5 10]
 (sR [mV 11 1,mV 12 0,mV 13 5,iA 14 12 13 2,lD 15 14 2 true,.cc 16 (.t 11) [(.t 15)]]
 (.cond (.t 16) (sR [mV 17 5,mV 4 17]
 gR)
 .skip))))
 (.reg [.bi 18 .add (.t 8) (kI 1),mV 8 18]))))))))
 (.seq (rE 4 (kI (-1)))
 gR))
def Zd (c2:Dep) (x4:Dep) (i4:Nat) (_:Unit) (k4:Unit -> Option Int):Option Int :=
 bif (impl_Round_1 x4 c2) then (some (i4:Int)) else (k4 ())
def Zl (_:Unit):Option Int :=
 some (-1)
def Zg (s1:List Dep) (c2:Dep):Option Int :=
 rgl (Zd c2) Zl s1 0 ()
theorem Zo1 {s1:List Dep} {c2:Dep} {r:Int} (H:Zg s1 c2 = some r):Snd Tryz.prog Zg1 [.sl .rd 2 (s1.map eDep),.fn Z52 [.ept (eDep c2) 0]] (.int .i64 r) []:=by
 refine wS Zp1 [.t 4] ?_
 unfold Zg at H
 refine wG [.u 7 (.ln _ _ fun _=>lm s1 eDep)] fun q3=>?_
 refine wR (fun (i4:Nat) (v4:Unit)=>⟨[(0,.sl .rd 2 (s1.map eDep)),(1,.fn Z52 [.ept (eDep c2) 0]),(7,.int .i64 (s1.length:Int)),(8,.int .i64 (i4:Int))],[],[],[]⟩) H (fun i4 x4 v4 I m k4 hxv4 hiv4 H N20=>?_) (fun v4 I m H=>?_)
 .unfold Zd at H
  refine wP ?_
  refine wt (ltT hiv4) ?_
  refine wG [.u 14 (.ix _ _ _ fun _=>Z0 eDep (Z2 hxv4)),.u 16 (.clsr _ _ _ _ _ (AEs.refl _) (by kernel_rfl) (fun _=>Zng x4 c2))] fun _=>?_
  refine Wh_iH H (fun H=>?_) fun H=>?_
  .refine wP ?_
   replace H:=sI H; subst H
   exact wE [(4,.d)]
  .refine wG [.w 18 (wi .i64 rfl hiv4 q3.1)] fun _=>?_
   exact wT (N20 () H)
 .unfold Zl at H
  refine wP ?_
  refine wf (ltF s1.length) ?_
  refine wP ?_
  replace H:=sI H; subst H
  exact wE [(4,.d)]
def Za1:L :=
.seq (rE 4 (cB false))
 (sR [mV 5 0,mV 6 1,cQ 7 Zg1 [5,6],.bi 8 .geq (.t 7) (kI 0),mV 4 8]
 gR)
def Z8 (s1:List Dep) (c2:Dep):Option Bool :=
 (Zg s1 c2).bind fun n3=>some (decide (0 <= n3))
theorem Z71 {s1:List Dep} {c2:Dep} {r:Bool} (H:Z8 s1 c2 = some r):Snd Tryz.prog ZU [.sl .rd 2 (s1.map eDep),.fn Z52 [.ept (eDep c2) 0]] (.bool r) []:=by
 refine wS Za1 [.t 4] ?_
 unfold Z8 at H
 obtain ⟨n3,h3,H⟩:=bB H
 refine wG [.c 7 (Zo1 h3)] fun _=>?_
 replace H:=sI H; subst H
 exact wE [(4,.d)]
def Zrk:L :=
.seq (rE 2 (cB false))
 (.seq (sR [mV 7 0,cQ 8 Zr8 [7],.un 9 (.t 8)]
 (.cond (.t 9) (.seq (rE 2 (cB false))
 gR)
 .skip))
 (sR [.bs 10 2 [] true,mV 11 0,.ap 12 (.t 10) (.t 11) 2 16,mV 3 12]
 (.blk 0 (.loop (.gw (.blk 1 (sR [.bs 13 2 [] true,mV 4 13]
 (.seq (sR [mV 14 3,.ln 15 (.t 14),.mv 16 (kI 0)]
 (.blk 2 (.loop (.gw (sR [bI 17 .lss 16 15]
 (.seq (.cond (.t 17) .skip
 (.exit 2))
 (.seq (.blk 3 (sR [iA 18 14 16 2,lD 19 18 2 true,.al 6 [.int .i64 0,.int .i64 0],.st (.t 6) (.t 19) 2]
 (sR [.fb 6,mV 20 3,.mf 21 Z52 [(.t 6)],cQ 22 ZU [20,21]]
 (.cond (.t 22) (.reg [mV 23 4,lD 24 6 2 true,.bs 25 2 [(.t 24)] false,.ap 26 (.t 23) (.t 25) 2 16,mV 4 26])
 .skip))))
 (.reg [.bi 27 .add (.t 16) (kI 1),mV 16 27]))))))))
 (.seq (sR [mV 28 4,.ln 29 (.t 28),mV 30 3,.ln 31 (.t 30),bI 32 .eql 29 31]
 (.cond (.t 32) (sR [mV 33 3,.ln 34 (.t 33),.bi 35 .gtr (.t 34) (kI 0),mV 2 35]
 gR)
 .skip))
 (.reg [mV 36 4,mV 3 36]))))))))))
def Zt4 (v4:(List Dep)) (x6:Dep) (_:Nat) (v6:(List Dep)) (k6:(List Dep) -> Option Bool):Option Bool :=
 (Z8 v4 x6).bind fun b7=>bif b7 then ((appL 16 v6 [x6]).bind fun xs8=>k6 xs8) else (k6 v6)
def Z97 (v4:(List Dep)) (k4:(List Dep) -> Option Bool) (v6:(List Dep)):Option Bool :=
 bif ((v6.length:Int) == (v4.length:Int)) then (some (decide (0 < (v4.length:Int)))) else (k4 v6)
def Za7 (v4:(List Dep)) (k4:(List Dep) -> Option Bool):Option Bool :=
 rgl (Zt4 v4) (Z97 v4 k4) v4 0 []
def impl_Round (l1:List Dep):Option Bool :=
 (impl_DepsOk l1).bind fun b2=>bif (!b2) then (some false) else ((appL 16 ([]:List Dep) l1).bind fun xs3=>whl Za7 9223372036854775807 xs3)
theorem ZMk {l1:List Dep} {r:Bool} (H:impl_Round l1 = some r):Snd Tryz.prog Zjd [.sl .rd 2 (l1.map eDep)] (.bool r) []:=by
 refine wS Zrk [.t 2] ?_
 unfold impl_Round at H
 obtain ⟨b2,h2,H⟩:=bB H
 refine wG [.c 8 (Zoa h2)] fun _=>?_
 refine Wh_iH H (fun H=>?_) fun H=>?_
 .refine wP ?_
  replace H:=sI H; subst H
  exact wE [(2,.d)]
 .obtain ⟨xs3,h3,H⟩:=bB H
  refine wG [.u 12 (.ap _ _ _ _ fun _=>Zq eDep h3)] fun _=>?_
  refine wW (fun (v4:(List Dep))=>⟨[(3,.sref 10)],[],[],[(10,⟨2,v4.map eDep,false⟩)]⟩) H (fun v4 I m k4 H N42=>?_)
  unfold Za7 at H
  refine wG [.u 15 (.ln _ _ fun _=>lm v4 eDep)] fun q5=>?_
  refine wR (fun (i6:Nat) (v6:(List Dep))=>⟨[(3,.sref 10),(4,.sref 13),(14,.sref 10),(15,.int .i64 (v4.length:Int)),(16,.int .i64 (i6:Int))],[],[],[(10,⟨2,v4.map eDep,false⟩),(13,⟨2,v6.map eDep,false⟩)]⟩) H (fun i6 x6 v6 I m k6 hxv6 hiv6 H N27=>?_) (fun v6 I m H=>?_)
  .unfold Zt4 at H
   refine wP ?_
   refine wt (ltT hiv6) ?_
   obtain ⟨b7,h7,H⟩:=bB H
   refine wG [.u 18 (.ix _ _ _ fun _=>Z0 eDep (Z2 hxv6)),.u 19 (.el _ _ _ fun _=>gm eDep (Zw1 (Z2 hxv6))),.c 22 (Z71 h7)] fun _=>?_
   refine Wh_iH H (fun H=>?_) fun H=>?_
   .obtain ⟨xs8,h8,H⟩:=bB H
    refine wG [.u 26 (.ap _ _ _ _ fun _=>Zq eDep h8),.w 27 (wi .i64 rfl hiv6 q5.1)] fun _=>?_
    exact wT (N27 _ H)
   .refine wG [.w 27 (wi .i64 rfl hiv6 q5.1)] fun _=>?_
    exact wT (N27 _ H)
  .unfold Z97 at H
   refine wP ?_
   refine wf (ltF v4.length) ?_
   refine wG [.u 29 (.ln _ _ fun _=>lm v6 eDep),.u 31 (.ln _ _ fun _=>lm v4 eDep)] fun q9=>?_
   refine Wh_iH H (fun H=>?_) fun H=>?_
   .refine wG [.u 34 (.ln _ _ fun _=>lm v4 eDep)] fun q10=>?_
    replace H:=sI H; subst H
    exact wE [(2,.d)]
   .refine wP ?_
    exact Wh_to (N42 _ H) [] [] [(10,(some 13,0))] [] (by kernel_rfl) (by kernel_rfl)
def Z1e:L :=
.seq (rE 2 (cB false))
 (.seq (sR [mV 5 0,.ln 6 (.t 5),.bi 7 .gtr (.t 6) (kI 12)]
 (.cond (.t 7) (.seq (rE 2 (cB false))
 gR)
 .skip))
 (.seq (sR [mV 8 0,.ln 9 (.t 8),.mv 10 (kI 0)]
 (.blk 0 (.loop (.gw (sR [bI 11 .lss 10 9]
 (.seq (.cond (.t 11) .skip
 (.exit 0))
 (.seq (.blk 1 (sR [mV 12 10,iA 13 8 10 6,lD 14 13 6 true,.al 4 [.str [],.int .i64 0,.int .i64 0,.int .i64 0,.int .i64 0,.int .i64 0],mV 3 12,.st (.t 4) (.t 14) 6]
 (.seq (.rq 41 [fA 15 4 0,lD 16 15 1 false,cQ 17 Zp5 [16],.un 18 (.t 17),mV 19 18,.g 19 false (mV 20 3),.g 19 false (.bi 21 .gtr (.t 20) (kI 0)),.g 19 false (mV 22 21),.g 22 true (mV 23 0),.g 22 true (mV 24 3),.g 22 true (.bi 25 .sub (.t 24) (kI 1)),.g 22 true (iA 26 23 25 6),.g 22 true (fA 27 26 0),.g 22 true (lD 28 27 1 false),.g 22 true (fA 29 4 0),.g 22 true (lD 30 29 1 false),.g 22 true (bI 31 .geq 28 30),.g 19 false (.pk 32 (.t 22) (.t 31) (cB false)),.pk 33 (.t 19) (cB true) (.t 32),mV 34 33,.g 34 false (fA 35 4 1),.g 34 false (lD 36 35 1 false),.g 34 false (.bi 37 .lss (.t 36) (kI 0)),.pk 38 (.t 34) (cB true) (.t 37),mV 39 38,.g 39 false (fA 40 4 1),.g 39 false (lD 41 40 1 false),.g 39 false (.bi 42 .gtr (.t 41) (kI 60)),.pk 43 (.t 39) (cB true) (.t 42),mV 44 43,.g 44 false (fA 45 4 2),.g 44 false (lD 46 45 1 false),.g 44 false (cQ 47 Zz2 [46]),.g 44 false (.un 48 (.t 47)),.pk 49 (.t 44) (cB true) (.t 48),mV 50 49,.g 50 false (fA 51 4 3),.g 50 false (lD 52 51 3 true),.g 50 false (cQ 53 Zr [52]),.g 50 false (.un 54 (.t 53)),.pk 55 (.t 50) (cB true) (.t 54)])
 (.cond (.t 55) (.seq (rE 2 (cB false))
 gR)
 .skip))))
 (.reg [.bi 56 .add (.t 10) (kI 1),mV 10 56]))))))))
 (.seq (rE 2 (cB true))
 gR)))
def Z34 (l1:List Quota) (x4:Quota) (i4:Nat) (_:Unit) (k4:Unit -> Option Bool):Option Bool :=
 (spec_WordOk x4.name).bind fun b5=>(bif (!b5) then some default else (bif (decide (0 < (i4:Int))) then (idx l1 (w64 ((i4:Int) - 1))) else some default)).bind fun e6=>bif ((((((!b5) || ((decide (0 < (i4:Int))) && (!(Op.bytesLess e6.name x4.name)))) || (decide (x4.jobs < 0))) || (decide (60 < x4.jobs))) || (!(spec_l01Res x4.nodes))) || (!(spec_VecOk x4.res))) then (some false) else (k4 ())
def ZC7 (_:Unit):Option Bool :=
 some true
def spec_QuotasOk (l1:List Quota):Option Bool :=
 bif (decide (12 < (l1.length:Int))) then (some false) else (rgl (Z34 l1) ZC7 l1 0 ())
theorem Zy8 {l1:List Quota} {r:Bool} (H:spec_QuotasOk l1 = some r):Snd Tryz.prog ZY5 [.sl .rd 6 (l1.map Zj)] (.bool r) []:=by
 refine wS Z1e [.t 2] ?_
 unfold spec_QuotasOk at H
 refine wG [.u 6 (.ln _ _ fun _=>lm l1 Zj)] fun q2=>?_
 refine Wh_iH H (fun H=>?_) fun H=>?_
 .refine wP ?_
  replace H:=sI H; subst H
  exact wE [(2,.d)]
 .refine wG [.u 9 (.ln _ _ fun _=>lm l1 Zj)] fun q3=>?_
  refine wR (fun (i4:Nat) (v4:Unit)=>⟨[(0,.sl .rd 6 (l1.map Zj)),(8,.sl .rd 6 (l1.map Zj)),(9,.int .i64 (l1.length:Int)),(10,.int .i64 (i4:Int))],[],[],[]⟩) H (fun i4 x4 v4 I m k4 hxv4 hiv4 H N27=>?_) (fun v4 I m H=>?_)
  .unfold Z34 at H
   refine wP ?_
   refine wt (ltT hiv4) ?_
   obtain ⟨b5,h5,H⟩:=bB H
   obtain ⟨e6,h6,H⟩:=bB H
   refine wG [.u 13 (.ix _ _ _ fun _=>Z0 Zj (Z2 hxv4)),.c 17 (ZM6 h5),.g 26 [(_,true),(_,false)] (.ix _ _ _ fun q=>Z0 Zj (bT q.1 (bF q.2.1 h6))),.g 47 [(((((!b5) || ((decide (0 < (i4:Int))) && (!(Op.bytesLess e6.name x4.name)))) || (decide (x4.jobs < 0))) || (decide (60 < x4.jobs))),false)] (.call _ _ _ _ _ (AEs.refl _) (fun _=>Zg4 x4.nodes)),.g 53 [((((((!b5) || ((decide (0 < (i4:Int))) && (!(Op.bytesLess e6.name x4.name)))) || (decide (x4.jobs < 0))) || (decide (60 < x4.jobs))) || (!(spec_l01Res x4.nodes))),false)] (.call _ _ _ _ _ (AEs.refl _) (fun _=>Zs x4.res))] fun _=>?_
   refine Wh_iH H (fun H=>?_) fun H=>?_
   .refine wP ?_
    replace H:=sI H; subst H
    exact wE [(2,.d)]
   .refine wG [.w 56 (wi .i64 rfl hiv4 q2.1)] fun _=>?_
    exact wT (N27 () H)
  .unfold ZC7 at H
   refine wP ?_
   refine wf (ltF l1.length) ?_
   refine wP ?_
   replace H:=sI H; subst H
   exact wE [(2,.d)]
def ZRf:L :=
.seq (rE 2 (cB false))
 (.seq (sR [mV 6 0,.ln 7 (.t 6),.bi 8 .gtr (.t 7) (kI 60)]
 (.cond (.t 8) (.seq (rE 2 (cB false))
 gR)
 .skip))
 (.seq (sR [mV 9 0,.ln 10 (.t 9),.mv 11 (kI 0)]
 (.blk 0 (.loop (.gw (sR [bI 12 .lss 11 10]
 (.seq (.cond (.t 12) .skip
 (.exit 0))
 (.seq (.blk 1 (sR [mV 13 11,iA 14 9 11 12,lD 15 14 12 true,.al 4 [.str [],.int .i64 0,.int .i64 0,.int .i64 0,.int .i64 0,.int .i64 0,.int .i64 0,.int .i64 0,.int .i64 0,.int .i64 0,.int .i64 0,.int .i64 0],mV 3 13,.st (.t 4) (.t 15) 12]
 (.seq (sR [fA 16 4 0,lD 17 16 1 false,cQ 18 Zp5 [17],.un 19 (.t 18),mV 20 19,.g 20 false (fA 21 4 1),.g 20 false (lD 22 21 11 true),.g 20 false (cQ 23 ZF4 [22]),.g 20 false (.un 24 (.t 23)),.pk 25 (.t 20) (cB true) (.t 24)]
 (.cond (.t 25) (.seq (rE 2 (cB false))
 gR)
 .skip))
 (.seq (rE 5 (kI 0))
 (.blk 2 (.loop (.gw (.seq (sR [mV 26 5,mV 27 3,bI 28 .lss 26 27]
 (.cond (.t 28) .skip
 (.exit 2)))
 (.seq (.blk 3 (.seq (.rq 10 [mV 31 0,mV 32 5,iA 33 31 32 12,fA 34 33 1,fA 35 34 0,lD 36 35 1 false,fA 37 4 1,fA 38 37 0,lD 39 38 1 false,bI 40 .eql 36 39])
 (.cond (.t 40) (.seq (rE 2 (cB false))
 gR)
 .skip)))
 (.reg [mV 29 5,.bi 30 .add (.t 29) (kI 1),mV 5 30]))))))))))
 (.reg [.bi 41 .add (.t 11) (kI 1),mV 11 41]))))))))
 (.seq (rE 2 (cB true))
 gR)))
def ZT2 (l1:List Hold) (i4:Nat) (x4:Hold) (k4:Unit -> Option Bool) (v6:Int) (k6:Int -> Option Bool):Option Bool :=
 bif (decide (v6 < (i4:Int))) then ((idx l1 v6).bind fun e7=>bif (e7.job.id == x4.job.id) then (some false) else (k6 (w64 (v6 + 1)))) else (k4 ())
def ZS2 (l1:List Hold) (x4:Hold) (i4:Nat) (_:Unit) (k4:Unit -> Option Bool):Option Bool :=
 (spec_WordOk x4.name).bind fun b5=>bif ((!b5) || (!(spec_JobOk x4.job))) then (some false) else (whl (ZT2 l1 i4 x4 k4) 9223372036854775807 0)
def ZQ4 (_:Unit):Option Bool :=
 some true
def spec_HoldsOk (l1:List Hold):Option Bool :=
 bif (decide (60 < (l1.length:Int))) then (some false) else (rgl (ZS2 l1) ZQ4 l1 0 ())
theorem Z99 {l1:List Hold} {r:Bool} (H:spec_HoldsOk l1 = some r):Snd Tryz.prog Zj7 [.sl .rd 12 (l1.map eHold)] (.bool r) []:=by
 refine wS ZRf [.t 2] ?_
 unfold spec_HoldsOk at H
 refine wG [.u 7 (.ln _ _ fun _=>lm l1 eHold)] fun q2=>?_
 refine Wh_iH H (fun H=>?_) fun H=>?_
 .refine wP ?_
  replace H:=sI H; subst H
  exact wE [(2,.d)]
 .refine wG [.u 10 (.ln _ _ fun _=>lm l1 eHold)] fun q3=>?_
  refine wR (fun (i4:Nat) (v4:Unit)=>⟨[(0,.sl .rd 12 (l1.map eHold)),(9,.sl .rd 12 (l1.map eHold)),(10,.int .i64 (l1.length:Int)),(11,.int .i64 (i4:Int))],[],[],[]⟩) H (fun i4 x4 v4 I m k4 hxv4 hiv4 H N48=>?_) (fun v4 I m H=>?_)
  .unfold ZS2 at H
   refine wP ?_
   refine wt (ltT hiv4) ?_
   obtain ⟨b5,h5,H⟩:=bB H
   refine wG [.u 14 (.ix _ _ _ fun _=>Z0 eHold (Z2 hxv4)),.c 18 (ZM6 h5),.g 23 [((!b5),false)] (.call _ _ _ _ _ (AEs.refl _) (fun _=>ZW7 x4.job))] fun _=>?_
   refine Wh_iH H (fun H=>?_) fun H=>?_
   .refine wP ?_
    replace H:=sI H; subst H
    exact wE [(2,.d)]
   .refine wP ?_
    refine wW (fun (v6:Int)=>⟨[(0,.sl .rd 12 (l1.map eHold)),(3,.int .i64 (i4:Int)),(4,.ptr 4 0),(5,.int .i64 v6),(9,.sl .rd 12 (l1.map eHold)),(10,.int .i64 (l1.length:Int)),(11,.int .i64 (i4:Int))],[],[(4,(eHold x4).cells)],[]⟩) H (fun v6 I m k6 H N38=>?_)
    unfold ZT2 at H
    refine wP ?_
    refine Wh_iH H (fun H=>?_) fun H=>?_
    .obtain ⟨e7,h7,H⟩:=bB H
     refine wG [.u 33 (.ix _ _ _ fun _=>Z0 eHold h7)] fun _=>?_
     refine Wh_iH H (fun H=>?_) fun H=>?_
     .refine wP ?_
      replace H:=sI H; subst H
      exact wE [(2,.d)]
     .refine wP ?_
      exact wT (N38 _ H)
    .refine wG [.w 41 (wi .i64 rfl hiv4 q2.1)] fun _=>?_
     exact wT (N48 () H)
  .unfold ZQ4 at H
   refine wP ?_
   refine wf (ltF l1.length) ?_
   refine wP ?_
   replace H:=sI H; subst H
   exact wE [(2,.d)]
def Z4k:L :=
sR [.bx 2 (.t 0),.al 4 [.int .i64 0,.int .i64 0,.int .i64 0],.mv 5 (cB false)]
 (.seq (sR [lD 10 2 3 true,cQ 11 Zr [10],.un 12 (.t 11),mV 13 12,.g 13 false (mV 14 1),.g 13 false (.bi 15 .lss (.t 14) (kI 0)),.pk 16 (.t 13) (cB true) (.t 15)]
 (.cond (.t 16) (sR [.bd 17 [.int .i64 0,.int .i64 0,.int .i64 0] [],.st (.t 4) (.t 17) 3,.mv 5 (cB false)]
 gR)
 .skip))
 (.seq (sR [lD 18 2 3 true,.bd 19 [.int .i64 0,.int .i64 0,.int .i64 0] [],.es 20 false [0,0,0] (.t 18) (.t 19)]
 (.cond (.t 20) (sR [lD 21 2 3 true,.st (.t 4) (.t 21) 3,.mv 5 (cB true)]
 gR)
 .skip))
 (sR [.bd 22 [.int .i64 0,.int .i64 0,.int .i64 0] [],.al 6 [.int .i64 0,.int .i64 0,.int .i64 0],.st (.t 6) (.t 22) 3]
 (.seq (.seq (rE 7 (kI 0))
 (.blk 0 (.loop (.gw (.seq (sR [mV 23 7,mV 24 1,bI 25 .lss 23 24]
 (.cond (.t 25) .skip
 (.exit 0)))
 (.seq (.blk 1 (sR [lD 29 6 3 true,lD 30 2 3 true,cQ 31 ZQ3 [29,30],mV 28 31,eX 32 28 0,eX 33 28 1,.al 8 [.int .i64 0,.int .i64 0,.int .i64 0],.st (.t 8) (.t 32) 3,mV 9 33]
 (.seq (sR [mV 34 9,.un 35 (.t 34)]
 (.cond (.t 35) (sR [.bd 36 [.int .i64 0,.int .i64 0,.int .i64 0] [],.st (.t 4) (.t 36) 3,.mv 5 (cB false)]
 gR)
 .skip))
 (.reg [lD 37 8 3 true,.st (.t 6) (.t 37) 3]))))
 (.reg [mV 26 7,.bi 27 .add (.t 26) (kI 1),mV 7 27])))))))
 (sR [lD 38 6 3 true,.st (.t 4) (.t 38) 3,.mv 5 (cB true)]
 gR)))))
def ZP6 (v1:Vec) (n2:Int) (v3:Vec × Int) (k3:(Vec × Int) -> Option (Vec × Bool)):Option (Vec × Bool) :=
 bif (decide (v3.2 < n2)) then (bif (!(spec_VecAdd v3.1 v1).2) then (some ((Vec.mk 0 0 0),false)) else (k3 (((spec_VecAdd v3.1 v1).1),(w64 (v3.2 + 1))))) else (some (v3.1,true))
def spec_Times (v1:Vec) (n2:Int):Option (Vec × Bool) :=
 bif ((!(spec_VecOk v1)) || (decide (n2 < 0))) then (some ((Vec.mk 0 0 0),false)) else (bif (v1.a == 0 && (v1.b == 0 && (v1.c == 0 && true))) then (some (v1,true)) else (whl (ZP6 v1 n2) 9223372036854775807 ((Vec.mk 0 0 0),0)))
theorem Zmj {v1:Vec} {n2:Int} {r:Vec × Bool} (H:spec_Times v1 n2 = some r):Snd Tryz.prog Zad [eVec v1,.int .i64 n2] (.tup [eVec r.1,.bool r.2]) []:=by
 refine wS Z4k [.c 4 3 true,.t 5] ?_
 unfold spec_Times at H
 refine wG [.c 11 (Zs v1)] fun _=>?_
 refine Wh_iH H (fun H=>?_) fun H=>?_
 .refine wP ?_
  replace H:=sI H; subst H
  exact wN [(4,.d),(5,.d)] [(4,[])] [] [] [] []
 .refine wP ?_
  refine Wh_iH H (fun H=>?_) fun H=>?_
  .refine wP ?_
   replace H:=sI H; subst H
   exact wN [(4,.d),(5,.d)] [(4,[])] [] [] [] []
  .refine wP ?_
   refine wW (fun (v3:Vec × Int)=>⟨[(1,.int .i64 n2),(2,.ptr 2 0),(4,.ptr 4 0),(6,.ptr 6 0),(7,.int .i64 v3.2)],[],[(2,(eVec v1).cells),(4,(eVec (Vec.mk 0 0 0)).cells),(6,(eVec v3.1).cells)],[]⟩) H (fun v3 I m k3 H N37=>?_)
   unfold ZP6 at H
   refine wP ?_
   refine Wh_iH H (fun H=>?_) fun H=>?_
   .refine wG [.c 31 (ZN6 v3.1 v1)] fun _=>?_
    refine Wh_iH H (fun H=>?_) fun H=>?_
    .refine wP ?_
     replace H:=sI H; subst H
     exact wN [(4,.d),(5,.d)] [(4,[])] [] [] [] []
    .refine wP ?_
     exact wT (N37 _ H)
   .refine wP ?_
    replace H:=sI H; subst H
    exact wN [(4,.d),(5,.d)] [(4,[])] [] [] [] []
def ZKh:L :=
sR [.mv 4 (kI 0),.mv 5 (kI 0),.al 6 [.int .i64 0,.int .i64 0,.int .i64 0],.mv 7 (cB false)]
 (.seq (rE 8 (kI 0))
 (.seq (rE 9 (kI 0))
 (sR [.bd 17 [.int .i64 0,.int .i64 0,.int .i64 0] [],.al 10 [.int .i64 0,.int .i64 0,.int .i64 0],.st (.t 10) (.t 17) 3]
 (.seq (sR [mV 18 0,cQ 19 Zj7 [18],.un 20 (.t 19)]
 (.cond (.t 20) (.seq (.rq 3 [lD 21 10 3 true,.mv 4 (kI 0),.mv 5 (kI 0),.st (.t 6) (.t 21) 3,.mv 7 (cB false)])
 gR)
 .skip))
 (.seq (sR [mV 22 0,.ln 23 (.t 22),.mv 24 (kI 0)]
 (.blk 0 (.loop (.gw (sR [bI 25 .lss 24 23]
 (.seq (.cond (.t 25) .skip
 (.exit 0))
 (.seq (.blk 1 (sR [iA 26 22 24 12,lD 27 26 12 true,.al 12 [.str [],.int .i64 0,.int .i64 0,.int .i64 0,.int .i64 0,.int .i64 0,.int .i64 0,.int .i64 0,.int .i64 0,.int .i64 0,.int .i64 0,.int .i64 0],.st (.t 12) (.t 27) 12]
 (.seq (sR [fA 28 12 0,lD 29 28 1 false,mV 30 1,bI 31 .neq 29 30]
 (.cond (.t 31) (.exit 1)
 .skip))
 (sR [fA 33 12 1,fA 34 33 3,lD 35 34 3 true,fA 36 12 1,fA 37 36 2,lD 38 37 1 false,cQ 39 Zad [35,38],mV 32 39,eX 40 32 0,eX 41 32 1,.al 13 [.int .i64 0,.int .i64 0,.int .i64 0],.st (.t 13) (.t 40) 3,mV 14 41]
 (sR [lD 43 10 3 true,lD 44 13 3 true,cQ 45 ZQ3 [43,44],mV 42 45,eX 46 42 0,eX 47 42 1,.al 15 [.int .i64 0,.int .i64 0,.int .i64 0],.st (.t 15) (.t 46) 3,mV 16 47]
 (.seq (sR [mV 48 14,.un 49 (.t 48),mV 50 49,.g 50 false (mV 51 16),.g 50 false (.un 52 (.t 51)),.pk 53 (.t 50) (cB true) (.t 52)]
 (.cond (.t 53) (sR [.bd 54 [.int .i64 0,.int .i64 0,.int .i64 0] [],.mv 4 (kI 0),.mv 5 (kI 0),.st (.t 6) (.t 54) 3,.mv 7 (cB false)]
 gR)
 .skip))
 (sR [lD 55 15 3 true,.st (.t 10) (.t 55) 3]
 (sR [mV 56 8,.bi 57 .add (.t 56) (kI 1),mV 8 57]
 (.reg [mV 58 9,fA 59 12 1,fA 60 59 2,lD 61 60 1 false,bI 62 .add 58 61,mV 9 62])))))))))
 (.reg [.bi 63 .add (.t 24) (kI 1),mV 24 63]))))))))
 (.seq (.rq 5 [mV 64 8,mV 65 9,lD 66 10 3 true,mV 4 64,mV 5 65,.st (.t 6) (.t 66) 3,.mv 7 (cB true)])
 gR))))))
def Zq3 (name2:Str) (x5:Hold) (_:Nat) (v5:Vec × Int × Int) (k5:(Vec × Int × Int) -> Option (Int × Int × Vec × Bool)):Option (Int × Int × Vec × Bool) :=
 bif (x5.name != name2) then (k5 (v5.1,v5.2.1,v5.2.2)) else ((spec_Times x5.job.need x5.job.nodes).bind fun y6=>bif ((!y6.2) || (!(spec_VecAdd v5.1 y6.1).2)) then (some (0,0,(Vec.mk 0 0 0),false)) else (k5 (((spec_VecAdd v5.1 y6.1).1),(w64 (v5.2.1 + 1)),(w64 (v5.2.2 + x5.job.nodes)))))
def Zb9 (v5:Vec × Int × Int):Option (Int × Int × Vec × Bool) :=
 some (v5.2.1,v5.2.2,v5.1,true)
def spec_HeldBy (l1:List Hold) (name2:Str):Option (Int × Int × Vec × Bool) :=
 (spec_HoldsOk l1).bind fun b3=>bif (!b3) then (some (0,0,(Vec.mk 0 0 0),false)) else (rgl (Zq3 name2) Zb9 l1 0 ((Vec.mk 0 0 0),0,0))
theorem ZUg {l1:List Hold} {name2:Str} {r:Int × Int × Vec × Bool} (H:spec_HeldBy l1 name2 = some r):Snd Tryz.prog ZMb [.sl .rd 12 (l1.map eHold),.str name2] (.tup [.int .i64 r.1,.int .i64 r.2.1,eVec r.2.2.1,.bool r.2.2.2]) []:=by
 refine wS ZKh [.t 4,.t 5,.c 6 3 true,.t 7] ?_
 unfold spec_HeldBy at H
 obtain ⟨b3,h3,H⟩:=bB H
 refine wG [.c 19 (Z99 h3)] fun _=>?_
 refine Wh_iH H (fun H=>?_) fun H=>?_
 .refine wP ?_
  replace H:=sI H; subst H
  exact wN [(4,.d),(5,.d),(6,.d),(7,.d)] [(6,[])] [] [] [] []
 .refine wG [.u 23 (.ln _ _ fun _=>lm l1 eHold)] fun q4=>?_
  refine wR (fun (i5:Nat) (v5:Vec × Int × Int)=>⟨[(1,.str name2),(6,.ptr 6 0),(8,.int .i64 v5.2.1),(9,.int .i64 v5.2.2),(10,.ptr 10 0),(22,.sl .rd 12 (l1.map eHold)),(23,.int .i64 (l1.length:Int)),(24,.int .i64 (i5:Int))],[],[(6,(eVec (Vec.mk 0 0 0)).cells),(10,(eVec v5.1).cells)],[]⟩) H (fun i5 x5 v5 I m k5 hxv5 hiv5 H N46=>?_) (fun v5 I m H=>?_)
  .unfold Zq3 at H
   refine wP ?_
   refine wt (ltT hiv5) ?_
   refine wG [.u 26 (.ix _ _ _ fun _=>Z0 eHold (Z2 hxv5))] fun _=>?_
   refine Wh_iH H (fun H=>?_) fun H=>?_
   .refine wG [.w 63 (wi .i64 rfl hiv5 q4.1)] fun _=>?_
    exact wT (N46 _ H)
   .obtain ⟨y6,h6,H⟩:=bB H
    refine wG [.c 39 (Zmj h6),.c 45 (ZN6 v5.1 y6.1)] fun _=>?_
    refine Wh_iH H (fun H=>?_) fun H=>?_
    .refine wP ?_
     replace H:=sI H; subst H
     exact wN [(4,.d),(5,.d),(6,.d),(7,.d)] [(6,[])] [] [] [] []
    .refine wG [.w 63 (wi .i64 rfl hiv5 q4.1)] fun _=>?_
     exact wT (N46 _ H)
  .unfold Zb9 at H
   refine wP ?_
   refine wf (ltF l1.length) ?_
   refine wP ?_
   replace H:=sI H; subst H
   exact wN [(4,.d),(5,.d),(6,.d),(7,.d)] [(6,[])] [] [] [] []
def ZBh:L :=
.seq (rE 4 (cB false))
 (.seq (sR [mV 11 0,cQ 12 ZY5 [11],.un 13 (.t 12),mV 14 13,.g 14 false (mV 15 1),.g 14 false (cQ 16 Zj7 [15]),.g 14 false (.un 17 (.t 16)),.pk 18 (.t 14) (cB true) (.t 17)]
 (.cond (.t 18) (.seq (rE 4 (cB false))
 gR)
 .skip))
 (.seq (sR [mV 19 0,.ln 20 (.t 19),.mv 21 (kI 0)]
 (.blk 0 (.loop (.gw (sR [bI 22 .lss 21 20]
 (.seq (.cond (.t 22) .skip
 (.exit 0))
 (.seq (.blk 1 (sR [iA 23 19 21 6,lD 24 23 6 true,.al 6 [.str [],.int .i64 0,.int .i64 0,.int .i64 0,.int .i64 0,.int .i64 0],.st (.t 6) (.t 24) 6]
 (sR [mV 26 1,fA 27 6 0,lD 28 27 1 false,cQ 29 ZMb [26,28],mV 25 29,eX 30 25 0,eX 31 25 1,eX 32 25 2,eX 33 25 3,.al 9 [.int .i64 0,.int .i64 0,.int .i64 0],mV 7 30,mV 8 31,.st (.t 9) (.t 32) 3,mV 10 33]
 (sR [mV 34 10,.un 35 (.t 34),mV 36 35,.g 36 false (mV 37 7),.g 36 false (fA 38 6 1),.g 36 false (lD 39 38 1 false),.g 36 false (bI 40 .gtr 37 39),.pk 41 (.t 36) (cB true) (.t 40),mV 42 41,.g 42 false (mV 43 8),.g 42 false (fA 44 6 2),.g 42 false (lD 45 44 1 false),.g 42 false (bI 46 .gtr 43 45),.pk 47 (.t 42) (cB true) (.t 46),mV 48 47,.g 48 false (lD 49 9 3 true),.g 48 false (fA 50 6 3),.g 48 false (lD 51 50 3 true),.g 48 false (cQ 52 Zz4 [49,51]),.g 48 false (.un 53 (.t 52)),.pk 54 (.t 48) (cB true) (.t 53)]
 (.cond (.t 54) (.seq (rE 4 (cB false))
 gR)
 .skip)))))
 (.reg [.bi 55 .add (.t 21) (kI 1),mV 21 55]))))))))
 (.seq (rE 4 (cB true))
 gR)))
def ZB1 (l2:List Hold) (x6:Quota) (_:Nat) (_:Unit) (k6:Unit -> Option Bool):Option Bool :=
 (spec_HeldBy l2 x6.name).bind fun y7=>bif ((((!y7.2.2.2) || (decide (x6.jobs < y7.1))) || (decide (x6.nodes < y7.2.1))) || (!(spec_VecFits y7.2.2.1 x6.res))) then (some false) else (k6 ())
def Zm3 (_:Unit):Option Bool :=
 some true
def spec_Within (q1:List Quota) (l2:List Hold):Option Bool :=
 (spec_QuotasOk q1).bind fun b3=>(bif (!b3) then some default else (spec_HoldsOk l2)).bind fun b4=>bif ((!b3) || (!b4)) then (some false) else (rgl (ZB1 l2) Zm3 q1 0 ())
theorem ZLg {q1:List Quota} {l2:List Hold} {r:Bool} (H:spec_Within q1 l2 = some r):Snd Tryz.prog ZIb [.sl .rd 6 (q1.map Zj),.sl .rd 12 (l2.map eHold)] (.bool r) []:=by
 refine wS ZBh [.t 4] ?_
 unfold spec_Within at H
 obtain ⟨b3,h3,H⟩:=bB H
 obtain ⟨b4,h4,H⟩:=bB H
 refine wG [.c 12 (Zy8 h3),.g 16 [(_,false)] (.call _ _ _ _ _ (AEs.refl _) (fun q=>Z99 (bF q.1 h4)))] fun _=>?_
 refine Wh_iH H (fun H=>?_) fun H=>?_
 .refine wP ?_
  replace H:=sI H; subst H
  exact wE [(4,.d)]
 .refine wG [.u 20 (.ln _ _ fun _=>lm q1 Zj)] fun q5=>?_
  refine wR (fun (i6:Nat) (v6:Unit)=>⟨[(1,.sl .rd 12 (l2.map eHold)),(19,.sl .rd 6 (q1.map Zj)),(20,.int .i64 (q1.length:Int)),(21,.int .i64 (i6:Int))],[],[],[]⟩) H (fun i6 x6 v6 I m k6 hxv6 hiv6 H N29=>?_) (fun v6 I m H=>?_)
  .unfold ZB1 at H
   refine wP ?_
   refine wt (ltT hiv6) ?_
   obtain ⟨y7,h7,H⟩:=bB H
   refine wG [.u 23 (.ix _ _ _ fun _=>Z0 Zj (Z2 hxv6)),.c 29 (ZUg h7),.g 52 [((((!y7.2.2.2) || (decide (x6.jobs < y7.1))) || (decide (x6.nodes < y7.2.1))),false)] (.call _ _ _ _ _ (AEs.refl _) (fun _=>Z19 y7.2.2.1 x6.res))] fun _=>?_
   refine Wh_iH H (fun H=>?_) fun H=>?_
   .refine wP ?_
    replace H:=sI H; subst H
    exact wE [(4,.d)]
   .refine wG [.w 55 (wi .i64 rfl hiv6 q5.1)] fun _=>?_
    exact wT (N29 () H)
  .unfold Zm3 at H
   refine wP ?_
   refine wf (ltF q1.length) ?_
   refine wP ?_
   replace H:=sI H; subst H
   exact wE [(4,.d)]
def Zee:L :=
.seq (rE 2 (cB false))
 (.seq (sR [mV 5 0,.ln 6 (.t 5),.mv 7 (kI 0)]
 (.blk 0 (.loop (.gw (sR [bI 8 .lss 7 6]
 (.seq (.cond (.t 8) .skip
 (.exit 0))
 (.seq (.blk 1 (sR [mV 9 7,iA 10 5 7 6,lD 11 10 6 true,.al 4 [.str [],.int .i64 0,.int .i64 0,.int .i64 0,.int .i64 0,.int .i64 0],mV 3 9,.st (.t 4) (.t 11) 6]
 (.seq (.rq 37 [fA 12 4 0,lD 13 12 1 false,cQ 14 Zt5 [13],.un 15 (.t 14),mV 16 15,.g 16 false (fA 17 4 1),.g 16 false (lD 18 17 1 false),.g 16 false (.cq 19 Z5 [(.t 18),(kI 0),(kI 60)]),.g 16 false (.un 20 (.t 19)),.pk 21 (.t 16) (cB true) (.t 20),mV 22 21,.g 22 false (fA 23 4 2),.g 22 false (lD 24 23 1 false),.g 22 false (.cq 25 Z5 [(.t 24),(kI 0),(kI 1000000)]),.g 22 false (.un 26 (.t 25)),.pk 27 (.t 22) (cB true) (.t 26),mV 28 27,.g 28 false (fA 29 4 3),.g 28 false (lD 30 29 3 true),.g 28 false (cQ 31 Zu [30]),.g 28 false (.un 32 (.t 31)),.pk 33 (.t 28) (cB true) (.t 32),mV 34 33,.g 34 false (mV 35 3),.g 34 false (.bi 36 .gtr (.t 35) (kI 0)),.g 34 false (mV 37 36),.g 37 true (mV 38 0),.g 37 true (mV 39 3),.g 37 true (.bi 40 .sub (.t 39) (kI 1)),.g 37 true (iA 41 38 40 6),.g 37 true (fA 42 41 0),.g 37 true (lD 43 42 1 false),.g 37 true (fA 44 4 0),.g 37 true (lD 45 44 1 false),.g 37 true (bI 46 .geq 43 45),.g 34 false (.pk 47 (.t 37) (.t 46) (cB false)),.pk 48 (.t 34) (cB true) (.t 47)])
 (.cond (.t 48) (.seq (rE 2 (cB false))
 gR)
 .skip))))
 (.reg [.bi 49 .add (.t 7) (kI 1),mV 7 49]))))))))
 (sR [mV 50 0,.ln 51 (.t 50),.bi 52 .leq (.t 51) (kI 12),mV 2 52]
 gR))
def Z94 (l1:List Quota) (x3:Quota) (i3:Nat) (_:Unit) (k3:Unit -> Option Bool):Option Bool :=
 (impl_WordOk x3.name).bind fun b4=>(bif ((((!b4) || (!(impl_within x3.jobs 0 60))) || (!(impl_within x3.nodes 0 1000000))) || (!(impl_VecOk x3.res))) then some default else (bif (decide (0 < (i3:Int))) then (idx l1 (w64 ((i3:Int) - 1))) else some default)).bind fun e5=>bif (((((!b4) || (!(impl_within x3.jobs 0 60))) || (!(impl_within x3.nodes 0 1000000))) || (!(impl_VecOk x3.res))) || ((decide (0 < (i3:Int))) && (!(Op.bytesLess e5.name x3.name)))) then (some false) else (k3 ())
def ZJ7 (l1:List Quota) (_:Unit):Option Bool :=
 some (decide ((l1.length:Int) <= 12))
def impl_QuotasOk (l1:List Quota):Option Bool :=
 rgl (Z94 l1) (ZJ7 l1) l1 0 ()
theorem ZK8 {l1:List Quota} {r:Bool} (H:impl_QuotasOk l1 = some r):Snd Tryz.prog Z46 [.sl .rd 6 (l1.map Zj)] (.bool r) []:=by
 refine wS Zee [.t 2] ?_
 unfold impl_QuotasOk at H
 refine wG [.u 6 (.ln _ _ fun _=>lm l1 Zj)] fun q2=>?_
 refine wR (fun (i3:Nat) (v3:Unit)=>⟨[(0,.sl .rd 6 (l1.map Zj)),(5,.sl .rd 6 (l1.map Zj)),(6,.int .i64 (l1.length:Int)),(7,.int .i64 (i3:Int))],[],[],[]⟩) H (fun i3 x3 v3 I m k3 hxv3 hiv3 H N20=>?_) (fun v3 I m H=>?_)
 .unfold Z94 at H
  refine wP ?_
  refine wt (ltT hiv3) ?_
  obtain ⟨b4,h4,H⟩:=bB H
  obtain ⟨e5,h5,H⟩:=bB H
  refine wG [.u 10 (.ix _ _ _ fun _=>Z0 Zj (Z2 hxv3)),.c 14 (Z47 h4),.g 19 [((!b4),false)] (.call _ _ _ _ _ (AEs.refl _) (fun _=>Z3 x3.jobs 0 60)),.g 25 [(((!b4) || (!(impl_within x3.jobs 0 60))),false)] (.call _ _ _ _ _ (AEs.refl _) (fun _=>Z3 x3.nodes 0 1000000)),.g 31 [((((!b4) || (!(impl_within x3.jobs 0 60))) || (!(impl_within x3.nodes 0 1000000))),false)] (.call _ _ _ _ _ (AEs.refl _) (fun _=>Zv x3.res)),.g 41 [(_,true),(_,false)] (.ix _ _ _ fun q=>Z0 Zj (bT q.1 (bF q.2.1 h5)))] fun _=>?_
  refine Wh_iH H (fun H=>?_) fun H=>?_
  .refine wP ?_
   replace H:=sI H; subst H
   exact wE [(2,.d)]
  .refine wG [.w 49 (wi .i64 rfl hiv3 q2.1)] fun _=>?_
   exact wT (N20 () H)
 .unfold ZJ7 at H
  refine wP ?_
  refine wf (ltF l1.length) ?_
  refine wG [.u 51 (.ln _ _ fun _=>lm l1 Zj)] fun q6=>?_
  replace H:=sI H; subst H
  exact wE [(2,.d)]
def ZKc:L :=
sR [.bx 2 (.t 0),.mv 3 (cB false)]
 (sR [fA 4 2 1,fA 5 4 0,lD 6 5 1 false,fA 7 1 1,fA 8 7 0,lD 9 8 1 false,bI 10 .eql 6 9,mV 3 10]
 gR)
def Z53 (x1:Hold) (x2:Hold):Option Bool :=
 some (x1.job.id == x2.job.id)
theorem ZUa {x1:Hold} {x2:Hold} {r:Bool} (H:Z53 x1 x2 = some r):Snd Tryz.prog Zr1 [eHold x1,.ept (eHold x2) 0] (.bool r) []:=by
 refine wS ZKc [.t 3] ?_
 unfold Z53 at H
 refine wP ?_
 replace H:=sI H; subst H
 exact wE [(3,.d)]
def impl_HoldsOk_1 (x1:Hold) (x2:Hold):Bool :=
 (x1.job.id == x2.job.id)
theorem Zpe (x1:Hold) (x2:Hold):Z53 x1 x2 = some (impl_HoldsOk_1 x1 x2):=by
 unfold Z53 impl_HoldsOk_1
 first | rfl | simp only [Z7]
theorem ZSc (x1:Hold) (x2:Hold):Snd Tryz.prog Zr1 [eHold x1,.ept (eHold x2) 0] (.bool (impl_HoldsOk_1 x1 x2)) []:=ZUa (Zpe x1 x2)
def Z51:L :=
.seq (rE 4 (kI 0))
 (.seq (sR [mV 6 0,.ln 7 (.t 6),.mv 8 (kI 0)]
 (.blk 0 (.loop (.gw (sR [bI 9 .lss 8 7]
 (.seq (.cond (.t 9) .skip
 (.exit 0))
 (.seq (.blk 1 (sR [mV 10 8,mV 5 10]
 (sR [mV 11 1,mV 12 0,mV 13 5,iA 14 12 13 12,lD 15 14 12 true,.cc 16 (.t 11) [(.t 15)]]
 (.cond (.t 16) (sR [mV 17 5,mV 4 17]
 gR)
 .skip))))
 (.reg [.bi 18 .add (.t 8) (kI 1),mV 8 18]))))))))
 (.seq (rE 4 (kI (-1)))
 gR))
def Z9 (c2:Hold) (x4:Hold) (i4:Nat) (_:Unit) (k4:Unit -> Option Int):Option Int :=
 bif (impl_HoldsOk_1 x4 c2) then (some (i4:Int)) else (k4 ())
def Zi (_:Unit):Option Int :=
 some (-1)
def Zc (s1:List Hold) (c2:Hold):Option Int :=
 rgl (Z9 c2) Zi s1 0 ()
theorem Z41 {s1:List Hold} {c2:Hold} {r:Int} (H:Zc s1 c2 = some r):Snd Tryz.prog ZY [.sl .rd 12 (s1.map eHold),.fn Zr1 [.ept (eHold c2) 0]] (.int .i64 r) []:=by
 refine wS Z51 [.t 4] ?_
 unfold Zc at H
 refine wG [.u 7 (.ln _ _ fun _=>lm s1 eHold)] fun q3=>?_
 refine wR (fun (i4:Nat) (v4:Unit)=>⟨[(0,.sl .rd 12 (s1.map eHold)),(1,.fn Zr1 [.ept (eHold c2) 0]),(7,.int .i64 (s1.length:Int)),(8,.int .i64 (i4:Int))],[],[],[]⟩) H (fun i4 x4 v4 I m k4 hxv4 hiv4 H N20=>?_) (fun v4 I m H=>?_)
 .unfold Z9 at H
  refine wP ?_
  refine wt (ltT hiv4) ?_
  refine wG [.u 14 (.ix _ _ _ fun _=>Z0 eHold (Z2 hxv4)),.u 16 (.clsr _ _ _ _ _ (AEs.refl _) (by kernel_rfl) (fun _=>ZSc x4 c2))] fun _=>?_
  refine Wh_iH H (fun H=>?_) fun H=>?_
  .refine wP ?_
   replace H:=sI H; subst H
   exact wE [(4,.d)]
  .refine wG [.w 18 (wi .i64 rfl hiv4 q3.1)] fun _=>?_
   exact wT (N20 () H)
 .unfold Zi at H
  refine wP ?_
  refine wf (ltF s1.length) ?_
  refine wP ?_
  replace H:=sI H; subst H
  exact wE [(4,.d)]
def ZR:L :=
.seq (rE 4 (cB false))
 (sR [mV 5 0,mV 6 1,cQ 7 ZY [5,6],.bi 8 .geq (.t 7) (kI 0),mV 4 8]
 gR)
def Z4 (s1:List Hold) (c2:Hold):Option Bool :=
 (Zc s1 c2).bind fun n3=>some (decide (0 <= n3))
theorem ZP {s1:List Hold} {c2:Hold} {r:Bool} (H:Z4 s1 c2 = some r):Snd Tryz.prog ZK [.sl .rd 12 (s1.map eHold),.fn Zr1 [.ept (eHold c2) 0]] (.bool r) []:=by
 refine wS ZR [.t 4] ?_
 unfold Z4 at H
 obtain ⟨n3,h3,H⟩:=bB H
 refine wG [.c 7 (Z41 h3)] fun _=>?_
 replace H:=sI H; subst H
 exact wE [(4,.d)]
def Zfg:L :=
.seq (rE 2 (cB false))
 (.seq (sR [mV 5 0,.ln 6 (.t 5),.mv 7 (kI 0)]
 (.blk 0 (.loop (.gw (sR [bI 8 .lss 7 6]
 (.seq (.cond (.t 8) .skip
 (.exit 0))
 (.seq (.blk 1 (sR [mV 9 7,iA 10 5 7 12,lD 11 10 12 true,.al 4 [.str [],.int .i64 0,.int .i64 0,.int .i64 0,.int .i64 0,.int .i64 0,.int .i64 0,.int .i64 0,.int .i64 0,.int .i64 0,.int .i64 0,.int .i64 0],mV 3 9,.st (.t 4) (.t 11) 12]
 (sR [.fb 4,fA 12 4 0,lD 13 12 1 false,cQ 14 Zt5 [13],.un 15 (.t 14),mV 16 15,.g 16 false (fA 17 4 1),.g 16 false (lD 18 17 11 true),.g 16 false (cQ 19 Zk3 [18]),.g 16 false (.un 20 (.t 19)),.pk 21 (.t 16) (cB true) (.t 20),mV 22 21,.g 22 false (mV 23 0),.g 22 false (mV 24 3),.g 22 false (.sc 25 (.t 23) none (some (.t 24)) 12),.g 22 false (.mf 26 Zr1 [(.t 4)]),.g 22 false (cQ 27 ZK [25,26]),.pk 28 (.t 22) (cB true) (.t 27)]
 (.cond (.t 28) (.seq (rE 2 (cB false))
 gR)
 .skip))))
 (.reg [.bi 29 .add (.t 7) (kI 1),mV 7 29]))))))))
 (sR [mV 30 0,.ln 31 (.t 30),.bi 32 .leq (.t 31) (kI 60),mV 2 32]
 gR))
def Z43 (l1:List Hold) (x3:Hold) (i3:Nat) (_:Unit) (k3:Unit -> Option Bool):Option Bool :=
 (impl_WordOk x3.name).bind fun b4=>(bif ((!b4) || (!(impl_JobOk x3.job))) then some default else (cutL l1 none (some (i3:Int)))).bind fun xs5=>(bif ((!b4) || (!(impl_JobOk x3.job))) then some default else (Z4 xs5 x3)).bind fun b6=>bif (((!b4) || (!(impl_JobOk x3.job))) || b6) then (some false) else (k3 ())
def Z05 (l1:List Hold) (_:Unit):Option Bool :=
 some (decide ((l1.length:Int) <= 60))
def impl_HoldsOk (l1:List Hold):Option Bool :=
 rgl (Z43 l1) (Z05 l1) l1 0 ()
theorem Zs9 {l1:List Hold} {r:Bool} (H:impl_HoldsOk l1 = some r):Snd Tryz.prog Zw7 [.sl .rd 12 (l1.map eHold)] (.bool r) []:=by
 refine wS Zfg [.t 2] ?_
 unfold impl_HoldsOk at H
 refine wG [.u 6 (.ln _ _ fun _=>lm l1 eHold)] fun q2=>?_
 refine wR (fun (i3:Nat) (v3:Unit)=>⟨[(0,.sl .rd 12 (l1.map eHold)),(5,.sl .rd 12 (l1.map eHold)),(6,.int .i64 (l1.length:Int)),(7,.int .i64 (i3:Int))],[],[],[]⟩) H (fun i3 x3 v3 I m k3 hxv3 hiv3 H N20=>?_) (fun v3 I m H=>?_)
 .unfold Z43 at H
  refine wP ?_
  refine wt (ltT hiv3) ?_
  obtain ⟨b4,h4,H⟩:=bB H
  obtain ⟨xs5,h5,H⟩:=bB H
  obtain ⟨b6,h6,H⟩:=bB H
  refine wG [.u 10 (.ix _ _ _ fun _=>Z0 eHold (Z2 hxv3)),.c 14 (Z47 h4),.g 19 [((!b4),false)] (.call _ _ _ _ _ (AEs.refl _) (fun _=>Zn5 x3.job)),.g 25 [(_,false)] (.sc _ _ _ _ fun q=>ZCe eHold (bF q.1 h5)),.g 27 [(_,false)] (.call _ _ _ _ _ (AEs.refl _) (fun q=>ZP (bF q.1 h6)))] fun _=>?_
  refine Wh_iH H (fun H=>?_) fun H=>?_
  .refine wP ?_
   replace H:=sI H; subst H
   exact wE [(2,.d)]
  .refine wG [.w 29 (wi .i64 rfl hiv3 q2.1)] fun _=>?_
   exact wT (N20 () H)
 .unfold Z05 at H
  refine wP ?_
  refine wf (ltF l1.length) ?_
  refine wG [.u 31 (.ln _ _ fun _=>lm l1 eHold)] fun q7=>?_
  replace H:=sI H; subst H
  exact wE [(2,.d)]
def Zqk:L :=
sR [.bx 2 (.t 0),.al 4 [.int .i64 0,.int .i64 0,.int .i64 0],.mv 5 (cB false)]
 (.seq (sR [lD 8 2 3 true,cQ 9 Zu [8],.un 10 (.t 9),mV 11 10,.g 11 false (mV 12 1),.g 11 false (.bi 13 .lss (.t 12) (kI 0)),.pk 14 (.t 11) (cB true) (.t 13)]
 (.cond (.t 14) (sR [.bd 15 [.int .i64 0,.int .i64 0,.int .i64 0] [],.st (.t 4) (.t 15) 3,.mv 5 (cB false)]
 gR)
 .skip))
 (.seq (sR [fA 16 2 0,lD 17 16 1 false,fA 18 2 1,lD 19 18 1 false,fA 20 2 2,lD 21 20 1 false,.bs 22 1 [(.t 17),(.t 19),(.t 21)] false,.ln 23 (.t 22),.mv 24 (kI 0)]
 (.blk 0 (.loop (.gw (sR [bI 25 .lss 24 23]
 (.seq (.cond (.t 25) .skip
 (.exit 0))
 (.seq (.blk 1 (sR [iA 26 22 24 1,lD 27 26 1 false,mV 7 27]
 (sR [mV 28 7,.bi 29 .gtr (.t 28) (kI 0),mV 30 29,.g 30 true (mV 31 1),.g 30 true (mV 32 7),.g 30 true (.bi 33 .quo (kI 1000000) (.t 32)),.g 30 true (bI 34 .gtr 31 33),.pk 35 (.t 30) (.t 34) (cB false)]
 (.cond (.t 35) (sR [.bd 36 [.int .i64 0,.int .i64 0,.int .i64 0] [],.st (.t 4) (.t 36) 3,.mv 5 (cB false)]
 gR)
 .skip))))
 (.reg [.bi 37 .add (.t 24) (kI 1),mV 24 37]))))))))
 (sR [fA 38 2 0,lD 39 38 1 false,mV 40 1,bI 41 .mul 39 40,fA 42 2 1,lD 43 42 1 false,mV 44 1,bI 45 .mul 43 44,fA 46 2 2,lD 47 46 1 false,mV 48 1,bI 49 .mul 47 48,.bd 50 [.int .i64 0,.int .i64 0,.int .i64 0] [(0,1,(.t 41)),(1,1,(.t 45)),(2,1,(.t 49))],.st (.t 4) (.t 50) 3,.mv 5 (cB true)]
 gR)))
def Z87 (n2:Int) (x4:Int) (_:Nat) (_:Unit) (k4:Unit -> Option (Vec × Bool)):Option (Vec × Bool) :=
 (bif (decide (0 < x4)) then (quoI .i64 1000000 x4) else some default).bind fun n5=>bif ((decide (0 < x4)) && (decide (n5 < n2))) then (some ((Vec.mk 0 0 0),false)) else (k4 ())
def Z77 (v1:Vec) (n2:Int) (_:Unit):Option (Vec × Bool) :=
 some ((Vec.mk (w64 (v1.a * n2)) (w64 (v1.b * n2)) (w64 (v1.c * n2))),true)
def impl_Times (v1:Vec) (n2:Int):Option (Vec × Bool) :=
 bif ((!(impl_VecOk v1)) || (decide (n2 < 0))) then (some ((Vec.mk 0 0 0),false)) else (rgl (Z87 n2) (Z77 v1 n2) [v1.a,v1.b,v1.c] 0 ())
theorem ZKk {v1:Vec} {n2:Int} {r:Vec × Bool} (H:impl_Times v1 n2 = some r):Snd Tryz.prog Zid [eVec v1,.int .i64 n2] (.tup [eVec r.1,.bool r.2]) []:=by
 refine wS Zqk [.c 4 3 true,.t 5] ?_
 unfold impl_Times at H
 refine wG [.c 9 (Zv v1)] fun _=>?_
 refine Wh_iH H (fun H=>?_) fun H=>?_
 .refine wP ?_
  replace H:=sI H; subst H
  exact wN [(4,.d),(5,.d)] [(4,[])] [] [] [] []
 .refine wG [.u 23 (.ln _ _ fun _=>lm ([v1.a,v1.b,v1.c]:List Int) eI)] fun q3=>?_
  refine wR (fun (i4:Nat) (v4:Unit)=>⟨[(1,.int .i64 n2),(2,.ptr 2 0),(4,.ptr 4 0),(22,.sl .nw 1 (([v1.a,v1.b,v1.c]).map eI)),(23,.int .i64 (([v1.a,v1.b,v1.c]:List Int).length:Int)),(24,.int .i64 (i4:Int))],[],[(2,(eVec v1).cells),(4,(eVec (Vec.mk 0 0 0)).cells)],[]⟩) H (fun i4 x4 v4 I m k4 hxv4 hiv4 H N27=>?_) (fun v4 I m H=>?_)
  .unfold Z87 at H
   refine wP ?_
   refine wt (ltT hiv4) ?_
   obtain ⟨n5,h5,H⟩:=bB H
   refine wG [.u 26 (.ix _ _ _ fun _=>Z0 eI (Z2 hxv4)),.g 33 [(_,true)] (.quo _ _ _ _ fun q=>(bT q.1 h5))] fun _=>?_
   refine Wh_iH H (fun H=>?_) fun H=>?_
   .refine wP ?_
    replace H:=sI H; subst H
    exact wN [(4,.d),(5,.d)] [(4,[])] [] [] [] []
   .refine wG [.w 37 (wi .i64 rfl hiv4 q3.1)] fun _=>?_
    exact wT (N27 () H)
  .unfold Z77 at H
   refine wP ?_
   refine wf (ltF [v1.a,v1.b,v1.c].length) ?_
   refine wP ?_
   replace H:=sI H; subst H
   exact wN [(4,.d),(5,.d)] [(4,[])] [] [] [] []
def Zoi:L :=
sR [.mv 4 (kI 0),.mv 5 (kI 0),.al 6 [.int .i64 0,.int .i64 0,.int .i64 0],.mv 7 (cB false)]
 (.seq (sR [mV 17 0,cQ 18 Zw7 [17],.un 19 (.t 18)]
 (.cond (.t 19) (sR [.bd 20 [.int .i64 0,.int .i64 0,.int .i64 0] [],.mv 4 (kI 0),.mv 5 (kI 0),.st (.t 6) (.t 20) 3,.mv 7 (cB false)]
 gR)
 .skip))
 (sR [.bd 21 [.int .i64 0,.int .i64 0,.int .i64 0] [],.al 10 [.int .i64 0,.int .i64 0,.int .i64 0],.mv 8 (kI 0),.mv 9 (kI 0),.st (.t 10) (.t 21) 3]
 (.seq (sR [mV 22 0,.ln 23 (.t 22),.mv 24 (kI 0)]
 (.blk 0 (.loop (.gw (sR [bI 25 .lss 24 23]
 (.seq (.cond (.t 25) .skip
 (.exit 0))
 (.seq (.blk 1 (sR [iA 26 22 24 12,lD 27 26 12 true,.al 12 [.str [],.int .i64 0,.int .i64 0,.int .i64 0,.int .i64 0,.int .i64 0,.int .i64 0,.int .i64 0,.int .i64 0,.int .i64 0,.int .i64 0,.int .i64 0],.st (.t 12) (.t 27) 12]
 (.seq (sR [fA 28 12 0,lD 29 28 1 false,mV 30 1,bI 31 .neq 29 30]
 (.cond (.t 31) (.exit 1)
 .skip))
 (sR [fA 33 12 1,fA 34 33 3,lD 35 34 3 true,fA 36 12 1,fA 37 36 2,lD 38 37 1 false,cQ 39 Zid [35,38],mV 32 39,eX 40 32 0,eX 41 32 1,.al 13 [.int .i64 0,.int .i64 0,.int .i64 0],.st (.t 13) (.t 40) 3,mV 14 41]
 (sR [lD 43 10 3 true,lD 44 13 3 true,cQ 45 Zq8 [43,44],mV 42 45,eX 46 42 0,eX 47 42 1,.al 15 [.int .i64 0,.int .i64 0,.int .i64 0],.st (.t 15) (.t 46) 3,mV 16 47]
 (.seq (sR [mV 48 14,.un 49 (.t 48),mV 50 49,.g 50 false (mV 51 16),.g 50 false (.un 52 (.t 51)),.pk 53 (.t 50) (cB true) (.t 52)]
 (.cond (.t 53) (sR [.bd 54 [.int .i64 0,.int .i64 0,.int .i64 0] [],.mv 4 (kI 0),.mv 5 (kI 0),.st (.t 6) (.t 54) 3,.mv 7 (cB false)]
 gR)
 .skip))
 (sR [mV 55 8,.bi 56 .add (.t 55) (kI 1),mV 8 56]
 (sR [mV 57 9,fA 58 12 1,fA 59 58 2,lD 60 59 1 false,bI 61 .add 57 60,mV 9 61]
 (.reg [lD 62 15 3 true,.st (.t 10) (.t 62) 3])))))))))
 (.reg [.bi 63 .add (.t 24) (kI 1),mV 24 63]))))))))
 (.seq (.rq 5 [mV 64 8,mV 65 9,lD 66 10 3 true,mV 4 64,mV 5 65,.st (.t 6) (.t 66) 3,.mv 7 (cB true)])
 gR))))
def ZS5 (name2:Str) (x5:Hold) (_:Nat) (v5:Vec × Int × Int) (k5:(Vec × Int × Int) -> Option (Int × Int × Vec × Bool)):Option (Int × Int × Vec × Bool) :=
 bif (x5.name != name2) then (k5 (v5.1,v5.2.1,v5.2.2)) else ((impl_Times x5.job.need x5.job.nodes).bind fun y6=>bif ((!y6.2) || (!(impl_VecAdd v5.1 y6.1).2)) then (some (0,0,(Vec.mk 0 0 0),false)) else (k5 (((impl_VecAdd v5.1 y6.1).1),(w64 (v5.2.1 + 1)),(w64 (v5.2.2 + x5.job.nodes)))))
def Zu9 (v5:Vec × Int × Int):Option (Int × Int × Vec × Bool) :=
 some (v5.2.1,v5.2.2,v5.1,true)
def impl_HeldBy (l1:List Hold) (name2:Str):Option (Int × Int × Vec × Bool) :=
 (impl_HoldsOk l1).bind fun b3=>bif (!b3) then (some (0,0,(Vec.mk 0 0 0),false)) else (rgl (ZS5 name2) Zu9 l1 0 ((Vec.mk 0 0 0),0,0))
theorem ZFi {l1:List Hold} {name2:Str} {r:Int × Int × Vec × Bool} (H:impl_HeldBy l1 name2 = some r):Snd Tryz.prog Z6c [.sl .rd 12 (l1.map eHold),.str name2] (.tup [.int .i64 r.1,.int .i64 r.2.1,eVec r.2.2.1,.bool r.2.2.2]) []:=by
 refine wS Zoi [.t 4,.t 5,.c 6 3 true,.t 7] ?_
 unfold impl_HeldBy at H
 obtain ⟨b3,h3,H⟩:=bB H
 refine wG [.c 18 (Zs9 h3)] fun _=>?_
 refine Wh_iH H (fun H=>?_) fun H=>?_
 .refine wP ?_
  replace H:=sI H; subst H
  exact wN [(4,.d),(5,.d),(6,.d),(7,.d)] [(6,[])] [] [] [] []
 .refine wG [.u 23 (.ln _ _ fun _=>lm l1 eHold)] fun q4=>?_
  refine wR (fun (i5:Nat) (v5:Vec × Int × Int)=>⟨[(1,.str name2),(6,.ptr 6 0),(8,.int .i64 v5.2.1),(9,.int .i64 v5.2.2),(10,.ptr 10 0),(22,.sl .rd 12 (l1.map eHold)),(23,.int .i64 (l1.length:Int)),(24,.int .i64 (i5:Int))],[],[(6,(eVec (Vec.mk 0 0 0)).cells),(10,(eVec v5.1).cells)],[]⟩) H (fun i5 x5 v5 I m k5 hxv5 hiv5 H N44=>?_) (fun v5 I m H=>?_)
  .unfold ZS5 at H
   refine wP ?_
   refine wt (ltT hiv5) ?_
   refine wG [.u 26 (.ix _ _ _ fun _=>Z0 eHold (Z2 hxv5))] fun _=>?_
   refine Wh_iH H (fun H=>?_) fun H=>?_
   .refine wG [.w 63 (wi .i64 rfl hiv5 q4.1)] fun _=>?_
    exact wT (N44 _ H)
   .obtain ⟨y6,h6,H⟩:=bB H
    refine wG [.c 39 (ZKk h6),.c 45 (Zxi v5.1 y6.1)] fun _=>?_
    refine Wh_iH H (fun H=>?_) fun H=>?_
    .refine wP ?_
     replace H:=sI H; subst H
     exact wN [(4,.d),(5,.d),(6,.d),(7,.d)] [(6,[])] [] [] [] []
    .refine wG [.w 63 (wi .i64 rfl hiv5 q4.1)] fun _=>?_
     exact wT (N44 _ H)
  .unfold Zu9 at H
   refine wP ?_
   refine wf (ltF l1.length) ?_
   refine wP ?_
   replace H:=sI H; subst H
   exact wN [(4,.d),(5,.d),(6,.d),(7,.d)] [(6,[])] [] [] [] []
def Zgi:L :=
.seq (rE 4 (cB false))
 (.seq (sR [mV 11 0,cQ 12 Z46 [11],.un 13 (.t 12),mV 14 13,.g 14 false (mV 15 1),.g 14 false (cQ 16 Zw7 [15]),.g 14 false (.un 17 (.t 16)),.pk 18 (.t 14) (cB true) (.t 17)]
 (.cond (.t 18) (.seq (rE 4 (cB false))
 gR)
 .skip))
 (.seq (sR [mV 19 0,.ln 20 (.t 19),.mv 21 (kI 0)]
 (.blk 0 (.loop (.gw (sR [bI 22 .lss 21 20]
 (.seq (.cond (.t 22) .skip
 (.exit 0))
 (.seq (.blk 1 (sR [iA 23 19 21 6,lD 24 23 6 true,.al 6 [.str [],.int .i64 0,.int .i64 0,.int .i64 0,.int .i64 0,.int .i64 0],.st (.t 6) (.t 24) 6]
 (sR [mV 26 1,fA 27 6 0,lD 28 27 1 false,cQ 29 Z6c [26,28],mV 25 29,eX 30 25 0,eX 31 25 1,eX 32 25 2,eX 33 25 3,.al 9 [.int .i64 0,.int .i64 0,.int .i64 0],mV 7 30,mV 8 31,.st (.t 9) (.t 32) 3,mV 10 33]
 (sR [mV 34 10,.un 35 (.t 34),mV 36 35,.g 36 false (mV 37 7),.g 36 false (fA 38 6 1),.g 36 false (lD 39 38 1 false),.g 36 false (bI 40 .gtr 37 39),.pk 41 (.t 36) (cB true) (.t 40),mV 42 41,.g 42 false (mV 43 8),.g 42 false (fA 44 6 2),.g 42 false (lD 45 44 1 false),.g 42 false (bI 46 .gtr 43 45),.pk 47 (.t 42) (cB true) (.t 46),mV 48 47,.g 48 false (lD 49 9 3 true),.g 48 false (fA 50 6 3),.g 48 false (lD 51 50 3 true),.g 48 false (cQ 52 Zu7 [49,51]),.g 48 false (.un 53 (.t 52)),.pk 54 (.t 48) (cB true) (.t 53)]
 (.cond (.t 54) (.seq (rE 4 (cB false))
 gR)
 .skip)))))
 (.reg [.bi 55 .add (.t 21) (kI 1),mV 21 55]))))))))
 (.seq (rE 4 (cB true))
 gR)))
def ZH3 (l2:List Hold) (x6:Quota) (_:Nat) (_:Unit) (k6:Unit -> Option Bool):Option Bool :=
 (impl_HeldBy l2 x6.name).bind fun y7=>bif ((((!y7.2.2.2) || (decide (x6.jobs < y7.1))) || (decide (x6.nodes < y7.2.1))) || (!(impl_VecFits y7.2.2.1 x6.res))) then (some false) else (k6 ())
def ZO5 (_:Unit):Option Bool :=
 some true
def impl_Within (q1:List Quota) (l2:List Hold):Option Bool :=
 (impl_QuotasOk q1).bind fun b3=>(bif (!b3) then some default else (impl_HoldsOk l2)).bind fun b4=>bif ((!b3) || (!b4)) then (some false) else (rgl (ZH3 l2) ZO5 q1 0 ())
theorem Zti {q1:List Quota} {l2:List Hold} {r:Bool} (H:impl_Within q1 l2 = some r):Snd Tryz.prog Z2c [.sl .rd 6 (q1.map Zj),.sl .rd 12 (l2.map eHold)] (.bool r) []:=by
 refine wS Zgi [.t 4] ?_
 unfold impl_Within at H
 obtain ⟨b3,h3,H⟩:=bB H
 obtain ⟨b4,h4,H⟩:=bB H
 refine wG [.c 12 (ZK8 h3),.g 16 [(_,false)] (.call _ _ _ _ _ (AEs.refl _) (fun q=>Zs9 (bF q.1 h4)))] fun _=>?_
 refine Wh_iH H (fun H=>?_) fun H=>?_
 .refine wP ?_
  replace H:=sI H; subst H
  exact wE [(4,.d)]
 .refine wG [.u 20 (.ln _ _ fun _=>lm q1 Zj)] fun q5=>?_
  refine wR (fun (i6:Nat) (v6:Unit)=>⟨[(1,.sl .rd 12 (l2.map eHold)),(19,.sl .rd 6 (q1.map Zj)),(20,.int .i64 (q1.length:Int)),(21,.int .i64 (i6:Int))],[],[],[]⟩) H (fun i6 x6 v6 I m k6 hxv6 hiv6 H N29=>?_) (fun v6 I m H=>?_)
  .unfold ZH3 at H
   refine wP ?_
   refine wt (ltT hiv6) ?_
   obtain ⟨y7,h7,H⟩:=bB H
   refine wG [.u 23 (.ix _ _ _ fun _=>Z0 Zj (Z2 hxv6)),.c 29 (ZFi h7),.g 52 [((((!y7.2.2.2) || (decide (x6.jobs < y7.1))) || (decide (x6.nodes < y7.2.1))),false)] (.call _ _ _ _ _ (AEs.refl _) (fun _=>Zkg y7.2.2.1 x6.res))] fun _=>?_
   refine Wh_iH H (fun H=>?_) fun H=>?_
   .refine wP ?_
    replace H:=sI H; subst H
    exact wE [(4,.d)]
   .refine wG [.w 55 (wi .i64 rfl hiv6 q5.1)] fun _=>?_
    exact wT (N29 () H)
  .unfold ZO5 at H
   refine wP ?_
   refine wf (ltF q1.length) ?_
   refine wP ?_
   replace H:=sI H; subst H
   exact wE [(4,.d)]
def ZVd:L :=
sR [.mv 4 (.c (.str [])),.mv 5 (cB false)]
 (.seq (sR [mV 8 0,.ln 9 (.t 8),.mv 10 (kI 0)]
 (.blk 0 (.loop (.gw (sR [bI 11 .lss 10 9]
 (.seq (.cond (.t 11) .skip
 (.exit 0))
 (.seq (.blk 1 (sR [iA 12 8 10 2,lD 13 12 2 true,.al 7 [.int .i64 0,.str []],.st (.t 7) (.t 13) 2]
 (sR [fA 14 7 0,lD 15 14 1 false,mV 16 1,bI 17 .eql 15 16]
 (.cond (.t 17) (sR [fA 18 7 1,lD 19 18 1 false,mV 4 19,.mv 5 (cB true)]
 gR)
 .skip))))
 (.reg [.bi 20 .add (.t 10) (kI 1),mV 10 20]))))))))
 (sR [.mv 4 (.c (.str [])),.mv 5 (cB false)]
 gR))
def ZV3 (id2:Int) (x4:Owner) (_:Nat) (_:Unit) (k4:Unit -> Option (Str × Bool)):Option (Str × Bool) :=
 bif (x4.id == id2) then (some (x4.name,true)) else (k4 ())
def Zz7 (_:Unit):Option (Str × Bool) :=
 some (([]:Str),false)
def spec_l17Owner (owners1:List Owner) (id2:Int):Option (Str × Bool) :=
 rgl (ZV3 id2) Zz7 owners1 0 ()
theorem Zs8 {owners1:List Owner} {id2:Int} {r:Str × Bool} (H:spec_l17Owner owners1 id2 = some r):Snd Tryz.prog ZW5 [.sl .rd 2 (owners1.map Zp),.int .i64 id2] (.tup [.str r.1,.bool r.2]) []:=by
 refine wS ZVd [.t 4,.t 5] ?_
 unfold spec_l17Owner at H
 refine wG [.u 9 (.ln _ _ fun _=>lm owners1 Zp)] fun q3=>?_
 refine wR (fun (i4:Nat) (v4:Unit)=>⟨[(1,.int .i64 id2),(8,.sl .rd 2 (owners1.map Zp)),(9,.int .i64 (owners1.length:Int)),(10,.int .i64 (i4:Int))],[],[],[]⟩) H (fun i4 x4 v4 I m k4 hxv4 hiv4 H N20=>?_) (fun v4 I m H=>?_)
 .unfold ZV3 at H
  refine wP ?_
  refine wt (ltT hiv4) ?_
  refine wG [.u 12 (.ix _ _ _ fun _=>Z0 Zp (Z2 hxv4))] fun _=>?_
  refine Wh_iH H (fun H=>?_) fun H=>?_
  .refine wP ?_
   replace H:=sI H; subst H
   exact wE [(4,.d),(5,.d)]
  .refine wG [.w 20 (wi .i64 rfl hiv4 q3.1)] fun _=>?_
   exact wT (N20 () H)
 .unfold Zz7 at H
  refine wP ?_
  refine wf (ltF owners1.length) ?_
  refine wP ?_
  replace H:=sI H; subst H
  exact wE [(4,.d),(5,.d)]
def Z8g:L :=
sR [.mv 4 (.c (.str [])),.mv 5 (cB false)]
 (.seq (sR [mV 8 0,.ln 9 (.t 8),.mv 10 (kI 0)]
 (.blk 0 (.loop (.gw (sR [bI 11 .lss 10 9]
 (.seq (.cond (.t 11) .skip
 (.exit 0))
 (.seq (.blk 1 (sR [iA 12 8 10 2,lD 13 12 2 true,.al 7 [.int .i64 0,.str []],.st (.t 7) (.t 13) 2]
 (sR [fA 14 7 0,lD 15 14 1 false,mV 16 1,bI 17 .eql 15 16]
 (.cond (.t 17) (sR [fA 18 7 1,lD 19 18 1 false,mV 4 19,.mv 5 (cB true)]
 gR)
 .skip))))
 (.reg [.bi 20 .add (.t 10) (kI 1),mV 10 20]))))))))
 (sR [.mv 4 (.c (.str [])),.mv 5 (cB false)]
 gR))
def ZF8 (id2:Int) (x4:Owner) (_:Nat) (_:Unit) (k4:Unit -> Option (Str × Bool)):Option (Str × Bool) :=
 bif (x4.id == id2) then (some (x4.name,true)) else (k4 ())
def ZE8 (_:Unit):Option (Str × Bool) :=
 some (([]:Str),false)
def impl_ownerOf (owners1:List Owner) (id2:Int):Option (Str × Bool) :=
 rgl (ZF8 id2) ZE8 owners1 0 ()
theorem Zi9 {owners1:List Owner} {id2:Int} {r:Str × Bool} (H:impl_ownerOf owners1 id2 = some r):Snd Tryz.prog Zt7 [.sl .rd 2 (owners1.map Zp),.int .i64 id2] (.tup [.str r.1,.bool r.2]) []:=by
 refine wS Z8g [.t 4,.t 5] ?_
 unfold impl_ownerOf at H
 refine wG [.u 9 (.ln _ _ fun _=>lm owners1 Zp)] fun q3=>?_
 refine wR (fun (i4:Nat) (v4:Unit)=>⟨[(1,.int .i64 id2),(8,.sl .rd 2 (owners1.map Zp)),(9,.int .i64 (owners1.length:Int)),(10,.int .i64 (i4:Int))],[],[],[]⟩) H (fun i4 x4 v4 I m k4 hxv4 hiv4 H N20=>?_) (fun v4 I m H=>?_)
 .unfold ZF8 at H
  refine wP ?_
  refine wt (ltT hiv4) ?_
  refine wG [.u 12 (.ix _ _ _ fun _=>Z0 Zp (Z2 hxv4))] fun _=>?_
  refine Wh_iH H (fun H=>?_) fun H=>?_
  .refine wP ?_
   replace H:=sI H; subst H
   exact wE [(4,.d),(5,.d)]
  .refine wG [.w 20 (wi .i64 rfl hiv4 q3.1)] fun _=>?_
   exact wT (N20 () H)
 .unfold ZE8 at H
  refine wP ?_
  refine wf (ltF owners1.length) ?_
  refine wP ?_
  replace H:=sI H; subst H
  exact wE [(4,.d),(5,.d)]
def ZSf:L :=
sR [.bx 1 (.t 0),.mv 2 (.c (.nl))]
 (sR [.bs 8 12 [] true,mV 3 8]
 (.seq (sR [fA 9 1 0,lD 10 9 11 true,cQ 11 Zy4 [10],.ln 12 (.t 11),.mv 13 (kI 0)]
 (.blk 0 (.loop (.gw (sR [bI 14 .lss 13 12]
 (.seq (.cond (.t 14) .skip
 (.exit 0))
 (.seq (.blk 1 (sR [iA 15 11 13 11,lD 16 15 11 true,.al 5 [.int .i64 0,.int .i64 0,.int .i64 0,.int .i64 0,.int .i64 0,.int .i64 0,.int .i64 0,.int .i64 0,.int .i64 0,.int .i64 0,.int .i64 0],.st (.t 5) (.t 16) 11]
 (sR [fA 18 1 14,lD 19 18 1 false,fA 20 5 0,lD 21 20 1 false,cQ 22 ZW5 [19,21],mV 17 22,eX 23 17 0,eX 24 17 1,mV 6 23,mV 7 24]
 (sR [mV 25 7]
 (.cond (.t 25) (.reg [mV 26 3,mV 27 6,lD 28 5 11 true,.bd 29 [.str [],.int .i64 0,.int .i64 0,.int .i64 0,.int .i64 0,.int .i64 0,.int .i64 0,.int .i64 0,.int .i64 0,.int .i64 0,.int .i64 0,.int .i64 0] [(0,1,(.t 27)),(1,11,(.t 28))],.bs 30 12 [(.t 29)] false,.ap 31 (.t 26) (.t 30) 12 104,mV 3 31])
 .skip)))))
 (.reg [.bi 32 .add (.t 13) (kI 1),mV 13 32]))))))))
 (sR [mV 33 3,mV 2 33]
 gR)))
def ZR4 (d1:Desk) (x4:Job) (_:Nat) (v4:(List Hold)) (k4:(List Hold) -> Option (List Hold)):Option (List Hold) :=
 (spec_l17Owner d1.owners x4.id).bind fun y5=>bif y5.2 then ((appL 104 v4 [(Hold.mk y5.1 x4)]).bind fun xs6=>k4 xs6) else (k4 v4)
def ZB8 (v4:(List Hold)):Option (List Hold) :=
 some v4
def spec_HoldsOf (d1:Desk):Option (List Hold) :=
 (spec_l06Jobs d1.state).bind fun y2=>rgl (ZR4 d1) ZB8 y2 0 []
theorem Za9 {d1:Desk} {r:(List Hold)} (H:spec_HoldsOf d1 = some r):Snd Tryz.prog Zk7 [Zh2 .rd d1] (.sl .nw 12 (r.map eHold)) []:=by
 refine wS ZSf [.t 2] ?_
 unfold spec_HoldsOf at H
 obtain ⟨y2,h2,H⟩:=bB H
 refine wG [.c 11 (Zy5 h2),.u 12 (.ln _ _ fun _=>lm y2 eJob)] fun q3=>?_
 refine wR (fun (i4:Nat) (v4:(List Hold))=>⟨[(1,.ptr 1 0),(3,.sref 8),(11,.sl .nw 11 (y2.map eJob)),(12,.int .i64 (y2.length:Int)),(13,.int .i64 (i4:Int))],[],[(1,(Zh2 .rd d1).cells)],[(8,⟨12,v4.map eHold,false⟩)]⟩) H (fun i4 x4 v4 I m k4 hxv4 hiv4 H N21=>?_) (fun v4 I m H=>?_)
 .unfold ZR4 at H
  refine wP ?_
  refine wt (ltT hiv4) ?_
  obtain ⟨y5,h5,H⟩:=bB H
  refine wG [.u 15 (.ix _ _ _ fun _=>Z0 eJob (Z2 hxv4)),.c 22 (Zs8 h5)] fun _=>?_
  refine Wh_iH H (fun H=>?_) fun H=>?_
  .obtain ⟨xs6,h6,H⟩:=bB H
   refine wG [.u 31 (.ap _ _ _ _ fun _=>Zq eHold h6),.w 32 (wi .i64 rfl hiv4 q3.1)] fun _=>?_
   exact wT (N21 _ H)
  .refine wG [.w 32 (wi .i64 rfl hiv4 q3.1)] fun _=>?_
   exact wT (N21 _ H)
 .unfold ZB8 at H
  refine wP ?_
  refine wf (ltF y2.length) ?_
  refine wP ?_
  replace H:=sI H; subst H
  exact wN [(2,.f)] [] [] [8] [] [⟨_,Z2o v4⟩]
def ZLh:L :=
sR [.bx 1 (.t 0),.mv 2 (cB false)]
 (.seq (sR [fA 7 1 0,lD 8 7 11 true,cQ 9 Zra [8],.un 10 (.t 9),mV 11 10,.g 11 false (fA 12 1 11),.g 11 false (lD 13 12 1 false),.g 11 false (cQ 14 Zb4 [13]),.g 11 false (.un 15 (.t 14)),.pk 16 (.t 11) (cB true) (.t 15),mV 17 16,.g 17 false (fA 18 1 12),.g 17 false (lD 19 18 1 false),.g 17 false (cQ 20 ZY5 [19]),.g 17 false (.un 21 (.t 20)),.pk 22 (.t 17) (cB true) (.t 21),mV 23 22,.g 23 false (fA 24 1 13),.g 23 false (lD 25 24 1 false),.g 23 false (cQ 26 Ze8 [25]),.g 23 false (.un 27 (.t 26)),.pk 28 (.t 23) (cB true) (.t 27),mV 29 28,.g 29 false (fA 30 1 13),.g 29 false (lD 31 30 1 false),.g 29 false (cQ 32 Zbd [31]),.pk 33 (.t 29) (cB true) (.t 32)]
 (.cond (.t 33) (.seq (rE 2 (cB false))
 gR)
 .skip))
 (.seq (sR [fA 34 1 0,lD 35 34 11 true,cQ 36 Zy4 [35],.ln 37 (.t 36),.mv 38 (kI 0)]
 (.blk 0 (.loop (.gw (sR [bI 39 .lss 38 37]
 (.seq (.cond (.t 39) .skip
 (.exit 0))
 (.seq (.blk 1 (sR [iA 40 36 38 11,lD 41 40 11 true,.al 4 [.int .i64 0,.int .i64 0,.int .i64 0,.int .i64 0,.int .i64 0,.int .i64 0,.int .i64 0,.int .i64 0,.int .i64 0,.int .i64 0,.int .i64 0],.st (.t 4) (.t 41) 11]
 (sR [fA 43 1 14,lD 44 43 1 false,fA 45 4 0,lD 46 45 1 false,cQ 47 ZW5 [44,46],mV 42 47,eX 48 42 0,eX 49 42 1,mV 5 48,mV 6 49]
 (sR [mV 50 6,.un 51 (.t 50),mV 52 51,.g 52 false (fA 53 1 11),.g 52 false (lD 54 53 1 false),.g 52 false (mV 55 5),.g 52 false (cQ 56 ZQ8 [54,55]),.g 52 false (.bi 57 .lss (.t 56) (kI 0)),.pk 58 (.t 52) (cB true) (.t 57)]
 (.cond (.t 58) (.seq (rE 2 (cB false))
 gR)
 .skip)))))
 (.reg [.bi 59 .add (.t 38) (kI 1),mV 38 59]))))))))
 (.seq (.rq 6 [fA 60 1 12,lD 61 60 1 false,lD 62 1 15 true,cQ 63 Zk7 [62],cQ 64 ZIb [61,63],mV 2 64])
 gR)))
def ZH (d1:Desk) (x9:Job) (_:Nat) (_:Unit) (k9:Unit -> Option Bool):Option Bool :=
 (spec_l17Owner d1.owners x9.id).bind fun y10=>(bif (!y10.2) then some default else (spec_AccountAt d1.accounts y10.1)).bind fun n11=>bif ((!y10.2) || (decide (n11 < 0))) then (some false) else (k9 ())
def Zk1 (d1:Desk) (_:Unit):Option Bool :=
 (spec_HoldsOf d1).bind fun y12=>(spec_Within d1.quotas y12).bind fun b13=>some b13
def spec_DeskOk (d1:Desk):Option Bool :=
 (spec_StateOk d1.state).bind fun b2=>(bif (!b2) then some default else (spec_AccountsOk d1.accounts)).bind fun b3=>(bif ((!b2) || (!b3)) then some default else (spec_QuotasOk d1.quotas)).bind fun b4=>(bif (((!b2) || (!b3)) || (!b4)) then some default else (spec_DepsOk d1.deps)).bind fun b5=>(bif ((((!b2) || (!b3)) || (!b4)) || (!b5)) then some default else (spec_Round d1.deps)).bind fun b6=>bif (((((!b2) || (!b3)) || (!b4)) || (!b5)) || b6) then (some false) else ((spec_l06Jobs d1.state).bind fun y7=>rgl (ZH d1) (Zk1 d1) y7 0 ())
theorem ZVg {d1:Desk} {r:Bool} (H:spec_DeskOk d1 = some r):Snd Tryz.prog ZNb [Zh2 .rd d1] (.bool r) []:=by
 refine wS ZLh [.t 2] ?_
 unfold spec_DeskOk at H
 obtain ⟨b2,h2,H⟩:=bB H
 obtain ⟨b3,h3,H⟩:=bB H
 obtain ⟨b4,h4,H⟩:=bB H
 obtain ⟨b5,h5,H⟩:=bB H
 obtain ⟨b6,h6,H⟩:=bB H
 refine wG [.c 9 (ZOe h2),.g 14 [(_,false)] (.call _ _ _ _ _ (AEs.refl _) (fun q=>Zb6 (bF q.1 h3))),.g 20 [(_,false)] (.call _ _ _ _ _ (AEs.refl _) (fun q=>Zy8 (bF q.1 h4))),.g 26 [(_,false)] (.call _ _ _ _ _ (AEs.refl _) (fun q=>Zea (bF q.1 h5))),.g 32 [(_,false)] (.call _ _ _ _ _ (AEs.refl _) (fun q=>Znj (bF q.1 h6)))] fun _=>?_
 refine Wh_iH H (fun H=>?_) fun H=>?_
 .refine wP ?_
  replace H:=sI H; subst H
  exact wE [(2,.d)]
 .obtain ⟨y7,h7,H⟩:=bB H
  refine wG [.c 36 (Zy5 h7),.u 37 (.ln _ _ fun _=>lm y7 eJob)] fun q8=>?_
  refine wR (fun (i9:Nat) (v9:Unit)=>⟨[(1,.ptr 1 0),(36,.sl .nw 11 (y7.map eJob)),(37,.int .i64 (y7.length:Int)),(38,.int .i64 (i9:Int))],[],[(1,(Zh2 .rd d1).cells)],[]⟩) H (fun i9 x9 v9 I m k9 hxv9 hiv9 H N29=>?_) (fun v9 I m H=>?_)
  .unfold ZH at H
   refine wP ?_
   refine wt (ltT hiv9) ?_
   obtain ⟨y10,h10,H⟩:=bB H
   obtain ⟨n11,h11,H⟩:=bB H
   refine wG [.u 40 (.ix _ _ _ fun _=>Z0 eJob (Z2 hxv9)),.c 47 (Zs8 h10),.g 56 [(_,false)] (.call _ _ _ _ _ (AEs.refl _) (fun q=>Zhc (bF q.1 h11)))] fun _=>?_
   refine Wh_iH H (fun H=>?_) fun H=>?_
   .refine wP ?_
    replace H:=sI H; subst H
    exact wE [(2,.d)]
   .refine wG [.w 59 (wi .i64 rfl hiv9 q8.1)] fun _=>?_
    exact wT (N29 () H)
  .unfold Zk1 at H
   refine wP ?_
   refine wf (ltF y7.length) ?_
   obtain ⟨y12,h12,H⟩:=bB H
   obtain ⟨b13,h13,H⟩:=bB H
   refine wG [.c 63 (Za9 h12),.c 64 (ZLg h13)] fun _=>?_
   replace H:=sI H; subst H
   exact wE [(2,.d)]
def Zpb:L :=
sR [.bx 1 (.t 0),.mv 2 (.c (.str []))]
 (sR [.mv 3 (.c (.str []))]
 (.seq (sR [lD 9 1 15 true,cQ 10 ZNb [9],.un 11 (.t 10)]
 (.cond (.t 11) (sR [mV 12 3,mV 2 12]
 gR)
 .skip))
 (.seq (sR [fA 13 1 11,lD 14 13 1 false,.ln 15 (.t 14),.mv 16 (kI 0)]
 (.blk 0 (.loop (.gw (sR [bI 17 .lss 16 15]
 (.seq (.cond (.t 17) .skip
 (.exit 0))
 (.seq (.blk 1 (sR [iA 18 14 16 3,lD 19 18 3 true,.al 5 [.str [],.int .i64 0,.int .i64 0],.st (.t 5) (.t 19) 3]
 (.seq (rE 6 (kI 0))
 (.seq (sR [lD 20 1 15 true,cQ 21 Zk7 [20],.ln 22 (.t 21),.mv 23 (kI 0)]
 (.blk 2 (.loop (.gw (sR [bI 24 .lss 23 22]
 (.seq (.cond (.t 24) .skip
 (.exit 2))
 (.seq (.blk 3 (sR [iA 25 21 23 12,lD 26 25 12 true,.al 8 [.str [],.int .i64 0,.int .i64 0,.int .i64 0,.int .i64 0,.int .i64 0,.int .i64 0,.int .i64 0,.int .i64 0,.int .i64 0,.int .i64 0,.int .i64 0],.st (.t 8) (.t 26) 12]
 (sR [fA 27 8 0,lD 28 27 1 false,fA 29 5 0,lD 30 29 1 false,bI 31 .eql 28 30]
 (.cond (.t 31) (.reg [mV 32 6,.bi 33 .add (.t 32) (kI 1),mV 6 33])
 .skip))))
 (.reg [.bi 34 .add (.t 23) (kI 1),mV 23 34]))))))))
 (.rq 14 [mV 35 3,fA 36 5 0,lD 37 36 1 false,.sa 38 (.t 35) (.t 37),.sa 39 (.t 38) (.c (.str [32])),fA 40 5 2,lD 41 40 1 false,cQ 42 ZM2 [41],.sa 43 (.t 39) (.t 42),.sa 44 (.t 43) (.c (.str [32])),mV 45 6,cQ 46 ZM2 [45],.sa 47 (.t 44) (.t 46),.sa 48 (.t 47) (.c (.str [10])),mV 3 48])))))
 (.reg [.bi 49 .add (.t 16) (kI 1),mV 16 49]))))))))
 (sR [mV 50 3,mV 2 50]
 gR))))
def Za3 (x4:Account) (x7:Hold) (_:Nat) (v7:Int) (k7:Int -> Option Str):Option Str :=
 bif (x7.name == x4.name) then (k7 (w64 (v7 + 1))) else (k7 v7)
def Z83 (v4:Str) (x4:Account) (k4:Str -> Option Str) (v7:Int):Option Str :=
 (catS v4 x4.name).bind fun w8=>(catS w8 ([32]:Str)).bind fun w9=>(spec_NumText x4.used).bind fun w10=>(catS w9 w10).bind fun w11=>(catS w11 ([32]:Str)).bind fun w12=>(spec_NumText v7).bind fun w13=>(catS w12 w13).bind fun w14=>(catS w14 ([10]:Str)).bind fun w15=>k4 w15
def Z93 (d1:Desk) (x4:Account) (_:Nat) (v4:Str) (k4:Str -> Option Str):Option Str :=
 (spec_HoldsOf d1).bind fun y5=>rgl (Za3 x4) (Z83 v4 x4 k4) y5 0 0
def Z73 (v4:Str):Option Str :=
 some v4
def spec_DeskReport (d1:Desk):Option Str :=
 (spec_DeskOk d1).bind fun b2=>bif (!b2) then (some ([]:Str)) else (rgl (Z93 d1) Z73 d1.accounts 0 ([]:Str))
theorem Z6b {d1:Desk} {r:Str} (H:spec_DeskReport d1 = some r):Snd Tryz.prog ZP7 [Zh2 .rd d1] (.str r) []:=by
 refine wS Zpb [.t 2] ?_
 unfold spec_DeskReport at H
 obtain ⟨b2,h2,H⟩:=bB H
 refine wG [.c 10 (ZVg h2)] fun _=>?_
 refine Wh_iH H (fun H=>?_) fun H=>?_
 .refine wP ?_
  replace H:=sI H; subst H
  exact wE [(2,.d)]
 .refine wG [.u 15 (.ln _ _ fun _=>lm d1.accounts Z1)] fun q3=>?_
  refine wR (fun (i4:Nat) (v4:Str)=>⟨[(1,.ptr 1 0),(3,.str v4),(14,.sl .rd 3 (d1.accounts.map Z1)),(15,.int .i64 (d1.accounts.length:Int)),(16,.int .i64 (i4:Int))],[],[(1,(Zh2 .rd d1).cells)],[]⟩) H (fun i4 x4 v4 I m k4 hxv4 hiv4 H N45=>?_) (fun v4 I m H=>?_)
  .unfold Z93 at H
   refine wP ?_
   refine wt (ltT hiv4) ?_
   obtain ⟨y5,h5,H⟩:=bB H
   refine wG [.u 18 (.ix _ _ _ fun _=>Z0 Z1 (Z2 hxv4)),.c 21 (Za9 h5),.u 22 (.ln _ _ fun _=>lm y5 eHold)] fun q6=>?_
   refine wR (fun (i7:Nat) (v7:Int)=>⟨[(1,.ptr 1 0),(3,.str v4),(5,.ptr 5 0),(6,.int .i64 v7),(14,.sl .rd 3 (d1.accounts.map Z1)),(15,.int .i64 (d1.accounts.length:Int)),(16,.int .i64 (i4:Int)),(21,.sl .nw 12 (y5.map eHold)),(22,.int .i64 (y5.length:Int)),(23,.int .i64 (i7:Int))],[],[(1,(Zh2 .rd d1).cells),(5,(Z1 x4).cells)],[]⟩) H (fun i7 x7 v7 I m k7 hxv7 hiv7 H N33=>?_) (fun v7 I m H=>?_)
   .unfold Za3 at H
    refine wP ?_
    refine wt (ltT hiv7) ?_
    refine wG [.u 25 (.ix _ _ _ fun _=>Z0 eHold (Z2 hxv7))] fun _=>?_
    refine Wh_iH H (fun H=>?_) fun H=>?_
    .refine wG [.w 34 (wi .i64 rfl hiv7 q6.1)] fun _=>?_
     exact wT (N33 _ H)
    .refine wG [.w 34 (wi .i64 rfl hiv7 q6.1)] fun _=>?_
     exact wT (N33 _ H)
   .unfold Z83 at H
    refine wP ?_
    refine wf (ltF y5.length) ?_
    obtain ⟨w8,h8,H⟩:=bB H
    obtain ⟨w9,h9,H⟩:=bB H
    obtain ⟨w10,h10,H⟩:=bB H
    obtain ⟨w11,h11,H⟩:=bB H
    obtain ⟨w12,h12,H⟩:=bB H
    obtain ⟨w13,h13,H⟩:=bB H
    obtain ⟨w14,h14,H⟩:=bB H
    obtain ⟨w15,h15,H⟩:=bB H
    refine wG [.u 38 (.sa _ _ _ fun _=>h8),.u 39 (.sa _ _ _ fun _=>h9),.c 42 (Z79 h10),.u 43 (.sa _ _ _ fun _=>h11),.u 44 (.sa _ _ _ fun _=>h12),.c 46 (Z79 h13),.u 47 (.sa _ _ _ fun _=>h14),.u 48 (.sa _ _ _ fun _=>h15),.w 49 (wi .i64 rfl hiv4 q3.1)] fun _=>?_
    exact wT (N45 _ H)
  .unfold Z73 at H
   refine wP ?_
   refine wf (ltF d1.accounts.length) ?_
   refine wP ?_
   replace H:=sI H; subst H
   exact wE [(2,.d)]
def Zgg:L :=
sR [.bx 1 (.t 0),.mv 2 (.c (.nl))]
 (sR [.bs 8 12 [] true,mV 3 8]
 (.seq (sR [fA 9 1 0,lD 10 9 11 true,cQ 11 Z63 [10],.ln 12 (.t 11),.mv 13 (kI 0)]
 (.blk 0 (.loop (.gw (sR [bI 14 .lss 13 12]
 (.seq (.cond (.t 14) .skip
 (.exit 0))
 (.seq (.blk 1 (sR [iA 15 11 13 11,lD 16 15 11 true,.al 5 [.int .i64 0,.int .i64 0,.int .i64 0,.int .i64 0,.int .i64 0,.int .i64 0,.int .i64 0,.int .i64 0,.int .i64 0,.int .i64 0,.int .i64 0],.st (.t 5) (.t 16) 11]
 (sR [fA 18 1 14,lD 19 18 1 false,fA 20 5 0,lD 21 20 1 false,cQ 22 Zt7 [19,21],mV 17 22,eX 23 17 0,eX 24 17 1,mV 6 23,mV 7 24]
 (sR [mV 25 7]
 (.cond (.t 25) (.reg [mV 26 3,mV 27 6,lD 28 5 11 true,.bd 29 [.str [],.int .i64 0,.int .i64 0,.int .i64 0,.int .i64 0,.int .i64 0,.int .i64 0,.int .i64 0,.int .i64 0,.int .i64 0,.int .i64 0,.int .i64 0] [(0,1,(.t 27)),(1,11,(.t 28))],.bs 30 12 [(.t 29)] false,.ap 31 (.t 26) (.t 30) 12 104,mV 3 31])
 .skip)))))
 (.reg [.bi 32 .add (.t 13) (kI 1),mV 13 32]))))))))
 (sR [mV 33 3,mV 2 33]
 gR)))
def ZN8 (d1:Desk) (x4:Job) (_:Nat) (v4:(List Hold)) (k4:(List Hold) -> Option (List Hold)):Option (List Hold) :=
 (impl_ownerOf d1.owners x4.id).bind fun y5=>bif y5.2 then ((appL 104 v4 [(Hold.mk y5.1 x4)]).bind fun xs6=>k4 xs6) else (k4 v4)
def ZM8 (v4:(List Hold)):Option (List Hold) :=
 some v4
def impl_HoldsOf (d1:Desk):Option (List Hold) :=
 (impl_State_all d1.state).bind fun y2=>rgl (ZN8 d1) ZM8 y2 0 []
theorem Zt9 {d1:Desk} {r:(List Hold)} (H:impl_HoldsOf d1 = some r):Snd Tryz.prog Zx7 [Zh2 .rd d1] (.sref 0) [⟨12,r.map eHold,false⟩]:=by
 refine wS Zgg [.t 2] ?_
 unfold impl_HoldsOf at H
 obtain ⟨y2,h2,H⟩:=bB H
 refine wG [.c 11 (Z84 h2),.u 12 (.ln _ _ fun _=>lm y2 eJob)] fun q3=>?_
 refine wR (fun (i4:Nat) (v4:(List Hold))=>⟨[(1,.ptr 1 0),(3,.sref 8),(11,.sl .nw 11 (y2.map eJob)),(12,.int .i64 (y2.length:Int)),(13,.int .i64 (i4:Int))],[],[(1,(Zh2 .rd d1).cells)],[(8,⟨12,v4.map eHold,false⟩)]⟩) H (fun i4 x4 v4 I m k4 hxv4 hiv4 H N21=>?_) (fun v4 I m H=>?_)
 .unfold ZN8 at H
  refine wP ?_
  refine wt (ltT hiv4) ?_
  obtain ⟨y5,h5,H⟩:=bB H
  refine wG [.u 15 (.ix _ _ _ fun _=>Z0 eJob (Z2 hxv4)),.c 22 (Zi9 h5)] fun _=>?_
  refine Wh_iH H (fun H=>?_) fun H=>?_
  .obtain ⟨xs6,h6,H⟩:=bB H
   refine wG [.u 31 (.ap _ _ _ _ fun _=>Zq eHold h6),.w 32 (wi .i64 rfl hiv4 q3.1)] fun _=>?_
   exact wT (N21 _ H)
  .refine wG [.w 32 (wi .i64 rfl hiv4 q3.1)] fun _=>?_
   exact wT (N21 _ H)
 .unfold ZM8 at H
  refine wP ?_
  refine wf (ltF y2.length) ?_
  refine wP ?_
  replace H:=sI H; subst H
  exact wN [(2,.d)] [] [(8,some 8,0)] [] [some 8] [⟨_,Z2o v4⟩]
def Zpi:L :=
sR [.bx 1 (.t 0),.mv 2 (cB false)]
 (.seq (sR [fA 7 1 0,lD 8 7 11 true,cQ 9 ZCa [8],.un 10 (.t 9),mV 11 10,.g 11 false (fA 12 1 11),.g 11 false (lD 13 12 1 false),.g 11 false (cQ 14 Zc4 [13]),.g 11 false (.un 15 (.t 14)),.pk 16 (.t 11) (cB true) (.t 15),mV 17 16,.g 17 false (fA 18 1 12),.g 17 false (lD 19 18 1 false),.g 17 false (cQ 20 Z46 [19]),.g 17 false (.un 21 (.t 20)),.pk 22 (.t 17) (cB true) (.t 21),mV 23 22,.g 23 false (fA 24 1 13),.g 23 false (lD 25 24 1 false),.g 23 false (cQ 26 Zr8 [25]),.g 23 false (.un 27 (.t 26)),.pk 28 (.t 23) (cB true) (.t 27),mV 29 28,.g 29 false (fA 30 1 13),.g 29 false (lD 31 30 1 false),.g 29 false (cQ 32 Zjd [31]),.pk 33 (.t 29) (cB true) (.t 32)]
 (.cond (.t 33) (.seq (rE 2 (cB false))
 gR)
 .skip))
 (.seq (sR [fA 34 1 0,lD 35 34 11 true,cQ 36 Z63 [35],.ln 37 (.t 36),.mv 38 (kI 0)]
 (.blk 0 (.loop (.gw (sR [bI 39 .lss 38 37]
 (.seq (.cond (.t 39) .skip
 (.exit 0))
 (.seq (.blk 1 (sR [iA 40 36 38 11,lD 41 40 11 true,.al 4 [.int .i64 0,.int .i64 0,.int .i64 0,.int .i64 0,.int .i64 0,.int .i64 0,.int .i64 0,.int .i64 0,.int .i64 0,.int .i64 0,.int .i64 0],.st (.t 4) (.t 41) 11]
 (sR [fA 43 1 14,lD 44 43 1 false,fA 45 4 0,lD 46 45 1 false,cQ 47 Zt7 [44,46],mV 42 47,eX 48 42 0,eX 49 42 1,mV 5 48,mV 6 49]
 (sR [mV 50 6,.un 51 (.t 50),mV 52 51,.g 52 false (fA 53 1 11),.g 52 false (lD 54 53 1 false),.g 52 false (mV 55 5),.g 52 false (cQ 56 ZS8 [54,55]),.g 52 false (.bi 57 .lss (.t 56) (kI 0)),.pk 58 (.t 52) (cB true) (.t 57)]
 (.cond (.t 58) (.seq (rE 2 (cB false))
 gR)
 .skip)))))
 (.reg [.bi 59 .add (.t 38) (kI 1),mV 38 59]))))))))
 (.seq (.rq 6 [fA 60 1 12,lD 61 60 1 false,lD 62 1 15 true,cQ 63 Zx7 [62],cQ 64 Z2c [61,63],mV 2 64])
 gR)))
def ZO1 (d1:Desk) (x9:Job) (_:Nat) (_:Unit) (k9:Unit -> Option Bool):Option Bool :=
 (impl_ownerOf d1.owners x9.id).bind fun y10=>(bif (!y10.2) then some default else (impl_AccountAt d1.accounts y10.1)).bind fun n11=>bif ((!y10.2) || (decide (n11 < 0))) then (some false) else (k9 ())
def ZN1 (d1:Desk) (_:Unit):Option Bool :=
 (impl_HoldsOf d1).bind fun y12=>(impl_Within d1.quotas y12).bind fun b13=>some b13
def impl_DeskOk (d1:Desk):Option Bool :=
 (impl_StateOk d1.state).bind fun b2=>(bif (!b2) then some default else (impl_AccountsOk d1.accounts)).bind fun b3=>(bif ((!b2) || (!b3)) then some default else (impl_QuotasOk d1.quotas)).bind fun b4=>(bif (((!b2) || (!b3)) || (!b4)) then some default else (impl_DepsOk d1.deps)).bind fun b5=>(bif ((((!b2) || (!b3)) || (!b4)) || (!b5)) then some default else (impl_Round d1.deps)).bind fun b6=>bif (((((!b2) || (!b3)) || (!b4)) || (!b5)) || b6) then (some false) else ((impl_State_all d1.state).bind fun y7=>rgl (ZO1 d1) (ZN1 d1) y7 0 ())
theorem ZGi {d1:Desk} {r:Bool} (H:impl_DeskOk d1 = some r):Snd Tryz.prog Z7c [Zh2 .rd d1] (.bool r) []:=by
 refine wS Zpi [.t 2] ?_
 unfold impl_DeskOk at H
 obtain ⟨b2,h2,H⟩:=bB H
 obtain ⟨b3,h3,H⟩:=bB H
 obtain ⟨b4,h4,H⟩:=bB H
 obtain ⟨b5,h5,H⟩:=bB H
 obtain ⟨b6,h6,H⟩:=bB H
 refine wG [.c 9 (Zmg h2),.g 14 [(_,false)] (.call _ _ _ _ _ (AEs.refl _) (fun q=>Zy6 (bF q.1 h3))),.g 20 [(_,false)] (.call _ _ _ _ _ (AEs.refl _) (fun q=>ZK8 (bF q.1 h4))),.g 26 [(_,false)] (.call _ _ _ _ _ (AEs.refl _) (fun q=>Zoa (bF q.1 h5))),.g 32 [(_,false)] (.call _ _ _ _ _ (AEs.refl _) (fun q=>ZMk (bF q.1 h6)))] fun _=>?_
 refine Wh_iH H (fun H=>?_) fun H=>?_
 .refine wP ?_
  replace H:=sI H; subst H
  exact wE [(2,.d)]
 .obtain ⟨y7,h7,H⟩:=bB H
  refine wG [.c 36 (Z84 h7),.u 37 (.ln _ _ fun _=>lm y7 eJob)] fun q8=>?_
  refine wR (fun (i9:Nat) (v9:Unit)=>⟨[(1,.ptr 1 0),(36,.sl .nw 11 (y7.map eJob)),(37,.int .i64 (y7.length:Int)),(38,.int .i64 (i9:Int))],[],[(1,(Zh2 .rd d1).cells)],[]⟩) H (fun i9 x9 v9 I m k9 hxv9 hiv9 H N29=>?_) (fun v9 I m H=>?_)
  .unfold ZO1 at H
   refine wP ?_
   refine wt (ltT hiv9) ?_
   obtain ⟨y10,h10,H⟩:=bB H
   obtain ⟨n11,h11,H⟩:=bB H
   refine wG [.u 40 (.ix _ _ _ fun _=>Z0 eJob (Z2 hxv9)),.c 47 (Zi9 h10),.g 56 [(_,false)] (.call _ _ _ _ _ (AEs.refl _) (fun q=>ZTc (bF q.1 h11)))] fun _=>?_
   refine Wh_iH H (fun H=>?_) fun H=>?_
   .refine wP ?_
    replace H:=sI H; subst H
    exact wE [(2,.d)]
   .refine wG [.w 59 (wi .i64 rfl hiv9 q8.1)] fun _=>?_
    exact wT (N29 () H)
  .unfold ZN1 at H
   refine wP ?_
   refine wf (ltF y7.length) ?_
   obtain ⟨y12,h12,H⟩:=bB H
   obtain ⟨b13,h13,H⟩:=bB H
   refine wG [.c 63 (Zt9 h12),.c 64 (Zti h13)] fun _=>?_
   replace H:=sI H; subst H
   exact wE [(2,.d)]
def Zvb:L :=
sR [.bx 1 (.t 0),.mv 2 (.c (.str []))]
 (.seq (sR [lD 10 1 15 true,cQ 11 Z7c [10],.un 12 (.t 11)]
 (.cond (.t 12) (sR [.mv 2 (.c (.str []))]
 gR)
 .skip))
 (sR [.mv 3 (.c (.str []))]
 (sR [lD 13 1 15 true,cQ 14 Zx7 [13],mV 4 14]
 (.seq (sR [fA 15 1 11,lD 16 15 1 false,.ln 17 (.t 16),.mv 18 (kI 0)]
 (.blk 0 (.loop (.gw (sR [bI 19 .lss 18 17]
 (.seq (.cond (.t 19) .skip
 (.exit 0))
 (.seq (.blk 1 (sR [iA 20 16 18 3,lD 21 20 3 true,.al 6 [.str [],.int .i64 0,.int .i64 0],.st (.t 6) (.t 21) 3]
 (.seq (rE 7 (kI 0))
 (.seq (sR [mV 22 4,.ln 23 (.t 22),.mv 24 (kI 0)]
 (.blk 2 (.loop (.gw (sR [bI 25 .lss 24 23]
 (.seq (.cond (.t 25) .skip
 (.exit 2))
 (.seq (.blk 3 (sR [iA 26 22 24 12,lD 27 26 12 true,.al 9 [.str [],.int .i64 0,.int .i64 0,.int .i64 0,.int .i64 0,.int .i64 0,.int .i64 0,.int .i64 0,.int .i64 0,.int .i64 0,.int .i64 0,.int .i64 0],.st (.t 9) (.t 27) 12]
 (sR [fA 28 9 0,lD 29 28 1 false,fA 30 6 0,lD 31 30 1 false,bI 32 .eql 29 31]
 (.cond (.t 32) (.reg [mV 33 7,.bi 34 .add (.t 33) (kI 1),mV 7 34])
 .skip))))
 (.reg [.bi 35 .add (.t 24) (kI 1),mV 24 35]))))))))
 (.rq 12 [mV 36 3,fA 37 6 0,lD 38 37 1 false,fA 39 6 2,lD 40 39 1 false,cQ 41 Zv7 [40],mV 42 7,cQ 43 Zv7 [42],.bs 44 1 [(.t 38),(.t 41),(.t 43)] false,cQ 45 Zed [44],.sa 46 (.t 36) (.t 45),.sa 47 (.t 46) (.c (.str [10])),mV 3 47])))))
 (.reg [.bi 48 .add (.t 18) (kI 1),mV 18 48]))))))))
 (sR [mV 49 3,mV 2 49]
 gR)))))
def Zf3 (x5:Account) (x7:Hold) (_:Nat) (v7:Int) (k7:Int -> Option Str):Option Str :=
 bif (x7.name == x5.name) then (k7 (w64 (v7 + 1))) else (k7 v7)
def Zd3 (v5:Str) (x5:Account) (k5:Str -> Option Str) (v7:Int):Option Str :=
 (impl_NumText x5.used).bind fun w8=>(impl_NumText v7).bind fun w9=>(impl_words [x5.name,w8,w9]).bind fun w10=>(catS v5 w10).bind fun w11=>(catS w11 ([10]:Str)).bind fun w12=>k5 w12
def Ze3 (y3:(List Hold)) (x5:Account) (_:Nat) (v5:Str) (k5:Str -> Option Str):Option Str :=
 rgl (Zf3 x5) (Zd3 v5 x5 k5) y3 0 0
def Zc3 (v5:Str):Option Str :=
 some v5
def impl_DeskReport (d1:Desk):Option Str :=
 (impl_DeskOk d1).bind fun b2=>bif (!b2) then (some ([]:Str)) else ((impl_HoldsOf d1).bind fun y3=>rgl (Ze3 y3) Zc3 d1.accounts 0 ([]:Str))
theorem ZAb {d1:Desk} {r:Str} (H:impl_DeskReport d1 = some r):Snd Tryz.prog ZT7 [Zh2 .rd d1] (.str r) []:=by
 refine wS Zvb [.t 2] ?_
 unfold impl_DeskReport at H
 obtain ⟨b2,h2,H⟩:=bB H
 refine wG [.c 11 (ZGi h2)] fun _=>?_
 refine Wh_iH H (fun H=>?_) fun H=>?_
 .refine wP ?_
  replace H:=sI H; subst H
  exact wE [(2,.d)]
 .obtain ⟨y3,h3,H⟩:=bB H
  refine wG [.c 14 (Zt9 h3),.u 17 (.ln _ _ fun _=>lm d1.accounts Z1)] fun q4=>?_
  refine wR (fun (i5:Nat) (v5:Str)=>⟨[(3,.str v5),(4,.sl .nw 12 (y3.map eHold)),(16,.sl .rd 3 (d1.accounts.map Z1)),(17,.int .i64 (d1.accounts.length:Int)),(18,.int .i64 (i5:Int))],[],[],[]⟩) H (fun i5 x5 v5 I m k5 hxv5 hiv5 H N46=>?_) (fun v5 I m H=>?_)
  .unfold Ze3 at H
   refine wP ?_
   refine wt (ltT hiv5) ?_
   refine wG [.u 20 (.ix _ _ _ fun _=>Z0 Z1 (Z2 hxv5)),.u 23 (.ln _ _ fun _=>lm y3 eHold)] fun q6=>?_
   refine wR (fun (i7:Nat) (v7:Int)=>⟨[(3,.str v5),(4,.sl .nw 12 (y3.map eHold)),(6,.ptr 6 0),(7,.int .i64 v7),(16,.sl .rd 3 (d1.accounts.map Z1)),(17,.int .i64 (d1.accounts.length:Int)),(18,.int .i64 (i5:Int)),(22,.sl .nw 12 (y3.map eHold)),(23,.int .i64 (y3.length:Int)),(24,.int .i64 (i7:Int))],[],[(6,(Z1 x5).cells)],[]⟩) H (fun i7 x7 v7 I m k7 hxv7 hiv7 H N34=>?_) (fun v7 I m H=>?_)
   .unfold Zf3 at H
    refine wP ?_
    refine wt (ltT hiv7) ?_
    refine wG [.u 26 (.ix _ _ _ fun _=>Z0 eHold (Z2 hxv7))] fun _=>?_
    refine Wh_iH H (fun H=>?_) fun H=>?_
    .refine wG [.w 35 (wi .i64 rfl hiv7 q6.1)] fun _=>?_
     exact wT (N34 _ H)
    .refine wG [.w 35 (wi .i64 rfl hiv7 q6.1)] fun _=>?_
     exact wT (N34 _ H)
   .unfold Zd3 at H
    refine wP ?_
    refine wf (ltF y3.length) ?_
    obtain ⟨w8,h8,H⟩:=bB H
    obtain ⟨w9,h9,H⟩:=bB H
    obtain ⟨w10,h10,H⟩:=bB H
    obtain ⟨w11,h11,H⟩:=bB H
    obtain ⟨w12,h12,H⟩:=bB H
    refine wG [.c 41 (Zq9 h8),.c 43 (Zq9 h9),.c 45 (Zvk h10),.u 46 (.sa _ _ _ fun _=>h11),.u 47 (.sa _ _ _ fun _=>h12),.w 48 (wi .i64 rfl hiv5 q4.1)] fun _=>?_
    exact wT (N46 _ H)
  .unfold Zc3 at H
   refine wP ?_
   refine wf (ltF d1.accounts.length) ?_
   refine wP ?_
   replace H:=sI H; subst H
   exact wE [(2,.d)]
def time (n:Int):Bool:=decide (0 <= n) && decide (n <= 1000000000)
theorem Z76 {n:Int}:time n = true ↔ 0 <= n /\ n <= 1000000000:=by simp [time]
theorem Zs1 {v:Vec}:spec_VecOk v = true ↔ (0 <= v.a /\ v.a <= 1000000) /\ (0 <= v.b /\ v.b <= 1000000) /\ (0 <= v.c /\ v.c <= 1000000):=by
 simp [spec_VecOk,spec_l01Res,and_assoc]
theorem Zu1 (v:Vec):impl_VecOk v = spec_VecOk v:=rfl
theorem Z07 (n:Int):impl_isTime n = time n:=rfl
theorem ZA1 (n:Int):spec_l01Time n = time n:=rfl
theorem Zvi {a b:Vec} (ha:spec_VecOk a = true):impl_VecSub a b = spec_VecSub a b:=by
 have h:=Zs1.1 ha
 unfold impl_VecSub impl_valid spec_VecSub spec_VecFits
 simp only [Zu1,ha]
 cases hb:spec_VecOk b with
 | false=>simp
 | true =>
  have h2:=Zs1.1 hb
  have w1:w64 (a.a - b.a) = a.a - b.a:=ZM (by omega)
  have w2:w64 (a.b - b.b) = a.b - b.b:=ZM (by omega)
  have w3:w64 (a.c - b.c) = a.c - b.c:=ZM (by omega)
  simp only [w1,w2,w3]
  cases hc:spec_VecOk (Vec.mk (a.a - b.a) (a.b - b.b) (a.c - b.c)) with
  | false =>
   have:¬ ((b.a <= a.a /\ b.b <= a.b) /\ b.c <= a.c):=fun q=>by
    rw [Zs1.2 (by simp only; omega)] at hc; cases hc
   by_cases q1:b.a <= a.a <;> by_cases q2:b.b <= a.b <;> by_cases q3:b.c <= a.c <;> simp [q1,q2,q3] at this ⊢
  | true =>
   have q:=Zs1.1 hc
   simp only at q
   have q1:b.a <= a.a:=by omega
   have q2:b.b <= a.b:=by omega
   have q3:b.c <= a.c:=by omega
   simp [q1,q2,q3]
def dgt (n:Nat):UInt8:=UInt8.ofNat (48 + n % 10)
def dg (n:Nat):Str:=if n < 10 then [dgt n] else dg (n / 10) ++ [dgt n]
termination_by n
decreasing_by omega
def ZS6 (n:Int):Str:=if time n = true then dg n.toNat else []
theorem dg_lt {n:Nat} (h:n < 10):dg n = [dgt n]:=by rw [dg,if_pos h]
theorem dg_ge {n:Nat} (h:10 <= n):dg n = dg (n / 10) ++ [dgt n]:=by rw [dg,if_neg (by omega)]
theorem dg_len:∀ (k n:Nat),n < 10 ^ k -> (dg n).length <= k + 1
 | 0,n,h=>by rw [dg_lt (by simp at h; omega)]; simp
 | k + 1,n,h=>by
  by_cases h10:n < 10
  .rw [dg_lt h10]; simp
  .rw [dg_ge (by omega)]
   have:=dg_len k (n / 10) (by rw [Nat.pow_succ] at h; omega)
   simp; omega
theorem Zd2 (n:Int):(ZS6 n).length <= 10:=by
 unfold ZS6
 split
 .rename_i h
  simp [time] at h
  by_cases e:n.toNat < 10 ^ 9
  .have:=dg_len 9 n.toNat e; omega
  .have e:n.toNat = 1000000000:=by omega
   rw [e]; decide +kernel
 .simp
theorem Z1m {n:Int} (h0:0 <= n) (h1:n < 10):IntKind.u8.wrap (48 + n) = ((UInt8.ofNat (48 + n.toNat)).toNat:Int):=by
 unfold IntKind.wrap
 simp [IntKind.bits,IntKind.signed]
 omega
theorem ZXk {n:Int} (h0:0 <= n) (h1:n < 10):b2sQ [IntKind.wrap .u8 (w64 (48 + n))] = some [dgt n.toNat]:=by
 have e:IntKind.wrap .u8 (w64 (48 + n)) = ((dgt n.toNat).toNat:Int):=by
  rw [ZM (by omega),Z1m h0 h1]
  unfold dgt
  rw [Nat.mod_eq_of_lt (by omega)]
 rw [e]
 have hd:((dgt n.toNat).toNat:Int) < 256:=by have:=(dgt n.toNat).toNat_lt; omega
 unfold b2sQ
 rw [if_pos (by simp; omega)]
 simp
theorem ZLo {n:Int} (h0:0 <= n):(remI n 10).bind (fun m=>b2sQ [IntKind.wrap .u8 (w64 (48 + m))]) = some [dgt n.toNat]:=by
 have e:remI n 10 = some (n % 10):=by simp [remI,Int.tmod_eq_emod_of_nonneg h0]
 rw [e,bS,ZXk (by omega) (by omega)]
 have:(n % 10).toNat = n.toNat % 10:=by omega
 rw [this,dgt,dgt,Nat.mod_mod]
theorem quo10 {n:Int} (h0:0 <= n) (h1:n <= 9223372036854775807):quoI .i64 n 10 = some (n / 10):=by
 have e:n.tdiv 10 = n / 10:=Int.tdiv_eq_ediv_of_nonneg h0
 unfold quoI
 rw [if_neg (by decide),e,Z6j (by omega) (by omega)]
theorem ZD7:∀ (k fuel:Nat) (n:Int),k <= fuel -> 0 <= n -> n < 10 ^ k -> n <= 1000000000 -> Ze1 (fuel + 1) n = some (dg n.toNat)
 | 0,fuel,n,_,h0,h1,h2=>by
  have:n = 0:=by simp at h1; omega
  subst this
  rw [Ze1]
  simp only [show spec_l01Time 0 = true from rfl,Bool.not_true,cond_false,show decide ((0:Int) < 10) = true from rfl,cond_true]
  rw [ZXk (by omega) (by omega),dg_lt (by simp)]; rfl
 | k + 1,0,n,hk,h0,h1,h2=>by omega
 | k + 1,fuel + 1,n,hk,h0,h1,h2=>by
  have ht:spec_l01Time n = true:=by simp [spec_l01Time]; omega
  rw [Ze1,ht]
  by_cases h:n < 10
  .simp only [h,decide_true,cond_true,Bool.not_true,cond_false]
   rw [ZXk h0 h,dg_lt (by omega)]; rfl
  .simp only [h,decide_false,Bool.not_true,cond_false]
   have e2:(n / 10).toNat = n.toNat / 10:=by omega
   rw [quo10 h0 (by omega),bS,ZD7 k fuel (n / 10) (by omega) (by omega) (by rw [Int.pow_succ] at h1; omega) (by omega),bS,← Option.bind_assoc,ZLo h0,bS,e2]
   have hl:(dg (n.toNat / 10)).length <= 10:=by
    have:=Zd2 (n / 10)
    rw [ZS6,if_pos (by simp [time]; omega),e2] at this
    exact this
   rw [Zv1 (by simp; omega),dg_ge (n:=n.toNat) (by omega)]; rfl
theorem Z89 (n:Int):spec_NumText n = some (ZS6 n):=by
 unfold spec_NumText ZS6
 cases ht:time n with
 | false=>rw [show (100000000:Nat) = 99999999 + 1 from rfl,Ze1,ZA1,ht]; rfl
 | true =>
  have h:=Z76.1 ht
  rw [if_pos rfl,show (100000000:Nat) = 99999999 + 1 from rfl]
  exact ZD7 10 _ n (by omega) h.1 (by omega) h.2
theorem Zr9 (n:Int):impl_NumText n = some (ZS6 n):=by
 unfold impl_NumText ZS6
 rw [Z07]
 cases ht:time n with
 | false=>rfl
 | true =>
  have h:=Z76.1 ht
  simp only [Bool.not_true,cond_false,if_true]
  refine ZU3 (fun _ r=>r = some (dg n.toNat)) (fun b=>b.1.toNat) (fun b=>0 <= b.1 /\ b.1 <= 1000000000 /\ dg n.toNat = dg b.1.toNat ++ b.2) ?_ 9223372036854775807 (n,[]) ⟨h.1,h.2,by simp⟩ (by simp only; omega)
  rintro ⟨k,o⟩ kk ⟨h0,h1,hd⟩ hk
  simp only at h0 h1 hd hk
  have hlen:(dg n.toNat).length <= 10:=by have:=Zd2 n; simpa [ZS6,ht] using this
  have hol:o.length <= 10:=by rw [hd] at hlen; simp at hlen; omega
  unfold ZZ4
  by_cases h9:9 < k
  .simp only [h9,decide_true,cond_true]
   rw [← Option.bind_assoc,ZLo h0,bS,Zv1 (by simp; omega),bS,quo10 h0 (by omega),bS]
   refine hk _ ⟨by simp only; omega,by simp only; omega,?_⟩ (by simp only; omega)
   simp only
   rw [hd,dg_ge (n:=k.toNat) (by omega),show (k / 10).toNat = k.toNat / 10 by omega]
   simp
  .simp only [h9,decide_false,cond_false]
   rw [ZXk h0 (by omega),bS,Zv1 (by simp; omega),bS,hd,dg_lt (n:=k.toNat) (by omega)]
def joinW:List Str -> Str
 | []=>[]
 | [w]=>w
 | w :: v :: ws=>w ++ 32 :: joinW (v :: ws)
theorem Zpm:∀ (l:List Str) (i:Nat) (s:Str),0 < i -> s.length + (joinW l).length + 1 <= 4611686018427387904 -> rgl ZJ2 ZI2 l i s = some (if l = [] then s else s ++ 32 :: joinW l)
 | [],i,s,_,_=>rfl
 | w :: l,i,s,hi,hl=>by
  have hw:w.length <= (joinW (w :: l)).length:=by
   cases l with
   | nil=>exact Nat.le_refl _
   | cons v l=>simp [joinW]
  rw [rgl,ZJ2]
  simp only [show decide (0 < (i:Int)) = true by simpa using hi,cond_true,Z42]
  rw [Zv1 (by simp; omega),bS,Zv1 (by simp; omega),bS]
  cases l with
  | nil=>simp [rgl,ZI2,joinW]
  | cons v l =>
   rw [Zpm (v :: l) (i + 1) _ (by omega) (by simp only [joinW,List.length_append,List.length_cons,List.length_nil] at hl ⊢; omega)]
   simp [joinW]
theorem Zwk (l:List Str) (hl:(joinW l).length <= 4611686018427387900):impl_words l = some (joinW l):=by
 unfold impl_words
 cases l with
 | nil=>rfl
 | cons w l =>
  have hw:w.length <= (joinW (w :: l)).length:=by
   cases l with
   | nil=>exact Nat.le_refl _
   | cons v l=>simp [joinW]
  rw [rgl,ZJ2]
  simp only [show decide (0 < ((0:Nat):Int)) = false by rfl,cond_false,Z42]
  rw [Zv1 (by simp; omega),bS]
  cases l with
  | nil=>simp [rgl,ZI2,joinW]
  | cons v l =>
   rw [Zpm (v :: l) _ _ (by omega) (by simp only [joinW,List.length_append,List.length_cons,List.nil_append] at hl ⊢; omega)]
   simp [joinW]
structure TreeP (P:List Int):Prop where
 pos:0 < P.length
 le:P.length <= 24
 root:P[0]? = some 0
 par:∀ (i:Nat),1 <= i -> ∀ (p:Int),P[i]? = some p -> 0 <= p /\ p < i
def prt (P:List Int) (i:Nat):Nat:=(P.getD i 0).toNat
def dep (P:List Int) (s:Nat):Nat:=if h:0 < s /\ prt P s < s then dep P (prt P s) + 1 else 0
termination_by s
decreasing_by exact h.2
def ups (P:List Int) (s:Nat):List Nat:=if _:0 < s /\ prt P s < s then s :: ups P (prt P s) else [s]
termination_by s
decreasing_by exact (‹0 < s /\ prt P s < s›:0 < s /\ prt P s < s).2
def kids (P:List Int) (s:Int):List Nat:=(List.range' 1 (P.length - 1)).filter fun i=>P[i]? == some s
theorem ZQm {P:List Int} {s:Int} {c:Nat}:c ∈ kids P s ↔ 1 <= c /\ c < P.length /\ P[c]? = some s:=by
 simp only [kids,List.mem_filter,List.mem_range',beq_iff_eq]
 constructor
 .rintro ⟨⟨i,hi,rfl⟩,h⟩; exact ⟨by omega,by omega,h⟩
 .rintro ⟨h1,h2,h3⟩; exact ⟨⟨c - 1,by omega,by omega⟩,h3⟩
theorem TreeP.par_lt {P:List Int} (T:TreeP P) {i:Nat} (h1:1 <= i) (h:i < P.length):prt P i < i /\ P[i]? = some (prt P i:Int):=by
 have e:P[i]? = some P[i]:=yA h
 have:=T.par i h1 _ e
 have q:prt P i = P[i].toNat:=by simp [prt,h]
 rw [q]
 exact ⟨by omega,by rw [e]; congr 1; omega⟩
theorem dep_zero (P:List Int):dep P 0 = 0:=by rw [dep]; simp
theorem TreeP.dep_succ {P:List Int} (T:TreeP P) {i:Nat} (h1:1 <= i) (h:i < P.length):dep P i = dep P (prt P i) + 1:=by
 rw [dep,dif_pos ⟨by omega,(T.par_lt h1 h).1⟩]
theorem Z8j (P:List Int):ups P 0 = [0]:=by rw [ups]; simp
theorem TreeP.ups_succ {P:List Int} (T:TreeP P) {i:Nat} (h1:1 <= i) (h:i < P.length):ups P i = i :: ups P (prt P i):=by
 rw [ups,dif_pos ⟨by omega,(T.par_lt h1 h).1⟩]
theorem ZCo (P:List Int):∀ s,dep P s <= s:=by
 intro s
 induction s using Nat.strongRecOn with
 | _ s ih =>
  rw [dep]
  split
  .rename_i h; have:=ih _ h.2; omega
  .omega
theorem Zse (P:List Int) (s:Nat):s ∈ ups P s:=by rw [ups]; split <;> simp
theorem TreeP.ups_mem {P:List Int} (T:TreeP P):∀ l,l < P.length -> ∀ s,s ∈ ups P l -> s <= l /\ ∀ x,x ∈ ups P s -> x ∈ ups P l:=by
 intro l
 induction l using Nat.strongRecOn with
 | _ l ih =>
  intro hl s hs
  by_cases h0:l = 0
  .subst h0; rw [Z8j] at hs; simp at hs; subst hs; exact ⟨Nat.le_refl _,fun x hx=>hx⟩
  .have hp:=T.par_lt (i:=l) (by omega) hl
   rw [T.ups_succ (by omega) hl] at hs ⊢
   rcases List.mem_cons.1 hs with rfl | hs
   .exact ⟨Nat.le_refl _,fun x hx=>by rwa [T.ups_succ (by omega) hl] at hx⟩
   .obtain ⟨q1,q2⟩:=ih _ hp.1 (by omega) s hs
    exact ⟨by omega,fun x hx=>List.mem_cons_of_mem _ (q2 x hx)⟩
theorem TreeP.kid_of {P:List Int} (T:TreeP P):∀ l,l < P.length -> ∀ s,s ∈ ups P l -> s ≠ l -> ∃ c,c ∈ kids P (s:Int) /\ c ∈ ups P l:=by
 intro l
 induction l using Nat.strongRecOn with
 | _ l ih =>
  intro hl s hs hne
  by_cases h0:l = 0
  .subst h0; rw [Z8j] at hs; simp at hs; exact absurd hs hne
  .have hp:=T.par_lt (i:=l) (by omega) hl
   rw [T.ups_succ (by omega) hl] at hs ⊢
   rcases List.mem_cons.1 hs with rfl | hs
   .exact absurd rfl hne
   .by_cases he:s = prt P l
    .subst he
     exact ⟨l,ZQm.2 ⟨by omega,hl,hp.2⟩,List.mem_cons_self ..⟩
    .obtain ⟨c,q1,q2⟩:=ih _ hp.1 (by omega) s hs he
     exact ⟨c,q1,List.mem_cons_of_mem _ q2⟩
theorem TreeP.kid_par {P:List Int} (T:TreeP P) {s c:Nat} (h:c ∈ kids P (s:Int)):1 <= c /\ c < P.length /\ prt P c = s /\ s < c:=by
 obtain ⟨h1,h2,h3⟩:=ZQm.1 h
 have hp:=T.par_lt h1 h2
 rw [hp.2] at h3
 have:prt P c = s:=by have:=Option.some.inj h3; omega
 exact ⟨h1,h2,this,by omega⟩
structure LeafP (P:List Int) (s l:Nat):Prop where
 lt:l < P.length
 leaf:kids P (l:Int) = []
 up:s ∈ ups P l
theorem TreeP.some_leaf {P:List Int} (T:TreeP P):∀ (n s:Nat),P.length - s = n -> s < P.length -> ∃ l,LeafP P s l:=by
 intro n
 induction n using Nat.strongRecOn with
 | _ n ih =>
  intro s hn hs
  cases hk:kids P (s:Int) with
  | nil=>exact ⟨s,hs,hk,Zse P s⟩
  | cons c ks =>
   have hc:c ∈ kids P (s:Int):=by rw [hk]; exact List.mem_cons_self ..
   obtain ⟨q1,q2,q3,q4⟩:=T.kid_par hc
   obtain ⟨l,hl⟩:=ih (P.length - c) (by omega) c rfl q2
   refine ⟨l,hl.lt,hl.leaf,(T.ups_mem l hl.lt c hl.up).2 s ?_⟩
   rw [T.ups_succ q1 q2,q3]
   exact List.mem_cons_of_mem _ (Zse P s)
theorem TreeP.leaf_kid {P:List Int} (T:TreeP P) {s c l:Nat} (hc:c ∈ kids P (s:Int)) (h:LeafP P c l):LeafP P s l:=by
 obtain ⟨q1,q2,q3,q4⟩:=T.kid_par hc
 refine ⟨h.lt,h.leaf,(T.ups_mem l h.lt c h.up).2 s ?_⟩
 rw [T.ups_succ q1 q2,q3]
 exact List.mem_cons_of_mem _ (Zse P s)
theorem TreeP.leaf_cases {P:List Int} (T:TreeP P) {s l:Nat} (h:LeafP P s l):s = l \/ ∃ c,c ∈ kids P (s:Int) /\ LeafP P c l:=by
 by_cases e:s = l
 .exact .inl e
 .obtain ⟨c,q1,q2⟩:=T.kid_of l h.lt s h.up e
  exact .inr ⟨c,q1,h.lt,h.leaf,q2⟩
theorem TreeP.zero_up {P:List Int} (T:TreeP P):∀ l,l < P.length -> 0 ∈ ups P l:=by
 intro l
 induction l using Nat.strongRecOn with
 | _ l ih =>
  intro hl
  by_cases h0:l = 0
  .subst h0; exact Zse P 0
  .rw [T.ups_succ (by omega) hl]
   exact List.mem_cons_of_mem _ (ih _ (T.par_lt (by omega) hl).1 (by have:=(T.par_lt (i:=l) (by omega) hl).1; omega))
theorem ZZ8 (t:Topo) (s:Int) (hl:t.parents.length <= 1048576):spec_l02Kids t s = some ((kids t.parents s).map fun (i:Nat)=>(i:Int)):=by
 unfold spec_l02Kids
 have h:=ZFa (bd:=Z22 t s) (fun (i:Nat) (st:List Int)=>((i:Int),st)) (n:=t.parents.length)
  (B:=fun x _ st k=>bif t.parents[x]? == some s then (appL 8 st [(x:Int)]).bind k else k st) (kk:=some) (fun i st k hi=>by
   obtain ⟨e,he⟩:∃ e,t.parents[i]? = some e:=⟨_,yA hi⟩
   have hlt:(i:Int) < (t.parents.length:Int):=by omega
   simp only [Z22,hlt,decide_true,cond_true,Za,he,bS,Zz (n:=i) (by omega)]
   rw [show (some e == some s) = (e == s) from rfl])
  (fun i st k hi=>by
   have hlt:¬ (i:Int) < (t.parents.length:Int):=by omega
   simp only [Z22,hlt,decide_false,cond_false]) 9223372036854775807 1 [] (by omega)
 refine h.trans ?_
 rw [ZH1 (p:=fun (x:Nat)=>t.parents[x]? == some s) (f:=fun (x:Nat)=>(x:Int)) (fun x _ i b k=>rfl) (by simp; omega)]
 rfl
def LevP (P:List Int) (s:Nat) (v:Int):Prop :=
 (0 <= v /\ v <= P.length - s /\ ∀ l,LeafP P s l -> (dep P l:Int) = dep P s + v) \/ (v = -1 /\ ∃ l1 l2,LeafP P s l1 /\ LeafP P s l2 /\ dep P l1 ≠ dep P l2)
theorem Z4b {t:Topo} (T:TreeP t.parents):∀ (n s fuel:Nat),t.parents.length - s = n -> s < t.parents.length -> n <= fuel -> ∃ v,Zz1 fuel t (s:Int) = some v /\ LevP t.parents s v:=by
 intro n
 induction n using Nat.strongRecOn with
 | _ n ih =>
  intro s fuel hn hs hf
  obtain ⟨fuel,rfl⟩:∃ m,fuel = m + 1:=⟨fuel - 1,by omega⟩
  have hle:=T.le
  rw [Zz1,ZZ8 t s (by omega),bS,ZSn]
  refine ZG1 (fun i (v:Int)=>(i = 0 -> v = -1) /\ (0 < i -> 0 <= v /\ v <= t.parents.length - s - 1 /\ ∀ j c,j < i -> (kids t.parents (s:Int))[j]? = some c -> ∀ l,LeafP t.parents c l -> (dep t.parents l:Int) = dep t.parents s + 1 + v)) (fun r=>∃ v,r = some v /\ LevP t.parents s v) ?_ ?_ ⟨fun _=>rfl,fun h=>by omega⟩
  .intro i c v k hi hI hk
   have hc:c ∈ kids t.parents (s:Int):=yE hi
   obtain ⟨q1,q2,q3,q4⟩:=T.kid_par hc
   have hd:dep t.parents c = dep t.parents s + 1:=by rw [T.dep_succ q1 q2,q3]
   obtain ⟨n6,hn6,hl6⟩:=ih (t.parents.length - c) (by omega) c fuel rfl q2 (by omega)
   rw [Z24,hn6,bS]
   rcases hl6 with ⟨p1,p2,p3⟩ | ⟨rfl,l1,l2,h1,h2,hne⟩
   .have e1:decide (n6 < 0) = false:=by simpa using p1
    rw [e1,Bool.false_or]
    by_cases h0:i = 0
    .subst h0
     simp only [Int.natCast_zero,Int.lt_irrefl,decide_false,Bool.false_and,cond_false]
     refine hk n6 ⟨fun h=>by omega,fun _=>⟨p1,by omega,fun j c' hj hc' l hl=>?_⟩⟩
     have:j = 0:=by omega
     subst this
     rw [hi] at hc'; cases hc'
     rw [p3 l hl,hd]; omega
    .have e2:decide ((0:Int) < (i:Int)) = true:=by simp; omega
     obtain ⟨r1,r2,r3⟩:=hI.2 (by omega)
     rw [e2,Bool.true_and]
     by_cases hv:n6 = v
     .subst hv
      simp only [bne_self_eq_false,cond_false]
      refine hk n6 ⟨fun h=>by omega,fun _=>⟨p1,r2,fun j c' hj hc' l hl=>?_⟩⟩
      by_cases hji:j = i
      .subst hji
       rw [hi] at hc'; cases hc'
       rw [p3 l hl,hd]; omega
      .exact r3 j c' (by omega) hc' l hl
     .have e3:(n6 != v) = true:=by simpa using hv
      rw [e3,cond_true]
      refine ⟨-1,rfl,.inr ⟨rfl,?_⟩⟩
      obtain ⟨c0,hc0⟩:∃ c0,(kids t.parents (s:Int))[0]? = some c0:=⟨_,yA (by have:=(yB hi).1; omega)⟩
      have hm0:=yE hc0
      obtain ⟨w1,w2,w3,w4⟩:=T.kid_par hm0
      obtain ⟨la,hla⟩:=T.some_leaf _ c0 rfl w2
      obtain ⟨lb,hlb⟩:=T.some_leaf _ c rfl q2
      refine ⟨la,lb,T.leaf_kid hm0 hla,T.leaf_kid hc hlb,fun e=>hv ?_⟩
      have a1:=r3 0 c0 (by omega) hc0 la hla
      have a2:=p3 lb hlb
      omega
   .refine ⟨-1,by rfl,.inr ⟨rfl,l1,l2,T.leaf_kid hc h1,T.leaf_kid hc h2,hne⟩⟩
  .intro v hI
   rw [Z14]
   by_cases h0:(kids t.parents (s:Int)).length = 0
   .rw [hI.1 h0]
    refine ⟨0,rfl,.inl ⟨by omega,by omega,fun l hl=>?_⟩⟩
    rcases T.leaf_cases hl with rfl | ⟨c,hc,_⟩
    .omega
    .rw [List.eq_nil_of_length_eq_zero h0] at hc; cases hc
   .obtain ⟨r1,r2,r3⟩:=hI.2 (by omega)
    rw [ZM (by omega)]
    refine ⟨v + 1,rfl,.inl ⟨by omega,by omega,fun l hl=>?_⟩⟩
    rcases T.leaf_cases hl with rfl | ⟨c,hc,hlc⟩
    .have:=hl.leaf
     rw [this] at h0; simp at h0
    .obtain ⟨j,hj⟩:=List.getElem?_of_mem hc
     rw [r3 j c (yB hj).1 hj l hlc]; omega
theorem Zv8 {t:Topo} (T:TreeP t.parents) {s:Nat} (hs:s < t.parents.length):∃ v,spec_l02Level t (s:Int) = some v /\ LevP t.parents s v :=
 Z4b T _ s _ rfl hs (by have:=T.le; omega)
structure TopoP (t:Topo):Prop where
 tree:TreeP t.parents
 nodes:t.nodes.length <= 24
 node:∀ x ∈ t.nodes,0 <= x.leaf /\ x.leaf < t.parents.length /\ kids t.parents x.leaf = [] /\ spec_VecOk x.cap = true
 even:∀ l1 l2,l1 < t.parents.length -> l2 < t.parents.length -> kids t.parents (l1:Int) = [] -> kids t.parents (l2:Int) = [] -> dep t.parents l1 = dep t.parents l2
theorem ZC5 (t:Topo):∃ b,spec_TopoOk t = some b /\ (b = true ↔ TopoP t):=by
 unfold spec_TopoOk
 by_cases h1:t.parents.length < 1
 .exact ⟨false,by simp [show ((t.parents.length:Int) < 1) by omega],ZP1 fun h=>by have:=h.tree.pos; omega⟩
 by_cases h2:24 < t.parents.length
 .exact ⟨false,by simp [show ((24:Int) < t.parents.length) by omega],ZP1 fun h=>by have:=h.tree.le; omega⟩
 by_cases h3:24 < t.nodes.length
 .exact ⟨false,by simp [show ((24:Int) < t.nodes.length) by omega],ZP1 fun h=>by have:=h.nodes; omega⟩
 obtain ⟨p0,hp0⟩:∃ p0,t.parents[0]? = some p0:=⟨_,yA (by omega)⟩
 have e1:decide ((t.parents.length:Int) < 1) = false:=by simp; omega
 have e2:decide ((24:Int) < (t.parents.length:Int)) = false:=by simp; omega
 have e3:decide ((24:Int) < (t.nodes.length:Int)) = false:=by simp; omega
 rw [e1,e2,e3]
 simp only [Bool.or_self,cond_false,Bool.false_or,show idx t.parents 0 = some p0 from by rw [← hp0]; exact Za (i:=0),bS]
 by_cases h4:p0 = 0
 .subst h4
  simp only [bne_self_eq_false,cond_false]
  have h:=ZFa (bd:=Zb2 t) (fun (i:Nat) (_:Unit)=>(i:Int)) (n:=t.parents.length)
   (B:=fun x _ _ k=>bif (match t.parents[x]? with | some e=>decide (e < 0) || decide ((x:Int) <= e) | none=>true) then some false else k ())
   (kk:=fun _=>rgl (Za2 t) (Zn3 t) t.nodes 0 ()) (fun i st k hi=>by
    obtain ⟨e,he⟩:∃ e,t.parents[i]? = some e:=⟨_,yA hi⟩
    have hlt:(i:Int) < (t.parents.length:Int):=by omega
    simp only [Zb2,hlt,decide_true,cond_true,Za,he,bS,Zz (n:=i) (by omega)])
   (fun i st k hi=>by
    have hlt:¬ (i:Int) < (t.parents.length:Int):=by omega
    simp only [Zb2,hlt,decide_false,cond_false]) 9223372036854775807 1 () (by omega)
  rw [show (1:Int) = ((1:Nat):Int) from rfl,h,ZW1 (p:=fun (x:Nat)=>match t.parents[x]? with | some e=>decide (e < 0) || decide ((x:Int) <= e) | none=>true) (fun x _ i k=>rfl)]
  cases hany:(List.range' 1 (t.parents.length - 1)).any (fun (x:Nat)=>match t.parents[x]? with | some e=>decide (e < 0) || decide ((x:Int) <= e) | none=>true) with
  | true =>
   refine ⟨false,rfl,ZP1 fun hT=>?_⟩
   obtain ⟨x,hx,hq⟩:=List.any_eq_true.1 hany
   obtain ⟨j,hj,rfl⟩:=List.mem_range'.1 hx
   obtain ⟨e,he⟩:∃ e,t.parents[1 + 1 * j]? = some e:=⟨_,yA (by omega)⟩
   have:=hT.tree.par _ (by omega) e he
   rw [he] at hq
   simp at hq
   omega
  | false =>
   have T:TreeP t.parents:=⟨by omega,by omega,hp0,fun i hi p hp=>by
    have hlt:i < t.parents.length:=(yB hp).1
    have:=List.any_eq_false.1 hany i (List.mem_range'.2 ⟨i - 1,by omega,by omega⟩)
    rw [hp] at this
    simp at this
    omega⟩
   rw [cond_false]
   have hb:∀ x ∈ t.nodes,∀ i k,Za2 t x i () k = bif (!(decide (0 <= x.leaf) && decide (x.leaf < t.parents.length) && (kids t.parents x.leaf).isEmpty && spec_VecOk x.cap)) then some false else k ():=by
    intro x _ i k
    unfold Za2
    by_cases q1:x.leaf < 0
    .simp [q1,show ¬ 0 <= x.leaf by omega]
    .by_cases q2:(t.parents.length:Int) <= x.leaf
     .simp [q1,q2,show ¬ x.leaf < t.parents.length by omega]
     .rw [show decide (x.leaf < 0) = false by simpa using q1,show decide ((t.parents.length:Int) <= x.leaf) = false by simpa using q2]
      simp only [Bool.or_self,cond_false,Bool.false_or,ZZ8 t x.leaf (by omega),bS,List.length_map]
      rw [show decide (0 <= x.leaf) = true by simpa using q1,show decide (x.leaf < (t.parents.length:Int)) = true by simpa using q2]
      cases hk:kids t.parents x.leaf with
      | nil=>simp
      | cons a l=>simp
   rw [ZW1 hb]
   cases hany2:t.nodes.any (fun x=>!(decide (0 <= x.leaf) && decide (x.leaf < t.parents.length) && (kids t.parents x.leaf).isEmpty && spec_VecOk x.cap)) with
   | true =>
    refine ⟨false,rfl,ZP1 fun hT=>?_⟩
    obtain ⟨x,hx,hq⟩:=List.any_eq_true.1 hany2
    obtain ⟨a1,a2,a3,a4⟩:=hT.node x hx
    simp [a1,a2,a3,a4] at hq
   | false =>
    obtain ⟨v,hv,hl⟩:=Zv8 T (s:=0) (by omega)
    rw [cond_false,Zn3,show (0:Int) = ((0:Nat):Int) from rfl,hv,bS]
    have mem:∀ l,l < t.parents.length -> kids t.parents (l:Int) = [] -> LeafP t.parents 0 l:=fun l h1 h2=>⟨h1,h2,T.zero_up l h1⟩
    refine ⟨_,rfl,?_⟩
    rw [decide_eq_true_iff]
    constructor
    .intro h0
     refine ⟨T,by omega,fun x hx=>?_,fun l1 l2 a1 a2 a3 a4=>?_⟩
     .have:=List.any_eq_false.1 hany2 x hx
      simpa [and_assoc] using this
     .rcases hl with ⟨_,_,hl⟩ | ⟨rfl,_⟩
      .have:=hl l1 (mem l1 a1 a3)
       have:=hl l2 (mem l2 a2 a4)
       omega
      .simp at h0
    .intro hT
     rcases hl with ⟨h0,_⟩ | ⟨rfl,l1,l2,a1,a2,hne⟩
     .exact h0
     .exact absurd (hT.even l1 l2 a1.lt a2.lt a1.leaf a2.leaf) hne
 .refine ⟨false,by rw [show (p0 != 0) = true by simpa using h4]; rfl,ZP1 fun h=>h4 ?_⟩
  have:=h.tree.root
  rw [hp0] at this; exact Option.some.inj this
end Go.Proofs.YtpljbgcghpamjaaGreat
