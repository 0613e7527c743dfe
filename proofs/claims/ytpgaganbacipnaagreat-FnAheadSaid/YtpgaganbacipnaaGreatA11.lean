/-
  Lemmas, part 11.
-/
import Derived.Test.YtpgaganbacipnaaGreatA10
import Derived.Test.YtpgaganbacipnaaGreatA1
namespace Go.Proofs.YtpgaganbacipnaaGreat
open Go Go.RowKit Eng
noncomputable def V0D:L :=
 lf Tryz.prog Y0a [] [(64,1)] [] [] [] [] []
def VB(x4:Node)(_:Nat)(v4:(List (List Pt)))(k4:(List (List Pt))->Option (Room×Bool)):Option (Room×Bool) :=
 (appL 24 v4 [(Z6 x4.cap).1]).bind fun xs5=>k4 xs5
def XB(s1:State)(v4:(List (List Pt))):Option (Room×Bool) :=
 (Ov (Room.mk s1.topo s1.up v4 ((Z6 s1.lic).1))).bind fun y6=>some (y6,true)
def Xo(s1:State):Option (Room×Bool) :=
 (Jf s1.topo).bind fun b2=>bif (((!b2)||((s1.up.length:Int)!=(s1.topo.nodes.length:Int)))||(!(W0 s1.lic)))then(some ((Room.mk (Topo.mk [] []) [] [] []),false))else(rgl VB (XB s1) s1.topo.nodes 0 [])
theorem U02{s1:State}{r:Room×Bool}(H:Xo s1=some r):Snd Tryz.prog Y0a [X2 .rd s1] (.tup [.agg [nV 1 (r.1.topo.parents.map eI),nV 4 (r.1.topo.nodes.map Y1),.sref 0,nV 1 (r.1.profs.map (Y2 .nw)),nV 4 (r.1.lics.map ePt)],.bool r.2]) [⟨1,r.1.up.map eBo,false⟩]:=by
 refine wS V0D [.c 2 5 true,.t 3] ?_
 unfold Xo at H
 obtain⟨b2,h2,H⟩:=bB H
 refine wG [.c 16 (JT h2),.g 21 [((!b2),false)] (.ln _ _ fun _=>lm s1.up eBo),.g 25 [((!b2),false)] (.ln _ _ fun _=>lm s1.topo.nodes Y1),.g 31 [(((!b2)||((s1.up.length:Int)!=(s1.topo.nodes.length:Int))),false)] (.call _ _ _ _ _ (AEs.refl _) (fun _=>J4 s1.lic))] fun _=>?_
 refine O0 H (fun H=>?_) fun H=>?_
 .refine wP ?_
  replace H:=sI H;subst H
  exact wN [(2,.d),(3,.d)] [(2,[.n 1,.n 4,.d,.n 1,.n 4])] [] [] [none] [⟨_,nw_I ([]:List Int)⟩,⟨_,J1 ([]:List Node)⟩,⟨_,X7 ([]:List (List Pt))⟩,⟨_,Oj ([]:List Pt)⟩]
 .refine wG [.u 38 (.ln _ _ fun _=>lm s1.topo.nodes Y1)] fun q3=>?_
  refine U04 (fun(i4:Nat) (v4:(List (List Pt)))=>⟨[(1,.ptr 1 0),(2,.ptr 2 0),(4,.ptr 4 0),(37,.sl .rd 4 (s1.topo.nodes.map Y1)),(38,.int .i64 (s1.topo.nodes.length:Int)),(39,.int .i64 (i4:Int))],[],[(1,(X2 .rd s1).cells),(2,[.nl,.nl,.nl,.nl,.nl]),(4,[.sl .rd 1 (s1.topo.parents.map eI),.sl .rd 4 (s1.topo.nodes.map Y1),.sl .rd 1 (s1.up.map eBo),.sref 524000,.nl])],[(524000,⟨1,v4.map (Y2 .nw),false⟩)]⟩) [] [(4,[.d,.d,.d,.z 524000,.d])] [(524000,(none,1))] [] (by kernel_rfl) (by kernel_rfl) H (fun i4 x4 v4 I m k4 hxv4 hiv4 H N24=>?_) (fun v4 I m H=>?_)
  .unfold VB at H
   refine wP ?_
   refine wt (ltT hiv4) ?_
   obtain⟨xs5,h5,H⟩:=bB H
   refine wG [.u 41 (.ix _ _ _ fun _=>Q0 Y1 (J0 hxv4)),.c 46 (L06 x4.cap),.u 53 (.ap _ _ _ _ fun _=>L0 (Y2 .nw) h5),.w 55 (wi .i64 rfl hiv4 q3.1)] fun _=>?_
   exact wT (N24 _ H)
  .unfold XB at H
   refine wP ?_
   refine wf (ltF s1.topo.nodes.length) ?_
   obtain⟨y6,h6,H⟩:=bB H
   refine wG [.c 59 (L06 s1.lic),.u 64 (.call _ _ _ _ _ (AEs.of (xs:=[.agg [rV 1 (s1.topo.parents.map eI),rV 4 (s1.topo.nodes.map Y1),rV 1 (s1.up.map eBo),rV 1 (v4.map (Y2 .nw)),rV 4 (((Z6 s1.lic).1).map ePt)]]) (by simp)) (fun _=>Y06 h6))] fun _=>?_
   replace H:=sI H;subst H
   exact wN [(2,.d),(3,.d)] [(2,[.d,.d,.d,.f,.d])] [(65000,some 65000,0)] [65001] [some 65000] [⟨_,nw_I y6.topo.parents⟩,⟨_,J1 y6.topo.nodes⟩,⟨_,X7 y6.profs⟩,⟨_,Oj y6.lics⟩,⟨_,Yg y6.up⟩]
noncomputable def Z0U:L :=
 lf Tryz.prog L0p [] [] [] [] [] [] []
def Jy(s1:State)(x4:Run)(_:Nat)(v4:Room)(k4:Room->Option (Room×Bool)):Option (Room×Bool) :=
 (Wv v4 x4.job x4.nodes).bind fun b5=>bif (((((!b5)||(!(M2 x4.t)))||(decide (s1.now<x4.t)))||(decide ((w64 (x4.t+x4.job.wall))<=s1.now)))||(decide (1000000000<(w64 (x4.t+x4.job.wall)))))then(some ((Room.mk (Topo.mk [] []) [] [] []),false))else((Zj v4 (Job.mk x4.job.id x4.job.prio x4.job.nodes x4.job.need x4.job.lic (w64 ((w64 (x4.t+x4.job.wall))-s1.now)) x4.job.level) s1.now x4.nodes).bind fun y6=>bif (!y6.2)then(some ((Room.mk (Topo.mk [] []) [] [] []),false))else(k4 y6.1))
def Q06(v4:Room):Option (Room×Bool) :=
 some (v4,true)
def Wd(s1:State):Option (Room×Bool) :=
 (Xo s1).bind fun y2=>bif ((!y2.2)||(!(M2 s1.now)))then(some ((Room.mk (Topo.mk [] []) [] [] []),false))else(rgl (Jy s1) Q06 s1.runs 0 y2.1)
theorem ZU{s1:State}{r:Room×Bool}(H:Wd s1=some r):Snd Tryz.prog L0p [X2 .rd s1] (.tup [V9 .nw r.1,.bool r.2]) []:=by
 refine wS Z0U [.c 2 5 true,.t 3] ?_
 unfold Wd at H
 obtain⟨y2,h2,H⟩:=bB H
 refine wG [.c 14 (U02 h2),.g 22 [((!y2.2),false)] (.call _ _ _ _ _ (AEs.refl _) (fun _=>Z7 s1.now))] fun _=>?_
 refine O0 H (fun H=>?_) fun H=>?_
 .refine wP ?_
  replace H:=sI H;subst H
  exact wN [(2,.d),(3,.d)] [(2,[.n 1,.n 4,.n 1,.n 1,.n 4])] [] [] [] [⟨_,nw_I ([]:List Int)⟩,⟨_,J1 ([]:List Node)⟩,⟨_,Yg ([]:List Bool)⟩,⟨_,X7 ([]:List (List Pt))⟩,⟨_,Oj ([]:List Pt)⟩]
 .refine wG [.u 28 (.ln _ _ fun _=>lm s1.runs (Z1 .rd))] fun q3=>?_
  refine wR (fun(i4:Nat) (v4:Room)=>⟨[(1,.ptr 1 0),(2,.ptr 2 0),(4,.ptr 4 0),(27,rV 13 (s1.runs.map (Z1 .rd))),(28,iV (s1.runs.length:Int)),(29,iV (i4:Int))],[],[(1,(X2 .rd s1).cells),(2,[.nl,.nl,.nl,.nl,.nl]),(4,(V9 .nw v4).cells)],[]⟩) H (fun i4 x4 v4 I m k4 hxv4 hiv4 H N46=>?_) (fun v4 I m H=>?_)
  .unfold Jy at H
   refine wP ?_
   refine wt (ltT hiv4) ?_
   obtain⟨b5,h5,H⟩:=bB H
   refine wG [.u 31 (.ix _ _ _ fun _=>Q0 (Z1 .rd) (J0 hxv4)),.u 44 (.call _ _ _ _ _ (AEs.of (xs:=[.agg [rV 1 (v4.topo.parents.map eI),rV 4 (v4.topo.nodes.map Y1),rV 1 (v4.up.map eBo),rV 1 (v4.profs.map (Y2 .nw)),rV 4 (v4.lics.map ePt)],.agg [iV x4.job.id,iV x4.job.prio,iV x4.job.nodes,iV x4.job.need.a,iV x4.job.need.b,iV x4.job.need.c,iV x4.job.lic.a,iV x4.job.lic.b,iV x4.job.lic.c,iV x4.job.wall,iV x4.job.level],rV 1 (x4.nodes.map eI)]) (by simp)) (fun _=>J05 h5)),.g 49 [((!b5),false)] (.call _ _ _ _ _ (AEs.refl _) (fun _=>Z7 x4.t))] fun _=>?_
   refine O0 H (fun H=>?_) fun H=>?_
   .refine wP ?_
    replace H:=sI H;subst H
    exact wN [(2,.d),(3,.d)] [(2,[.n 1,.n 4,.n 1,.n 1,.n 4])] [] [] [] [⟨_,nw_I ([]:List Int)⟩,⟨_,J1 ([]:List Node)⟩,⟨_,Yg ([]:List Bool)⟩,⟨_,X7 ([]:List (List Pt))⟩,⟨_,Oj ([]:List Pt)⟩]
   .obtain⟨y6,h6,H⟩:=bB H
    refine wG [.u 84 (.call _ _ _ _ _ (AEs.of (xs:=[.agg [rV 1 (v4.topo.parents.map eI),rV 4 (v4.topo.nodes.map Y1),rV 1 (v4.up.map eBo),rV 1 (v4.profs.map (Y2 .nw)),rV 4 (v4.lics.map ePt)],.agg [iV x4.job.id,iV x4.job.prio,iV x4.job.nodes,iV x4.job.need.a,iV x4.job.need.b,iV x4.job.need.c,iV x4.job.lic.a,iV x4.job.lic.b,iV x4.job.lic.c,iV (w64 ((w64 (x4.t+x4.job.wall))-s1.now)),iV x4.job.level],iV s1.now,rV 1 (x4.nodes.map eI)]) (by simp)) (fun _=>W06 h6))] fun _=>?_
    refine O0 H (fun H=>?_) fun H=>?_
    .refine wP ?_
     replace H:=sI H;subst H
     exact wN [(2,.d),(3,.d)] [(2,[.n 1,.n 4,.n 1,.n 1,.n 4])] [] [] [] [⟨_,nw_I ([]:List Int)⟩,⟨_,J1 ([]:List Node)⟩,⟨_,Yg ([]:List Bool)⟩,⟨_,X7 ([]:List (List Pt))⟩,⟨_,Oj ([]:List Pt)⟩]
    .refine wG [.w 91 (wi .i64 rfl hiv4 q3.1)] fun _=>?_
     exact wT (N46 _ H)
  .unfold Q06 at H
   refine wP ?_
   refine wf (ltF s1.runs.length) ?_
   refine wP ?_
   replace H:=sI H;subst H
   exact wN [(2,.d),(3,.d)] [(2,[])] [] [] [] [⟨_,nw_I v4.topo.parents⟩,⟨_,J1 v4.topo.nodes⟩,⟨_,Yg v4.up⟩,⟨_,X7 v4.profs⟩,⟨_,Oj v4.lics⟩]
noncomputable def Y0M:L :=
 lf Tryz.prog L0g [6] [] [] [] [] [] []
def YI(x4:Run)(_:Nat)(v4:(List Job))(k4:(List Job)->Option (List Job)):Option (List Job) :=
 (appL 88 v4 [x4.job]).bind fun xs5=>k4 xs5
def JH(v4:(List Job)):Option (List Job) :=
 some v4
def Li(s1:State):Option (List Job) :=
 (appL 88 ([]:List Job) s1.queue).bind fun xs2=>rgl YI JH s1.runs 0 xs2
theorem ON{s1:State}{r:(List Job)}(H:Li s1=some r):Snd Tryz.prog L0g [X2 .rd s1] (nV 11 (r.map eJob)) []:=by
 refine wS Y0M [.t 2] ?_
 unfold Li at H
 obtain⟨xs2,h2,H⟩:=bB H
 refine wG [.u 9 (.ap _ _ _ _ fun _=>L0 eJob h2),.u 12 (.ln _ _ fun _=>lm s1.runs (Z1 .rd))] fun q3=>?_
 refine wR (fun(i4:Nat) (v4:(List Job))=>⟨[(3,.sref 6),(11,rV 13 (s1.runs.map (Z1 .rd))),(12,iV (s1.runs.length:Int)),(13,iV (i4:Int))],[],[],[(6,⟨11,v4.map eJob,false⟩)]⟩) H (fun i4 x4 v4 I m k4 hxv4 hiv4 H N15=>?_) (fun v4 I m H=>?_)
 .unfold YI at H
  refine wP ?_
  refine wt (ltT hiv4) ?_
  obtain⟨xs5,h5,H⟩:=bB H
  refine wG [.u 15 (.ix _ _ _ fun _=>Q0 (Z1 .rd) (J0 hxv4)),.u 21 (.ap _ _ _ _ fun _=>L0 eJob h5),.w 22 (wi .i64 rfl hiv4 q3.1)] fun _=>?_
  exact wT (N15 _ H)
 .unfold JH at H
  refine wP ?_
  refine wf (ltF s1.runs.length) ?_
  refine wP ?_
  replace H:=sI H;subst H
  exact wN [(2,.f)] [] [] [6] [] [⟨_,Lh v4⟩]
noncomputable def Y0N:L :=
 lf Tryz.prog O0h [] [] [] [] [(13,12)] [] []
def Yu(s1:State)(x6:Run)(x8:Int)(i8:Nat)(_:Unit)(k8:Unit->Option Bool):Option Bool :=
 (idx s1.up x8).bind fun e9=>(bif (!e9)then some default else(bif (decide (0<(i8:Int)))then(idx x6.nodes (w64 ((i8:Int)-1)))else some default)).bind fun e10=>bif ((!e9)||((decide (0<(i8:Int)))&&(decide (x8<=e10))))then(some false)else(k8 ())
def Ua(s1:State)(x6:Run)(k6:Unit->Option Bool)(_:Unit):Option Bool :=
 (Wu s1.topo x6.nodes).bind fun n11=>(Q8 s1.topo n11).bind fun n12=>bif (decide (x6.job.level<n12))then(some false)else(k6 ())
def Jt(s1:State)(x14:End)(_:Nat)(_:Unit)(k14:Unit->Option Bool):Option Bool :=
 bif ((((((decide (x14.id<1))||(decide (999<x14.id)))||(decide (x14.t<0)))||(decide (s1.now<x14.t)))||(decide (x14.why<1)))||(decide (4<x14.why)))then(some false)else(k14 ())
def OI(_:Unit):Option Bool :=
 some true
def Zu(s1:State)(x6:Run)(_:Nat)(_:Unit)(k6:Unit->Option Bool):Option Bool :=
 rgl (Yu s1 x6) (Ua s1 x6 k6) x6.nodes 0 ()
def MI(s1:State)(_:Unit):Option Bool :=
 rgl (Jt s1) OI s1.ends 0 ()
def M6(s1:State):Option Bool :=
 (Wd s1).bind fun y2=>(bif (((!y2.2)||(decide (s1.depth<0)))||(decide (60<s1.depth)))then some default else(Li s1)).bind fun y3=>(bif (((!y2.2)||(decide (s1.depth<0)))||(decide (60<s1.depth)))then some default else(Vm y3)).bind fun b4=>bif (((((!y2.2)||(decide (s1.depth<0)))||(decide (60<s1.depth)))||(!b4))||(decide (300<(s1.ends.length:Int))))then(some false)else(rgl (Zu s1) (MI s1) s1.runs 0 ())
theorem Y7{s1:State}{r:Bool}(H:M6 s1=some r):Snd Tryz.prog O0h [X2 .rd s1] (.bool r) []:=by
 refine wS Y0N [.t 2] ?_
 unfold M6 at H
 obtain⟨y2,h2,H⟩:=bB H
 obtain⟨y3,h3,H⟩:=bB H
 obtain⟨b4,h4,H⟩:=bB H
 refine wG [.c 13 (ZU h2),.g 30 [(_,false)] (.call _ _ _ _ _ (AEs.refl _) (fun q=>ON (bF q.1 h3))),.g 31 [(_,false)] (.call _ _ _ _ _ (AEs.refl _) (fun q=>WO (bF q.1 h4))),.g 37 [(((((!y2.2)||(decide (s1.depth<0)))||(decide (60<s1.depth)))||(!b4)),false)] (.ln _ _ fun _=>lm s1.ends eEnd)] fun _=>?_
 refine O0 H (fun H=>?_) fun H=>?_
 .obtain rfl:=sI H
  exact wP (wE [(2,.d)])
 .refine wG [.u 42 (.ln _ _ fun _=>lm s1.runs (Z1 .rd))] fun q5=>?_
  refine wR (fun(i6:Nat) (v6:Unit)=>⟨[(1,.ptr 1 0),(41,rV 13 (s1.runs.map (Z1 .rd))),(42,iV (s1.runs.length:Int)),(43,iV (i6:Int))],[],[(1,(X2 .rd s1).cells)],[]⟩) H (fun i6 x6 v6 I m k6 hxv6 hiv6 H N51=>?_) (fun v6 I m H=>?_)
  .unfold Zu at H
   refine wP ?_
   refine wt (ltT hiv6) ?_
   refine wG [.u 45 (.ix _ _ _ fun _=>Q0 (Z1 .rd) (J0 hxv6)),.u 49 (.ln _ _ fun _=>lm x6.nodes eI)] fun q7=>?_
   refine wR (fun(i8:Nat) (v8:Unit)=>⟨[(1,.ptr 1 0),(6,.ptr 6 0),(41,rV 13 (s1.runs.map (Z1 .rd))),(42,iV (s1.runs.length:Int)),(43,iV (i6:Int)),(48,rV 1 (x6.nodes.map eI)),(49,iV (x6.nodes.length:Int)),(50,iV (i8:Int))],[],[(1,(X2 .rd s1).cells),(6,(Z1 .rd x6).cells)],[]⟩) H (fun i8 x8 v8 I m k8 hxv8 hiv8 H N34=>?_) (fun v8 I m H=>?_)
   .unfold Yu at H
    refine wP ?_
    refine wt (ltT hiv8) ?_
    obtain⟨e9,h9,H⟩:=bB H
    obtain⟨e10,h10,H⟩:=bB H
    refine wG [.u 53 (.ix _ _ _ fun _=>Q0 eI (J0 hxv8)),.u 58 (.ix _ _ _ fun _=>Q0 eBo h9),.g 69 [(_,true),(_,false)] (.ix _ _ _ fun q=>Q0 eI (bT q.1 (bF q.2.1 h10)))] fun _=>?_
    refine O0 H (fun H=>?_) fun H=>?_
    .obtain rfl:=sI H
     exact wP (wE [(2,.d)])
    .refine wG [.w 75 (wi .i64 rfl hiv8 q7.1)] fun _=>?_
     exact wT (N34 () H)
   .unfold Ua at H
    refine wP ?_
    refine wf (ltF x6.nodes.length) ?_
    obtain⟨n11,h11,H⟩:=bB H
    obtain⟨n12,h12,H⟩:=bB H
    refine wG [.c 82 (V0S h11),.c 83 (Xa h12)] fun _=>?_
    refine O0 H (fun H=>?_) fun H=>?_
    .obtain rfl:=sI H
     exact wP (wE [(2,.d)])
    .refine wG [.w 88 (wi .i64 rfl hiv6 q5.1)] fun _=>?_
     exact wT (N51 () H)
  .unfold MI at H
   refine wP ?_
   refine wf (ltF s1.runs.length) ?_
   refine wG [.u 91 (.ln _ _ fun _=>lm s1.ends eEnd)] fun q13=>?_
   refine wR (fun(i14:Nat) (v14:Unit)=>⟨[(1,.ptr 1 0),(90,rV 3 (s1.ends.map eEnd)),(91,iV (s1.ends.length:Int)),(92,iV (i14:Int))],[],[(1,(X2 .rd s1).cells)],[]⟩) H (fun i14 x14 v14 I m k14 hxv14 hiv14 H N73=>?_) (fun v14 I m H=>?_)
   .unfold Jt at H
    refine wP ?_
    refine wt (ltT hiv14) ?_
    refine wG [.u 94 (.ix _ _ _ fun _=>Q0 eEnd (J0 hxv14))] fun _=>?_
    refine O0 H (fun H=>?_) fun H=>?_
    .obtain rfl:=sI H
     exact wP (wE [(2,.d)])
    .refine wG [.w 126 (wi .i64 rfl hiv14 q13.1)] fun _=>?_
     exact wT (N73 () H)
   .unfold OI at H
    refine wP ?_
    refine wf (ltF s1.ends.length) ?_
    obtain rfl:=sI H
    exact wP (wE [(2,.d)])
noncomputable def X0M:L :=
 lf Tryz.prog J0g [18,23,28,36,48] [(6,0),(10,0),(11,0),(15,0)] [] [] [(1,12)] [] [64819]
def Vt(x7:Run)(_:Nat)(v7:(List Run))(k7:(List Run)->Option State):Option State :=
 (appL 8 ([]:List Int) x7.nodes).bind fun xs8=>(appL 120 v7 [(Run.mk x7.job x7.t xs8)]).bind fun xs9=>k7 xs9
def XI(s1:State)(xs2:List Int)(xs3:List Node)(xs4:List Bool)(xs5:List Job)(v7:(List Run)):Option State :=
 (appL 24 ([]:List End) s1.ends).bind fun xs10=>some (State.mk (Topo.mk xs2 xs3) xs4 s1.lic s1.depth s1.now xs5 v7 xs10)
def Q7(s1:State):Option State :=
 (appL 8 ([]:List Int) s1.topo.parents).bind fun xs2=>(appL 32 ([]:List Node) s1.topo.nodes).bind fun xs3=>(appL 1 ([]:List Bool) s1.up).bind fun xs4=>(appL 88 ([]:List Job) s1.queue).bind fun xs5=>rgl Vt (XI s1 xs2 xs3 xs4 xs5) s1.runs 0 []
theorem J8{s1 r:State}(H:Q7 s1=some r):Snd Tryz.prog J0g [X2 .rd s1] (.agg [nV 1 (r.topo.parents.map eI),nV 4 (r.topo.nodes.map Y1),.sref 0,iV r.lic.a,iV r.lic.b,iV r.lic.c,iV r.depth,iV r.now,.sref 1,.sref 2,.sref 3]) [⟨1,r.up.map eBo,false⟩,⟨11,r.queue.map eJob,false⟩,⟨13,r.runs.map (Z1 .nw),false⟩,⟨3,r.ends.map eEnd,false⟩]:=by
 refine wS X0M [.c 2 11 true] ?_
 unfold Q7 at H
 obtain⟨xs2,h2,H⟩:=bB H
 obtain⟨xs3,h3,H⟩:=bB H
 obtain⟨xs4,h4,H⟩:=bB H
 obtain⟨xs5,h5,H⟩:=bB H
 refine wG [.u 10 (.ap _ _ _ _ fun _=>L0 eI h2),.u 15 (.ap _ _ _ _ fun _=>L0 Y1 h3),.u 21 (.ap _ _ _ _ fun _=>L0 eBo h4),.u 26 (.ap _ _ _ _ fun _=>L0 eJob h5),.u 31 (.ln _ _ fun _=>lm s1.runs (Z1 .rd))] fun q6=>?_
 refine wR (fun(i7:Nat) (v7:(List Run))=>⟨[(1,.ptr 1 0),(2,.ptr 2 0),(3,.sref 28),(30,rV 13 (s1.runs.map (Z1 .rd))),(31,iV (s1.runs.length:Int)),(32,iV (i7:Int))],[],[(1,[nV 1 (xs2.map eI),nV 4 (xs3.map Y1),.sref 18,iV s1.lic.a,iV s1.lic.b,iV s1.lic.c,iV s1.depth,iV s1.now,.sref 23,rV 13 (s1.runs.map (Z1 .rd)),rV 3 (s1.ends.map eEnd)]),(2,[.nl,.nl,.nl,iV 0,iV 0,iV 0,iV 0,iV 0,.nl,.nl,.nl])],[(18,⟨1,xs4.map eBo,false⟩),(23,⟨11,xs5.map eJob,false⟩),(28,⟨13,v7.map (Z1 .nw),false⟩)]⟩) H (fun i7 x7 v7 I m k7 hxv7 hiv7 H N20=>?_) (fun v7 I m H=>?_)
 .unfold Vt at H
  refine wP ?_
  refine wt (ltT hiv7) ?_
  obtain⟨xs8,h8,H⟩:=bB H
  refine wG [.u 34 (.ix _ _ _ fun _=>Q0 (Z1 .rd) (J0 hxv7)),.u 39 (.ap _ _ _ _ fun _=>L0 eI h8)] fun _=>?_
  refine O20 [(39,.f)] [(5,[.d,.d,.d,.d,.d,.d,.d,.d,.d,.d,.d,.d,.f])] [36] (by kernel_rfl) ?_
  obtain⟨xs9,h9,H⟩:=bB H
  refine wG [.u 44 (.ap _ _ _ _ fun _=>L0 (Z1 .nw) h9),.w 45 (wi .i64 rfl hiv7 q6.1)] fun _=>?_
  exact wT (N20 _ H)
 .unfold XI at H
  refine wP ?_
  refine wf (ltF s1.runs.length) ?_
  obtain⟨xs10,h10,H⟩:=bB H
  refine wG [.u 51 (.ap _ _ _ _ fun _=>L0 eEnd h10)] fun _=>?_
  replace H:=sI H;subst H
  exact wN [(2,.d)] [(2,[])] [(18,some 18,0),(23,some 23,0),(28,some 28,0),(48,some 48,0)] [] [some 18,some 23,some 28,some 48] [⟨_,nw_I xs2⟩,⟨_,J1 xs3⟩,⟨_,Yg xs4⟩,⟨_,Lh xs5⟩,⟨_,Zg v7⟩,⟨_,Lr xs10⟩]
noncomputable def U0E:L :=
 lf Tryz.prog O0a [] [(29,1)] [] [] [] [] []
def UC(_:Node)(_:Nat)(v5:(List Bool))(k5:(List Bool)->Option (State×Bool)):Option (State×Bool) :=
 (appL 1 v5 [true]).bind fun xs6=>k5 xs6
def VC(t1:Topo)(lic2:Vec)(depth3:Int)(v5:(List Bool)):Option (State×Bool) :=
 (M6 (State.mk t1 v5 lic2 depth3 0 [] [] [])).bind fun b7=>bif (!b7)then(some ((State.mk (Topo.mk [] []) [] (Vec.mk 0 0 0) 0 0 [] [] []),false))else((Q7 (State.mk t1 v5 lic2 depth3 0 [] [] [])).bind fun y8=>some (y8,true))
def Ly(t1:Topo)(lic2:Vec)(depth3:Int):Option (State×Bool) :=
 rgl UC (VC t1 lic2 depth3) t1.nodes 0 []
theorem Y0C{t1:Topo}{lic2:Vec}{depth3:Int}{r:State×Bool}(H:Ly t1 lic2 depth3=some r):Snd Tryz.prog O0a [X4 .rd t1,eVec lic2,iV depth3] (.tup [.agg [nV 1 (r.1.topo.parents.map eI),nV 4 (r.1.topo.nodes.map Y1),.sref 0,iV r.1.lic.a,iV r.1.lic.b,iV r.1.lic.c,iV r.1.depth,iV r.1.now,.sref 1,.sref 2,.sref 3],.bool r.2]) [⟨1,r.1.up.map eBo,false⟩,⟨11,r.1.queue.map eJob,false⟩,⟨13,r.1.runs.map (Z1 .nw),false⟩,⟨3,r.1.ends.map eEnd,false⟩]:=by
 refine wS U0E [.c 6 11 true,.t 7] ?_
 unfold Ly at H
 refine wG [.u 15 (.ln _ _ fun _=>lm t1.nodes Y1)] fun q4=>?_
 refine U04 (fun(i5:Nat) (v5:(List Bool))=>⟨[(6,.ptr 6 0),(8,.ptr 8 0),(15,.int .i64 (t1.nodes.length:Int)),(16,.int .i64 (i5:Int))],[],[(6,[.nl,.nl,.nl,.int .i64 0,.int .i64 0,.int .i64 0,.int .i64 0,.int .i64 0,.nl,.nl,.nl]),(8,[.sl .rd 1 (t1.parents.map eI),.sl .rd 4 (t1.nodes.map Y1),.sref 297000,.int .i64 lic2.a,.int .i64 lic2.b,.int .i64 lic2.c,.int .i64 depth3,.int .i64 0,.nl,.nl,.nl])],[(297000,⟨1,v5.map eBo,false⟩)]⟩) [] [(8,[.d,.d,.z 297000,.d,.d,.d,.d,.d,.d,.d,.d])] [(297000,(none,1))] [] (by kernel_rfl) (by kernel_rfl) H (fun i5 x5 v5 I m k5 hxv5 hiv5 H N13=>?_) (fun v5 I m H=>?_)
 .unfold UC at H
  refine wP ?_
  refine wt (ltT hiv5) ?_
  obtain⟨xs6,h6,H⟩:=bB H
  refine wG [.u 21 (.ap _ _ _ _ fun _=>L0 eBo h6),.w 23 (wi .i64 rfl hiv5 q4.1)] fun _=>?_
  exact wT (N13 _ H)
 .unfold VC at H
  refine wP ?_
  refine wf (ltF t1.nodes.length) ?_
  obtain⟨b7,h7,H⟩:=bB H
  refine wG [.c 25 (Y7 h7)] fun _=>?_
  refine O0 H (fun H=>?_) fun H=>?_
  .refine wP ?_
   replace H:=sI H;subst H
   exact wN [(6,.d),(7,.d)] [(6,[.n 1,.n 4,.d,.d,.d,.d,.d,.d,.d,.d,.d])] [] [] [none,none,none,none] [⟨_,nw_I ([]:List Int)⟩,⟨_,J1 ([]:List Node)⟩]
  .obtain⟨y8,h8,H⟩:=bB H
   refine wG [.c 29 (J8 h8)] fun _=>?_
   replace H:=sI H;subst H
   exact wN [(6,.d),(7,.d)] [(6,[])] [(30000,some 30000,0),(30001,some 30001,0),(30002,some 30002,0),(30003,some 30003,0)] [] [some 30000,some 30001,some 30002,some 30003] [⟨_,nw_I y8.topo.parents⟩,⟨_,J1 y8.topo.nodes⟩,⟨_,Yg y8.up⟩,⟨_,Lh y8.queue⟩,⟨_,Zg y8.runs⟩,⟨_,Lr y8.ends⟩]
noncomputable def Z0T:L :=
 lf Tryz.prog V0p [8] [] [] [] [] [] []
def Jw(id2:Int)(x4:Job)(_:Nat)(v4:(List Job))(k4:(List Job)->Option (List Job)):Option (List Job) :=
 bif (x4.id != id2)then((appL 88 v4 [x4]).bind fun xs5=>k4 xs5)else(k4 v4)
def WN(v4:(List Job)):Option (List Job) :=
 some v4
def Ol(l1:List Job)(id2:Int):Option (List Job) :=
 rgl (Jw id2) WN l1 0 []
theorem J0e{l1:List Job}{id2:Int}{r:(List Job)}(H:Ol l1 id2=some r):Snd Tryz.prog V0p [rV 11 (l1.map eJob),iV id2] (.sref 0) [⟨11,r.map eJob,false⟩]:=by
 refine wS Z0T [.t 4] ?_
 unfold Ol at H
 refine wG [.u 10 (.ln _ _ fun _=>lm l1 eJob)] fun q3=>?_
 refine wR (fun(i4:Nat) (v4:(List Job))=>⟨[(1,iV id2),(5,.sref 8),(9,rV 11 (l1.map eJob)),(10,iV (l1.length:Int)),(11,iV (i4:Int))],[],[],[(8,⟨11,v4.map eJob,false⟩)]⟩) H (fun i4 x4 v4 I m k4 hxv4 hiv4 H N19=>?_) (fun v4 I m H=>?_)
 .unfold Jw at H
  refine wP ?_
  refine wt (ltT hiv4) ?_
  refine wG [.u 13 (.ix _ _ _ fun _=>Q0 eJob (J0 hxv4))] fun _=>?_
  refine O0 H (fun H=>?_) fun H=>?_
  .obtain⟨xs5,h5,H⟩:=bB H
   refine wG [.u 22 (.ap _ _ _ _ fun _=>L0 eJob h5),.w 23 (wi .i64 rfl hiv4 q3.1)] fun _=>?_
   exact wT (N19 _ H)
  .refine wG [.w 23 (wi .i64 rfl hiv4 q3.1)] fun _=>?_
   exact wT (N19 _ H)
 .unfold WN at H
  refine wP ?_
  refine wf (ltF l1.length) ?_
  refine wP ?_
  replace H:=sI H;subst H
  exact wN [(4,.d)] [] [(8,some 8,0)] [] [some 8] [⟨_,Lh v4⟩]
noncomputable def Z0M:L :=
 lf Tryz.prog M0g [] [] [] [] [] [] []
def LH(x3:Run)(_:Nat)(v3:Int)(k3:Int->Option Int):Option Int :=
 bif ((decide (v3<0))||(decide ((w64 (x3.t+x3.job.wall))<v3)))then(k3 (w64 (x3.t+x3.job.wall)))else(k3 v3)
def V02(v3:Int):Option Int :=
 some v3
def Mi(s1:State):Option Int :=
 rgl LH V02 s1.runs 0 (-1)
theorem Zx{s1:State}{r:Int}(H:Mi s1=some r):Snd Tryz.prog M0g [X2 .rd s1] (iV r) []:=by
 refine wS Z0M [.t 2] ?_
 unfold Mi at H
 refine wG [.u 8 (.ln _ _ fun _=>lm s1.runs (Z1 .rd))] fun q2=>?_
 refine wR (fun(i3:Nat) (v3:Int)=>⟨[(3,iV v3),(7,rV 13 (s1.runs.map (Z1 .rd))),(8,iV (s1.runs.length:Int)),(9,iV (i3:Int))],[],[],[]⟩) H (fun i3 x3 v3 I m k3 hxv3 hiv3 H N19=>?_) (fun v3 I m H=>?_)
 .unfold LH at H
  refine wP ?_
  refine wt (ltT hiv3) ?_
  refine wG [.u 11 (.ix _ _ _ fun _=>Q0 (Z1 .rd) (J0 hxv3))] fun _=>?_
  refine O0 H (fun H=>?_) fun H=>?_
  .refine wG [.w 31 (wi .i64 rfl hiv3 q2.1)] fun _=>?_
   exact wT (N19 _ H)
  .refine wG [.w 31 (wi .i64 rfl hiv3 q2.1)] fun _=>?_
   exact wT (N19 _ H)
 .unfold V02 at H
  refine wP ?_
  refine wf (ltF s1.runs.length) ?_
  obtain rfl:=sI H
  exact wP (wE [(2,.d)])
noncomputable def X0e:L :=
 lf Tryz.prog W01 [41,42] [] [] [] [] [] []
def J0d:List Rv:=[.t 8,.t 9,.t 10]
theorem M0e:Ms Tryz.prog W01 4 X0e J0d=true:=by kernel_rfl
def Z9(now2 depth4:Int)(x11:Job)(_:Nat)(v11:Room×(List Held)×(List Held))(k11:(Room×(List Held)×(List Held))->Option ((List Held)×(List Held)×Bool)):Option ((List Held)×(List Held)×Bool) :=
 (Uj v11.1 x11 now2).bind fun y12=>bif ((!y12.2.2)||((decide (now2<y12.1))&&(decide (depth4<=(v11.2.2.length:Int)))))then(k11 (v11.1,v11.2.1,v11.2.2))else((Zj v11.1 x11 y12.1 y12.2.1).bind fun y13=>bif (!y13.2)then(k11 (v11.1,v11.2.1,v11.2.2))else(bif (y12.1==now2)then((appL 40 v11.2.1 [(Held.mk x11.id y12.1 y12.2.1)]).bind fun xs14=>k11 (y13.1,xs14,v11.2.2))else((appL 40 v11.2.2 [(Held.mk x11.id y12.1 y12.2.1)]).bind fun xs15=>k11 (y13.1,v11.2.1,xs15))))
def Qm(v11:Room×(List Held)×(List Held)):Option ((List Held)×(List Held)×Bool) :=
 some (v11.2.1,v11.2.2,true)
def O4(r1:Room)(now2:Int)(l3:List Job)(depth4:Int):Option ((List Held)×(List Held)×Bool) :=
 (Ym r1).bind fun b5=>(bif (!b5)then some default else(Vm l3)).bind fun b6=>bif (((((!b5)||(!b6))||(!(M2 now2)))||(decide (depth4<0)))||(decide (60<depth4)))then(some ([],[],false))else((MW l3).bind fun y9=>rgl (Z9 now2 depth4) Qm y9 0 (r1,[],[]))
set_option maxRecDepth 20000 in
theorem L0d{r1:Room}{now2:Int}{l3:List Job}{depth4:Int}{r:(List Held)×(List Held)×Bool}(H:O4 r1 now2 l3 depth4=some r):ConD Tryz.prog W01 [V9 .nw r1,iV now2,.sref 0,iV depth4] [] [(11,l3.map eJob)] (.tup [.sref 1,.sref 2,.bool r.2.2]) [] [some (l3.map eJob)] [(3,r.1.map (Vq .nw)),(3,r.2.1.map (Vq .nw))]:=by
 refine WV [true] M0e rfl (by kernel_rfl) ?_
 unfold O4 at H
 obtain⟨b5,h5,H⟩:=bB H
 obtain⟨b6,h6,H⟩:=bB H
 refine wG [.u 21 (.call _ _ _ _ _ (AEs.of (xs:=[.agg [rV 1 (r1.topo.parents.map eI),rV 4 (r1.topo.nodes.map Y1),rV 1 (r1.up.map eBo),rV 1 (r1.profs.map (Y2 .nw)),rV 4 (r1.lics.map ePt)]]) (by simp)) (fun _=>YF h5)),.g 25 [(_,false)] (.call _ _ _ _ _ (AEs.refl _) (fun q=>WO (bF q.1 h6))),.g 30 [(((!b5)||(!b6)),false)] (.call _ _ _ _ _ (AEs.refl _) (fun _=>Z7 now2))] fun _=>?_
 refine O0 H (fun H=>?_) fun H=>?_
 .refine wP ?_
  replace H:=sI H;subst H
  exact X3 [(8,.z 700000007),(9,.z 700000008),(10,.d)] [] [(700000007,none,3),(700000008,none,3),(1000000000,some 1000000000,0)] [] [700000007,700000008] (by kernel_rfl)
 .obtain⟨y9,h9,H⟩:=bB H
  refine wG [.c 44 (L11 h9),.u 45 (.ln _ _ fun _=>lm y9 eJob)] fun q10=>?_
  refine wR (fun(i11:Nat) (v11:Room×(List Held)×(List Held))=>⟨[(1,iV now2),(3,iV depth4),(4,.ptr 4 0),(11,.sref 41),(12,.sref 42),(44,nV 11 (y9.map eJob)),(45,iV (y9.length:Int)),(46,iV (i11:Int))],[],[(4,(V9 .nw v11.1).cells)],[(41,⟨3,v11.2.1.map (Vq .nw),false⟩),(42,⟨3,v11.2.2.map (Vq .nw),false⟩),(1000000000,⟨11,l3.map eJob,false⟩)]⟩) H (fun i11 x11 v11 I m k11 hxv11 hiv11 H N45=>?_) (fun v11 I m H=>?_)
  .unfold Z9 at H
   refine wP ?_
   refine wt (ltT hiv11) ?_
   obtain⟨y12,h12,H⟩:=bB H
   refine wG [.u 48 (.ix _ _ _ fun _=>Q0 eJob (J0 hxv11)),.u 54 (.call _ _ _ _ _ (AEs.of (xs:=[.agg [rV 1 (v11.1.topo.parents.map eI),rV 4 (v11.1.topo.nodes.map Y1),rV 1 (v11.1.up.map eBo),rV 1 (v11.1.profs.map (Y2 .nw)),rV 4 (v11.1.lics.map ePt)],.agg [iV x11.id,iV x11.prio,iV x11.nodes,iV x11.need.a,iV x11.need.b,iV x11.need.c,iV x11.lic.a,iV x11.lic.b,iV x11.lic.c,iV x11.wall,iV x11.level],iV now2]) (by simp)) (fun _=>Q03 h12)),.g 66 [((decide (now2<y12.1)),true),((!y12.2.2),false)] (.ln _ _ fun _=>lm v11.2.2 (Vq .nw))] fun _=>?_
   refine O0 H (fun H=>?_) fun H=>?_
   .refine wG [.w 101 (wi .i64 rfl hiv11 q10.1)] fun _=>?_
    exact wT (N45 _ H)
   .obtain⟨y13,h13,H⟩:=bB H
    refine wG [.u 76 (.call _ _ _ _ _ (AEs.of (xs:=[.agg [rV 1 (v11.1.topo.parents.map eI),rV 4 (v11.1.topo.nodes.map Y1),rV 1 (v11.1.up.map eBo),rV 1 (v11.1.profs.map (Y2 .nw)),rV 4 (v11.1.lics.map ePt)],.agg [iV x11.id,iV x11.prio,iV x11.nodes,iV x11.need.a,iV x11.need.b,iV x11.need.c,iV x11.lic.a,iV x11.lic.b,iV x11.lic.c,iV x11.wall,iV x11.level],iV y12.1,rV 1 (y12.2.1.map eI)]) (by simp)) (fun _=>W06 h13))] fun _=>?_
    refine O0 H (fun H=>?_) fun H=>?_
    .refine wG [.w 101 (wi .i64 rfl hiv11 q10.1)] fun _=>?_
     exact wT (N45 _ H)
    .refine wP ?_
     refine O0 H (fun H=>?_) fun H=>?_
     .obtain⟨xs14,h14,H⟩:=bB H
      refine wG [.u 92 (.ap _ _ _ _ fun _=>L0 (Vq .nw) h14),.w 101 (wi .i64 rfl hiv11 q10.1)] fun _=>?_
      exact wT (N45 _ H)
     .obtain⟨xs15,h15,H⟩:=bB H
      refine wG [.u 100 (.ap _ _ _ _ fun _=>L0 (Vq .nw) h15),.w 101 (wi .i64 rfl hiv11 q10.1)] fun _=>?_
      exact wT (N45 _ H)
  .unfold Qm at H
   refine wP ?_
   refine wf (ltF y9.length) ?_
   refine wP ?_
   replace H:=sI H;subst H
   exact X3 [(8,.d),(9,.d),(10,.d)] [] [(41,some 41,0),(42,some 42,0),(1000000000,some 1000000000,0)] [] [41,42] (by kernel_rfl)
noncomputable def OZ:L :=
 lf Tryz.prog U7 [] [(25,2),(47,1)] [] [] [] [] []
def JY:List Rv:=[.c 2 11 true]
theorem W00:Ms Tryz.prog U7 1 OZ JY=true:=by kernel_rfl
def V5(s1:State)(x5:Held)(_:Nat)(v5:(List Job)×(List Run))(k5:((List Job)×(List Run))->Option State):Option State :=
 (Yb v5.1 x5.id).bind fun y6=>(Ol v5.1 x5.id).bind fun y7=>(appL 120 v5.2 [(Run.mk y6.1 s1.now x5.nodes)]).bind fun xs8=>k5 (y7,xs8)
def Vv(s1:State)(v5:(List Job)×(List Run)):Option State :=
 some (State.mk s1.topo s1.up s1.lic s1.depth s1.now v5.1 v5.2 s1.ends)
def O1(s1:State):Option State :=
 (Wd s1).bind fun y2=>(O4 y2.1 s1.now s1.queue s1.depth).bind fun y3=>rgl (V5 s1) (Vv s1) y3.1 0 (s1.queue,s1.runs)
set_option maxRecDepth 20000 in
theorem W5{s1 r:State}(H:O1 s1=some r):ConD Tryz.prog U7 [.agg [nV 1 (s1.topo.parents.map eI),nV 4 (s1.topo.nodes.map Y1),.sref 0,iV s1.lic.a,iV s1.lic.b,iV s1.lic.c,iV s1.depth,iV s1.now,.sref 1,.sref 2,.sref 3]] [] [(1,s1.up.map eBo),(11,s1.queue.map eJob),(13,s1.runs.map (Z1 .nw)),(3,s1.ends.map eEnd)] (.agg [nV 1 (r.topo.parents.map eI),nV 4 (r.topo.nodes.map Y1),.sref 4,iV r.lic.a,iV r.lic.b,iV r.lic.c,iV r.depth,iV r.now,.sref 5,.sref 6,.sref 7]) [] [none,none,none,none] [(1,r.up.map eBo),(11,r.queue.map eJob),(13,r.runs.map (Z1 .nw)),(3,r.ends.map eEnd)]:=by
 refine WV [false,false,false,false] W00 rfl (by kernel_rfl) ?_
 unfold O1 at H
 obtain⟨y2,h2,H⟩:=bB H
 obtain⟨y3,h3,H⟩:=bB H
 refine wG [.u 14 (.call _ _ _ _ _ (AEs.of (xs:=[.agg [rV 1 (s1.topo.parents.map eI),rV 4 (s1.topo.nodes.map Y1),rV 1 (s1.up.map eBo),iV s1.lic.a,iV s1.lic.b,iV s1.lic.c,iV s1.depth,iV s1.now,rV 11 (s1.queue.map eJob),rV 13 (s1.runs.map (Z1 .nw)),rV 3 (s1.ends.map eEnd)]]) (by simp)) (fun _=>ZU h2)),.u 25 (.cw W01 [] [500000001] [] [(11,s1.queue.map eJob)] [V9 .nw y2.1,iV s1.now,.sref 0,iV s1.depth] _ _ _ _ _ (GEs.of [true,false,true,false] (by simp)) (by simp) (by simp) (by simp) (fun _=>L0d h3)),.u 30 (.ln _ _ fun _=>lm y3.1 (Vq .nw))] fun q4=>?_
 refine wR (fun(i5:Nat) (v5:(List Job)×(List Run))=>⟨[(1,.ptr 1 0),(2,.ptr 2 0),(29,.sref 26000),(30,iV (y3.1.length:Int)),(31,iV (i5:Int))],[],[(1,[nV 1 (s1.topo.parents.map eI),nV 4 (s1.topo.nodes.map Y1),.sref 500000000,iV s1.lic.a,iV s1.lic.b,iV s1.lic.c,iV s1.depth,iV s1.now,.sref 500000001,.sref 500000002,.sref 500000003]),(2,[.nl,.nl,.nl,iV 0,iV 0,iV 0,iV 0,iV 0,.nl,.nl,.nl])],[(500000000,⟨1,s1.up.map eBo,false⟩),(500000001,⟨11,v5.1.map eJob,false⟩),(500000002,⟨13,v5.2.map (Z1 .nw),false⟩),(500000003,⟨3,s1.ends.map eEnd,false⟩),(26000,⟨3,y3.1.map (Vq .nw),false⟩)]⟩) H (fun i5 x5 v5 I m k5 hxv5 hiv5 H N20=>?_) (fun v5 I m H=>?_)
 .unfold V5 at H
  refine wP ?_
  refine wt (ltT hiv5) ?_
  obtain⟨y6,h6,H⟩:=bB H
  obtain⟨y7,h7,H⟩:=bB H
  obtain⟨xs8,h8,H⟩:=bB H
  refine wG [.u 33 (.ix _ _ _ fun _=>Q0 (Vq .nw) (J0 hxv5)),.u 34 (.el _ _ _ fun _=>gm (Vq .nw) (W4 (J0 hxv5))),.c 40 (Wx h6),.c 47 (J0e h7),.u 58 (.ap _ _ _ _ fun _=>L0 (Z1 .nw) h8),.w 60 (wi .i64 rfl hiv5 q4.1)] fun _=>?_
  exact U05 (N20 _ H) [] [] [(500000001,(some 48000,0))] [] (by kernel_rfl) (by kernel_rfl)
 .unfold Vv at H
  refine wP ?_
  refine wf (ltF y3.1.length) ?_
  refine wP ?_
  replace H:=sI H;subst H
  exact X3 [(2,.d)] [(2,[])] [(500000000,some 500000000,0),(500000001,some 500000001,0),(500000002,some 500000002,0),(500000003,some 500000003,0)] [] [500000000,500000001,500000002,500000003] (by kernel_rfl)
noncomputable def U15:L :=
 lf Tryz.prog U0z [40] [(26,1),(79,2)] [] [] [] [] []
def ZF(v6:State×Int)(x8:Run)(_:Nat)(v8:(List End)×(List Run))(k8:((List End)×(List Run))->Option (State×Bool)):Option (State×Bool) :=
 bif ((w64 (x8.t+x8.job.wall))==v6.2)then((appL 24 v8.1 [(End.mk x8.job.id v6.2 1)]).bind fun xs9=>k8 (xs9,v8.2))else((appL 120 v8.2 [x8]).bind fun xs10=>k8 (v8.1,xs10))
def LT(v6:State×Int)(k6:(State×Int)->Option (State×Bool))(v8:(List End)×(List Run)):Option (State×Bool) :=
 bif (decide (300<(v8.1.length:Int)))then(some ((State.mk (Topo.mk [] []) [] (Vec.mk 0 0 0) 0 0 [] [] []),false))else((O1 (State.mk v6.1.topo v6.1.up v6.1.lic v6.1.depth v6.2 v6.1.queue v8.2 v8.1)).bind fun y12=>(Mi y12).bind fun n13=>k6 (y12,n13))
def Qk(t2:Int)(v6:State×Int)(k6:(State×Int)->Option (State×Bool)):Option (State×Bool) :=
 bif ((decide (0<=v6.2))&&(decide (v6.2<=t2)))then(rgl (ZF v6) (LT v6 k6) v6.1.runs 0 (v6.1.ends,[]))else(some ((State.mk v6.1.topo v6.1.up v6.1.lic v6.1.depth t2 v6.1.queue v6.1.runs v6.1.ends),true))
def Wk(s1:State)(t2:Int):Option (State×Bool) :=
 (M6 s1).bind fun b3=>bif (((!b3)||(!(M2 t2)))||(decide (t2<s1.now)))then(some ((State.mk (Topo.mk [] []) [] (Vec.mk 0 0 0) 0 0 [] [] []),false))else((Q7 s1).bind fun y4=>(Mi y4).bind fun n5=>whl (Qk t2) 9223372036854775807 (y4,n5))
theorem Y0l{s1:State}{t2:Int}{r:State×Bool}(H:Wk s1 t2=some r):Snd Tryz.prog U0z [X2 .rd s1,iV t2] (.tup [.agg [nV 1 (r.1.topo.parents.map eI),nV 4 (r.1.topo.nodes.map Y1),.sref 0,iV r.1.lic.a,iV r.1.lic.b,iV r.1.lic.c,iV r.1.depth,iV r.1.now,.sref 1,.sref 2,.sref 3],.bool r.2]) [⟨1,r.1.up.map eBo,false⟩,⟨11,r.1.queue.map eJob,false⟩,⟨13,r.1.runs.map (Z1 .nw),false⟩,⟨3,r.1.ends.map eEnd,false⟩]:=by
 refine wS U15 [.c 4 11 true,.t 5] ?_
 unfold Wk at H
 obtain⟨b3,h3,H⟩:=bB H
 refine wG [.c 11 (Y7 h3),.g 15 [((!b3),false)] (.call _ _ _ _ _ (AEs.refl _) (fun _=>Z7 t2))] fun _=>?_
 refine O0 H (fun H=>?_) fun H=>?_
 .refine wP ?_
  replace H:=sI H;subst H
  exact wN [(4,.d),(5,.d)] [(4,[.n 1,.n 4,.d,.d,.d,.d,.d,.d,.d,.d,.d])] [] [] [none,none,none,none] [⟨_,nw_I ([]:List Int)⟩,⟨_,J1 ([]:List Node)⟩]
 .obtain⟨y4,h4,H⟩:=bB H
  obtain⟨n5,h5,H⟩:=bB H
  refine wG [.c 26 (J8 h4),.u 28 (.call _ _ _ _ _ (AEs.of (xs:=[.agg [rV 1 (y4.topo.parents.map eI),rV 4 (y4.topo.nodes.map Y1),rV 1 (y4.up.map eBo),iV y4.lic.a,iV y4.lic.b,iV y4.lic.c,iV y4.depth,iV y4.now,rV 11 (y4.queue.map eJob),rV 13 (y4.runs.map (Z1 .nw)),rV 3 (y4.ends.map eEnd)]]) (by simp)) (fun _=>Zx h5))] fun _=>?_
  refine wW (fun(v6:State×Int)=>⟨[(1,iV t2),(2,.ptr 2 0),(4,.ptr 4 0),(6,iV v6.2)],[],[(2,[nV 1 (v6.1.topo.parents.map eI),nV 4 (v6.1.topo.nodes.map Y1),.sref 27000,iV v6.1.lic.a,iV v6.1.lic.b,iV v6.1.lic.c,iV v6.1.depth,iV v6.1.now,.sref 27001,.sref 27002,.sref 27003]),(4,[.nl,.nl,.nl,iV 0,iV 0,iV 0,iV 0,iV 0,.nl,.nl,.nl])],[(27000,⟨1,v6.1.up.map eBo,false⟩),(27001,⟨11,v6.1.queue.map eJob,false⟩),(27002,⟨13,v6.1.runs.map (Z1 .nw),false⟩),(27003,⟨3,v6.1.ends.map eEnd,false⟩)]⟩) H (fun v6 I m k6 H N55=>?_)
  unfold Qk at H
  refine wP ?_
  refine O0 H (fun H=>?_) fun H=>?_
  .refine wG [.u 43 (.ln _ _ fun _=>lm v6.1.runs (Z1 .nw))] fun q7=>?_
   refine wR (fun(i8:Nat) (v8:(List End)×(List Run))=>⟨[(1,iV t2),(2,.ptr 2 0),(4,.ptr 4 0),(6,iV v6.2),(7,.sref 40),(42,.sref 27002),(43,iV (v6.1.runs.length:Int)),(44,iV (i8:Int))],[],[(2,[nV 1 (v6.1.topo.parents.map eI),nV 4 (v6.1.topo.nodes.map Y1),.sref 27000,iV v6.1.lic.a,iV v6.1.lic.b,iV v6.1.lic.c,iV v6.1.depth,iV v6.2,.sref 27001,.sref 27002,.sref 27003]),(4,[.nl,.nl,.nl,iV 0,iV 0,iV 0,iV 0,iV 0,.nl,.nl,.nl])],[(27000,⟨1,v6.1.up.map eBo,false⟩),(27001,⟨11,v6.1.queue.map eJob,false⟩),(27002,⟨13,v6.1.runs.map (Z1 .nw),false⟩),(27003,⟨3,v8.1.map eEnd,false⟩),(40,⟨13,v8.2.map (Z1 .nw),false⟩)]⟩) H (fun i8 x8 v8 I m k8 hxv8 hiv8 H N34=>?_) (fun v8 I m H=>?_)
   .unfold ZF at H
    refine wP ?_
    refine wt (ltT hiv8) ?_
    refine wG [.u 46 (.ix _ _ _ fun _=>Q0 (Z1 .nw) (J0 hxv8)),.u 47 (.el _ _ _ fun _=>gm (Z1 .nw) (W4 (J0 hxv8)))] fun _=>?_
    refine O0 H (fun H=>?_) fun H=>?_
    .obtain⟨xs9,h9,H⟩:=bB H
     refine wG [.u 64 (.ap _ _ _ _ fun _=>L0 eEnd h9),.w 70 (wi .i64 rfl hiv8 q7.1)] fun _=>?_
     exact wT (N34 _ H)
    .obtain⟨xs10,h10,H⟩:=bB H
     refine wG [.u 69 (.ap _ _ _ _ fun _=>L0 (Z1 .nw) h10),.w 70 (wi .i64 rfl hiv8 q7.1)] fun _=>?_
     exact wT (N34 _ H)
   .unfold LT at H
    refine wP ?_
    refine wf (ltF v6.1.runs.length) ?_
    refine wG [.u 75 (.ln _ _ fun _=>lm v8.1 eEnd)] fun q11=>?_
    refine O0 H (fun H=>?_) fun H=>?_
    .refine wP ?_
     replace H:=sI H;subst H
     exact wN [(4,.d),(5,.d)] [(4,[.n 1,.n 4,.d,.d,.d,.d,.d,.d,.d,.d,.d])] [] [] [none,none,none,none] [⟨_,nw_I ([]:List Int)⟩,⟨_,J1 ([]:List Node)⟩]
    .obtain⟨y12,h12,H⟩:=bB H
     obtain⟨n13,h13,H⟩:=bB H
     refine wG [.u 79 (.cw U7 [] [27000,27001,40,27003] [] [(1,v6.1.up.map eBo),(11,v6.1.queue.map eJob),(13,v8.2.map (Z1 .nw)),(3,v8.1.map eEnd)] [.agg [nV 1 (v6.1.topo.parents.map eI),nV 4 (v6.1.topo.nodes.map Y1),.sref 0,iV v6.1.lic.a,iV v6.1.lic.b,iV v6.1.lic.c,iV v6.1.depth,iV v6.2,.sref 1,.sref 2,.sref 3]] _ _ _ _ _ (GEs.of [true] (by simp)) (by simp) (by simp) (by simp) (fun _=>have k:=W5 h12;k)),.u 37 (.call _ _ _ _ _ (AEs.of (xs:=[.agg [rV 1 (y12.topo.parents.map eI),rV 4 (y12.topo.nodes.map Y1),rV 1 (y12.up.map eBo),iV y12.lic.a,iV y12.lic.b,iV y12.lic.c,iV y12.depth,iV y12.now,rV 11 (y12.queue.map eJob),rV 13 (y12.runs.map (Z1 .nw)),rV 3 (y12.ends.map eEnd)]]) (by simp)) (fun _=>Zx h13))] fun _=>?_
     exact U05 (N55 _ H) [] [] [(27000,(some 80000,0)),(27001,(some 80001,0)),(27002,(some 80002,0)),(27003,(some 80003,0))] [] (by kernel_rfl) (by kernel_rfl)
  .refine wP ?_
   replace H:=sI H;subst H
   exact wN [(4,.d),(5,.d)] [(4,[])] [(27000,some 27000,0),(27001,some 27001,0),(27002,some 27002,0),(27003,some 27003,0)] [] [some 27000,some 27001,some 27002,some 27003] [⟨_,nw_I v6.1.topo.parents⟩,⟨_,J1 v6.1.topo.nodes⟩,⟨_,Yg v6.1.up⟩,⟨_,Lh v6.1.queue⟩,⟨_,Zg v6.1.runs⟩,⟨_,Lr v6.1.ends⟩]
noncomputable def U0D:L :=
 lf Tryz.prog X0a [] [(13,1)] [] [] [] [] []
def QB(_:Bool)(i5:Nat)(v5:(List Bool))(k5:(List Bool)->Option Bool):Option Bool :=
 (idx v5 (i5:Int)).bind fun _=>k5 (v5.set (i5:Int).toNat true)
def UB(j2:Job)(y3:Room×Bool)(v5:(List Bool)):Option Bool :=
 (Uj (Room.mk y3.1.topo v5 y3.1.profs y3.1.lics) j2 0).bind fun y7=>some (y3.2&&y7.2.2)
def Ux(s1:State)(j2:Job):Option Bool :=
 (Xo s1).bind fun y3=>rgl QB (UB j2 y3) y3.1.up 0 y3.1.up
theorem L0A{s1:State}{j2:Job}{r:Bool}(H:Ux s1 j2=some r):Snd Tryz.prog X0a [X2 .rd s1,eJob j2] (.bool r) []:=by
 refine wS U0D [.t 4] ?_
 unfold Ux at H
 obtain⟨y3,h3,H⟩:=bB H
 refine wG [.c 13 (U02 h3),.u 18 (.ln _ _ fun _=>lm y3.1.up eBo)] fun q4=>?_
 refine wR (fun(i5:Nat) (v5:(List Bool))=>⟨[(3,.ptr 3 0),(5,.ptr 5 0),(6,.bool y3.2),(18,iV (y3.1.up.length:Int)),(19,iV (i5:Int))],[],[(3,(eJob j2).cells),(5,[nV 1 (y3.1.topo.parents.map eI),nV 4 (y3.1.topo.nodes.map Y1),.sref 14000,nV 1 (y3.1.profs.map (Y2 .nw)),nV 4 (y3.1.lics.map ePt)])],[(14000,⟨1,v5.map eBo,false⟩)]⟩) H (fun i5 x5 v5 I m k5 hxv5 hiv5 H N15=>?_) (fun v5 I m H=>?_)
 .unfold QB at H
  refine wP ?_
  refine wt (ltT hiv5) ?_
  obtain⟨e6,h6,H⟩:=bB H
  refine wG [.u 25 (.ix _ _ _ fun _=>Q0 eBo h6),.u 1000000 (.sto _ _ _ (eBo true) _ (fun _=>gm eBo (W4 h6)) (fun _=>MC ..)),.w 26 (wi .i64 rfl hiv5 q4.1)] fun _=>?_
  exact wT (N15 _ H)
 .unfold UB at H
  refine wP ?_
  refine wf (ltF y3.1.up.length) ?_
  obtain⟨y7,h7,H⟩:=bB H
  refine wG [.u 30 (.call _ _ _ _ _ (AEs.of (xs:=[.agg [rV 1 (y3.1.topo.parents.map eI),rV 4 (y3.1.topo.nodes.map Y1),rV 1 (v5.map eBo),rV 1 (y3.1.profs.map (Y2 .nw)),rV 4 (y3.1.lics.map ePt)],.agg [iV j2.id,iV j2.prio,iV j2.nodes,iV j2.need.a,iV j2.need.b,iV j2.need.c,iV j2.lic.a,iV j2.lic.b,iV j2.lic.c,iV j2.wall,iV j2.level],iV 0]) (by simp)) (fun _=>Q03 h7))] fun _=>?_
  replace H:=sI H;subst H
  exact wE [(4,.d)]
noncomputable def L0T:L :=
 lf Tryz.prog O0p [] [(39,1),(47,2)] [] [] [] [] []
def XC(s1:State)(j2:Job):Option (State×Int) :=
 (M6 s1).bind fun b3=>bif ((!b3)||(!(X1 j2)))then(some ((State.mk (Topo.mk [] []) [] (Vec.mk 0 0 0) 0 0 [] [] []),1))else((Li s1).bind fun y4=>(Yb y4 j2.id).bind fun y5=>bif y5.2 then(some ((State.mk (Topo.mk [] []) [] (Vec.mk 0 0 0) 0 0 [] [] []),2))else(bif (decide (60<=(y4.length:Int)))then(some ((State.mk (Topo.mk [] []) [] (Vec.mk 0 0 0) 0 0 [] [] []),3))else((Ux s1 j2).bind fun b7=>bif (!b7)then(some ((State.mk (Topo.mk [] []) [] (Vec.mk 0 0 0) 0 0 [] [] []),4))else((Q7 s1).bind fun y8=>(appL 88 y8.queue [j2]).bind fun xs9=>(O1 (State.mk y8.topo y8.up y8.lic y8.depth y8.now xs9 y8.runs y8.ends)).bind fun y10=>some (y10,0)))))
theorem Y0f{s1:State}{j2:Job}{r:State×Int}(H:XC s1 j2=some r):Snd Tryz.prog O0p [X2 .rd s1,eJob j2] (.tup [.agg [nV 1 (r.1.topo.parents.map eI),nV 4 (r.1.topo.nodes.map Y1),.sref 0,iV r.1.lic.a,iV r.1.lic.b,iV r.1.lic.c,iV r.1.depth,iV r.1.now,.sref 1,.sref 2,.sref 3],iV r.2]) [⟨1,r.1.up.map eBo,false⟩,⟨11,r.1.queue.map eJob,false⟩,⟨13,r.1.runs.map (Z1 .nw),false⟩,⟨3,r.1.ends.map eEnd,false⟩]:=by
 refine wS L0T [.c 4 11 true,.t 5] ?_
 unfold XC at H
 obtain⟨b3,h3,H⟩:=bB H
 refine wG [.c 10 (Y7 h3),.g 14 [((!b3),false)] (.call _ _ _ _ _ (AEs.refl _) (fun _=>VL j2))] fun _=>?_
 refine O0 H (fun H=>?_) fun H=>?_
 .refine wP ?_
  replace H:=sI H;subst H
  exact wN [(4,.d),(5,.d)] [(4,[.n 1,.n 4,.d,.d,.d,.d,.d,.d,.d,.d,.d])] [] [] [none,none,none,none] [⟨_,nw_I ([]:List Int)⟩,⟨_,J1 ([]:List Node)⟩]
 .obtain⟨y4,h4,H⟩:=bB H
  obtain⟨y5,h5,H⟩:=bB H
  refine wG [.c 19 (ON h4),.c 24 (Wx h5)] fun _=>?_
  refine O0 H (fun H=>?_) fun H=>?_
  .refine wP ?_
   replace H:=sI H;subst H
   exact wN [(4,.d),(5,.d)] [(4,[.n 1,.n 4,.d,.d,.d,.d,.d,.d,.d,.d,.d])] [] [] [none,none,none,none] [⟨_,nw_I ([]:List Int)⟩,⟨_,J1 ([]:List Node)⟩]
  .refine wG [.u 30 (.ln _ _ fun _=>lm y4 eJob)] fun q6=>?_
   refine O0 H (fun H=>?_) fun H=>?_
   .refine wP ?_
    replace H:=sI H;subst H
    exact wN [(4,.d),(5,.d)] [(4,[.n 1,.n 4,.d,.d,.d,.d,.d,.d,.d,.d,.d])] [] [] [none,none,none,none] [⟨_,nw_I ([]:List Int)⟩,⟨_,J1 ([]:List Node)⟩]
   .obtain⟨b7,h7,H⟩:=bB H
    refine wG [.c 35 (L0A h7)] fun _=>?_
    refine O0 H (fun H=>?_) fun H=>?_
    .refine wP ?_
     replace H:=sI H;subst H
     exact wN [(4,.d),(5,.d)] [(4,[.n 1,.n 4,.d,.d,.d,.d,.d,.d,.d,.d,.d])] [] [] [none,none,none,none] [⟨_,nw_I ([]:List Int)⟩,⟨_,J1 ([]:List Node)⟩]
    .obtain⟨y8,h8,H⟩:=bB H
     obtain⟨xs9,h9,H⟩:=bB H
     obtain⟨y10,h10,H⟩:=bB H
     refine wG [.c 39 (J8 h8),.u 44 (.ap _ _ _ _ fun _=>L0 eJob h9),.u 47 (.cw U7 [] [40000,40001,40002,40003] [] [(1,y8.up.map eBo),(11,xs9.map eJob),(13,y8.runs.map (Z1 .nw)),(3,y8.ends.map eEnd)] [.agg [nV 1 (y8.topo.parents.map eI),nV 4 (y8.topo.nodes.map Y1),.sref 0,iV y8.lic.a,iV y8.lic.b,iV y8.lic.c,iV y8.depth,iV y8.now,.sref 1,.sref 2,.sref 3]] _ _ _ _ _ (GEs.of [true] (by simp)) (by simp) (by simp) (by simp) (fun _=>have k:=W5 h10;k))] fun _=>?_
     replace H:=sI H;subst H
     exact wN [(4,.d),(5,.d)] [(4,[])] [(48000,some 48000,0),(48001,some 48001,0),(48002,some 48002,0),(48003,some 48003,0)] [] [some 48000,some 48001,some 48002,some 48003] [⟨_,nw_I y10.topo.parents⟩,⟨_,J1 y10.topo.nodes⟩,⟨_,Yg y10.up⟩,⟨_,Lh y10.queue⟩,⟨_,Zg y10.runs⟩,⟨_,Lr y10.ends⟩]
noncomputable def X05:L :=
 lf Tryz.prog Ls [12] [] [] [] [] [] []
def Z05:List Rv:=[.c 8 11 true]
theorem V05:Ms Tryz.prog Ls 4 X05 Z05=true:=by kernel_rfl
def Xj(s1:State)(why2 id3 node4:Int)(x6:Run)(_:Nat)(v6:(List End)×(List Run))(k6:((List End)×(List Run))->Option State):Option State :=
 (bif (x6.job.id==id3)then some default else(Va x6.nodes node4)).bind fun b7=>bif ((x6.job.id==id3)||b7)then((appL 24 v6.1 [(End.mk x6.job.id s1.now why2)]).bind fun xs8=>k6 (xs8,v6.2))else((appL 120 v6.2 [x6]).bind fun xs9=>k6 (v6.1,xs9))
def Xx(s1:State)(v6:(List End)×(List Run)):Option State :=
 some (State.mk s1.topo s1.up s1.lic s1.depth s1.now s1.queue v6.2 v6.1)
def J7(s1:State)(why2 id3 node4:Int):Option State :=
 rgl (Xj s1 why2 id3 node4) (Xx s1) s1.runs 0 (s1.ends,[])
set_option maxRecDepth 20000 in
theorem JA{s1:State}{why2 id3 node4:Int}{r:State}(H:J7 s1 why2 id3 node4=some r):ConD Tryz.prog Ls [.agg [nV 1 (s1.topo.parents.map eI),nV 4 (s1.topo.nodes.map Y1),.sref 0,iV s1.lic.a,iV s1.lic.b,iV s1.lic.c,iV s1.depth,iV s1.now,.sref 1,.sref 2,.sref 3],iV why2,iV id3,iV node4] [] [(1,s1.up.map eBo),(11,s1.queue.map eJob),(13,s1.runs.map (Z1 .nw)),(3,s1.ends.map eEnd)] (.agg [nV 1 (r.topo.parents.map eI),nV 4 (r.topo.nodes.map Y1),.sref 4,iV r.lic.a,iV r.lic.b,iV r.lic.c,iV r.depth,iV r.now,.sref 5,.sref 6,.sref 7]) [] [none,none,none,none] [(1,r.up.map eBo),(11,r.queue.map eJob),(13,r.runs.map (Z1 .nw)),(3,r.ends.map eEnd)]:=by
 refine WV [false,false,false,false] V05 rfl (by kernel_rfl) ?_
 unfold J7 at H
 refine wG [.u 15 (.ln _ _ fun _=>lm s1.runs (Z1 .nw))] fun q5=>?_
 refine wR (fun(i6:Nat) (v6:(List End)×(List Run))=>⟨[(1,iV why2),(2,iV id3),(3,iV node4),(4,.ptr 4 0),(8,.ptr 8 0),(9,.sref 12),(14,.sref 500000002),(15,iV (s1.runs.length:Int)),(16,iV (i6:Int))],[],[(4,[nV 1 (s1.topo.parents.map eI),nV 4 (s1.topo.nodes.map Y1),.sref 500000000,iV s1.lic.a,iV s1.lic.b,iV s1.lic.c,iV s1.depth,iV s1.now,.sref 500000001,.sref 500000002,.sref 500000003]),(8,[.nl,.nl,.nl,iV 0,iV 0,iV 0,iV 0,iV 0,.nl,.nl,.nl])],[(500000000,⟨1,s1.up.map eBo,false⟩),(500000001,⟨11,s1.queue.map eJob,false⟩),(500000002,⟨13,s1.runs.map (Z1 .nw),false⟩),(500000003,⟨3,v6.1.map eEnd,false⟩),(12,⟨13,v6.2.map (Z1 .nw),false⟩)]⟩) H (fun i6 x6 v6 I m k6 hxv6 hiv6 H N19=>?_) (fun v6 I m H=>?_)
 .unfold Xj at H
  refine wP ?_
  refine wt (ltT hiv6) ?_
  obtain⟨b7,h7,H⟩:=bB H
  refine wG [.u 18 (.ix _ _ _ fun _=>Q0 (Z1 .nw) (J0 hxv6)),.u 19 (.el _ _ _ fun _=>gm (Z1 .nw) (W4 (J0 hxv6))),.g 29 [(_,false)] (.call _ _ _ _ _ (AEs.refl _) (fun q=>Lf (bF q.1 h7)))] fun _=>?_
  refine O0 H (fun H=>?_) fun H=>?_
  .obtain⟨xs8,h8,H⟩:=bB H
   refine wG [.u 41 (.ap _ _ _ _ fun _=>L0 eEnd h8),.w 47 (wi .i64 rfl hiv6 q5.1)] fun _=>?_
   exact wT (N19 _ H)
  .obtain⟨xs9,h9,H⟩:=bB H
   refine wG [.u 46 (.ap _ _ _ _ fun _=>L0 (Z1 .nw) h9),.w 47 (wi .i64 rfl hiv6 q5.1)] fun _=>?_
   exact wT (N19 _ H)
 .unfold Xx at H
  refine wP ?_
  refine wf (ltF s1.runs.length) ?_
  refine wP ?_
  replace H:=sI H;subst H
  exact X3 [(8,.d)] [(8,[])] [(500000000,some 500000000,0),(500000001,some 500000001,0),(12,some 12,0),(500000003,some 500000003,0)] [] [500000000,500000001,12,500000003] (by kernel_rfl)
noncomputable def Q0U:L :=
 lf Tryz.prog V0q [] [(54,1),(59,1),(74,2),(76,2)] [] [] [] [] [511]
def Oh(id2 why3:Int)(y9:State)(v12:(List Job)×(List End)):Option (State×Int) :=
 (J7 (State.mk y9.topo y9.up y9.lic y9.depth y9.now v12.1 y9.runs v12.2) why3 id2 (-1)).bind fun y13=>(O1 y13).bind fun y14=>some (y14,0)
def QC(s1:State)(id2 why3:Int):Option (State×Int) :=
 (M6 s1).bind fun b4=>bif ((!b4)||((why3 != 2)&&(why3 != 3)))then(some ((State.mk (Topo.mk [] []) [] (Vec.mk 0 0 0) 0 0 [] [] []),1))else((Yb s1.queue id2).bind fun y5=>(Li s1).bind fun y6=>(Yb y6 id2).bind fun y7=>bif ((!y7.2)||(y5.2&&(why3==2)))then(some ((State.mk (Topo.mk [] []) [] (Vec.mk 0 0 0) 0 0 [] [] []),5))else(bif (decide (300<=(s1.ends.length:Int)))then(some ((State.mk (Topo.mk [] []) [] (Vec.mk 0 0 0) 0 0 [] [] []),6))else((Q7 s1).bind fun y9=>bif y5.2 then((Ol y9.queue id2).bind fun y10=>(appL 24 y9.ends [(End.mk id2 y9.now why3)]).bind fun xs11=>(Oh id2 why3 y9) (y10,xs11))else((Oh id2 why3 y9) (y9.queue,y9.ends)))))
theorem V0f{s1:State}{id2 why3:Int}{r:State×Int}(H:QC s1 id2 why3=some r):Snd Tryz.prog V0q [X2 .rd s1,iV id2,iV why3] (.tup [.agg [nV 1 (r.1.topo.parents.map eI),nV 4 (r.1.topo.nodes.map Y1),.sref 0,iV r.1.lic.a,iV r.1.lic.b,iV r.1.lic.c,iV r.1.depth,iV r.1.now,.sref 1,.sref 2,.sref 3],iV r.2]) [⟨1,r.1.up.map eBo,false⟩,⟨11,r.1.queue.map eJob,false⟩,⟨13,r.1.runs.map (Z1 .nw),false⟩,⟨3,r.1.ends.map eEnd,false⟩]:=by
 refine wS Q0U [.c 6 11 true,.t 7] ?_
 unfold QC at H
 obtain⟨b4,h4,H⟩:=bB H
 refine wG [.c 13 (Y7 h4)] fun _=>?_
 refine O0 H (fun H=>?_) fun H=>?_
 .refine wP ?_
  replace H:=sI H;subst H
  exact wN [(6,.d),(7,.d)] [(6,[.n 1,.n 4,.d,.d,.d,.d,.d,.d,.d,.d,.d])] [] [] [none,none,none,none] [⟨_,nw_I ([]:List Int)⟩,⟨_,J1 ([]:List Node)⟩]
 .obtain⟨y5,h5,H⟩:=bB H
  obtain⟨y6,h6,H⟩:=bB H
  obtain⟨y7,h7,H⟩:=bB H
  refine wG [.c 28 (Wx h5),.c 33 (ON h6),.c 35 (Wx h7)] fun _=>?_
  refine O0 H (fun H=>?_) fun H=>?_
  .refine wP ?_
   replace H:=sI H;subst H
   exact wN [(6,.d),(7,.d)] [(6,[.n 1,.n 4,.d,.d,.d,.d,.d,.d,.d,.d,.d])] [] [] [none,none,none,none] [⟨_,nw_I ([]:List Int)⟩,⟨_,J1 ([]:List Node)⟩]
  .refine wG [.u 50 (.ln _ _ fun _=>lm s1.ends eEnd)] fun q8=>?_
   refine O0 H (fun H=>?_) fun H=>?_
   .refine wP ?_
    replace H:=sI H;subst H
    exact wN [(6,.d),(7,.d)] [(6,[.n 1,.n 4,.d,.d,.d,.d,.d,.d,.d,.d,.d])] [] [] [none,none,none,none] [⟨_,nw_I ([]:List Int)⟩,⟨_,J1 ([]:List Node)⟩]
   .obtain⟨y9,h9,H⟩:=bB H
    refine wG [.c 54 (J8 h9)] fun _=>?_
    refine X6 (r:=r) (Oh id2 why3 y9) 0 (fun v12:(List Job)×(List End)=>⟨[(1,.int .i64 id2),(2,.int .i64 why3),(3,.ptr 3 0),(6,.ptr 6 0)],[],[(3,[.sl .nw 1 (y9.topo.parents.map eI),.sl .nw 4 (y9.topo.nodes.map Y1),.sref 55000,.int .i64 y9.lic.a,.int .i64 y9.lic.b,.int .i64 y9.lic.c,.int .i64 y9.depth,.int .i64 y9.now,.sref 60000,.sref 55002,.sref 55003]),(6,[.nl,.nl,.nl,.int .i64 0,.int .i64 0,.int .i64 0,.int .i64 0,.int .i64 0,.nl,.nl,.nl])],[(55000,⟨1,y9.up.map eBo,false⟩),(60000,⟨11,v12.1.map eJob,false⟩),(55002,⟨13,y9.runs.map (Z1 .nw),false⟩),(55003,⟨3,v12.2.map eEnd,false⟩)]⟩) (by kernel_rfl) (fun v12 H=>?_) (fun J36=>?_)
    .unfold Oh at H
     obtain⟨y13,h13,H⟩:=bB H
     obtain⟨y14,h14,H⟩:=bB H
     refine wG [.u 74 (.cw Ls [] [55000,60000,55002,55003] [] [(1,y9.up.map eBo),(11,v12.1.map eJob),(13,y9.runs.map (Z1 .nw)),(3,v12.2.map eEnd)] [.agg [nV 1 (y9.topo.parents.map eI),nV 4 (y9.topo.nodes.map Y1),.sref 0,iV y9.lic.a,iV y9.lic.b,iV y9.lic.c,iV y9.depth,iV y9.now,.sref 1,.sref 2,.sref 3],iV why3,iV id2,iV (-1)] _ _ _ _ _ (GEs.of [true,false,false,false] (by simp)) (by simp) (by simp) (by simp) (fun _=>have k:=JA h13;k)),.u 76 (.cw U7 [] [75000,75001,75002,75003] [] [(1,y13.up.map eBo),(11,y13.queue.map eJob),(13,y13.runs.map (Z1 .nw)),(3,y13.ends.map eEnd)] [.agg [nV 1 (y13.topo.parents.map eI),nV 4 (y13.topo.nodes.map Y1),.sref 0,iV y13.lic.a,iV y13.lic.b,iV y13.lic.c,iV y13.depth,iV y13.now,.sref 1,.sref 2,.sref 3]] _ _ _ _ _ (GEs.of [true] (by simp)) (by simp) (by simp) (by simp) (fun _=>W5 h14))] fun _=>?_
     replace H:=sI H;subst H
     exact wN [(6,.d),(7,.d)] [(6,[])] [(77000,some 77000,0),(77001,some 77001,0),(77002,some 77002,0),(77003,some 77003,0)] [] [some 77000,some 77001,some 77002,some 77003] [⟨_,nw_I y14.topo.parents⟩,⟨_,J1 y14.topo.nodes⟩,⟨_,Yg y14.up⟩,⟨_,Lh y14.queue⟩,⟨_,Zg y14.runs⟩,⟨_,Lr y14.ends⟩]
    .refine O0 H (fun H=>?_) fun H=>?_
     .obtain⟨y10,h10,H⟩:=bB H
      obtain⟨xs11,h11,H⟩:=bB H
      refine wG [.c 59 (J0e h10),.u 69 (.ap _ _ _ _ fun _=>L0 eEnd h11)] fun _=>?_
      exact wT (J36 _ H)
     .refine wP ?_
      exact U05 (J36 _ H) [] [] [(60000,(some 55001,0))] [] (by kernel_rfl) (by kernel_rfl)
noncomputable def J0L:L :=
 lf Tryz.prog OV [] [] [] [] [] [] []
def OE(s1:State)(n2:Int):Option Bool :=
 some ((decide (0<=n2))&&(decide (n2<(s1.topo.nodes.length:Int))))
theorem J0r{s1:State}{n2:Int}{r:Bool}(H:OE s1 n2=some r):Snd Tryz.prog OV [X2 .rd s1,iV n2] (.bool r) []:=by
 refine wS J0L [.t 4] ?_
 unfold OE at H
 refine wG [.g 12 [((decide (0<=n2)),true)] (.ln _ _ fun _=>lm s1.topo.nodes Y1)] fun _=>?_
 replace H:=sI H;subst H
 exact wE [(4,.d)]
def L8(s1:State)(n2:Int):Bool :=
 ((decide (0<=n2))&&(decide (n2<(s1.topo.nodes.length:Int))))
theorem U0R(s1:State)(n2:Int):OE s1 n2=some (L8 s1 n2):=by
 unfold OE L8
 first|rfl|simp only[O5]
theorem O05(s1:State)(n2:Int):Snd Tryz.prog OV [X2 .rd s1,iV n2] (.bool (L8 s1 n2)) []:=J0r (U0R s1 n2)
noncomputable def Z1e:L :=
 lf Tryz.prog Z0R [] [(26,1),(48,2),(59,2)] [] [] [] [] []
def MY(n2:Int)(x7:Run)(_:Nat)(v7:(List Job))(k7:(List Job)->Option (State×Int)):Option (State×Int) :=
 (Va x7.nodes n2).bind fun b8=>bif b8 then((appL 88 v7 [x7.job]).bind fun xs9=>k7 xs9)else(k7 v7)
def OY(n2:Int)(y5:State)(v7:(List Job)):Option (State×Int) :=
 (J7 (State.mk y5.topo y5.up y5.lic y5.depth y5.now v7 y5.runs y5.ends) 4 0 n2).bind fun y10=>bif (decide (300<(y10.ends.length:Int)))then(some ((State.mk (Topo.mk [] []) [] (Vec.mk 0 0 0) 0 0 [] [] []),6))else((idx y10.up n2).bind fun _=>(O1 (State.mk y10.topo (y10.up.set n2.toNat false) y10.lic y10.depth y10.now y10.queue y10.runs y10.ends)).bind fun y13=>some (y13,0))
def J06(s1:State)(n2:Int):Option (State×Int) :=
 (M6 s1).bind fun b3=>bif (!b3)then(some ((State.mk (Topo.mk [] []) [] (Vec.mk 0 0 0) 0 0 [] [] []),1))else((bif (!(L8 s1 n2))then some default else(idx s1.up n2)).bind fun e4=>bif ((!(L8 s1 n2))||(!e4))then(some ((State.mk (Topo.mk [] []) [] (Vec.mk 0 0 0) 0 0 [] [] []),7))else((Q7 s1).bind fun y5=>rgl (MY n2) (OY n2 y5) y5.runs 0 y5.queue))
theorem Y1b{s1:State}{n2:Int}{r:State×Int}(H:J06 s1 n2=some r):Snd Tryz.prog Z0R [X2 .rd s1,iV n2] (.tup [.agg [nV 1 (r.1.topo.parents.map eI),nV 4 (r.1.topo.nodes.map Y1),.sref 0,iV r.1.lic.a,iV r.1.lic.b,iV r.1.lic.c,iV r.1.depth,iV r.1.now,.sref 1,.sref 2,.sref 3],iV r.2]) [⟨1,r.1.up.map eBo,false⟩,⟨11,r.1.queue.map eJob,false⟩,⟨13,r.1.runs.map (Z1 .nw),false⟩,⟨3,r.1.ends.map eEnd,false⟩]:=by
 refine wS Z1e [.c 4 11 true,.t 5] ?_
 unfold J06 at H
 obtain⟨b3,h3,H⟩:=bB H
 refine wG [.c 9 (Y7 h3)] fun _=>?_
 refine O0 H (fun H=>?_) fun H=>?_
 .refine wP ?_
  replace H:=sI H;subst H
  exact wN [(4,.d),(5,.d)] [(4,[.n 1,.n 4,.d,.d,.d,.d,.d,.d,.d,.d,.d])] [] [] [none,none,none,none] [⟨_,nw_I ([]:List Int)⟩,⟨_,J1 ([]:List Node)⟩]
 .obtain⟨e4,h4,H⟩:=bB H
  refine wG [.c 14 (O05 s1 n2),.g 20 [(_,false)] (.ix _ _ _ fun q=>Q0 eBo (bF q.1 h4))] fun _=>?_
  refine O0 H (fun H=>?_) fun H=>?_
  .refine wP ?_
   replace H:=sI H;subst H
   exact wN [(4,.d),(5,.d)] [(4,[.n 1,.n 4,.d,.d,.d,.d,.d,.d,.d,.d,.d])] [] [] [none,none,none,none] [⟨_,nw_I ([]:List Int)⟩,⟨_,J1 ([]:List Node)⟩]
  .obtain⟨y5,h5,H⟩:=bB H
   refine wG [.c 26 (J8 h5),.u 29 (.ln _ _ fun _=>lm y5.runs (Z1 .nw))] fun q6=>?_
   refine wR (fun(i7:Nat) (v7:(List Job))=>⟨[(1,iV n2),(2,.ptr 2 0),(4,.ptr 4 0),(28,.sref 27002),(29,iV (y5.runs.length:Int)),(30,iV (i7:Int))],[],[(2,[nV 1 (y5.topo.parents.map eI),nV 4 (y5.topo.nodes.map Y1),.sref 27000,iV y5.lic.a,iV y5.lic.b,iV y5.lic.c,iV y5.depth,iV y5.now,.sref 27001,.sref 27002,.sref 27003]),(4,[.nl,.nl,.nl,iV 0,iV 0,iV 0,iV 0,iV 0,.nl,.nl,.nl])],[(27000,⟨1,y5.up.map eBo,false⟩),(27001,⟨11,v7.map eJob,false⟩),(27002,⟨13,y5.runs.map (Z1 .nw),false⟩),(27003,⟨3,y5.ends.map eEnd,false⟩)]⟩) H (fun i7 x7 v7 I m k7 hxv7 hiv7 H N33=>?_) (fun v7 I m H=>?_)
   .unfold MY at H
    refine wP ?_
    refine wt (ltT hiv7) ?_
    obtain⟨b8,h8,H⟩:=bB H
    refine wG [.u 32 (.ix _ _ _ fun _=>Q0 (Z1 .nw) (J0 hxv7)),.u 33 (.el _ _ _ fun _=>gm (Z1 .nw) (W4 (J0 hxv7))),.c 37 (Lf h8)] fun _=>?_
    refine O0 H (fun H=>?_) fun H=>?_
    .obtain⟨xs9,h9,H⟩:=bB H
     refine wG [.u 43 (.ap _ _ _ _ fun _=>L0 eJob h9),.w 45 (wi .i64 rfl hiv7 q6.1)] fun _=>?_
     exact wT (N33 _ H)
    .refine wG [.w 45 (wi .i64 rfl hiv7 q6.1)] fun _=>?_
     exact wT (N33 _ H)
   .unfold OY at H
    refine wP ?_
    refine wf (ltF y5.runs.length) ?_
    obtain⟨y10,h10,H⟩:=bB H
    refine wG [.u 48 (.cw Ls [] [27000,27001,27002,27003] [] [(1,y5.up.map eBo),(11,v7.map eJob),(13,y5.runs.map (Z1 .nw)),(3,y5.ends.map eEnd)] [.agg [nV 1 (y5.topo.parents.map eI),nV 4 (y5.topo.nodes.map Y1),.sref 0,iV y5.lic.a,iV y5.lic.b,iV y5.lic.c,iV y5.depth,iV y5.now,.sref 1,.sref 2,.sref 3],iV 4,iV 0,iV n2] _ _ _ _ _ (GEs.of [true,false,false,false] (by simp)) (by simp) (by simp) (by simp) (fun _=>have k:=JA h10;k)),.u 51 (.ln _ _ fun _=>lm y10.ends eEnd)] fun q11=>?_
    refine O0 H (fun H=>?_) fun H=>?_
    .refine wP ?_
     replace H:=sI H;subst H
     exact wN [(4,.d),(5,.d)] [(4,[.n 1,.n 4,.d,.d,.d,.d,.d,.d,.d,.d,.d])] [] [] [none,none,none,none] [⟨_,nw_I ([]:List Int)⟩,⟨_,J1 ([]:List Node)⟩]
    .obtain⟨e12,h12,H⟩:=bB H
     obtain⟨y13,h13,H⟩:=bB H
     refine wG [.u 57 (.ix _ _ _ fun _=>Q0 eBo h12),.u 1000000 (.sto _ _ _ (eBo false) _ (fun _=>gm eBo (W4 h12)) (fun _=>MC ..)),.u 59 (.cw U7 [] [49000,49001,49002,49003] [] [(1,(y10.up.set n2.toNat false).map eBo),(11,y10.queue.map eJob),(13,y10.runs.map (Z1 .nw)),(3,y10.ends.map eEnd)] [.agg [nV 1 (y10.topo.parents.map eI),nV 4 (y10.topo.nodes.map Y1),.sref 0,iV y10.lic.a,iV y10.lic.b,iV y10.lic.c,iV y10.depth,iV y10.now,.sref 1,.sref 2,.sref 3]] _ _ _ _ _ (GEs.of [true] (by simp)) (by simp) (by simp[-List.map_set]) (by simp) (fun _=>have k:=W5 h13;k))] fun _=>?_
     replace H:=sI H;subst H
     exact wN [(4,.d),(5,.d)] [(4,[])] [(60000,some 60000,0),(60001,some 60001,0),(60002,some 60002,0),(60003,some 60003,0)] [] [some 60000,some 60001,some 60002,some 60003] [⟨_,nw_I y13.topo.parents⟩,⟨_,J1 y13.topo.nodes⟩,⟨_,Yg y13.up⟩,⟨_,Lh y13.queue⟩,⟨_,Zg y13.runs⟩,⟨_,Lr y13.ends⟩]
noncomputable def Y0U:L :=
 lf Tryz.prog J0p [] [(23,1),(29,2)] [] [] [] [] []
def VO(s1:State)(n2:Int):Option (State×Int) :=
 (M6 s1).bind fun b3=>bif (!b3)then(some ((State.mk (Topo.mk [] []) [] (Vec.mk 0 0 0) 0 0 [] [] []),1))else((bif (!(L8 s1 n2))then some default else(idx s1.up n2)).bind fun e4=>bif ((!(L8 s1 n2))||e4)then(some ((State.mk (Topo.mk [] []) [] (Vec.mk 0 0 0) 0 0 [] [] []),8))else((Q7 s1).bind fun y5=>(idx y5.up n2).bind fun _=>(O1 (State.mk y5.topo (y5.up.set n2.toNat true) y5.lic y5.depth y5.now y5.queue y5.runs y5.ends)).bind fun y7=>some (y7,0)))
theorem Z0S{s1:State}{n2:Int}{r:State×Int}(H:VO s1 n2=some r):Snd Tryz.prog J0p [X2 .rd s1,iV n2] (.tup [.agg [nV 1 (r.1.topo.parents.map eI),nV 4 (r.1.topo.nodes.map Y1),.sref 0,iV r.1.lic.a,iV r.1.lic.b,iV r.1.lic.c,iV r.1.depth,iV r.1.now,.sref 1,.sref 2,.sref 3],iV r.2]) [⟨1,r.1.up.map eBo,false⟩,⟨11,r.1.queue.map eJob,false⟩,⟨13,r.1.runs.map (Z1 .nw),false⟩,⟨3,r.1.ends.map eEnd,false⟩]:=by
 refine wS Y0U [.c 4 11 true,.t 5] ?_
 unfold VO at H
 obtain⟨b3,h3,H⟩:=bB H
 refine wG [.c 7 (Y7 h3)] fun _=>?_
 refine O0 H (fun H=>?_) fun H=>?_
 .refine wP ?_
  replace H:=sI H;subst H
  exact wN [(4,.d),(5,.d)] [(4,[.n 1,.n 4,.d,.d,.d,.d,.d,.d,.d,.d,.d])] [] [] [none,none,none,none] [⟨_,nw_I ([]:List Int)⟩,⟨_,J1 ([]:List Node)⟩]
 .obtain⟨e4,h4,H⟩:=bB H
  refine wG [.c 12 (O05 s1 n2),.g 18 [(_,false)] (.ix _ _ _ fun q=>Q0 eBo (bF q.1 h4))] fun _=>?_
  refine O0 H (fun H=>?_) fun H=>?_
  .refine wP ?_
   replace H:=sI H;subst H
   exact wN [(4,.d),(5,.d)] [(4,[.n 1,.n 4,.d,.d,.d,.d,.d,.d,.d,.d,.d])] [] [] [none,none,none,none] [⟨_,nw_I ([]:List Int)⟩,⟨_,J1 ([]:List Node)⟩]
  .obtain⟨y5,h5,H⟩:=bB H
   obtain⟨e6,h6,H⟩:=bB H
   obtain⟨y7,h7,H⟩:=bB H
   refine wG [.c 23 (J8 h5),.u 27 (.ix _ _ _ fun _=>Q0 eBo h6),.u 1000000 (.sto _ _ _ (eBo true) _ (fun _=>gm eBo (W4 h6)) (fun _=>MC ..)),.u 29 (.cw U7 [] [24000,24001,24002,24003] [] [(1,(y5.up.set n2.toNat true).map eBo),(11,y5.queue.map eJob),(13,y5.runs.map (Z1 .nw)),(3,y5.ends.map eEnd)] [.agg [nV 1 (y5.topo.parents.map eI),nV 4 (y5.topo.nodes.map Y1),.sref 0,iV y5.lic.a,iV y5.lic.b,iV y5.lic.c,iV y5.depth,iV y5.now,.sref 1,.sref 2,.sref 3]] _ _ _ _ _ (GEs.of [true] (by simp)) (by simp) (by simp[-List.map_set]) (by simp) (fun _=>have k:=W5 h7;k))] fun _=>?_
   replace H:=sI H;subst H
   exact wN [(4,.d),(5,.d)] [(4,[])] [(30000,some 30000,0),(30001,some 30001,0),(30002,some 30002,0),(30003,some 30003,0)] [] [some 30000,some 30001,some 30002,some 30003] [⟨_,nw_I y7.topo.parents⟩,⟨_,J1 y7.topo.nodes⟩,⟨_,Yg y7.up⟩,⟨_,Lh y7.queue⟩,⟨_,Zg y7.runs⟩,⟨_,Lr y7.ends⟩]
noncomputable def X0U:L :=
 lf Tryz.prog Z0q [] [(18,1),(30,2)] [] [] [] [] []
def UO(s1:State)(lic2:Vec):Option (State×Int) :=
 (M6 s1).bind fun b3=>bif ((!b3)||(!(W0 lic2)))then(some ((State.mk (Topo.mk [] []) [] (Vec.mk 0 0 0) 0 0 [] [] []),1))else((Q7 s1).bind fun y4=>(Wd (State.mk y4.topo y4.up lic2 y4.depth y4.now y4.queue y4.runs y4.ends)).bind fun y5=>bif (!y5.2)then(some ((State.mk (Topo.mk [] []) [] (Vec.mk 0 0 0) 0 0 [] [] []),9))else((O1 (State.mk y4.topo y4.up lic2 y4.depth y4.now y4.queue y4.runs y4.ends)).bind fun y6=>some (y6,0)))
theorem Y0S{s1:State}{lic2:Vec}{r:State×Int}(H:UO s1 lic2=some r):Snd Tryz.prog Z0q [X2 .rd s1,eVec lic2] (.tup [.agg [nV 1 (r.1.topo.parents.map eI),nV 4 (r.1.topo.nodes.map Y1),.sref 0,iV r.1.lic.a,iV r.1.lic.b,iV r.1.lic.c,iV r.1.depth,iV r.1.now,.sref 1,.sref 2,.sref 3],iV r.2]) [⟨1,r.1.up.map eBo,false⟩,⟨11,r.1.queue.map eJob,false⟩,⟨13,r.1.runs.map (Z1 .nw),false⟩,⟨3,r.1.ends.map eEnd,false⟩]:=by
 refine wS X0U [.c 4 11 true,.t 5] ?_
 unfold UO at H
 obtain⟨b3,h3,H⟩:=bB H
 refine wG [.c 9 (Y7 h3),.g 13 [((!b3),false)] (.call _ _ _ _ _ (AEs.refl _) (fun _=>J4 lic2))] fun _=>?_
 refine O0 H (fun H=>?_) fun H=>?_
 .refine wP ?_
  replace H:=sI H;subst H
  exact wN [(4,.d),(5,.d)] [(4,[.n 1,.n 4,.d,.d,.d,.d,.d,.d,.d,.d,.d])] [] [] [none,none,none,none] [⟨_,nw_I ([]:List Int)⟩,⟨_,J1 ([]:List Node)⟩]
 .obtain⟨y4,h4,H⟩:=bB H
  obtain⟨y5,h5,H⟩:=bB H
  refine wG [.c 18 (J8 h4),.u 23 (.call _ _ _ _ _ (AEs.of (xs:=[.agg [rV 1 (y4.topo.parents.map eI),rV 4 (y4.topo.nodes.map Y1),rV 1 (y4.up.map eBo),iV lic2.a,iV lic2.b,iV lic2.c,iV y4.depth,iV y4.now,rV 11 (y4.queue.map eJob),rV 13 (y4.runs.map (Z1 .nw)),rV 3 (y4.ends.map eEnd)]]) (by simp)) (fun _=>ZU h5))] fun _=>?_
  refine O0 H (fun H=>?_) fun H=>?_
  .refine wP ?_
   replace H:=sI H;subst H
   exact wN [(4,.d),(5,.d)] [(4,[.n 1,.n 4,.d,.d,.d,.d,.d,.d,.d,.d,.d])] [] [] [none,none,none,none] [⟨_,nw_I ([]:List Int)⟩,⟨_,J1 ([]:List Node)⟩]
  .obtain⟨y6,h6,H⟩:=bB H
   refine wG [.u 30 (.cw U7 [] [19000,19001,19002,19003] [] [(1,y4.up.map eBo),(11,y4.queue.map eJob),(13,y4.runs.map (Z1 .nw)),(3,y4.ends.map eEnd)] [.agg [nV 1 (y4.topo.parents.map eI),nV 4 (y4.topo.nodes.map Y1),.sref 0,iV lic2.a,iV lic2.b,iV lic2.c,iV y4.depth,iV y4.now,.sref 1,.sref 2,.sref 3]] _ _ _ _ _ (GEs.of [true] (by simp)) (by simp) (by simp) (by simp) (fun _=>have k:=W5 h6;k))] fun _=>?_
   replace H:=sI H;subst H
   exact wN [(4,.d),(5,.d)] [(4,[])] [(31000,some 31000,0),(31001,some 31001,0),(31002,some 31002,0),(31003,some 31003,0)] [] [some 31000,some 31001,some 31002,some 31003] [⟨_,nw_I y6.topo.parents⟩,⟨_,J1 y6.topo.nodes⟩,⟨_,Yg y6.up⟩,⟨_,Lh y6.queue⟩,⟨_,Zg y6.runs⟩,⟨_,Lr y6.ends⟩]
noncomputable def U0v:L :=
 lf Tryz.prog M04 [] [] [] [] [] [] []
def Ql(x6:Run)(_:Nat)(v6:(List Run))(k6:(List Run)->Option State):Option State :=
 (Vf x6.nodes).bind fun y7=>(appL 120 v6 [(Run.mk x6.job x6.t y7)]).bind fun xs8=>k6 xs8
def Mz(s1:State)(y2:Topo)(xs3:List Bool)(xs4:List Job)(v6:(List Run)):Option State :=
 (appL 24 ([]:List End) s1.ends).bind fun xs9=>some (State.mk y2 xs3 s1.lic s1.depth s1.now xs4 v6 xs9)
def Ug(s1:State):Option State :=
 (Xf s1.topo).bind fun y2=>(appL 1 ([]:List Bool) s1.up).bind fun xs3=>(appL 88 ([]:List Job) s1.queue).bind fun xs4=>rgl Ql (Mz s1 y2 xs3 xs4) s1.runs 0 []
theorem UD{s1 r:State}(H:Ug s1=some r):Snd Tryz.prog M04 [X2 .rd s1] (.agg [nV 1 (r.topo.parents.map eI),nV 4 (r.topo.nodes.map Y1),nV 1 (r.up.map eBo),iV r.lic.a,iV r.lic.b,iV r.lic.c,iV r.depth,iV r.now,.sref 0,.sref 1,.sref 2]) [⟨11,r.queue.map eJob,false⟩,⟨13,r.runs.map (Z1 .nw),false⟩,⟨3,r.ends.map eEnd,false⟩]:=by
 refine wS U0v [.c 2 11 true] ?_
 unfold Ug at H
 obtain⟨y2,h2,H⟩:=bB H
 obtain⟨xs3,h3,H⟩:=bB H
 obtain⟨xs4,h4,H⟩:=bB H
 refine wG [.c 8 (WJ h2),.u 12 (.ap _ _ _ _ fun _=>L0 eBo h3),.u 16 (.ap _ _ _ _ fun _=>L0 eJob h4),.u 20 (.ln _ _ fun _=>lm s1.runs (Z1 .rd))] fun q5=>?_
 refine U04 (fun(i6:Nat) (v6:(List Run))=>⟨[(1,.ptr 1 0),(2,.ptr 2 0),(3,.sref 515002),(19,.sl .rd 13 (s1.runs.map (Z1 .rd))),(20,.int .i64 (s1.runs.length:Int)),(21,.int .i64 (i6:Int))],[],[(1,[.sl .nw 1 (y2.parents.map eI),.sl .nw 4 (y2.nodes.map Y1),.sref 12,.int .i64 s1.lic.a,.int .i64 s1.lic.b,.int .i64 s1.lic.c,.int .i64 s1.depth,.int .i64 s1.now,.sref 16,.sl .rd 13 (s1.runs.map (Z1 .rd)),.sl .rd 3 (s1.ends.map eEnd)]),(2,[.nl,.nl,.nl,.int .i64 0,.int .i64 0,.int .i64 0,.int .i64 0,.int .i64 0,.nl,.nl,.nl])],[(12,⟨1,xs3.map eBo,false⟩),(16,⟨11,xs4.map eJob,false⟩),(515002,⟨13,v6.map (Z1 .nw),false⟩)]⟩) [(3,.z 515002)] [] [(515002,(none,13))] [] (by kernel_rfl) (by kernel_rfl) H (fun i6 x6 v6 I m k6 hxv6 hiv6 H N20=>?_) (fun v6 I m H=>?_)
 .unfold Ql at H
  refine wP ?_
  refine wt (ltT hiv6) ?_
  obtain⟨y7,h7,H⟩:=bB H
  obtain⟨xs8,h8,H⟩:=bB H
  refine wG [.u 23 (.ix _ _ _ fun _=>Q0 (Z1 .rd) (J0 hxv6)),.c 27 (L03 h7),.u 32 (.ap _ _ _ _ fun _=>L0 (Z1 .nw) h8),.w 33 (wi .i64 rfl hiv6 q5.1)] fun _=>?_
  exact wT (N20 _ H)
 .unfold Mz at H
  refine wP ?_
  refine wf (ltF s1.runs.length) ?_
  obtain⟨xs9,h9,H⟩:=bB H
  refine wG [.u 38 (.ap _ _ _ _ fun _=>L0 eEnd h9)] fun _=>?_
  replace H:=sI H;subst H
  exact wN [(2,.d)] [(2,[.d,.d,.f,.d,.d,.d,.d,.d,.d,.d,.d])] [(16,some 16,0),(515002,some 515002,0),(38,some 38,0)] [12] [some 16,some 515002,some 38] [⟨_,nw_I y2.parents⟩,⟨_,J1 y2.nodes⟩,⟨_,Yg xs3⟩,⟨_,Lh xs4⟩,⟨_,Zg v6⟩,⟨_,Lr xs9⟩]
noncomputable def X16:L :=
 lf Tryz.prog Y0A [] [] [] [] [] [] []
def OU(x7:Node)(_:Nat)(v7:(List (List Pt)))(k7:(List (List Pt))->Option Room):Option Room :=
 (appL 24 v7 [(Yj x7.cap).1]).bind fun xs8=>k7 xs8
def WU(lic3:Vec)(y4:Topo)(xs5:List Bool)(v7:(List (List Pt))):Option Room :=
 some (Room.mk y4 xs5 v7 ((Yj lic3).1))
def UX(t1:Topo)(up2:List Bool)(lic3:Vec):Option Room :=
 (Xf t1).bind fun y4=>(appL 1 ([]:List Bool) up2).bind fun xs5=>rgl OU (WU lic3 y4 xs5) t1.nodes 0 []
theorem J17{t1:Topo}{up2:List Bool}{lic3:Vec}{r:Room}(H:UX t1 up2 lic3=some r):Snd Tryz.prog Y0A [X4 .rd t1,rV 1 (up2.map eBo),eVec lic3] (V9 .nw r) []:=by
 refine wS X16 [.c 6 5 true] ?_
 unfold UX at H
 obtain⟨y4,h4,H⟩:=bB H
 obtain⟨xs5,h5,H⟩:=bB H
 refine wG [.c 13 (WJ h4),.u 15 (.ap _ _ _ _ fun _=>L0 eBo h5),.u 19 (.ln _ _ fun _=>lm t1.nodes Y1)] fun q6=>?_
 refine U04 (fun(i7:Nat) (v7:(List (List Pt)))=>⟨[(5,.ptr 5 0),(6,.ptr 6 0),(7,.ptr 7 0),(18,.sl .rd 4 (t1.nodes.map Y1)),(19,.int .i64 (t1.nodes.length:Int)),(20,.int .i64 (i7:Int))],[],[(5,(eVec lic3).cells),(6,[.nl,.nl,.nl,.nl,.nl]),(7,[.sl .nw 1 (y4.parents.map eI),.sl .nw 4 (y4.nodes.map Y1),.sref 15,.sref 190001,.nl])],[(15,⟨1,xs5.map eBo,false⟩),(190001,⟨1,v7.map (Y2 .nw),false⟩)]⟩) [] [(7,[.d,.d,.d,.z 190001,.d])] [(190001,(none,1))] [] (by kernel_rfl) (by kernel_rfl) H (fun i7 x7 v7 I m k7 hxv7 hiv7 H N17=>?_) (fun v7 I m H=>?_)
 .unfold OU at H
  refine wP ?_
  refine wt (ltT hiv7) ?_
  obtain⟨xs8,h8,H⟩:=bB H
  refine wG [.u 22 (.ix _ _ _ fun _=>Q0 Y1 (J0 hxv7)),.c 27 (V09 x7.cap),.u 34 (.ap _ _ _ _ fun _=>L0 (Y2 .nw) h8),.w 36 (wi .i64 rfl hiv7 q6.1)] fun _=>?_
  exact wT (N17 _ H)
 .unfold WU at H
  refine wP ?_
  refine wf (ltF t1.nodes.length) ?_
  refine wG [.c 39 (V09 lic3)] fun _=>?_
  replace H:=sI H;subst H
  exact wN [(6,.d)] [(6,[.d,.d,.f,.f,.d])] [] [15,190001] [] [⟨_,nw_I y4.parents⟩,⟨_,J1 y4.nodes⟩,⟨_,Yg xs5⟩,⟨_,X7 v7⟩,⟨_,Oj ((Yj lic3).1)⟩]
noncomputable def O0V:L :=
 lf Tryz.prog Z0r [] [] [] [] [] [] []
def UA(s1:State)(x5:Run)(_:Nat)(v5:Room)(k5:Room->Option (Room×Bool)):Option (Room×Bool) :=
 bif (((!(X8 x5.job))||(!(Y0 x5.t 0 s1.now)))||(!(Y0 (w64 (x5.t+x5.job.wall)) (w64 (s1.now+1)) 1000000000)))then(some ((Room.mk (Topo.mk [] []) [] [] []),false))else((Q5 v5 x5.job s1.now (w64 (x5.t+x5.job.wall)) x5.nodes).bind fun y6=>bif (!y6.2)then(some ((Room.mk (Topo.mk [] []) [] [] []),false))else(k5 y6.1))
def L08(v5:Room):Option (Room×Bool) :=
 some (v5,true)
def JD(s1:State):Option (Room×Bool) :=
 (On s1.topo).bind fun b2=>bif ((((!b2)||((s1.up.length:Int)!=(s1.topo.nodes.length:Int)))||(!(Q1 s1.lic)))||(!(M4 s1.now)))then(some ((Room.mk (Topo.mk [] []) [] [] []),false))else((UX s1.topo s1.up s1.lic).bind fun y3=>rgl (UA s1) L08 s1.runs 0 y3)
theorem X0g{s1:State}{r:Room×Bool}(H:JD s1=some r):Snd Tryz.prog Z0r [X2 .rd s1] (.tup [V9 .nw r.1,.bool r.2]) []:=by
 refine wS O0V [.c 2 5 true,.t 3] ?_
 unfold JD at H
 obtain⟨b2,h2,H⟩:=bB H
 refine wG [.c 11 (LU h2),.g 16 [((!b2),false)] (.ln _ _ fun _=>lm s1.up eBo),.g 20 [((!b2),false)] (.ln _ _ fun _=>lm s1.topo.nodes Y1),.g 26 [(((!b2)||((s1.up.length:Int)!=(s1.topo.nodes.length:Int))),false)] (.call _ _ _ _ _ (AEs.refl _) (fun _=>U6 s1.lic)),.g 32 [((((!b2)||((s1.up.length:Int)!=(s1.topo.nodes.length:Int)))||(!(Q1 s1.lic))),false)] (.call _ _ _ _ _ (AEs.refl _) (fun _=>Xg s1.now))] fun _=>?_
 refine O0 H (fun H=>?_) fun H=>?_
 .refine wP ?_
  replace H:=sI H;subst H
  exact wN [(2,.d),(3,.d)] [(2,[.n 1,.n 4,.n 1,.n 1,.n 4])] [] [] [] [⟨_,nw_I ([]:List Int)⟩,⟨_,J1 ([]:List Node)⟩,⟨_,Yg ([]:List Bool)⟩,⟨_,X7 ([]:List (List Pt))⟩,⟨_,Oj ([]:List Pt)⟩]
 .obtain⟨y3,h3,H⟩:=bB H
  refine wG [.c 42 (J17 h3),.u 45 (.ln _ _ fun _=>lm s1.runs (Z1 .rd))] fun q4=>?_
  refine wR (fun(i5:Nat) (v5:Room)=>⟨[(1,.ptr 1 0),(2,.ptr 2 0),(4,.ptr 4 0),(44,rV 13 (s1.runs.map (Z1 .rd))),(45,iV (s1.runs.length:Int)),(46,iV (i5:Int))],[],[(1,(X2 .rd s1).cells),(2,[.nl,.nl,.nl,.nl,.nl]),(4,(V9 .nw v5).cells)],[]⟩) H (fun i5 x5 v5 I m k5 hxv5 hiv5 H N40=>?_) (fun v5 I m H=>?_)
  .unfold UA at H
   refine wP ?_
   refine wt (ltT hiv5) ?_
   refine wG [.u 48 (.ix _ _ _ fun _=>Q0 (Z1 .rd) (J0 hxv5)),.c 52 (YM x5.job),.g 59 [((!(X8 x5.job)),false)] (.call _ _ _ _ _ (AEs.refl _) (fun _=>M1 x5.t 0 s1.now)),.g 72 [(((!(X8 x5.job))||(!(Y0 x5.t 0 s1.now))),false)] (.call _ _ _ _ _ (AEs.refl _) (fun _=>M1 (w64 (x5.t+x5.job.wall)) (w64 (s1.now+1)) 1000000000))] fun _=>?_
   refine O0 H (fun H=>?_) fun H=>?_
   .refine wP ?_
    replace H:=sI H;subst H
    exact wN [(2,.d),(3,.d)] [(2,[.n 1,.n 4,.n 1,.n 1,.n 4])] [] [] [] [⟨_,nw_I ([]:List Int)⟩,⟨_,J1 ([]:List Node)⟩,⟨_,Yg ([]:List Bool)⟩,⟨_,X7 ([]:List (List Pt))⟩,⟨_,Oj ([]:List Pt)⟩]
   .obtain⟨y6,h6,H⟩:=bB H
    refine wG [.u 90 (.call _ _ _ _ _ (AEs.of (xs:=[.agg [rV 1 (v5.topo.parents.map eI),rV 4 (v5.topo.nodes.map Y1),rV 1 (v5.up.map eBo),rV 1 (v5.profs.map (Y2 .nw)),rV 4 (v5.lics.map ePt)],.agg [iV x5.job.id,iV x5.job.prio,iV x5.job.nodes,iV x5.job.need.a,iV x5.job.need.b,iV x5.job.need.c,iV x5.job.lic.a,iV x5.job.lic.b,iV x5.job.lic.c,iV x5.job.wall,iV x5.job.level],iV s1.now,iV (w64 (x5.t+x5.job.wall)),rV 1 (x5.nodes.map eI),.fn Yo []]) (by simp)) (fun _=>Xn h6))] fun _=>?_
    refine O0 H (fun H=>?_) fun H=>?_
    .refine wP ?_
     replace H:=sI H;subst H
     exact wN [(2,.d),(3,.d)] [(2,[.n 1,.n 4,.n 1,.n 1,.n 4])] [] [] [] [⟨_,nw_I ([]:List Int)⟩,⟨_,J1 ([]:List Node)⟩,⟨_,Yg ([]:List Bool)⟩,⟨_,X7 ([]:List (List Pt))⟩,⟨_,Oj ([]:List Pt)⟩]
    .refine wG [.w 97 (wi .i64 rfl hiv5 q4.1)] fun _=>?_
     exact wT (N40 _ H)
  .unfold L08 at H
   refine wP ?_
   refine wf (ltF s1.runs.length) ?_
   refine wP ?_
   replace H:=sI H;subst H
   exact wN [(2,.d),(3,.d)] [(2,[])] [] [] [] [⟨_,nw_I v5.topo.parents⟩,⟨_,J1 v5.topo.nodes⟩,⟨_,Yg v5.up⟩,⟨_,X7 v5.profs⟩,⟨_,Oj v5.lics⟩]
noncomputable def Q0v:L :=
 lf Tryz.prog L04 [6] [] [] [] [] [] []
def WS(x4:Run)(_:Nat)(v4:(List Job))(k4:(List Job)->Option (List Job)):Option (List Job) :=
 (appL 88 v4 [x4.job]).bind fun xs5=>k4 xs5
def QS(v4:(List Job)):Option (List Job) :=
 some v4
def VG(s1:State):Option (List Job) :=
 (appL 88 ([]:List Job) s1.queue).bind fun xs2=>rgl WS QS s1.runs 0 xs2
theorem Z0w{s1:State}{r:(List Job)}(H:VG s1=some r):Snd Tryz.prog L04 [X2 .rd s1] (nV 11 (r.map eJob)) []:=by
 refine wS Q0v [.t 2] ?_
 unfold VG at H
 obtain⟨xs2,h2,H⟩:=bB H
 refine wG [.u 9 (.ap _ _ _ _ fun _=>L0 eJob h2),.u 12 (.ln _ _ fun _=>lm s1.runs (Z1 .rd))] fun q3=>?_
 refine wR (fun(i4:Nat) (v4:(List Job))=>⟨[(3,.sref 6),(11,rV 13 (s1.runs.map (Z1 .rd))),(12,iV (s1.runs.length:Int)),(13,iV (i4:Int))],[],[],[(6,⟨11,v4.map eJob,false⟩)]⟩) H (fun i4 x4 v4 I m k4 hxv4 hiv4 H N15=>?_) (fun v4 I m H=>?_)
 .unfold WS at H
  refine wP ?_
  refine wt (ltT hiv4) ?_
  obtain⟨xs5,h5,H⟩:=bB H
  refine wG [.u 15 (.ix _ _ _ fun _=>Q0 (Z1 .rd) (J0 hxv4)),.u 21 (.ap _ _ _ _ fun _=>L0 eJob h5),.w 22 (wi .i64 rfl hiv4 q3.1)] fun _=>?_
  exact wT (N15 _ H)
 .unfold QS at H
  refine wP ?_
  refine wf (ltF s1.runs.length) ?_
  refine wP ?_
  replace H:=sI H;subst H
  exact wN [(2,.f)] [] [] [6] [] [⟨_,Lh v4⟩]
noncomputable def Y0O:L :=
 lf Tryz.prog V0i [] [] [] [] [(13,18)] [] []
def YK(s1:State)(x8:Int)(_:Nat)(_:Unit)(k8:Unit->Option Bool):Option Bool :=
 (idx s1.up x8).bind fun e9=>bif (!e9)then(some false)else(k8 ())
def ZK(s1:State)(x6:Run)(k6:Unit->Option Bool)(_:Unit):Option Bool :=
 (Jh x6.nodes).bind fun b10=>(bif (!b10)then some default else(YE s1.topo x6.nodes)).bind fun n11=>(bif (!b10)then some default else(Yw s1.topo n11)).bind fun n12=>bif ((!b10)||(decide (x6.job.level<n12)))then(some false)else(k6 ())
def Vu(s1:State)(x14:End)(_:Nat)(_:Unit)(k14:Unit->Option Bool):Option Bool :=
 bif (((!(Y0 x14.id 1 999))||(!(Y0 x14.t 0 s1.now)))||(!(Y0 x14.why 1 4)))then(some false)else(k14 ())
def LJ(_:Unit):Option Bool :=
 some true
def Uu(s1:State)(x6:Run)(_:Nat)(_:Unit)(k6:Unit->Option Bool):Option Bool :=
 rgl (YK s1) (ZK s1 x6 k6) x6.nodes 0 ()
def JJ(s1:State)(_:Unit):Option Bool :=
 rgl (Vu s1) LJ s1.ends 0 ()
def Vw(s1:State):Option Bool :=
 (JD s1).bind fun y2=>(bif ((!y2.2)||(!(Y0 s1.depth 0 60)))then some default else(VG s1)).bind fun y3=>(bif ((!y2.2)||(!(Y0 s1.depth 0 60)))then some default else(Uw y3)).bind fun b4=>bif ((((!y2.2)||(!(Y0 s1.depth 0 60)))||(!b4))||(decide (300<(s1.ends.length:Int))))then(some false)else(rgl (Uu s1) (JJ s1) s1.runs 0 ())
theorem M08{s1:State}{r:Bool}(H:Vw s1=some r):Snd Tryz.prog V0i [X2 .rd s1] (.bool r) []:=by
 refine wS Y0O [.t 2] ?_
 unfold Vw at H
 obtain⟨y2,h2,H⟩:=bB H
 obtain⟨y3,h3,H⟩:=bB H
 obtain⟨b4,h4,H⟩:=bB H
 refine wG [.c 13 (X0g h2),.g 21 [((!y2.2),false)] (.call _ _ _ _ _ (AEs.refl _) (fun _=>M1 s1.depth 0 60)),.g 26 [(_,false)] (.call _ _ _ _ _ (AEs.refl _) (fun q=>Z0w (bF q.1 h3))),.g 27 [(_,false)] (.call _ _ _ _ _ (AEs.refl _) (fun q=>J08 (bF q.1 h4))),.g 33 [((((!y2.2)||(!(Y0 s1.depth 0 60)))||(!b4)),false)] (.ln _ _ fun _=>lm s1.ends eEnd)] fun _=>?_
 refine O0 H (fun H=>?_) fun H=>?_
 .obtain rfl:=sI H
  exact wP (wE [(2,.d)])
 .refine wG [.u 38 (.ln _ _ fun _=>lm s1.runs (Z1 .rd))] fun q5=>?_
  refine wR (fun(i6:Nat) (v6:Unit)=>⟨[(1,.ptr 1 0),(37,rV 13 (s1.runs.map (Z1 .rd))),(38,iV (s1.runs.length:Int)),(39,iV (i6:Int))],[],[(1,(X2 .rd s1).cells)],[]⟩) H (fun i6 x6 v6 I m k6 hxv6 hiv6 H N52=>?_) (fun v6 I m H=>?_)
  .unfold Uu at H
   refine wP ?_
   refine wt (ltT hiv6) ?_
   refine wG [.u 41 (.ix _ _ _ fun _=>Q0 (Z1 .rd) (J0 hxv6)),.u 45 (.ln _ _ fun _=>lm x6.nodes eI)] fun q7=>?_
   refine wR (fun(i8:Nat) (v8:Unit)=>⟨[(1,.ptr 1 0),(6,.ptr 6 0),(37,rV 13 (s1.runs.map (Z1 .rd))),(38,iV (s1.runs.length:Int)),(39,iV (i6:Int)),(44,rV 1 (x6.nodes.map eI)),(45,iV (x6.nodes.length:Int)),(46,iV (i8:Int))],[],[(1,(X2 .rd s1).cells),(6,(Z1 .rd x6).cells)],[]⟩) H (fun i8 x8 v8 I m k8 hxv8 hiv8 H N35=>?_) (fun v8 I m H=>?_)
   .unfold YK at H
    refine wP ?_
    refine wt (ltT hiv8) ?_
    obtain⟨e9,h9,H⟩:=bB H
    refine wG [.u 48 (.ix _ _ _ fun _=>Q0 eI (J0 hxv8)),.u 53 (.ix _ _ _ fun _=>Q0 eBo h9)] fun _=>?_
    refine O0 H (fun H=>?_) fun H=>?_
    .obtain rfl:=sI H
     exact wP (wE [(2,.d)])
    .refine wG [.w 56 (wi .i64 rfl hiv8 q7.1)] fun _=>?_
     exact wT (N35 () H)
   .unfold ZK at H
    refine wP ?_
    refine wf (ltF x6.nodes.length) ?_
    obtain⟨b10,h10,H⟩:=bB H
    obtain⟨n11,h11,H⟩:=bB H
    obtain⟨n12,h12,H⟩:=bB H
    refine wG [.c 59 (U0e h10),.g 68 [(_,false)] (.call _ _ _ _ _ (AEs.refl _) (fun q=>Y0X (bF q.1 h11))),.g 69 [(_,false)] (.call _ _ _ _ _ (AEs.refl _) (fun q=>OL (bF q.1 h12)))] fun _=>?_
    refine O0 H (fun H=>?_) fun H=>?_
    .obtain rfl:=sI H
     exact wP (wE [(2,.d)])
    .refine wG [.w 75 (wi .i64 rfl hiv6 q5.1)] fun _=>?_
     exact wT (N52 () H)
  .unfold JJ at H
   refine wP ?_
   refine wf (ltF s1.runs.length) ?_
   refine wG [.u 78 (.ln _ _ fun _=>lm s1.ends eEnd)] fun q13=>?_
   refine wR (fun(i14:Nat) (v14:Unit)=>⟨[(1,.ptr 1 0),(77,rV 3 (s1.ends.map eEnd)),(78,iV (s1.ends.length:Int)),(79,iV (i14:Int))],[],[(1,(X2 .rd s1).cells)],[]⟩) H (fun i14 x14 v14 I m k14 hxv14 hiv14 H N74=>?_) (fun v14 I m H=>?_)
   .unfold Vu at H
    refine wP ?_
    refine wt (ltT hiv14) ?_
    refine wG [.u 81 (.ix _ _ _ fun _=>Q0 eEnd (J0 hxv14)),.c 85 (M1 x14.id 1 999),.g 92 [((!(Y0 x14.id 1 999)),false)] (.call _ _ _ _ _ (AEs.refl _) (fun _=>M1 x14.t 0 s1.now)),.g 98 [(((!(Y0 x14.id 1 999))||(!(Y0 x14.t 0 s1.now))),false)] (.call _ _ _ _ _ (AEs.refl _) (fun _=>M1 x14.why 1 4))] fun _=>?_
    refine O0 H (fun H=>?_) fun H=>?_
    .obtain rfl:=sI H
     exact wP (wE [(2,.d)])
    .refine wG [.w 101 (wi .i64 rfl hiv14 q13.1)] fun _=>?_
     exact wT (N74 () H)
   .unfold LJ at H
    refine wP ?_
    refine wf (ltF s1.ends.length) ?_
    obtain rfl:=sI H
    exact wP (wE [(2,.d)])
noncomputable def Y0n:L :=
 lf Tryz.prog Y02 [39,40] [] [] [] [] [] []
def W0l:List Rv:=[.t 8,.t 9,.t 10]
theorem L0o:Ms Tryz.prog Y02 4 Y0n W0l=true:=by kernel_rfl
def Ju(now2 depth4:Int)(x11:Job)(_:Nat)(v11:Room×(List Held)×(List Held))(k11:(Room×(List Held)×(List Held))->Option ((List Held)×(List Held)×Bool)):Option ((List Held)×(List Held)×Bool) :=
 (Xq v11.1 x11 now2).bind fun y12=>bif ((!y12.2.2)||((decide (now2<y12.1))&&(decide (depth4<=(v11.2.2.length:Int)))))then(k11 (v11.1,v11.2.1,v11.2.2))else((WH v11.1 x11 y12.1 y12.2.1).bind fun y13=>bif (!y13.2)then(k11 (v11.1,v11.2.1,v11.2.2))else(bif (y12.1==now2)then((appL 40 v11.2.1 [(Held.mk x11.id y12.1 y12.2.1)]).bind fun xs14=>k11 (y13.1,xs14,v11.2.2))else((appL 40 v11.2.2 [(Held.mk x11.id y12.1 y12.2.1)]).bind fun xs15=>k11 (y13.1,v11.2.1,xs15))))
def OQ(v11:Room×(List Held)×(List Held)):Option ((List Held)×(List Held)×Bool) :=
 some (v11.2.1,v11.2.2,true)
def Yi(r1:Room)(now2:Int)(l3:List Job)(depth4:Int):Option ((List Held)×(List Held)×Bool) :=
 (Ou r1).bind fun b5=>(bif (!b5)then some default else(Uw l3)).bind fun b6=>bif ((((!b5)||(!b6))||(!(M4 now2)))||(!(Y0 depth4 0 60)))then(some ([],[],false))else((VX l3).bind fun y9=>rgl (Ju now2 depth4) OQ y9 0 (r1,[],[]))
set_option maxRecDepth 20000 in
theorem Z0o{r1:Room}{now2:Int}{l3:List Job}{depth4:Int}{r:(List Held)×(List Held)×Bool}(H:Yi r1 now2 l3 depth4=some r):ConD Tryz.prog Y02 [V9 .nw r1,iV now2,rV 11 (l3.map eJob),iV depth4] [] [] (.tup [.sref 0,.sref 1,.bool r.2.2]) [] [] [(3,r.1.map (Vq .nw)),(3,r.2.1.map (Vq .nw))]:=by
 refine WV [] L0o rfl (by kernel_rfl) ?_
 unfold Yi at H
 obtain⟨b5,h5,H⟩:=bB H
 obtain⟨b6,h6,H⟩:=bB H
 refine wG [.u 22 (.call _ _ _ _ _ (AEs.of (xs:=[.agg [rV 1 (r1.topo.parents.map eI),rV 4 (r1.topo.nodes.map Y1),rV 1 (r1.up.map eBo),rV 1 (r1.profs.map (Y2 .nw)),rV 4 (r1.lics.map ePt)]]) (by simp)) (fun _=>XV h5)),.g 26 [(_,false)] (.call _ _ _ _ _ (AEs.refl _) (fun q=>J08 (bF q.1 h6))),.g 31 [(((!b5)||(!b6)),false)] (.call _ _ _ _ _ (AEs.refl _) (fun _=>Xg now2)),.g 36 [((((!b5)||(!b6))||(!(M4 now2))),false)] (.call _ _ _ _ _ (AEs.refl _) (fun _=>M1 depth4 0 60))] fun _=>?_
 refine O0 H (fun H=>?_) fun H=>?_
 .refine wP ?_
  replace H:=sI H;subst H
  exact X3 [(8,.z 700000007),(9,.z 700000008),(10,.d)] [] [(700000007,none,3),(700000008,none,3)] [] [700000007,700000008] (by kernel_rfl)
 .obtain⟨y9,h9,H⟩:=bB H
  refine wG [.c 42 (Q17 h9),.u 43 (.ln _ _ fun _=>lm y9 eJob)] fun q10=>?_
  refine wR (fun(i11:Nat) (v11:Room×(List Held)×(List Held))=>⟨[(1,iV now2),(3,iV depth4),(4,.ptr 4 0),(11,.sref 39),(12,.sref 40),(42,nV 11 (y9.map eJob)),(43,iV (y9.length:Int)),(44,iV (i11:Int))],[],[(4,(V9 .nw v11.1).cells)],[(39,⟨3,v11.2.1.map (Vq .nw),false⟩),(40,⟨3,v11.2.2.map (Vq .nw),false⟩)]⟩) H (fun i11 x11 v11 I m k11 hxv11 hiv11 H N46=>?_) (fun v11 I m H=>?_)
  .unfold Ju at H
   refine wP ?_
   refine wt (ltT hiv11) ?_
   obtain⟨y12,h12,H⟩:=bB H
   refine wG [.u 46 (.ix _ _ _ fun _=>Q0 eJob (J0 hxv11)),.u 52 (.call _ _ _ _ _ (AEs.of (xs:=[.agg [rV 1 (v11.1.topo.parents.map eI),rV 4 (v11.1.topo.nodes.map Y1),rV 1 (v11.1.up.map eBo),rV 1 (v11.1.profs.map (Y2 .nw)),rV 4 (v11.1.lics.map ePt)],.agg [iV x11.id,iV x11.prio,iV x11.nodes,iV x11.need.a,iV x11.need.b,iV x11.need.c,iV x11.lic.a,iV x11.lic.b,iV x11.lic.c,iV x11.wall,iV x11.level],iV now2]) (by simp)) (fun _=>Q0G h12)),.g 64 [((decide (now2<y12.1)),true),((!y12.2.2),false)] (.ln _ _ fun _=>lm v11.2.2 (Vq .nw))] fun _=>?_
   refine O0 H (fun H=>?_) fun H=>?_
   .refine wG [.w 96 (wi .i64 rfl hiv11 q10.1)] fun _=>?_
    exact wT (N46 _ H)
   .obtain⟨y13,h13,H⟩:=bB H
    refine wG [.u 74 (.call _ _ _ _ _ (AEs.of (xs:=[.agg [rV 1 (v11.1.topo.parents.map eI),rV 4 (v11.1.topo.nodes.map Y1),rV 1 (v11.1.up.map eBo),rV 1 (v11.1.profs.map (Y2 .nw)),rV 4 (v11.1.lics.map ePt)],.agg [iV x11.id,iV x11.prio,iV x11.nodes,iV x11.need.a,iV x11.need.b,iV x11.need.c,iV x11.lic.a,iV x11.lic.b,iV x11.lic.c,iV x11.wall,iV x11.level],iV y12.1,rV 1 (y12.2.1.map eI)]) (by simp)) (fun _=>Y0P h13))] fun _=>?_
    refine O0 H (fun H=>?_) fun H=>?_
    .refine wG [.w 96 (wi .i64 rfl hiv11 q10.1)] fun _=>?_
     exact wT (N46 _ H)
    .refine wP ?_
     refine O0 H (fun H=>?_) fun H=>?_
     .obtain⟨xs14,h14,H⟩:=bB H
      refine wG [.u 91 (.ap _ _ _ _ fun _=>L0 (Vq .nw) h14),.w 96 (wi .i64 rfl hiv11 q10.1)] fun _=>?_
      exact wT (N46 _ H)
     .obtain⟨xs15,h15,H⟩:=bB H
      refine wG [.u 95 (.ap _ _ _ _ fun _=>L0 (Vq .nw) h15),.w 96 (wi .i64 rfl hiv11 q10.1)] fun _=>?_
      exact wT (N46 _ H)
  .unfold OQ at H
   refine wP ?_
   refine wf (ltF y9.length) ?_
   refine wP ?_
   replace H:=sI H;subst H
   exact X3 [(8,.d),(9,.d),(10,.d)] [] [(39,some 39,0),(40,some 40,0)] [] [39,40] (by kernel_rfl)
noncomputable def O0N:L :=
 lf Tryz.prog Z0i [] [(25,2),(30,1),(62,2)] [] [] [(8,13)] [] []
def Xu(s1:State)(x6:Held)(_:Nat)(v6:(List Job)×(List Run))(k6:((List Job)×(List Run))->Option State):Option State :=
 (U0d v6.1 x6.id).bind fun n7=>(idx v6.1 n7).bind fun e8=>(appL 120 v6.2 [(Run.mk e8 s1.now x6.nodes)]).bind fun xs9=>(U0Q v6.1 n7 (w64 (n7+1))).bind fun xs10=>k6 (xs10,xs9)
def W03(y4:State)(v6:(List Job)×(List Run)):Option State :=
 some (State.mk y4.topo y4.up y4.lic y4.depth y4.now v6.1 v6.2 y4.ends)
def Jv(s1:State):Option State :=
 (JD s1).bind fun y2=>(Yi y2.1 s1.now s1.queue s1.depth).bind fun y3=>(Ug s1).bind fun y4=>rgl (Xu s1) (W03 y4) y3.1 0 (y4.queue,y4.runs)
theorem O0O{s1 r:State}(H:Jv s1=some r):Snd Tryz.prog Z0i [X2 .rd s1] (.agg [nV 1 (r.topo.parents.map eI),nV 4 (r.topo.nodes.map Y1),nV 1 (r.up.map eBo),iV r.lic.a,iV r.lic.b,iV r.lic.c,iV r.depth,iV r.now,nV 11 (r.queue.map eJob),nV 13 (r.runs.map (Z1 .nw)),.sref 0]) [⟨3,r.ends.map eEnd,false⟩]:=by
 refine wS O0N [.c 2 11 true] ?_
 unfold Jv at H
 obtain⟨y2,h2,H⟩:=bB H
 obtain⟨y3,h3,H⟩:=bB H
 obtain⟨y4,h4,H⟩:=bB H
 refine wG [.c 14 (X0g h2),.u 25 (.cw Y02 [] [] [] [] [V9 .nw y2.1,iV s1.now,rV 11 (s1.queue.map eJob),iV s1.depth] _ _ _ _ _ (GEs.of [true,false,false,false] (by simp)) (by simp) (by simp) (by simp) (fun _=>Z0o h3)),.c 30 (UD h4),.u 32 (.ln _ _ fun _=>lm y3.1 (Vq .nw))] fun q5=>?_
 refine wR (fun(i6:Nat) (v6:(List Job)×(List Run))=>⟨[(1,.ptr 1 0),(2,.ptr 2 0),(8,.ptr 8 0),(31,.sref 26000),(32,iV (y3.1.length:Int)),(33,iV (i6:Int))],[],[(1,(X2 .rd s1).cells),(2,[.nl,.nl,.nl,iV 0,iV 0,iV 0,iV 0,iV 0,.nl,.nl,.nl]),(8,[nV 1 (y4.topo.parents.map eI),nV 4 (y4.topo.nodes.map Y1),nV 1 (y4.up.map eBo),iV y4.lic.a,iV y4.lic.b,iV y4.lic.c,iV y4.depth,iV y4.now,.sref 31000,.sref 31001,.sref 31002])],[(31000,⟨11,v6.1.map eJob,false⟩),(31001,⟨13,v6.2.map (Z1 .nw),false⟩),(31002,⟨3,y4.ends.map eEnd,false⟩),(26000,⟨3,y3.1.map (Vq .nw),false⟩)]⟩) H (fun i6 x6 v6 I m k6 hxv6 hiv6 H N21=>?_) (fun v6 I m H=>?_)
 .unfold Xu at H
  refine wP ?_
  refine wt (ltT hiv6) ?_
  obtain⟨n7,h7,H⟩:=bB H
  obtain⟨e8,h8,H⟩:=bB H
  obtain⟨xs9,h9,H⟩:=bB H
  obtain⟨xs10,h10,H⟩:=bB H
  refine wG [.u 35 (.ix _ _ _ fun _=>Q0 (Vq .nw) (J0 hxv6)),.u 36 (.el _ _ _ fun _=>gm (Vq .nw) (W4 (J0 hxv6))),.c 41 (O17 h7),.u 47 (.ix _ _ _ fun _=>Q0 eJob h8),.u 48 (.el _ _ _ fun _=>gm eJob (W4 h8)),.u 55 (.ap _ _ _ _ fun _=>L0 (Z1 .nw) h9),.u 62 (.cr Mf 11 _ [iV n7,iV (w64 (n7+1))] _ true _ (fun _=>by simp) (fun _=>by simp) (fun _=>rfl) (fun _=>X1t h10)),.w 64 (wi .i64 rfl hiv6 q5.1)] fun _=>?_
  exact U05 (N21 _ H) [] [] [(31000,(some 63000,0))] [] (by kernel_rfl) (by kernel_rfl)
 .unfold W03 at H
  refine wP ?_
  refine wf (ltF y3.1.length) ?_
  refine wP ?_
  replace H:=sI H;subst H
  exact wN [(2,.d)] [(2,[.d,.d,.d,.d,.d,.d,.d,.d,.f,.f,.d])] [(31002,some 31002,0)] [31000,31001] [some 31002] [⟨_,nw_I y4.topo.parents⟩,⟨_,J1 y4.topo.nodes⟩,⟨_,Yg y4.up⟩,⟨_,Lh v6.1⟩,⟨_,Zg v6.2⟩,⟨_,Lr y4.ends⟩]
noncomputable def M0N:L :=
 lf Tryz.prog X0i [] [] [] [] [] [] []
def QJ(x3:Run)(_:Nat)(v3:Int)(k3:Int->Option Int):Option Int :=
 bif ((decide (v3<0))||(decide ((w64 (x3.t+x3.job.wall))<v3)))then(k3 (w64 (x3.t+x3.job.wall)))else(k3 v3)
def O03(v3:Int):Option Int :=
 some v3
def Zw(s1:State):Option Int :=
 rgl QJ O03 s1.runs 0 (-1)
theorem V08{s1:State}{r:Int}(H:Zw s1=some r):Snd Tryz.prog X0i [X2 .rd s1] (iV r) []:=by
 refine wS M0N [.t 2] ?_
 unfold Zw at H
 refine wG [.u 9 (.ln _ _ fun _=>lm s1.runs (Z1 .rd))] fun q2=>?_
 refine wR (fun(i3:Nat) (v3:Int)=>⟨[(3,iV v3),(8,rV 13 (s1.runs.map (Z1 .rd))),(9,iV (s1.runs.length:Int)),(10,iV (i3:Int))],[],[],[]⟩) H (fun i3 x3 v3 I m k3 hxv3 hiv3 H N21=>?_) (fun v3 I m H=>?_)
 .unfold QJ at H
  refine wP ?_
  refine wt (ltT hiv3) ?_
  refine wG [.u 12 (.ix _ _ _ fun _=>Q0 (Z1 .rd) (J0 hxv3))] fun _=>?_
  refine O0 H (fun H=>?_) fun H=>?_
  .refine wG [.w 28 (wi .i64 rfl hiv3 q2.1)] fun _=>?_
   exact wT (N21 _ H)
  .refine wG [.w 28 (wi .i64 rfl hiv3 q2.1)] fun _=>?_
   exact wT (N21 _ H)
 .unfold O03 at H
  refine wP ?_
  refine wf (ltF s1.runs.length) ?_
  obtain rfl:=sI H
  exact wP (wE [(2,.d)])
noncomputable def Z0O:L :=
 lf Tryz.prog Zl [] [] [] [] [] [] []
def XG(x1:Run)(x2:Int):Option Bool :=
 some ((w64 (x1.t+x1.job.wall))==x2)
theorem J0v{x1:Run}{x2:Int}{r:Bool}(H:XG x1 x2=some r):Snd Tryz.prog Zl [Z1 .rd x1,.ept (.agg [iV x2]) 0] (.bool r) []:=by
 refine wS Z0O [.t 3] ?_
 unfold XG at H
 obtain rfl:=sI H
 exact wP (wE [(3,.d)])
def QH(x1:Run)(x2:Int):Bool :=
 ((w64 (x1.t+x1.job.wall))==x2)
theorem J0W(x1:Run)(x2:Int):XG x1 x2=some (QH x1 x2):=by
 unfold XG QH
 first|rfl|simp only[O5]
theorem J0O(x1:Run)(x2:Int):Snd Tryz.prog Zl [Z1 .rd x1,.ept (.agg [iV x2]) 0] (.bool (QH x1 x2)) []:=J0v (J0W x1 x2)
noncomputable def Yn:L :=
 lf Tryz.prog Wl [11] [] [] [] [] [(9,[],[],[0,2,4,6,10,12,14,16,18,20,22,24,26,28,9,31],16)] []
def Mm:List Rv:=[.t 6]
theorem Zo:Ms Tryz.prog Wl 3 Yn Mm=true:=by kernel_rfl
def W2(s1:State)(why2 c3:Int)(x5:Run)(_:Nat)(v5:(List End)×(List Job)×(List Run))(k5:((List End)×(List Job)×(List Run))->Option ((List Job)×State)):Option ((List Job)×State) :=
 bif (!(QH x5 c3))then((appL 120 v5.2.2 [x5]).bind fun xs6=>k5 (v5.1,v5.2.1,xs6))else((appL 88 v5.2.1 [x5.job]).bind fun xs7=>(appL 24 v5.1 [(End.mk x5.job.id s1.now why2)]).bind fun xs8=>k5 (xs8,xs7,v5.2.2))
def V3(s1:State)(v5:(List End)×(List Job)×(List Run)):Option ((List Job)×State) :=
 some (v5.2.1,(State.mk s1.topo s1.up s1.lic s1.depth s1.now s1.queue v5.2.2 v5.1))
def J3(s1:State)(why2 c3:Int):Option ((List Job)×State) :=
 rgl (W2 s1 why2 c3) (V3 s1) s1.runs 0 (s1.ends,[],[])
set_option maxRecDepth 20000 in
theorem Mn{s1:State}{why2 c3:Int}{r:(List Job)×State}(H:J3 s1 why2 c3=some r):ConD Tryz.prog Wl [.ptr 0 0,iV why2,.fn Zl [.ept (.agg [iV c3]) 0]] [[nV 1 (s1.topo.parents.map eI),nV 4 (s1.topo.nodes.map Y1),nV 1 (s1.up.map eBo),iV s1.lic.a,iV s1.lic.b,iV s1.lic.c,iV s1.depth,iV s1.now,nV 11 (s1.queue.map eJob),nV 13 (s1.runs.map (Z1 .nw)),.sref 0]] [(3,s1.ends.map eEnd)] (.sref 1) [[nV 1 (r.2.topo.parents.map eI),nV 4 (r.2.topo.nodes.map Y1),nV 1 (r.2.up.map eBo),iV r.2.lic.a,iV r.2.lic.b,iV r.2.lic.c,iV r.2.depth,iV r.2.now,nV 11 (r.2.queue.map eJob),.sref 2,.sref 3]] [none] [(11,r.1.map eJob),(13,r.2.runs.map (Z1 .nw)),(3,r.2.ends.map eEnd)]:=by
 refine WV [false] Zo rfl (by kernel_rfl) ?_
 unfold J3 at H
 refine wG [.u 16 (.ln _ _ fun _=>lm s1.runs (Z1 .nw))] fun q4=>?_
 refine U04 (fun(i5:Nat) (v5:(List End)×(List Job)×(List Run))=>⟨[(0,.ptr 2000000000 0),(1,.int .i64 why2),(2,.fn Zl [.ept (.agg [.int .i64 c3]) 0]),(7,.sref 11),(8,.sref 228002),(15,.sl .nw 13 (s1.runs.map (Z1 .nw))),(16,.int .i64 (s1.runs.length:Int)),(17,.int .i64 (i5:Int))],[],[(2000000000,[.sl .nw 1 (s1.topo.parents.map eI),.sl .nw 4 (s1.topo.nodes.map Y1),.sl .nw 1 (s1.up.map eBo),.int .i64 s1.lic.a,.int .i64 s1.lic.b,.int .i64 s1.lic.c,.int .i64 s1.depth,.int .i64 s1.now,.sl .nw 11 (s1.queue.map eJob),.sl .nw 13 (s1.runs.map (Z1 .nw)),.sref 500000000])],[(500000000,⟨3,v5.1.map eEnd,false⟩),(11,⟨11,v5.2.1.map eJob,false⟩),(228002,⟨13,v5.2.2.map (Z1 .nw),false⟩)]⟩) [(8,.z 228002)] [] [(228002,(none,13))] [] (by kernel_rfl) (by kernel_rfl) H (fun i5 x5 v5 I m k5 hxv5 hiv5 H N26=>?_) (fun v5 I m H=>?_)
 .unfold W2 at H
  refine wP ?_
  refine wt (ltT hiv5) ?_
  refine wG [.u 19 (.ix _ _ _ fun _=>Q0 (Z1 .nw) (J0 hxv5)),.u 23 (.clsr _ _ _ _ _ (AEs.refl _) (by kernel_rfl) (fun _=>J0O x5 c3))] fun _=>?_
  refine O0 H (fun H=>?_) fun H=>?_
  .obtain⟨xs6,h6,H⟩:=bB H
   refine wG [.u 28 (.ap _ _ _ _ fun _=>L0 (Z1 .nw) h6),.w 52 (wi .i64 rfl hiv5 q4.1)] fun _=>?_
   exact wT (N26 _ H)
  .obtain⟨xs7,h7,H⟩:=bB H
   obtain⟨xs8,h8,H⟩:=bB H
   refine wG [.u 33 (.ap _ _ _ _ fun _=>L0 eJob h7),.u 49 (.ap _ _ _ _ fun _=>L0 eEnd h8),.w 52 (wi .i64 rfl hiv5 q4.1)] fun _=>?_
   exact wT (N26 _ H)
 .unfold V3 at H
  refine wP ?_
  refine wf (ltF s1.runs.length) ?_
  refine wP ?_
  replace H:=sI H;subst H
  exact X3 [(6,.d)] [(2000000000,[])] [(11,some 11,0),(228002,some 228002,0),(500000000,some 500000000,0)] [] [11,228002,500000000] (by kernel_rfl)
noncomputable def O16:L :=
 lf Tryz.prog Q0A [] [(19,1),(32,2),(39,1)] [] [] [] [] []
def Vs(t2:Int)(v5:State)(k5:State->Option (State×Bool)):Option (State×Bool) :=
 (Zw v5).bind fun n6=>bif ((decide (n6<0))||(decide (t2<n6)))then(some ((State.mk v5.topo v5.up v5.lic v5.depth t2 v5.queue v5.runs v5.ends),true))else((J3 (State.mk v5.topo v5.up v5.lic v5.depth n6 v5.queue v5.runs v5.ends) 1 n6).bind fun y7=>bif (decide (300<(y7.2.ends.length:Int)))then(some ((State.mk (Topo.mk [] []) [] (Vec.mk 0 0 0) 0 0 [] [] []),false))else((Jv y7.2).bind fun y9=>k5 y9))
def UN(s1:State)(t2:Int):Option (State×Bool) :=
 (Vw s1).bind fun b3=>bif ((!b3)||(!(Y0 t2 s1.now 1000000000)))then(some ((State.mk (Topo.mk [] []) [] (Vec.mk 0 0 0) 0 0 [] [] []),false))else((Ug s1).bind fun y4=>whl (Vs t2) 9223372036854775807 y4)
theorem V18{s1:State}{t2:Int}{r:State×Bool}(H:UN s1 t2=some r):Snd Tryz.prog Q0A [X2 .rd s1,iV t2] (.tup [X2 .nw r.1,.bool r.2]) []:=by
 refine wS O16 [.c 4 11 true,.t 5] ?_
 unfold UN at H
 obtain⟨b3,h3,H⟩:=bB H
 refine wG [.c 8 (M08 h3),.g 14 [((!b3),false)] (.call _ _ _ _ _ (AEs.refl _) (fun _=>M1 t2 s1.now 1000000000))] fun _=>?_
 refine O0 H (fun H=>?_) fun H=>?_
 .refine wP ?_
  replace H:=sI H;subst H
  exact wN [(4,.d),(5,.d)] [(4,[.n 1,.n 4,.n 1,.d,.d,.d,.d,.d,.n 11,.n 13,.n 3])] [] [] [] [⟨_,nw_I ([]:List Int)⟩,⟨_,J1 ([]:List Node)⟩,⟨_,Yg ([]:List Bool)⟩,⟨_,Lh ([]:List Job)⟩,⟨_,Zg ([]:List Run)⟩,⟨_,Lr ([]:List End)⟩]
 .obtain⟨y4,h4,H⟩:=bB H
  refine wG [.c 19 (UD h4)] fun _=>?_
  refine U10 (fun(v5:State)=>⟨[(1,.int .i64 t2),(2,.ptr 2 0),(4,.ptr 4 0)],[],[(2,[.sl .nw 1 (v5.topo.parents.map eI),.sl .nw 4 (v5.topo.nodes.map Y1),.sl .nw 1 (v5.up.map eBo),.int .i64 v5.lic.a,.int .i64 v5.lic.b,.int .i64 v5.lic.c,.int .i64 v5.depth,.int .i64 v5.now,.sl .nw 11 (v5.queue.map eJob),.sl .nw 13 (v5.runs.map (Z1 .nw)),.sref 20002]),(4,[.nl,.nl,.nl,.int .i64 0,.int .i64 0,.int .i64 0,.int .i64 0,.int .i64 0,.nl,.nl,.nl])],[(20002,⟨3,v5.ends.map eEnd,false⟩)]⟩) [] [(2,[.d,.d,.d,.d,.d,.d,.d,.d,.f,.f,.d])] [] [20000,20001] (by kernel_rfl) (by kernel_rfl) H (fun v5 I m k5 H N31=>?_)
  unfold Vs at H
  obtain⟨n6,h6,H⟩:=bB H
  refine wG [.u 21 (.call _ _ _ _ _ (AEs.of (xs:=[.agg [rV 1 (v5.topo.parents.map eI),rV 4 (v5.topo.nodes.map Y1),rV 1 (v5.up.map eBo),iV v5.lic.a,iV v5.lic.b,iV v5.lic.c,iV v5.depth,iV v5.now,rV 11 (v5.queue.map eJob),rV 13 (v5.runs.map (Z1 .nw)),rV 3 (v5.ends.map eEnd)]]) (by simp)) (fun _=>V08 h6))] fun _=>?_
  refine O0 H (fun H=>?_) fun H=>?_
  .refine wP ?_
   replace H:=sI H;subst H
   exact wN [(4,.d),(5,.d)] [(4,[.d,.d,.d,.d,.d,.d,.d,.d,.d,.d,.f])] [] [20002] [] [⟨_,nw_I v5.topo.parents⟩,⟨_,J1 v5.topo.nodes⟩,⟨_,Yg v5.up⟩,⟨_,Lh v5.queue⟩,⟨_,Zg v5.runs⟩,⟨_,Lr v5.ends⟩]
  .obtain⟨y7,h7,H⟩:=bB H
   refine wG [.u 32 (.cw Wl [2] [20002] [[nV 1 (v5.topo.parents.map eI),nV 4 (v5.topo.nodes.map Y1),nV 1 (v5.up.map eBo),iV v5.lic.a,iV v5.lic.b,iV v5.lic.c,iV v5.depth,iV n6,nV 11 (v5.queue.map eJob),nV 13 (v5.runs.map (Z1 .nw)),.sref 0]] [(3,v5.ends.map eEnd)] [.ptr 0 0,iV 1,.fn Zl [.ept (.agg [iV n6]) 0]] _ _ _ _ _ (GEs.of [true,false,false] (by simp)) (by simp) (by simp) (by simp) (fun _=>have k:=Mn h7;k)),.u 35 (.ln _ _ fun _=>lm y7.2.ends eEnd)] fun q8=>?_
   refine O0 H (fun H=>?_) fun H=>?_
   .refine wP ?_
    replace H:=sI H;subst H
    exact wN [(4,.d),(5,.d)] [(4,[.n 1,.n 4,.n 1,.d,.d,.d,.d,.d,.n 11,.n 13,.n 3])] [] [] [] [⟨_,nw_I ([]:List Int)⟩,⟨_,J1 ([]:List Node)⟩,⟨_,Yg ([]:List Bool)⟩,⟨_,Lh ([]:List Job)⟩,⟨_,Zg ([]:List Run)⟩,⟨_,Lr ([]:List End)⟩]
   .obtain⟨y9,h9,H⟩:=bB H
    refine wG [.u 39 (.call _ _ _ _ _ (AEs.of (xs:=[.agg [rV 1 (y7.2.topo.parents.map eI),rV 4 (y7.2.topo.nodes.map Y1),rV 1 (y7.2.up.map eBo),iV y7.2.lic.a,iV y7.2.lic.b,iV y7.2.lic.c,iV y7.2.depth,iV y7.2.now,rV 11 (y7.2.queue.map eJob),rV 13 (y7.2.runs.map (Z1 .nw)),rV 3 (y7.2.ends.map eEnd)]]) (by simp)) (fun _=>O0O h9))] fun _=>?_
    exact U05 (N31 _ H) [] [] [(20002,(some 40000,0))] [] (by kernel_rfl) (by kernel_rfl)
theorem Q0n(r:Room)(j:Job)(from_ to_:Int)(nodes:List Int):Q5 r j from_ to_ nodes=bif diffOk r j nodes then takeRoom r j.need j.lic from_ to_ nodes else some noRoom:=by
 unfold Q5 diffOk
 rw[VV,bS,XM]
 cases hr:roomOk r with
 |false=>rfl
 |true =>
  have hR:=YN.1 hr
  rw[O0j hR.small.nodes]
  cases X1 j with
  |false=>rfl
  |true =>
   simp only[yL,Bool.or_self,yM,Bool.true_and,bS]
   cases(decide ((nodes.length:Int)=j.nodes)&&Q4 r.topo nodes&&decide nodes.Nodup)with
   |false=>rfl
   |true =>
    simp only[yL,Bool.or_self,yM,yN]
    rw[Y0G hR.small,bS]
    unfold takeRoom Zb Ja
    simp only[fun p f t v=>(X0k p f t v).1]
    rfl
def idsOk(l:List Job):Bool:=decide (l.map Job.id).Nodup
noncomputable def queueOk(l:List Job):Bool:=decide (l.length<=60)&&l.all X1&&idsOk l
theorem Y1p{l:List Job}{i:Nat}{x:Job}(hx:l[i]?=some x):((l.take (i+1)).map Job.id).Nodup↔((l.take i).map Job.id).Nodup/\∀y∈l.take i,y.id≠x.id:=by
 obtain⟨hi,rfl⟩:=yB hx
 rw[List.take_succ_eq_append_getElem hi,List.map_append,List.nodup_append]
 constructor
 .intro h;exact⟨h.1,fun y hy e=>h.2.2 _ (List.mem_map_of_mem hy) _ (List.mem_singleton.2 rfl) e⟩
 .intro h;exact⟨h.1,by simp,fun a ha b hb e=>by
   obtain⟨y,hy,rfl⟩:=yY ha
   rw[show b=l[i].id by simpa using hb]at e
   exact h.2 y hy e⟩
theorem U0Y{γ:Type}{bd:Job->Nat->Unit->(Unit->Option γ)->Option γ}{kk:Unit->Option γ}{r:Option γ}{l:List Job}
  (hb:∀i x k,l[i]?=some x->bd x i () k=bif (!X1 x)||(l.take i).any (fun y=>y.id==x.id)then r else k ()):rgl bd kk l 0 ()=bif l.all X1&&idsOk l then kk ()else r:=by
 refine Y8 (fun i (_:Unit)=>(∀y∈l.take i,X1 y=true)/\((l.take i).map Job.id).Nodup) (fun o=>o=bif l.all X1&&idsOk l then kk ()else r) (fun i x b k hx hI hk=>?_) (fun b hI=>?_) (by simp)
 .have hil:=(yB hx).1
  rw[hb i x k hx]
  cases hj:X1 x with
  |false =>
   have:l.all X1=false:=List.all_eq_false.2 ⟨x,yE hx,by rw[hj];simp⟩
   rw[this];rfl
  |true =>
   cases hc:(l.take i).any (fun y=>y.id==x.id)with
   |true =>
    obtain⟨y,hy,he⟩:=List.any_eq_true.1 hc
    have:idsOk l=false:=by
     unfold idsOk
     rw[decide_eq_false_iff_not]
     intro q
     have q2:((l.take (i+1)).map Job.id).Nodup:=q.sublist ((List.take_sublist _ _).map _)
     exact((Y1p hx).1 q2).2 y hy (by simpa using he)
    rw[this,Bool.and_false];rfl
   |false =>
    refine hk () ⟨fun y hy=>?_,(Y1p hx).2 ⟨hI.2,fun y hy e=>?_⟩⟩
    .obtain⟨hi,rfl⟩:=yB hx
     rw[List.take_succ_eq_append_getElem hi]at hy
     rcases List.mem_append.1 hy with hy|hy
     .exact hI.1 y hy
     .rw[List.mem_singleton.1 hy];exact hj
    .have:=List.any_eq_false.1 hc y hy
     simp[e]at this
 .rw[List.take_of_length_le (yV _)]at hI
  rw[List.all_eq_true.2 hI.1]
  unfold idsOk
  rw[decide_eq_true hI.2];rfl
theorem Xm(l:List Job):Vm l=some (queueOk l):=by
 unfold Vm queueOk
 by_cases h:60<l.length
 .simp[show(60:Int)<l.length by omega,show ¬ l.length<=60 by omega]
 .rw[show decide ((60:Int)<(l.length:Int))=false by simp;omega,show decide (l.length<=60)=true by simp;omega]
  simp only[yM,Bool.true_and]
  rw[U0Y (r:=some false) (fun i x k hx=>?_)]
  .unfold LI
   cases(l.all X1&&idsOk l)<;>rfl
  .have hil:=(yB hx).1
   unfold JI
   cases X1 x with
   |false=>rfl
   |true =>
    simp only[yL,yM,Bool.false_or]
    have h:=W0i (bd:=Xk l i x k) (fun(i:Nat) (_:Unit)=>(i:Int)) (n:=i)
     (B:=fun m _ _ k=>bif (match l[m]? with|some e=>e.id==x.id|none=>false)then some false else k ()) (kk:=fun _=>k ()) (fun m st k hm=>by
      obtain⟨e,he⟩:∃e,l[m]?=some e:=⟨_,yA (by omega)⟩
      have hlt:(m:Int)<(i:Int):=by omega
      simp only[Xk,hlt,decide_true,yN,L6,he,bS,O0i (n:=m) (by omega)])
     (fun m st k hm=>by
      have hlt:¬ (m:Int)<(i:Int):=by omega
      simp only[Xk,hlt,decide_false,yM]) 9223372036854775807 0 () (by omega)
    refine h.trans ?_
    rw[Wj (r:=some false) (p:=fun(m:Nat)=>match l[m]? with|some e=>e.id==x.id|none=>false) (fun m _ i k=>rfl)]
    have e:(List.range' 0 (i-0)).any (fun(m:Nat)=>match l[m]? with|some e=>e.id==x.id|none=>false)=(l.take i).any (fun y=>y.id==x.id):=by
     rw[Bool.eq_iff_iff,List.any_eq_true,List.any_eq_true]
     constructor
     .rintro⟨m,hm,hq⟩
      obtain⟨j,hj,rfl⟩:=List.mem_range'.1 hm
      have hlt:0+1*j<l.length:=by omega
      rw[yA hlt]at hq
      exact⟨_,List.mem_take_iff_getElem.2 ⟨0+1*j,by omega,rfl⟩,hq⟩
     .rintro⟨y,hy,hq⟩
      obtain⟨m,hm,rfl⟩:=List.mem_take_iff_getElem.1 hy
      exact⟨m,List.mem_range'.2 ⟨m,by omega,by omega⟩,by rw[yA (by omega)];exact hq⟩
    rw[e]
theorem U1k(l:List Job)(c:Job):V1 l c=some (l.any fun y=>y.id==c.id):=by
 unfold V1 V2
 have:∃r:Int,rgl (Z2 c) J2 l 0 ()=some r/\decide (0<=r)=l.any fun y=>y.id==c.id:=by
  refine Y8 (fun i (_:Unit)=>∀y∈l.take i,(y.id==c.id)=false) (fun o=>∃r:Int,o=some r/\decide (0<=r)=l.any fun y=>y.id==c.id) (fun i x b k hx hI hk=>?_) (fun b hI=>?_) (by simp)
  .unfold Z2 Us
   cases h:(x.id==c.id)with
   |true=>exact⟨i,rfl,by rw[List.any_eq_true.2 ⟨x,yE hx,h⟩];simp⟩
   |false =>
    refine hk () fun y hy=>?_
    obtain⟨hi,rfl⟩:=yB hx
    rw[List.take_succ_eq_append_getElem hi]at hy
    rcases List.mem_append.1 hy with hy|hy
    .exact hI y hy
    .rw[List.mem_singleton.1 hy];exact h
  .rw[List.take_of_length_le (yV _)]at hI
   exact⟨-1,rfl,by rw[List.any_eq_false.2 fun y hy=>by rw[hI y hy];simp];rfl⟩
 obtain⟨r,h1,h2⟩:=this
 rw[h1,bS,h2]
theorem Z09(l:List Job):Uw l=some (queueOk l):=by
 unfold Uw queueOk
 rw[U0Y (r:=some false) (fun i x k hx=>?_)]
 .unfold XK
  have e:decide ((l.length:Int)<=60)=decide (l.length<=60):=by rw[Bool.eq_iff_iff];simp;omega
  rw[e]
  cases l.all X1<;>cases idsOk l<;>cases decide (l.length<=60)<;>rfl
 .have hil:=(yB hx).1
  unfold VK
  rw[XM,M19 (by omega)]
  cases X1 x with
  |false=>rfl
  |true =>
   simp only[yL,yM,bS,U1k,Bool.false_or]
theorem X0P(v:Vec):Yj v=Z6 v:=rfl
def OH(t:Topo)(up:List Bool)(lic:Vec):Room:=⟨t,up,t.nodes.map fun x=>(Z6 x.cap).1,(Z6 lic).1⟩
theorem Q10{v:Vec}(h:W0 v=true):ProfP (Z6 v).1:=by
 unfold Z6
 rw[h]
 simp only[yL,yM]
 exact⟨by simp,by simp,fun x hx=>by simp at hx;rw[← hx],fun x hx=>by simp at hx;subst hx;exact⟨rfl,h⟩,fun i x y hx hy=>by simp at hy⟩
theorem M0y{t:Topo}(h:TopoP t){up:List Bool}(hu:up.length=t.nodes.length){lic:Vec}(hl:W0 lic=true):RoomP (OH t up lic) :=
  ⟨h,hu,by simp[OH],fun p hp=>by
    obtain⟨x,hx,rfl⟩:=yY hp
    exact Q10 (h.node x hx).2.2.2,Q10 hl⟩
theorem Z18{t:Topo}(h:TopoP t){up:List Bool}(hu:up.length=t.nodes.length)(lic:Vec):UX t up lic=some (OH t up lic):=by
 have:=h.tree.le;have:=h.nodes
 unfold UX Xf Vf
 rw[M0 (by simp;omega),bS,bS,M0 (by simp;omega),bS,bS,M0 (by simp;omega),bS]
 rw[U5 (bd:=OU) (bs:=24) (p:=fun _=>true) (f:=fun x=>(Z6 x.cap).1) (fun x hx i b k=>rfl) (by simp;omega)]
 unfold WU OH
 simp[List.filter_eq_self.2,X0P]
theorem Q02(s:State):Xo s=some (bif topoOk s.topo&&decide (s.up.length=s.topo.nodes.length)&&W0 s.lic then(OH s.topo s.up s.lic,true)else noRoom):=by
 unfold Xo
 rw[Vr,bS,Z14]
 cases ht:topoOk s.topo with
 |false=>rfl
 |true =>
 cases hu:decide (s.up.length=s.topo.nodes.length)with
 |false=>rfl
 |true =>
 cases hl:W0 s.lic with
 |false=>rfl
 |true =>
  have h:=MM.1 ht
  have hu:=of_decide_eq_true hu
  have:=h.nodes
  simp only[yL,Bool.or_self,yM,Bool.and_self,yN]
  rw[U5 (bd:=VB) (bs:=24) (p:=fun _=>true) (f:=fun x=>(Z6 x.cap).1) (fun x hx i b k=>rfl) (by simp;omega)]
  unfold XB
  rw[show(s.topo.nodes.filter fun _=>true)=s.topo.nodes from List.filter_eq_self.2 fun _ _=>rfl,List.nil_append]
  have hR:=M0y h hu hl
  unfold OH at hR
  rw[X06 hR.small,bS]
  rfl
def W0J(s:State)(x:Run):Bool:=time x.t&&decide (x.t<=s.now)&&decide (s.now<x.t+x.job.wall)&&decide (x.t+x.job.wall<=1000000000)
noncomputable def O0c(s:State)(x:Run)(v:Room):Option (Room×Bool):=bif diffOk v x.job x.nodes&&W0J s x then takeRoom v x.job.need x.job.lic s.now (x.t+x.job.wall) x.nodes else some noRoom
theorem Y11{s:State}(hs:time s.now=true)(x:Run)(i:Nat)(v:Room)(k:Room->Option (Room×Bool)):Jy s x i v k=(O0c s x v).bind fun y=>bif !y.2 then some noRoom else k y.1:=by
 have hn:=U8.1 hs
 unfold Jy O0c
 rw[Z06,bS,Qd]
 cases hd:diffOk v x.job x.nodes with
 |false=>rfl
 |true =>
  have hj:X1 x.job=true:=by unfold diffOk at hd;simp only[yD]at hd;exact hd.1.1.1.2
  have hj':=Md.1 hj
  unfold W0J
  by_cases ht:time x.t=true/\x.t<=s.now
  .have ht1:=U8.1 ht.1
   rw[ht.1,X5 (n:=x.t+x.job.wall) (by omega),show decide (s.now<x.t)=false by simp;omega,show decide (x.t<=s.now)=true by simpa using ht.2]
   by_cases h3:s.now<x.t+x.job.wall
   .rw[show decide (x.t+x.job.wall<=s.now)=false by simp;omega,show decide (s.now<x.t+x.job.wall)=true by simpa using h3]
    by_cases h4:x.t+x.job.wall<=1000000000
    .rw[show decide (1000000000<x.t+x.job.wall)=false by simp;omega,show decide (x.t+x.job.wall<=1000000000)=true by simpa using h4]
     simp only[yL,Bool.or_self,yM,Bool.and_self,yN]
     rw[X5 (n:=x.t+x.job.wall-s.now) (by omega),QO]
     have e:diffOk v ⟨x.job.id,x.job.prio,x.job.nodes,x.job.need,x.job.lic,x.t+x.job.wall-s.now,x.job.level⟩ x.nodes=true:=by
      have hj2:X1 ⟨x.job.id,x.job.prio,x.job.nodes,x.job.need,x.job.lic,x.t+x.job.wall-s.now,x.job.level⟩=true:=by
       rw[Md];simp only;refine⟨hj'.1,hj'.2.1,hj'.2.2.1,hj'.2.2.2.1,hj'.2.2.2.2.1,by omega,hj'.2.2.2.2.2.2⟩
      unfold diffOk at hd ⊢
      rw[hj]at hd
      rw[hj2];exact hd
     rw[e,hs]
     simp only[Bool.and_self,yN]
     rw[show s.now+(x.t+x.job.wall-s.now)=x.t+x.job.wall by omega,X5 (by omega)]
     rfl
    .rw[show decide (1000000000<x.t+x.job.wall)=true by simp;omega,show decide (x.t+x.job.wall<=1000000000)=false by simpa using h4]
     simp[noRoom]
   .rw[show decide (x.t+x.job.wall<=s.now)=true by simp;omega,show decide (s.now<x.t+x.job.wall)=false by simpa using h3]
    simp[noRoom]
  .have:(time x.t&&decide (x.t<=s.now))=false:=by
    rw[Bool.eq_false_iff];intro q;simp only[yD,yO]at q;exact ht q
   rw[this]
   have h2:(!(time x.t)||decide (s.now<x.t))=true:=by
    cases hx:time x.t with
    |false=>rfl
    |true =>
     have:¬ x.t<=s.now:=fun q=>ht ⟨hx,q⟩
     simp;omega
   simp only[yL,Bool.false_or,h2,Bool.true_or,yN,Bool.false_and,Bool.and_false,yM,bS]
   rfl
theorem U17{s:State}(hs:time s.now=true)(x:Run)(i:Nat)(v:Room)(k:Room->Option (Room×Bool)):UA s x i v k=(O0c s x v).bind fun y=>bif !y.2 then some noRoom else k y.1:=by
 have hn:=U8.1 hs
 unfold UA O0c
 rw[XM,Q0n]
 cases hj:X1 x.job with
 |false =>
  have hd:diffOk v x.job x.nodes=false:=by unfold diffOk;rw[hj];simp
  rw[hd];rfl
 |true =>
  have hj':=Md.1 hj
  by_cases h1:0<=x.t/\x.t<=s.now
  .rw[X5 (n:=x.t+x.job.wall) (by omega),X5 (n:=s.now+1) (by omega)]
   have e1:Y0 x.t 0 s.now=true:=by simp[Y0];exact h1
   have e2:Y0 (x.t+x.job.wall) (s.now+1) 1000000000=(decide (s.now<x.t+x.job.wall)&&decide (x.t+x.job.wall<=1000000000)):=by
    unfold Y0;congr 1
   have e3:time x.t=true:=by rw[U8];omega
   unfold W0J
   rw[e1,e2,e3,show decide (x.t<=s.now)=true by simpa using h1.2]
   simp only[yL,Bool.false_or,Bool.and_self,Bool.true_and]
   cases(decide (s.now<x.t+x.job.wall)&&decide (x.t+x.job.wall<=1000000000))<;>cases diffOk v x.job x.nodes<;>rfl
  .have e1:Y0 x.t 0 s.now=false:=by
    unfold Y0;rw[Bool.eq_false_iff];intro q;simp only[yD,yO]at q;exact h1 q
   have e2:W0J s x=false:=by
    unfold W0J;rw[Bool.eq_false_iff];intro q;simp only[yD,yO,U8]at q;exact h1 ⟨q.1.1.1.1,q.1.1.2⟩
   rw[e1,e2]
   simp[noRoom]
noncomputable def M0l(s:State):Option (Room×Bool):=rgl (fun x _ v k=>(O0c s x v).bind fun y=>bif !y.2 then some noRoom else k y.1) (fun v=>some (v,true)) s.runs 0 (OH s.topo s.up s.lic)
noncomputable def VR(s:State):Bool:=topoOk s.topo&&decide (s.up.length=s.topo.nodes.length)&&W0 s.lic&&time s.now
theorem X0f(s:State):Wd s=bif VR s then M0l s else some noRoom:=by
 unfold Wd VR
 rw[Q02,bS,Qd]
 cases(topoOk s.topo&&decide (s.up.length=s.topo.nodes.length)&&W0 s.lic)with
 |false=>rfl
 |true =>
  cases hs:time s.now with
  |false=>rfl
  |true =>
   simp only[yN,yL,Bool.or_self,yM,Bool.and_self]
   unfold M0l
   exact U07 (fun i x b k _=>Y11 hs x i b k) fun b=>rfl
theorem V0g(s:State):JD s=Wd s:=by
 rw[X0f]
 unfold JD VR
 rw[JU,Vr,bS,Z14,Wp,Xs]
 cases ht:topoOk s.topo with
 |false=>rfl
 |true =>
 cases hu:decide (s.up.length=s.topo.nodes.length)with
 |false=>rfl
 |true =>
 cases hl:W0 s.lic with
 |false=>rfl
 |true =>
 cases hs:time s.now with
 |false=>rfl
 |true =>
  simp only[yL,Bool.or_self,yM,Bool.and_self,yN]
  rw[Z18 (MM.1 ht) (of_decide_eq_true hu),bS]
  unfold M0l
  exact U07 (fun i x b k _=>U17 hs x i b k) fun b=>rfl
structure RunsP(s:State):Prop where
 job:∀x∈s.runs,X1 x.job=true/\(x.nodes.length:Int)=x.job.nodes/\Q4 s.topo x.nodes=true/\x.nodes.Nodup/\W0J s x=true
theorem O12{s:State}(h:VR s=true):∃q,M0l s=some q/\(q.2=true->RoomP q.1/\q.1.topo=s.topo/\q.1.up=s.up/\RunsP s):=by
 unfold VR at h
 simp only[yD,yO,MM]at h
 unfold M0l
 refine Y8 (fun i (v:Room)=>RoomP v/\v.topo=s.topo/\v.up=s.up/\∀x∈s.runs.take i,X1 x.job=true/\(x.nodes.length:Int)=x.job.nodes/\Q4 s.topo x.nodes=true/\x.nodes.Nodup/\W0J s x=true) (fun o=>∃q:Room×Bool,o=some q/\(q.2=true->RoomP q.1/\q.1.topo=s.topo/\q.1.up=s.up/\RunsP s)) (fun i x v k hx hI hk=>?_) (fun v hI=>?_) ⟨M0y h.1.1.1 h.1.1.2 h.1.2,rfl,rfl,by simp⟩
 .obtain⟨h1,h2,h3,h4⟩:=hI
  unfold O0c
  cases hd:(diffOk v x.job x.nodes&&W0J s x)with
  |false=>exact⟨noRoom,rfl,fun h=>by cases h⟩
  |true =>
   simp only[yD]at hd
   have hd1:=hd.1
   unfold diffOk at hd1
   simp only[yD,yO]at hd1
   obtain⟨q,q1,q2⟩:=W0k h1 x.job.need x.job.lic s.now (x.t+x.job.wall) hd1.1.2
   simp only[yN]
   rw[q1,bS]
   cases hq:q.2 with
   |false=>exact⟨noRoom,rfl,fun h=>by cases h⟩
   |true =>
    obtain⟨a1,a2,a3⟩:=q2 hq
    refine hk q.1 ⟨a1,a2.trans h2,a3.trans h3,fun y hy=>?_⟩
    obtain⟨hi,rfl⟩:=yB hx
    rw[List.take_succ_eq_append_getElem hi]at hy
    rcases List.mem_append.1 hy with hy|hy
    .exact h4 y hy
    .rw[List.mem_singleton.1 hy]
     exact⟨hd1.1.1.1.2,hd1.1.1.2,by rw[← h2];exact hd1.1.2,hd1.2,hd.2⟩
 .obtain⟨h1,h2,h3,h4⟩:=hI
  rw[List.take_of_length_le (yV _)]at h4
  exact⟨_,rfl,fun _=>⟨h1,h2,h3,⟨h4⟩⟩⟩
theorem Yk(s:State):∃q,Wd s=some q/\(q.2=true->VR s=true/\RoomP q.1/\q.1.topo=s.topo/\q.1.up=s.up/\RunsP s):=by
 rw[X0f]
 cases h:VR s with
 |false=>exact⟨noRoom,rfl,fun h=>by cases h⟩
 |true =>
  obtain⟨q,h1,h2⟩:=O12 h
  exact⟨q,h1,fun h=>⟨rfl,h2 h⟩⟩
def allJobs(s:State):List Job:=s.queue++s.runs.map Run.job
theorem MN{s:State}(h:s.queue.length+s.runs.length<=1048576):Li s=some (allJobs s):=by
 unfold Li
 rw[M0 (by simp;omega),bS,U5 (bd:=YI) (bs:=88) (p:=fun _=>true) (f:=Run.job) (fun x hx i b k=>rfl) (by simp;omega)]
 unfold JH allJobs
 simp[List.filter_eq_self.2]
theorem Y0w(s:State):VG s=Li s:=rfl
def AscP(l:List Int):Prop:=∀(i:Nat) (x y:Int),l[i]?=some x->l[i+1]?=some y->x<y
open Classical in
noncomputable def ascB(l:List Int):Bool:=decide (AscP l)
theorem M0I{l:List Int}:ascB l=true↔AscP l:=by unfold ascB;simp
theorem Q0e{l:List Int}(hl:l.length<=1048576):Jh l=some (ascB l):=by
 unfold Jh
 have h:=W0i (bd:=X9 l) (fun(i:Nat) (_:Unit)=>((i+1:Nat):Int)) (n:=l.length-1)
  (B:=fun x _ _ k=>bif (match l[x]?,l[x+1]? with|some a,some b=>decide (b<=a)|_,_=>true)then some false else k ()) (kk:=fun _=>some true) (fun i st k hi=>by
   obtain⟨a,ha⟩:∃e,l[i]?=some e:=⟨_,yA (by omega)⟩
   obtain⟨b,hb⟩:∃e,l[i+1]?=some e:=⟨_,yA (by omega)⟩
   have hlt:((i+1:Nat):Int)<(l.length:Int):=by omega
   simp only[X9,hlt,decide_true,yN,Q0H (n:=i+1) (by omega) (by omega),Nat.add_sub_cancel,L6,ha,hb,bS,O0i (n:=i+1) (by omega)])
  (fun i st k hi=>by
   have hlt:¬ ((i+1:Nat):Int)<(l.length:Int):=by omega
   simp only[X9,hlt,decide_false,yM]) 9223372036854775807 0 () (by omega)
 refine h.trans ?_
 rw[Wj (r:=some false) (p:=fun(x:Nat)=>match l[x]?,l[x+1]? with|some a,some b=>decide (b<=a)|_,_=>true) (fun x _ i k=>rfl)]
 cases hany:(List.range' 0 (l.length-1-0)).any (fun(x:Nat)=>match l[x]?,l[x+1]? with|some a,some b=>decide (b<=a)|_,_=>true)with
 |true =>
  obtain⟨x,hx,hq⟩:=List.any_eq_true.1 hany
  obtain⟨j,hj,rfl⟩:=List.mem_range'.1 hx
  obtain⟨a,ha⟩:∃e,l[0+1*j]?=some e:=⟨_,yA (by omega)⟩
  obtain⟨b,hb⟩:∃e,l[0+1*j+1]?=some e:=⟨_,yA (by omega)⟩
  rw[ha,hb]at hq
  have:ascB l=false:=by
   rw[Bool.eq_false_iff]
   intro q
   have:=M0I.1 q _ a b ha hb
   simp at hq;omega
  rw[this];rfl
 |false =>
  have:ascB l=true:=M0I.2 fun i x y hx hy=>by
   have hlt:=(yB hy).1
   have:=List.any_eq_false.1 hany i (List.mem_range'.2 ⟨i,by omega,by omega⟩)
   rw[hx,hy]at this
   simpa using this
  rw[this];rfl
noncomputable def lowN(t:Topo)(l:List Int):Nat:=((Wu t l).getD 0).toNat
theorem L1y{t:Topo}{l:List Int}(h:Q4 t l=true)(hne:l≠[]):lowN t l<t.parents.length/\Wu t l=some (lowN t l:Int)/\YE t l=some (lowN t l:Int):=by
 obtain⟨s,h1,h2,h3⟩:=J1k h hne
 have:lowN t l=s:=by unfold lowN;rw[h2];simp
 rw[this];exact⟨h1,h2,h3⟩
def isUp(s:State)(n:Int):Bool:=(idx s.up n).getD false
noncomputable def runFit(s:State)(x:Run):Bool:=x.nodes.all (isUp s)&&ascB x.nodes&&decide (lev s.topo (lowN s.topo x.nodes)<=x.job.level)
def endOk(s:State)(e:End):Bool:=(decide (1<=e.id)&&decide (e.id<=999))&&(decide (0<=e.t)&&decide (e.t<=s.now))&&(decide (1<=e.why)&&decide (e.why<=4))
noncomputable def stateOk(s:State):Bool:=((Wd s).getD noRoom).2&&(decide (0<=s.depth)&&decide (s.depth<=60))&&queueOk (allJobs s)&&decide (s.ends.length<=300)&&s.runs.all (runFit s)&&s.ends.all (endOk s)
theorem W1d{a b:Int}:decide (b<a) = !decide (a<=b):=by rw[Bool.eq_iff_iff];simp
theorem L1b{s:State}(_:TopoP s.topo)(hu:s.up.length=s.topo.nodes.length)(hR:RunsP s){x:Run}(hx:x∈s.runs) :
  x.nodes≠[]/\Q4 s.topo x.nodes=true/\x.nodes.length<=24/\∀n∈x.nodes,∃b,idx s.up n=some b:=by
 obtain⟨h1,h2,h3,_,_⟩:=hR.job x hx
 have hj:=(Md.1 h1).2.2.1
 refine⟨fun e=>by rw[e]at h2;simp at h2;omega,h3,by omega,fun n hn=>?_⟩
 have:=(Q3.1 h3).2 n hn
 obtain⟨b,q,_⟩:=Qf (l:=s.up) (i:=n) this.1 (by rw[hu];exact this.2)
 exact⟨b,q⟩
theorem Z11{s:State}(hT:TopoP s.topo)(hu:s.up.length=s.topo.nodes.length)(hR:RunsP s){x:Run}(hx:x∈s.runs)(k:Unit->Option Bool)(i:Nat):Zu s x i () k=bif !runFit s x then some false else k ():=by
 obtain⟨h1,h2,h3,h4⟩:=L1b hT hu hR hx
 obtain⟨l1,l2,l3⟩:=L1y h2 h1
 unfold Zu
 have hk:Ua s x k ()=bif decide (lev s.topo (lowN s.topo x.nodes)<=x.job.level)then k ()else some false:=by
  unfold Ua
  rw[l2,bS,Zf hT l1,bS,W1d]
  cases decide (lev s.topo (lowN s.topo x.nodes)<=x.job.level)<;>rfl
 have:rgl (Yu s x) (Ua s x k) x.nodes 0 ()=bif x.nodes.all (isUp s)&&ascB x.nodes then Ua s x k ()else some false:=by
  refine Y8 (fun i (_:Unit)=>(∀j n,j<i->x.nodes[j]?=some n->isUp s n=true)/\∀j a b,j+1<i->x.nodes[j]?=some a->x.nodes[j+1]?=some b->a<b) (fun o=>o=bif x.nodes.all (isUp s)&&ascB x.nodes then Ua s x k ()else some false) (fun i n b kc hi hI hkc=>?_) (fun b hI=>?_) ⟨fun j n h=>by omega,fun j a b h=>by omega⟩
  .have hil:=(yB hi).1
   obtain⟨u,hu'⟩:=h4 n (yE hi)
   have hup:isUp s n=u:=by unfold isUp;rw[hu'];rfl
   unfold Yu
   rw[hu',bS]
   cases u with
   |false =>
    have:x.nodes.all (isUp s)=false:=List.all_eq_false.2 ⟨n,yE hi,by rw[hup];simp⟩
    rw[this];rfl
   |true =>
    have new:∀j m,j<i+1->x.nodes[j]?=some m->isUp s m=true:=by
     intro j m hj hm
     by_cases e:j=i
     .subst e;rw[hi]at hm;cases hm;exact hup
     .exact hI.1 j m (by omega) hm
    by_cases h0:i=0
    .subst h0
     exact hkc () ⟨new,fun j a b hj=>by omega⟩
    .have hgt:decide ((0:Int)<(i:Int))=true:=by simp;omega
     obtain⟨q,hq⟩:∃q,x.nodes[i-1]?=some q:=⟨_,yA (by omega)⟩
     rw[hgt,Q0H (by omega) (by omega)]
     simp only[yL,yM,yN,Bool.false_or,Bool.true_and,L6,hq,bS]
     by_cases h5:n<=q
     .have:ascB x.nodes=false:=by
       rw[Bool.eq_false_iff]
       intro w
       have:=M0I.1 w (i-1) q n hq (by rw[show i-1+1=i by omega];exact hi)
       omega
      rw[this,Bool.and_false];simp[h5]
     .simp only[h5,decide_false,yM]
      refine hkc () ⟨new,fun j a b hj ha hb=>?_⟩
      by_cases e:j+1=i
      .have:j=i-1:=by omega
       subst this
       rw[hq]at ha;cases ha
       rw[show i-1+1=i by omega,hi]at hb;cases hb
       omega
      .exact hI.2 j a b (by omega) ha hb
  .have e1:x.nodes.all (isUp s)=true:=List.all_eq_true.2 fun n hn=>by
    obtain⟨j,hj⟩:=List.getElem?_of_mem hn
    exact hI.1 j n (yB hj).1 hj
   have e2:ascB x.nodes=true:=M0I.2 fun j a b ha hb=>hI.2 j a b (yB hb).1 ha hb
   rw[e1,e2];rfl
 rw[this,hk]
 unfold runFit
 cases x.nodes.all (isUp s)<;>cases ascB x.nodes<;>cases decide (lev s.topo (lowN s.topo x.nodes)<=x.job.level)<;>rfl
theorem J1F{s:State}(hT:TopoP s.topo)(hu:s.up.length=s.topo.nodes.length)(hR:RunsP s){x:Run}(hx:x∈s.runs)(k:Unit->Option Bool)(i:Nat):Uu s x i () k=bif !runFit s x then some false else k ():=by
 obtain⟨h1,h2,h3,h4⟩:=L1b hT hu hR hx
 obtain⟨l1,l2,l3⟩:=L1y h2 h1
 unfold Uu
 rw[Wj (r:=some false) (p:=fun n=>!isUp s n) (fun n hn i k=>by
  obtain⟨u,hu'⟩:=h4 n hn
  unfold YK isUp
  rw[hu',bS];rfl),← List.not_all_eq_any_not]
 unfold ZK
 rw[Q0e (by omega),bS]
 unfold runFit
 cases x.nodes.all (isUp s)with
 |false=>rfl
 |true =>
 cases ascB x.nodes with
 |false=>rfl
 |true =>
  simp only[yL,yM,l3,bS,Wz hT l1,Bool.false_or,Bool.true_and,W1d]
theorem Oe{s:State}(hs:s.queue.length+s.runs.length<=1048576):M6 s=some (stateOk s)/\Vw s=some (stateOk s):=by
 obtain⟨q,h1,h2⟩:=Yk s
 unfold M6 Vw stateOk
 rw[V0g,h1,bS,bS,Y0w,MN hs,Option.getD_some]
 have e1:(decide (s.depth<0)||decide (60<s.depth)) = !(decide (0<=s.depth)&&decide (s.depth<=60)):=by rw[Bool.eq_iff_iff];simp
 have e2:Y0 s.depth 0 60=(decide (0<=s.depth)&&decide (s.depth<=60)):=rfl
 have e3:decide ((300:Int)<(s.ends.length:Int)) = !decide (s.ends.length<=300):=by rw[Bool.eq_iff_iff];simp;omega
 rw[Bool.or_assoc,e1,e2,e3]
 cases hq:q.2 with
 |false=>exact⟨rfl,rfl⟩
 |true =>
 obtain⟨a1,a2,a3,a4,a5⟩:=h2 hq
 have hT:TopoP s.topo:=by rw[← a3];exact a2.topo
 have hu:s.up.length=s.topo.nodes.length:=by rw[← a3,← a4];exact a2.up
 cases(decide (0<=s.depth)&&decide (s.depth<=60))with
 |false=>exact⟨rfl,rfl⟩
 |true =>
 simp only[yL,Bool.or_self,yM,bS,Xm,Z09,Bool.false_or,Bool.true_and]
 cases queueOk (allJobs s)with
 |false=>exact⟨rfl,rfl⟩
 |true =>
 cases decide (s.ends.length<=300)with
 |false=>exact⟨rfl,rfl⟩
 |true =>
 simp only[yL,Bool.or_self,yM,Bool.true_and]
 rw[Wj (r:=some false) (p:=fun x=>!runFit s x) (fun x hx i k=>Z11 hT hu a5 hx k i),Wj (r:=some false) (p:=fun x=>!runFit s x) (fun x hx i k=>J1F hT hu a5 hx k i),← List.not_all_eq_any_not]
 unfold MI JJ
 have f1:∀e:End,((((((decide (e.id<1))||(decide (999<e.id)))||(decide (e.t<0)))||(decide (s.now<e.t)))||(decide (e.why<1)))||(decide (4<e.why))) = !endOk s e:=by
  intro e;unfold endOk;rw[Bool.eq_iff_iff];simp;omega
 have f2:∀e:End,(((!(Y0 e.id 1 999))||(!(Y0 e.t 0 s.now)))||(!(Y0 e.why 1 4))) = !endOk s e:=by
  intro e;unfold endOk Y0
  cases(decide (1<=e.id)&&decide (e.id<=999))<;>cases(decide (0<=e.t)&&decide (e.t<=s.now))<;>cases(decide (1<=e.why)&&decide (e.why<=4))<;>rfl
 rw[Wj (bd:=Jt s) (r:=some false) (p:=fun e=>!endOk s e) (fun e he i k=>by unfold Jt;rw[f1]),Wj (bd:=Vu s) (r:=some false) (p:=fun e=>!endOk s e) (fun e he i k=>by unfold Vu;rw[f2]),← List.not_all_eq_any_not]
 unfold OI LJ
 cases s.runs.all (runFit s)<;>cases s.ends.all (endOk s)<;>exact⟨rfl,rfl⟩
structure StateP(s:State):Prop where
 topo:TopoP s.topo
 up:s.up.length=s.topo.nodes.length
 lic:W0 s.lic=true
 now:time s.now=true
 room:∃r,Wd s=some (r,true)/\RoomP r/\r.topo=s.topo/\r.up=s.up
 runs:RunsP s
 depth:0<=s.depth/\s.depth<=60
 queue:queueOk (allJobs s)=true
 ends:s.ends.length<=300
 fit:∀x∈s.runs,runFit s x=true
 fin:∀e∈s.ends,endOk s e=true
theorem JG{s:State}(h:stateOk s=true):StateP s:=by
 obtain⟨q,h1,h2⟩:=Yk s
 unfold stateOk at h
 rw[h1,Option.getD_some]at h
 simp only[yD,yO,List.all_eq_true]at h
 obtain⟨⟨⟨⟨⟨a1,a2⟩,a3⟩,a4⟩,a5⟩,a6⟩:=h
 obtain⟨b1,b2,b3,b4,b5⟩:=h2 a1
 unfold VR at b1
 simp only[yD,yO,MM]at b1
 exact⟨b1.1.1.1,b1.1.1.2,b1.1.2,b1.2,⟨q.1,by rw[h1,← a1],b2,b3,b4⟩,b5,a2,a3,a4,a5,a6⟩
def insJ(x:Job):List Job->List Job
 |[]=>[x]
 |y::l=>if J6 x y then x::y::l else y::insJ x l
theorem X0n(x:Job):∀l:List Job,(insJ x l).Perm (x::l)
 |[]=>.refl _
 |y::l=>by
  unfold insJ
  split
  .exact .refl _
  .exact((X0n x l).cons y).trans (.swap x y l)
theorem L1F(x:Job)(l:List Job):(insJ x l).length=l.length+1:=(X0n x l).length_eq
theorem O1d{x y:Job}(h:J6 x y=true):UJ x y=true:=by
 unfold J6 at h;unfold UJ
 simp at h ⊢;omega
theorem V14{x y:Job}(h:¬ J6 x y=true):UJ y x=true:=by
 unfold J6 at h;unfold UJ
 simp at h ⊢;omega
theorem M0L{x y z:Job}(h1:UJ x y=true)(h2:UJ y z=true):UJ x z=true:=by
 unfold UJ at *
 simp at h1 h2 ⊢;omega
theorem O1j(x y:Job):(UJ x y||UJ y x)=true:=by
 unfold UJ
 simp;omega
theorem Q0O(x:Job):∀{l:List Job},l.Pairwise (fun a b=>UJ a b=true)->(insJ x l).Pairwise (fun a b=>UJ a b=true)
 |[],_=>by simp[insJ]
 |y::l,h=>by
  unfold insJ
  obtain⟨h1,h2⟩:=List.pairwise_cons.1 h
  split
  .rename_i hb
   refine List.pairwise_cons.2 ⟨fun z hz=>?_,h⟩
   rcases yX hz with rfl|hz
   .exact O1d hb
   .exact M0L (O1d hb) (h1 z hz)
  .rename_i hb
   refine List.pairwise_cons.2 ⟨fun z hz=>?_,Q0O x h2⟩
   rcases yX ((X0n x l).mem_iff.1 hz)with rfl|hz
   .exact V14 hb
   .exact h1 z hz
def ordF(l:List Job):List Job:=l.foldl (fun v x=>insJ x v) []
theorem Y13:∀(l v:List Job),(l.foldl (fun v x=>insJ x v) v).Perm (l++v)/\(v.Pairwise (fun a b=>UJ a b=true)->(l.foldl (fun v x=>insJ x v) v).Pairwise (fun a b=>UJ a b=true))
 |[],v=>⟨.refl _,id⟩
 |x::l,v=>by
  obtain⟨h1,h2⟩:=Y13 l (insJ x v)
  exact⟨h1.trans (((X0n x v).append_left l).trans List.perm_middle),fun h=>h2 (Q0O x h)⟩
theorem YH(l:List Job):(ordF l).Perm l:=by unfold ordF;simpa using(Y13 l []).1
theorem L1i(l:List Job):(ordF l).Pairwise (fun a b=>UJ a b=true):=(Y13 l []).2 .nil
theorem Q1O(x:Job)(k:List Job->Option (List Job))(l:List Job):∀(i:Nat) (acc:List Job),acc.length+l.length<=1000002->rgl (Jk x) (Lk x k) l i (true,acc)=k (acc++l):=by
 induction l with
 |nil=>intro i acc h;simp[rgl,Lk]
 |cons y l ih =>
  intro i acc h
  simp only[yT]at h
  rw[rgl,Jk]
  simp only[yL,Bool.false_and,yM,Ub]
  rw[M0 (by simp;omega),bS,ih (i+1) (acc++[y]) (by simp;omega)]
  simp
theorem J1W(x:Job)(k:List Job->Option (List Job))(l:List Job):∀(i:Nat) (p:Bool) (acc:List Job),acc.length+l.length<=1000000->rgl (Jk x) (Lk x k) l i (p,acc)=k (acc++if p then l else insJ x l):=by
 induction l with
 |nil =>
  intro i p acc h
  simp only[rgl,Lk]
  cases p with
  |true=>simp
  |false =>
   simp only[Bool.not_false,yN,insJ]
   rw[M0 (by simp at h ⊢;omega),bS];simp
 |cons y l ih =>
  intro i p acc h
  simp only[yT]at h
  rw[rgl,Jk]
  cases p with
  |true =>
   simp only[yL,Bool.false_and,yM,Ub,yb]
   rw[M0 (by simp;omega),bS,ih (i+1) true (acc++[y]) (by simp;omega)]
   simp
  |false =>
   simp only[Bool.not_false,Bool.true_and,insJ]
   cases hb:J6 x y with
   |true =>
    simp only[yN,yb,Ub]
    rw[M0 (by simp;omega),bS,M0 (by simp;omega),bS]
    rw[Q1O x k l (i+1) _ (by simp;omega)]
    simp
   |false =>
    simp only[yM,Ub]
    rw[M0 (by simp;omega),bS,ih (i+1) false (acc++[y]) (by simp;omega)]
    simp
theorem Y1F(l:List Job):∀(i:Nat) (v:List Job),v.length+l.length<=1000000->rgl UF YU l i v=some (l.foldl (fun v x=>insJ x v) v):=by
 induction l with
 |nil=>intro i v _;rfl
 |cons x l ih =>
  intro i v h
  simp only[yT]at h
  rw[rgl,UF,J1W x _ v 0 false [] (by simp;omega)]
  simp only[List.nil_append,yG,yc]
  rw[ih (i+1) (insJ x v) (by rw[L1F];omega)]
  rfl
theorem V4{l:List Job}(h:queueOk l=true):l.length<=60/\(∀x∈l,X1 x=true)/\(l.map Job.id).Nodup:=by
 unfold queueOk idsOk at h
 simp only[yD,yO,List.all_eq_true]at h
 exact⟨h.1.1,h.1.2,h.2⟩
theorem WY{l:List Job}(h:queueOk l=true):MW l=some (ordF l):=by
 unfold MW
 rw[Xm,bS,h]
 simp only[yL,yM]
 have:=(V4 h).1
 exact Y1F l 0 [] (by simp;omega)
theorem Y1K:∀{l:List Job},(l.map Job.id).Nodup->∀{a b:Job},a∈l->b∈l->a.id=b.id->a=b
 |[],_,a,b,ha,_,_=>by simp at ha
 |x::l,h,a,b,ha,hb,e=>by
  rw[List.map_cons,List.nodup_cons]at h
  rcases yX ha with ha'|ha'<;>rcases yX hb with hb'|hb'
  .rw[ha',hb']
  .rw[ha']at e;exact absurd (e ▸ List.mem_map_of_mem hb') h.1
  .rw[hb']at e;exact absurd (e ▸ List.mem_map_of_mem ha') h.1
  .exact Y1K h.2 ha' hb' e
theorem W17{l:List Job}(h:queueOk l=true):VX l=some (ordF l):=by
 obtain⟨h1,h2,h3⟩:=V4 h
 unfold VX
 rw[M0 (by simp;omega),bS,List.nil_append]
 have hj:X0j l:=⟨h3,fun j hj=>by have:=Md.1 (h2 j hj);omega,by omega⟩
 unfold O0H
 rw[yd hj,bS]
 congr 1
 have hs:(l.mergeSort UJ).Pairwise (fun a b=>UJ a b=true):=List.pairwise_mergeSort (le:=UJ) (fun a b c=>M0L) O1j l
 refine List.Perm.eq_of_pairwise (le:=fun a b=>UJ a b=true) (fun a b ha hb q1 q2=>?_) hs (L1i l) ((List.mergeSort_perm l _).trans (YH l).symm)
 refine Y1K h3 ((List.mergeSort_perm l UJ).mem_iff.1 ha) ((YH l).mem_iff.1 hb) ?_
 unfold UJ at q1 q2
 simp at q1 q2;omega
theorem J1t(r:Room)(j:Job)(t:Int)(nodes:List Int):WH r j t nodes=Zj r j t nodes:=by
 rw[QO]
 unfold WH
 rw[Q0n,Xs]
 cases time t<;>cases diffOk r j nodes<;>simp only[noRoom,yL,Bool.not_false,yN,yM,Bool.and_true,Bool.and_false,bS]
 cases takeRoom r j.need j.lic t (w64 (t+j.wall)) nodes<;>rfl
theorem O0s(r:Room)(j:Job)(t:Int)(nodes:List Int):∃q,Zj r j t nodes=some q/\(q.2=true->nodes.length<=24):=by
 rw[QO]
 cases hd:(diffOk r j nodes&&time t)with
 |false=>exact⟨noRoom,rfl,fun h=>by cases h⟩
 |true =>
  simp only[yD]at hd
  have hd1:=hd.1
  unfold diffOk at hd1
  simp only[yD,yO]at hd1
  obtain⟨q,q1,_⟩:=W0k (YN.1 hd1.1.1.1.1) j.need j.lic t (w64 (t+j.wall)) hd1.1.2
  exact⟨q,q1,fun _=>by have:=Md.1 hd1.1.1.1.2;omega⟩
structure HeldsOk(L:List Job)(hs:List Held):Prop where
 sub:(hs.map Held.id).Sublist (L.map Job.id)
 nodes:∀h∈hs,h.nodes.length<=24
theorem X1c{r:Room}{now d:Int}{L:List Job}(hL:L.length<=60):∃p,rgl (Z9 now d) Qm L 0 (r,[],[])=some p/\HeldsOk L p.1:=by
 refine Y8 (fun i (v:Room×List Held×List Held)=>HeldsOk (L.take i) v.2.1/\v.2.1.length<=i/\v.2.2.length<=i) (fun o=>∃p:List Held×List Held×Bool,o=some p/\HeldsOk L p.1) (fun i x v k hx hI hk=>?_) (fun v hI=>?_) ⟨⟨by simp,by simp⟩,by simp,by simp⟩
 .obtain⟨hi,rfl⟩:=yB hx
  obtain⟨hI,l1,l2⟩:=hI
  have grow:∀{hs},HeldsOk (L.take i) hs->HeldsOk (L.take (i+1)) hs:=fun h=>⟨h.sub.trans ((List.take_sublist_take_left (by omega)).map _),h.nodes⟩
  unfold Z9
  rw[YJ,bS]
  generalize (bif roomOk v.1&&X1 L[i]&&time now then L1G v.1 L[i] now else(0,[],false))=y
  cases hc:((!y.2.2)||((decide (now<y.1))&&(decide (d<=(v.2.2.length:Int)))))with
  |true=>exact hk _ ⟨grow hI,by simp only;omega,by simp only;omega⟩
  |false =>
   obtain⟨q,q1,q2⟩:=O0s v.1 L[i] y.1 y.2.1
   simp only[yM,q1,bS]
   cases hq:q.2 with
   |false=>exact hk _ ⟨grow hI,by simp only;omega,by simp only;omega⟩
   |true =>
    have hn:=q2 hq
    simp only[yL,yM]
    cases y.1==now with
    |true =>
     simp only[yN]
     rw[M0 (by simp;omega),bS]
     refine hk _ ⟨⟨?_,fun h hh=>?_⟩,by simp;omega,by simp only;omega⟩
     .rw[List.take_succ_eq_append_getElem hi,List.map_append,List.map_append]
      exact hI.sub.append (.refl _)
     .rcases List.mem_append.1 hh with hh|hh
      .exact hI.nodes h hh
      .rw[List.mem_singleton.1 hh];exact hn
    |false =>
     simp only[yM]
     rw[M0 (by simp;omega),bS]
     exact hk _ ⟨grow hI,by simp only;omega,by simp;omega⟩
 .rw[List.take_of_length_le (yV _)]at hI
  exact⟨_,rfl,hI.1⟩
theorem W1R(r:Room)(now:Int)(l:List Job)(d:Int):∃p,O4 r now l d=some p/\Yi r now l d=some p/\(p.1=[]\/(queueOk l=true/\HeldsOk (ordF l) p.1)):=by
 have e0:Yi r now l d=O4 r now l d:=by
  unfold Yi O4
  rw[Mk,VV,Xm,Z09,bS,bS]
  cases hr:roomOk r with
  |false=>rfl
  |true =>
   simp only[yL,yM,bS,Bool.false_or]
   cases hq:queueOk l with
   |false=>rfl
   |true =>
    simp only[yL,Bool.false_or,Xs,WY hq,W17 hq,bS]
    have e1:(((!M2 now)||decide (d<0))||decide (60<d))=((!time now)||!(Y0 d 0 60)):=by
     have e2:Y0 d 0 60=((!decide (d<0))&&(!decide (60<d))):=by
      unfold Y0
      rw[Bool.eq_iff_iff]
      simp
     rw[e2,Bool.not_and,Bool.not_not,Bool.not_not,← Bool.or_assoc]
     rfl
    rw[e1]
    congr 1
    refine U07 (fun i x b k hx=>?_) fun b=>rfl
    unfold Ju Z9
    simp only[Z1l,J1t]
 rw[e0]
 suffices h:∃p,O4 r now l d=some p/\(p.1=[]\/(queueOk l=true/\HeldsOk (ordF l) p.1)) by
  obtain⟨p,h1,h2⟩:=h
  exact⟨p,h1,h1,h2⟩
 unfold O4
 rw[Mk,Xm,bS]
 cases hr:roomOk r with
 |false=>exact⟨_,rfl,.inl rfl⟩
 |true =>
  simp only[yL,yM,bS,Bool.false_or]
  cases hq:queueOk l with
  |false=>exact⟨_,rfl,.inl rfl⟩
  |true =>
   simp only[yL,Bool.false_or]
   cases(((!M2 now)||decide (d<0))||decide (60<d))with
   |true=>exact⟨_,rfl,.inl rfl⟩
   |false =>
    simp only[yM,WY hq,bS]
    obtain⟨p,h1,h2⟩:=X1c (r:=r) (now:=now) (d:=d) (L:=ordF l) (by rw[(YH l).length_eq];exact(V4 hq).1)
    exact⟨p,h1,.inr ⟨by simp,h2⟩⟩
structure SmallS(s:State):Prop where
 up:s.up.length<=1048576
 par:s.topo.parents.length<=1048576
 nodes:s.topo.nodes.length<=1048576
 jobs:s.queue.length+s.runs.length<=1048576
 ends:s.ends.length<=1048576
 run:∀x∈s.runs,x.nodes.length<=1048576
theorem StateP.small{s:State}(h:StateP s):SmallS s:=by
 have hq:=(V4 h.queue).1
 unfold allJobs at hq
 simp only[yU,List.length_map]at hq
 exact⟨by have:=h.up;have:=h.topo.nodes;omega,by have:=h.topo.tree.le;omega,by have:=h.topo.nodes;omega,by omega,by have:=h.ends;omega,fun x hx=>by
  obtain⟨h1,h2,_⟩:=h.runs.job x hx
  have:=Md.1 h1;omega⟩
theorem Xb{s:State}(h:SmallS s):Q7 s=some s:=by
 unfold Q7
 have:=h.up;have:=h.par;have:=h.nodes;have:=h.jobs;have:=h.ends
 rw[M0 (by simp;omega),bS,M0 (by simp;omega),bS,M0 (by simp;omega),bS,M0 (by simp;omega),bS]
 rw[U5 (bd:=Vt) (bs:=120) (p:=fun _=>true) (f:=id) (fun x hx i b k=>by
  have:=h.run x hx
  unfold Vt
  rw[M0 (by simp;omega),bS];simp) (by simp;omega)]
 unfold XI
 rw[M0 (by simp;omega),bS]
 simp[List.filter_eq_self.2]
theorem VS{s:State}(h:SmallS s):Ug s=some s:=by
 unfold Ug Xf Vf
 have:=h.up;have:=h.par;have:=h.nodes;have:=h.jobs;have:=h.ends
 rw[M0 (by simp;omega),bS,bS,M0 (by simp;omega),bS,bS,M0 (by simp;omega),bS,M0 (by simp;omega),bS]
 rw[U5 (bd:=Ql) (bs:=120) (p:=fun _=>true) (f:=id) (fun x hx i b k=>by
  have:=h.run x hx
  unfold Ql Vf
  rw[M0 (by simp;omega),bS,bS];simp) (by simp;omega)]
 unfold Mz
 rw[M0 (by simp;omega),bS]
 simp[List.filter_eq_self.2]
theorem V1k(j:Job)(b:List Job)(id:Int)(hj:j.id=id):∀(a:List Job) (i:Nat),(∀x∈a,x.id≠id)->rgl (Xe id) VI (a++j::b) i ()=some (j,true)
 |[],i,_=>by simp[rgl,Xe,hj]
 |x::a,i,h=>by
  have hx:(x.id==id)=false:=by simpa using h x (yJ ..)
  rw[List.cons_append,rgl,Xe,hx,yM]
  exact V1k j b id hj a (i+1) fun y hy=>h y (yH _ hy)
theorem M1o(j:Job)(b:List Job)(id:Int)(hj:j.id=id):∀(a:List Job) (i:Nat),(∀x∈a,x.id≠id)->rgl (U1 id) Y3 (a++j::b) i ()=some ((i+a.length:Nat):Int)
 |[],i,_=>by simp[rgl,U1,Vn,hj]
 |x::a,i,h=>by
  have hx:Vn x id=false:=by unfold Vn;simpa using h x (yJ ..)
  rw[List.cons_append,rgl,U1,hx,yM,M1o j b id hj a (i+1) fun y hy=>h y (yH _ hy)]
  congr 2
  simp;omega
theorem V1J{j:Job}{a b:List Job}{id:Int}(hl:a.length+b.length<=1048576)(hj:j.id=id)(ha:∀x∈a,x.id≠id)(hb:∀x∈b,x.id≠id):Ol (a++j::b) id=some (a++b):=by
 unfold Ol
 rw[U5 (bd:=Jw id) (bs:=88) (p:=fun x=>x.id != id) (f:=fun x=>x) (fun x _ i b k=>rfl) (by simp;omega)]
 unfold WN
 have e1:a.filter (fun x=>x.id != id)=a:=List.filter_eq_self.2 fun x hx=>by simpa using ha x hx
 have e2:b.filter (fun x=>x.id != id)=b:=List.filter_eq_self.2 fun x hx=>by simpa using hb x hx
 rw[List.filter_append,List.filter_cons,e1,e2]
 simp[hj]
theorem Q1Z{j:Job}{a b:List Job}(hl:a.length+b.length<=1048576):U0Q (a++j::b) (a.length:Int) (w64 ((a.length:Int)+1))=some (a++b):=by
 rw[O0i (by omega)]
 unfold U0Q
 rw[yd ⟨by omega,by omega,by simp;omega⟩]
 simp
theorem O1q(s:State)(hs:List Held):∀(i:Nat) (q:List Job) (rs:List Run),(hs.map Held.id).Nodup->(∀h∈hs,∃j∈q,j.id=h.id)->(q.map Job.id).Nodup->q.length+rs.length<=1048576 ->
  ∃q' new,(∀k,rgl (V5 s) k hs i (q,rs)=k (q',rs++new))/\(∀k,rgl (Xu s) k hs i (q,rs)=k (q',rs++new)) /\
   (∀x∈new,x.t=s.now/\∃h∈hs,x.nodes=h.nodes)/\(q'++new.map Run.job).Perm q:=by
 induction hs with
 |nil=>intro i q rs _ _ _ _;exact⟨q,[],fun k=>by simp[rgl],fun k=>by simp[rgl],by simp,by simp⟩
 |cons h hs ih =>
  intro i q rs hn hm hq hl
  obtain⟨j,hj,hid⟩:=hm h (yJ ..)
  obtain⟨a,b,rfl⟩:=List.append_of_mem hj
  have hq2:(j.id::((a++b).map Job.id)).Nodup:=by
   have:((a++j::b).map Job.id).Perm ((j::(a++b)).map Job.id):=List.perm_middle.map _
   exact(this.nodup_iff.1 hq)
  rw[List.nodup_cons]at hq2
  have hab:∀x∈a++b,x.id≠h.id:=fun x hx e=>hq2.1 (by rw[hid,← e];exact List.mem_map_of_mem hx)
  have ha:∀x∈a,x.id≠h.id:=fun x hx=>hab x (List.mem_append_left _ hx)
  have hb:∀x∈b,x.id≠h.id:=fun x hx=>hab x (List.mem_append_right _ hx)
  simp only[yU,yT]at hl
  rw[List.map_cons,List.nodup_cons]at hn
  obtain⟨q',new,h1,h2,h3,h4⟩:=ih (i+1) (a++b) (rs++[Run.mk j s.now h.nodes]) hn.2 (fun h' hh'=>by
   obtain⟨j',hj',hid'⟩:=hm h' (yH _ hh')
   have hne:j'.id≠j.id:=fun e=>hn.1 (by rw[← hid,← e,hid'];exact List.mem_map_of_mem hh')
   rcases List.mem_append.1 hj' with q|q
   .exact⟨j',List.mem_append_left _ q,hid'⟩
   .rcases yX q with q|q
    .exact absurd (by rw[q]) hne
    .exact⟨j',List.mem_append_right _ q,hid'⟩) hq2.2 (by simp;omega)
  refine⟨q',Run.mk j s.now h.nodes::new,fun k=>?_,fun k=>?_,fun x hx=>?_,?_⟩
  .rw[rgl,V5]
   unfold Yb
   simp only
   rw[V1k j b h.id hid a 0 ha,bS,V1J (by omega) hid ha hb,bS,M0 (by simp;omega),bS,h1 k]
   simp
  .rw[rgl,Xu]
   unfold U0d O2
   simp only
   rw[M1o j b h.id hid a 0 ha,bS,bS,Nat.zero_add,L6,yS (yV _),Nat.sub_self,List.getElem?_cons_zero,bS,M0 (by simp;omega),bS,Q1Z (by omega),bS,h2 k]
   simp
  .rcases yX hx with rfl|hx
   .exact⟨rfl,h,yJ ..,rfl⟩
   .obtain⟨e1,h',hh',e2⟩:=h3 x hx
    exact⟨e1,h',yH _ hh',e2⟩
  .rw[List.map_cons]
   refine List.perm_middle.trans ?_
   exact(h4.cons j).trans List.perm_middle.symm
structure StartP(s s':State)(new:List Run):Prop where
 topo:s'.topo=s.topo
 up:s'.up=s.up
 lic:s'.lic=s.lic
 depth:s'.depth=s.depth
 now:s'.now=s.now
 ends:s'.ends=s.ends
 runs:s'.runs=s.runs++new
 fresh:∀x∈new,x.t=s.now/\x.nodes.length<=24
 perm:(s'.queue++new.map Run.job).Perm s.queue
theorem StartP.len{s s':State}{new:List Run}(h:StartP s s' new):s'.queue.length+s'.runs.length=s.queue.length+s.runs.length:=by
 have:=h.perm.length_eq
 rw[h.runs]
 simp at this ⊢;omega
theorem StartP.small{s s':State}{new:List Run}(h:StartP s s' new)(hs:SmallS s):SmallS s' :=
  ⟨by rw[h.up];exact hs.up,by rw[h.topo];exact hs.par,by rw[h.topo];exact hs.nodes,by rw[h.len];exact hs.jobs,by rw[h.ends];exact hs.ends,fun x hx=>by
    rw[h.runs]at hx
    rcases List.mem_append.1 hx with hx|hx
    · exact hs.run x hx
    · have:=(h.fresh x hx).2;omega⟩
theorem M1l{s:State}(hs:SmallS s):∃s' new,O1 s=some s'/\Jv s=some s'/\StartP s s' new:=by
 obtain⟨r,hr,_⟩:=Yk s
 obtain⟨p,p1,p2,p3⟩:=W1R r.1 s.now s.queue s.depth
 unfold O1 Jv
 rw[V0g,hr,bS,bS,p1,p2,bS,bS,VS hs,bS]
 have key:(p.1.map Held.id).Nodup/\(∀h∈p.1,∃j∈s.queue,j.id=h.id)/\(∀h∈p.1,h.nodes.length<=24)/\(p.1=[]\/(s.queue.map Job.id).Nodup):=by
  rcases p3 with p3|⟨p3,p4⟩
  .rw[p3];exact⟨by simp,by simp,by simp,.inl rfl⟩
  .have hn:=(V4 p3).2.2
   have ho:((ordF s.queue).map Job.id).Nodup:=((YH s.queue).map _).nodup_iff.2 hn
   refine⟨ho.sublist p4.sub,fun h hh=>?_,p4.nodes,.inr hn⟩
   have:h.id∈(ordF s.queue).map Job.id:=p4.sub.subset (List.mem_map_of_mem hh)
   obtain⟨j,hj,e⟩:=yY this
   exact⟨j,(YH s.queue).mem_iff.1 hj,e⟩
 obtain⟨k1,k2,k3,k4⟩:=key
 rcases k4 with k4|k4
 .rw[k4]
  exact⟨s,[],rfl,rfl,rfl,rfl,rfl,rfl,rfl,rfl,by simp,by simp,by simp⟩
 .obtain⟨q',new,h1,h2,h3,h4⟩:=O1q s p.1 0 s.queue s.runs k1 k2 k4 hs.jobs
  rw[h1,h2]
  exact⟨_,new,rfl,rfl,rfl,rfl,rfl,rfl,rfl,rfl,rfl,fun x hx=>by
   obtain⟨e1,h,hh,e2⟩:=h3 x hx
   exact⟨e1,by rw[e2];exact k3 h hh⟩,h4⟩
def endOf(x:Run):Int:=w64 (x.t+x.job.wall)
def nextStep(v:Int)(x:Run):Int:=bif decide (v<0)||decide (endOf x<v)then endOf x else v
def nextF(s:State):Int:=s.runs.foldl nextStep (-1)
theorem Yv(s:State):Mi s=some (nextF s):=by
 unfold Mi nextF
 rw[Qr (f:=nextStep) (fun x _ i b k=>by
  unfold LH nextStep endOf
  cases(decide (b<0)||decide (w64 (x.t+x.job.wall)<b))<;>rfl)]
 rfl
theorem UH(s:State):Zw s=some (nextF s):=by
 unfold Zw nextF
 rw[Qr (f:=nextStep) (fun x _ i b k=>by
  unfold QJ nextStep endOf
  cases(decide (b<0)||decide (w64 (x.t+x.job.wall)<b))<;>rfl)]
 rfl
theorem M13:∀(l:List Run) (v:Int),l.foldl nextStep v=v\/∃x∈l,endOf x=l.foldl nextStep v
 |[],v=>.inl rfl
 |x::l,v=>by
  rw[List.foldl_cons]
  have step:nextStep v x=v\/nextStep v x=endOf x:=by
   unfold nextStep
   cases(decide (v<0)||decide (endOf x<v))with
   |true=>exact .inr rfl
   |false=>exact .inl rfl
  rcases M13 l (nextStep v x)with h|⟨y,hy,h⟩
  .rw[h]
   rcases step with e|e
   .exact .inl e
   .exact .inr ⟨x,yJ ..,e.symm⟩
  .exact .inr ⟨y,yH _ hy,h⟩
theorem Jm{s:State}(h:0<=nextF s):∃x∈s.runs,endOf x=nextF s:=by
 rcases M13 s.runs (-1)with e|e
 .unfold nextF at h;omega
 .exact e
theorem Z1y:∀(l:List Run) (v:Int),(∀x∈l,0<=endOf x)->(0<=v->l.foldl nextStep v<=v)/\(∀x∈l,l.foldl nextStep v<=endOf x)
 |[],v,_=>⟨fun _=>Int.le_refl _,by simp⟩
 |x::l,v,h=>by
  obtain⟨h1,h2⟩:=Z1y l (nextStep v x) fun y hy=>h y (yH _ hy)
  have hx:=h x (yJ ..)
  have hv:0<=nextStep v x/\nextStep v x<=endOf x/\(0<=v->nextStep v x<=v):=by
   unfold nextStep
   by_cases a:v<0
   .simp[a];omega
   .by_cases b:endOf x<v
    .simp[b];omega
    .simp[a,b];omega
  rw[List.foldl_cons]
  have:=h1 hv.1
  refine⟨fun q=>by have:=hv.2.2 q;omega,fun y hy=>?_⟩
  rcases yX hy with rfl|hy
  .omega
  .exact h2 y hy
def keepF(n:Int)(l:List Run):List Run:=l.filter fun x=>!(endOf x==n)
def doneF(n:Int)(l:List Run):List End:=(l.filter fun x=>endOf x==n).map fun x=>End.mk x.job.id n 1
def endF(s:State)(n:Int):State:=State.mk s.topo s.up s.lic s.depth n s.queue (keepF n s.runs) (s.ends++doneF n s.runs)
theorem V1v(v:State×Int)(k:List End×List Run->Option (State×Bool))(l:List Run):∀(i:Nat) (es:List End) (rs:List Run),es.length+l.length<=3000000->rs.length+l.length<=3000000 ->
  rgl (ZF v) k l i (es,rs)=k (es++doneF v.2 l,rs++keepF v.2 l):=by
 induction l with
 |nil=>intro i es rs _ _;simp[rgl,doneF,keepF]
 |cons x l ih =>
  intro i es rs h1 h2
  simp only[yT]at h1 h2
  rw[rgl,ZF]
  have e0:w64 (x.t+x.job.wall)=endOf x:=rfl
  simp only[e0]
  cases hx:(endOf x==v.2)with
  |true =>
   rw[yN,M0 (by simp;omega),bS,ih (i+1) _ _ (by simp;omega) (by omega)]
   simp[doneF,keepF,hx]
  |false =>
   rw[yM,M0 (by simp;omega),bS,ih (i+1) _ _ (by omega) (by simp;omega)]
   simp[doneF,keepF,hx]
theorem Y1A(s:State)(n:Int)(hn:s.now=n)(k:List End×List Job×List Run->Option (List Job×State))(l:List Run):∀(i:Nat) (es:List End) (js:List Job) (rs:List Run),es.length+l.length<=3000000->js.length+l.length<=3000000->rs.length+l.length<=3000000 ->
  ∃js',rgl (W2 s 1 n) k l i (es,js,rs)=k (es++doneF n l,js',rs++keepF n l):=by
 induction l with
 |nil=>intro i es js rs _ _ _;exact⟨js,by simp[rgl,doneF,keepF]⟩
 |cons x l ih =>
  intro i es js rs h1 h2 h3
  simp only[yT]at h1 h2 h3
  have e0:QH x n=(endOf x==n):=rfl
  cases hx:(endOf x==n)with
  |true =>
   obtain⟨js',hj⟩:=ih (i+1) (es++[End.mk x.job.id n 1]) (js++[x.job]) rs (by simp;omega) (by simp;omega) (by omega)
   refine⟨js',?_⟩
   rw[rgl,W2,e0,hx]
   simp only[yL,yM]
   rw[M0 (by simp;omega),bS,M0 (by simp;omega),bS,hn,hj]
   simp[doneF,keepF,hx]
  |false =>
   obtain⟨js',hj⟩:=ih (i+1) es js (rs++[x]) (by omega) (by omega) (by simp;omega)
   refine⟨js',?_⟩
   rw[rgl,W2,e0,hx]
   simp only[Bool.not_false,yN]
   rw[M0 (by simp;omega),bS,hj]
   simp[doneF,keepF,hx]
theorem Q0I{n:Int}{l:List Run}{x:Run}(hx:x∈l)(he:endOf x=n):(keepF n l).length<l.length:=by
 unfold keepF
 refine Nat.lt_of_le_of_ne (List.length_filter_le ..) fun e=>?_
 have:=List.length_filter_eq_length_iff.1 e x hx
 simp[he]at this
theorem M0w{s:State}(h:SmallS s)(n:Int)(he:(endF s n).ends.length<=1048576):SmallS (endF s n) :=
  ⟨h.up,h.par,h.nodes,by
    have:=h.jobs
    have:(keepF n s.runs).length<=s.runs.length:=List.length_filter_le ..
    simp only[endF];omega,he,fun x hx=>h.run x ((List.mem_filter.1 hx).1)⟩
def badS:State×Bool:=(State.mk (Topo.mk [] []) [] (Vec.mk 0 0 0) 0 0 [] [] [],false)
def atT(s:State)(t:Int):State:=State.mk s.topo s.up s.lic s.depth t s.queue s.runs s.ends
theorem LM(t:Int){s:State}(h:SmallS s)(k:State×Int->Option (State×Bool)):Qk t (s,nextF s) k=bif decide (0<=nextF s)&&decide (nextF s<=t)then(bif decide (300<((endF s (nextF s)).ends.length:Int))then some badS else(O1 (endF s (nextF s))).bind fun y=>k (y,nextF y))else some (atT s t,true):=by
 have h1:=h.jobs
 have h2:=h.ends
 unfold Qk
 simp only
 rw[V1v (s,nextF s) _ s.runs 0 s.ends [] (by omega) (by simp;omega)]
 unfold LT
 simp only[Yv,bS]
 rfl
theorem U0Z(t:Int){s:State}(h:SmallS s)(k:State->Option (State×Bool)):Vs t s k=bif decide (0<=nextF s)&&decide (nextF s<=t)then(bif decide (300<((endF s (nextF s)).ends.length:Int))then some badS else(Jv (endF s (nextF s))).bind fun y=>k y)else some (atT s t,true):=by
 have h1:=h.jobs
 have h2:=h.ends
 unfold Vs J3
 simp only[UH,bS]
 obtain⟨js',hj⟩:=Y1A (State.mk s.topo s.up s.lic s.depth (nextF s) s.queue s.runs s.ends) (nextF s) rfl (V3 (State.mk s.topo s.up s.lic s.depth (nextF s) s.queue s.runs s.ends)) s.runs 0 s.ends [] [] (by omega) (by simp;omega) (by simp;omega)
 rw[hj]
 unfold V3
 simp only[bS]
 have e:(decide (nextF s<0)||decide (t<nextF s)) = !(decide (0<=nextF s)&&decide (nextF s<=t)):=by
  rw[Bool.eq_iff_iff];simp
 rw[e]
 cases(decide (0<=nextF s)&&decide (nextF s<=t))<;>rfl
theorem J1h(t:Int):∀(m:Nat) (s:State) (f1 f2:Nat),SmallS s->s.queue.length+s.runs.length<=m->m<f1->m<f2->∃r,whl (Qk t) f1 (s,nextF s)=some r/\whl (Vs t) f2 s=some r:=by
 intro m
 induction m with
 |zero =>
  intro s f1 f2 hs hm h1 h2
  obtain⟨f1,rfl⟩:∃f,f1=f+1:=⟨f1-1,by omega⟩
  obtain⟨f2,rfl⟩:∃f,f2=f+1:=⟨f2-1,by omega⟩
  rw[whl,whl,LM t hs,U0Z t hs]
  cases hc:(decide (0<=nextF s)&&decide (nextF s<=t))with
  |false=>exact⟨_,rfl,rfl⟩
  |true =>
   simp only[yD,yO]at hc
   obtain⟨x,hx,_⟩:=Jm hc.1
   have:=List.length_pos_of_mem hx
   omega
 |succ m ih =>
  intro s f1 f2 hs hm h1 h2
  obtain⟨f1,rfl⟩:∃f,f1=f+1:=⟨f1-1,by omega⟩
  obtain⟨f2,rfl⟩:∃f,f2=f+1:=⟨f2-1,by omega⟩
  rw[whl,whl,LM t hs,U0Z t hs]
  cases hc:(decide (0<=nextF s)&&decide (nextF s<=t))with
  |false=>exact⟨_,rfl,rfl⟩
  |true =>
   simp only[yD,yO]at hc
   obtain⟨x,hx,he⟩:=Jm hc.1
   have hk:=Q0I hx he
   simp only[yN]
   by_cases h3:300<((endF s (nextF s)).ends.length:Int)
   .rw[decide_eq_true h3];exact⟨_,rfl,rfl⟩
   .rw[decide_eq_false h3]
    simp only[yM]
    have hsm:=M0w hs (nextF s) (by omega)
    obtain⟨s',new,e1,e2,hS⟩:=M1l hsm
    rw[e1,e2,bS,bS]
    have hl:=hS.len
    have:(endF s (nextF s)).queue.length+(endF s (nextF s)).runs.length=s.queue.length+(keepF (nextF s) s.runs).length:=rfl
    exact ih s' f1 f2 (hS.small hsm) (by omega) (by omega) (by omega)
theorem O1H{s:State}(hs:SmallS s)(t:Int):∃r,Wk s t=some r/\UN s t=some r:=by
 obtain⟨h1,h2⟩:=Oe hs.jobs
 unfold Wk UN
 rw[h1,h2,bS,bS,Xb hs,VS hs,bS,bS,Yv,bS]
 cases hS:stateOk s with
 |false=>exact⟨_,rfl,rfl⟩
 |true =>
  have hn:=U8.1 (JG hS).now
  have e:((!M2 t)||decide (t<s.now)) = !(Y0 t s.now 1000000000):=by
   rw[Qd]
   unfold Y0
   rw[Bool.eq_iff_iff]
   cases ht:time t with
   |true=>have:=U8.1 ht;simp;omega
   |false =>
    have:¬ (0<=t/\t<=1000000000):=fun q=>by rw[U8.2 q]at ht;cases ht
    simp;omega
  simp only[yL,Bool.false_or,e]
  cases Y0 t s.now 1000000000 with
  |false=>exact⟨_,rfl,rfl⟩
  |true=>exact J1h t (s.queue.length+s.runs.length) s _ _ hs (yV _) (by have:=hs.jobs;omega) (by have:=hs.jobs;omega)
end Go.Proofs.YtpgaganbacipnaaGreat
namespace Go.Proofs.YtpgaganbacipnaaGreat
open Go Go.RowKit Eng Go.Sort
def M1v(l:List Run):Prop:=(l.map (·.job.id)).Nodup/\l.length<4611686018427387904
instance(l:List Run):Decidable (M1v l):=by unfold M1v;infer_instance
end Go.Proofs.YtpgaganbacipnaaGreat
namespace Go.Proofs.YtpgaganbacipnaaGreat
open Go Go.RowKit Eng
section
set_option maxRecDepth 20000
noncomputable def L0L:L :=
 lf Tryz.prog O0g [] [] [] [] [] [] []
def X02(id2:Int)(x4:Seen)(_:Nat)(_:Unit)(k4:Unit->Option Bool):Option Bool :=
 bif (x4.id==id2)then(some true)else(k4 ())
def MH(_:Unit):Option Bool :=
 some false
def Xv(l1:List Seen)(id2:Int):Option Bool :=
 rgl (X02 id2) MH l1 0 ()
theorem W05{l1:List Seen}{id2:Int}{r:Bool}(H:Xv l1 id2=some r):Snd Tryz.prog O0g [rV 3 (l1.map Wi),iV id2] (.bool r) []:=by
 refine wS L0L [.t 4] ?_
 unfold Xv at H
 refine wG [.u 8 (.ln _ _ fun _=>lm l1 Wi)] fun q3=>?_
 refine wR (fun(i4:Nat) (v4:Unit)=>⟨[(1,iV id2),(7,rV 3 (l1.map Wi)),(8,iV (l1.length:Int)),(9,iV (i4:Int))],[],[],[]⟩) H (fun i4 x4 v4 I m k4 hxv4 hiv4 H N20=>?_) (fun v4 I m H=>?_)
 .unfold X02 at H
  refine wP ?_
  refine wt (ltT hiv4) ?_
  refine wG [.u 11 (.ix _ _ _ fun _=>Q0 Wi (J0 hxv4))] fun _=>?_
  refine O0 H (fun H=>?_) fun H=>?_
  .obtain rfl:=sI H
   exact wP (wE [(4,.d)])
  .refine wG [.w 17 (wi .i64 rfl hiv4 q3.1)] fun _=>?_
   exact wT (N20 () H)
 .unfold MH at H
  refine wP ?_
  refine wf (ltF l1.length) ?_
  obtain rfl:=sI H
  exact wP (wE [(4,.d)])
noncomputable def U0u:L :=
 lf Tryz.prog Wb [] [] [] [] [] [] []
def Z0t:List Rv:=[.t 4]
theorem J0w:Ms Tryz.prog Wb 2 U0u Z0t=true:=by kernel_rfl
def UR(x4:Run)(_:Nat)(v4:(List Seen))(k4:(List Seen)->Option (List Seen)):Option (List Seen) :=
 (Xv v4 x4.job.id).bind fun b5=>bif (!b5)then((appL 24 v4 [(Seen.mk x4.job.id x4.t (w64 (x4.t+x4.job.wall)))]).bind fun xs6=>k4 xs6)else(k4 v4)
def Mw(v4:(List Seen)):Option (List Seen) :=
 some v4
def Wq(_:List Seen)(s2:State):Option (List Seen) :=
 rgl UR Mw s2.runs 0 []
set_option maxRecDepth 20000 in
theorem O0r{l1:List Seen}{s2:State}{r:(List Seen)}(H:Wq l1 s2=some r):ConD Tryz.prog Wb [.nl,X2 .rd s2] [] [] (.sref 0) [] [] [(3,r.map Wi)]:=by
 refine WV [] J0w rfl (by kernel_rfl) ?_
 unfold Wq at H
 refine wG [.u 9 (.ln _ _ fun _=>lm s2.runs (Z1 .rd))] fun q3=>?_
 refine U04 (fun(i4:Nat) (v4:(List Seen))=>⟨[(0,.sref 208000),(8,.sl .rd 13 (s2.runs.map (Z1 .rd))),(9,.int .i64 (s2.runs.length:Int)),(10,.int .i64 (i4:Int))],[],[],[(208000,⟨3,v4.map Wi,false⟩)]⟩) [(0,.z 208000)] [] [(208000,(none,3))] [] (by kernel_rfl) (by kernel_rfl) H (fun i4 x4 v4 I m k4 hxv4 hiv4 H N18=>?_) (fun v4 I m H=>?_)
 .unfold UR at H
  refine wP ?_
  refine wt (ltT hiv4) ?_
  obtain⟨b5,h5,H⟩:=bB H
  refine wG [.u 12 (.ix _ _ _ fun _=>Q0 (Z1 .rd) (J0 hxv4)),.c 18 (W05 h5)] fun _=>?_
  refine O0 H (fun H=>?_) fun H=>?_
  .obtain⟨xs6,h6,H⟩:=bB H
   refine wG [.u 34 (.ap _ _ _ _ fun _=>L0 Wi h6),.w 35 (wi .i64 rfl hiv4 q3.1)] fun _=>?_
   exact wT (N18 _ H)
  .refine wG [.w 35 (wi .i64 rfl hiv4 q3.1)] fun _=>?_
   exact wT (N18 _ H)
 .unfold Mw at H
  refine wP ?_
  refine wf (ltF s2.runs.length) ?_
  refine wP ?_
  replace H:=sI H;subst H
  exact X3 [(4,.d)] [] [(208000,some 208000,0)] [] [208000] (by kernel_rfl)
noncomputable def Q0u:L :=
 lf Tryz.prog Wb [] [] [] [] [] [] []
def Y0t:List Rv:=[.t 4]
theorem Z0x:Ms Tryz.prog Wb 2 Q0u Y0t=true:=by kernel_rfl
def Q9(x4:Run)(_:Nat)(v4:(List Seen))(k4:(List Seen)->Option (List Seen)):Option (List Seen) :=
 (Xv v4 x4.job.id).bind fun b5=>bif (!b5)then((appL 24 v4 [(Seen.mk x4.job.id x4.t (w64 (x4.t+x4.job.wall)))]).bind fun xs6=>k4 xs6)else(k4 v4)
def QR(v4:(List Seen)):Option (List Seen) :=
 some v4
def Oq(l1:List Seen)(s2:State):Option (List Seen) :=
 rgl Q9 QR s2.runs 0 l1
set_option maxRecDepth 20000 in
theorem M0r{l1:List Seen}{s2:State}{r:(List Seen)}(H:Oq l1 s2=some r):ConD Tryz.prog Wb [.sref 0,X2 .rd s2] [] [(3,l1.map Wi)] (.sref 1) [] [none] [(3,r.map Wi)]:=by
 refine WV [false] Z0x rfl (by kernel_rfl) ?_
 unfold Oq at H
 refine wG [.u 9 (.ln _ _ fun _=>lm s2.runs (Z1 .rd))] fun q3=>?_
 refine wR (fun(i4:Nat) (v4:(List Seen))=>⟨[(0,.sref 500000000),(8,rV 13 (s2.runs.map (Z1 .rd))),(9,iV (s2.runs.length:Int)),(10,iV (i4:Int))],[],[],[(500000000,⟨3,v4.map Wi,false⟩)]⟩) H (fun i4 x4 v4 I m k4 hxv4 hiv4 H N18=>?_) (fun v4 I m H=>?_)
 .unfold Q9 at H
  refine wP ?_
  refine wt (ltT hiv4) ?_
  obtain⟨b5,h5,H⟩:=bB H
  refine wG [.u 12 (.ix _ _ _ fun _=>Q0 (Z1 .rd) (J0 hxv4)),.c 18 (W05 h5)] fun _=>?_
  refine O0 H (fun H=>?_) fun H=>?_
  .obtain⟨xs6,h6,H⟩:=bB H
   refine wG [.u 34 (.ap _ _ _ _ fun _=>L0 Wi h6),.w 35 (wi .i64 rfl hiv4 q3.1)] fun _=>?_
   exact wT (N18 _ H)
  .refine wG [.w 35 (wi .i64 rfl hiv4 q3.1)] fun _=>?_
   exact wT (N18 _ H)
 .unfold QR at H
  refine wP ?_
  refine wf (ltF s2.runs.length) ?_
  refine wP ?_
  replace H:=sI H;subst H
  exact X3 [(4,.d)] [] [(500000000,some 500000000,0)] [] [500000000] (by kernel_rfl)
noncomputable def J14:L :=
 lf Tryz.prog Z0z [] [(15,2),(32,2)] [] [] [(11,3)] [(6,[],[7],[0,2,4,6,8,10,12],8)] []
def Mq(v5:State×(List Seen))(k5:(State×(List Seen))->Option ((List Seen)×State×Bool)):Option ((List Seen)×State×Bool) :=
 (Mi v5.1).bind fun n6=>bif (decide (0<=n6))then((Mi v5.1).bind fun n7=>(Wk v5.1 n7).bind fun y8=>bif (!y8.2)then(some ([],(State.mk (Topo.mk [] []) [] (Vec.mk 0 0 0) 0 0 [] [] []),false))else((Oq v5.2 y8.1).bind fun y9=>k5 (y8.1,y9)))else(some (v5.2,v5.1,true))
def VW(s1:State):Option ((List Seen)×State×Bool) :=
 (M6 s1).bind fun b2=>bif (!b2)then(some ([],(State.mk (Topo.mk [] []) [] (Vec.mk 0 0 0) 0 0 [] [] []),false))else((Q7 s1).bind fun y3=>(Wq [] y3).bind fun y4=>whl Mq 9223372036854775807 (y3,y4))
theorem X11{s1:State}{r:(List Seen)×State×Bool}(H:VW s1=some r):Snd Tryz.prog Z0z [X2 .rd s1] (.tup [nV 3 (r.1.map Wi),X2 .nw r.2.1,.bool r.2.2]) []:=by
 refine wS J14 [.t 2,.c 3 11 true,.t 4] ?_
 unfold VW at H
 obtain⟨b2,h2,H⟩:=bB H
 refine wG [.c 9 (Y7 h2)] fun _=>?_
 refine O0 H (fun H=>?_) fun H=>?_
 .refine wP ?_
  replace H:=sI H;subst H
  exact wN [(2,.n 3),(3,.d),(4,.d)] [(3,[.n 1,.n 4,.n 1,.d,.d,.d,.d,.d,.n 11,.n 13,.n 3])] [] [] [] [⟨_,J0t ([]:List Seen)⟩,⟨_,nw_I ([]:List Int)⟩,⟨_,J1 ([]:List Node)⟩,⟨_,Yg ([]:List Bool)⟩,⟨_,Lh ([]:List Job)⟩,⟨_,Zg ([]:List Run)⟩,⟨_,Lr ([]:List End)⟩]
 .obtain⟨y3,h3,H⟩:=bB H
  obtain⟨y4,h4,H⟩:=bB H
  refine wG [.c 13 (J8 h3),.u 15 (.cw Wb [] [] [] [] [.nl,X2 .nw y3] _ _ _ _ _ (GEs.of [true,false] (by simp)) (by simp) (by simp) (by simp) (fun _=>O0r h4))] fun _=>?_
  refine wW (fun(v5:State×(List Seen))=>⟨[(1,.ptr 1 0),(3,.ptr 3 0),(5,.sref 16000)],[],[(1,(X2 .nw v5.1).cells),(3,[.nl,.nl,.nl,iV 0,iV 0,iV 0,iV 0,iV 0,.nl,.nl,.nl])],[(16000,⟨3,v5.2.map Wi,false⟩)]⟩) H (fun v5 I m k5 H N30=>?_)
  unfold Mq at H
  obtain⟨n6,h6,H⟩:=bB H
  refine wG [.u 17 (.call _ _ _ _ _ (AEs.of (xs:=[.agg [rV 1 (v5.1.topo.parents.map eI),rV 4 (v5.1.topo.nodes.map Y1),rV 1 (v5.1.up.map eBo),iV v5.1.lic.a,iV v5.1.lic.b,iV v5.1.lic.c,iV v5.1.depth,iV v5.1.now,rV 11 (v5.1.queue.map eJob),rV 13 (v5.1.runs.map (Z1 .nw)),rV 3 (v5.1.ends.map eEnd)]]) (by simp)) (fun _=>Zx h6))] fun _=>?_
  refine O0 H (fun H=>?_) fun H=>?_
  .obtain⟨n7,h7,H⟩:=bB H
   obtain⟨y8,h8,H⟩:=bB H
   refine wG [.u 22 (.call _ _ _ _ _ (AEs.of (xs:=[.agg [rV 1 (v5.1.topo.parents.map eI),rV 4 (v5.1.topo.nodes.map Y1),rV 1 (v5.1.up.map eBo),iV v5.1.lic.a,iV v5.1.lic.b,iV v5.1.lic.c,iV v5.1.depth,iV v5.1.now,rV 11 (v5.1.queue.map eJob),rV 13 (v5.1.runs.map (Z1 .nw)),rV 3 (v5.1.ends.map eEnd)]]) (by simp)) (fun _=>Zx h7)),.u 23 (.call _ _ _ _ _ (AEs.of (xs:=[.agg [rV 1 (v5.1.topo.parents.map eI),rV 4 (v5.1.topo.nodes.map Y1),rV 1 (v5.1.up.map eBo),iV v5.1.lic.a,iV v5.1.lic.b,iV v5.1.lic.c,iV v5.1.depth,iV v5.1.now,rV 11 (v5.1.queue.map eJob),rV 13 (v5.1.runs.map (Z1 .nw)),rV 3 (v5.1.ends.map eEnd)],iV n7]) (by simp)) (fun _=>Y0l h8))] fun _=>?_
   refine O0 H (fun H=>?_) fun H=>?_
   .refine wP ?_
    replace H:=sI H;subst H
    exact wN [(2,.n 3),(3,.d),(4,.d)] [(3,[.n 1,.n 4,.n 1,.d,.d,.d,.d,.d,.n 11,.n 13,.n 3])] [] [] [] [⟨_,J0t ([]:List Seen)⟩,⟨_,nw_I ([]:List Int)⟩,⟨_,J1 ([]:List Node)⟩,⟨_,Yg ([]:List Bool)⟩,⟨_,Lh ([]:List Job)⟩,⟨_,Zg ([]:List Run)⟩,⟨_,Lr ([]:List End)⟩]
   .obtain⟨y9,h9,H⟩:=bB H
    refine wG [.u 32 (.cw Wb [] [16000] [] [(3,v5.2.map Wi)] [.sref 0,X2 .nw y8.1] _ _ _ _ _ (GEs.of [true,false] (by simp)) (by simp) (by simp) (by simp) (fun _=>M0r h9))] fun _=>?_
    exact U05 (N30 _ H) [] [] [(16000,(some 33000,0))] [] (by kernel_rfl) (by kernel_rfl)
  .refine wP ?_
   replace H:=sI H;subst H
   exact wN [(2,.f),(3,.d),(4,.d)] [(3,[])] [] [16000] [] [⟨_,J0t v5.2⟩,⟨_,nw_I v5.1.topo.parents⟩,⟨_,J1 v5.1.topo.nodes⟩,⟨_,Yg v5.1.up⟩,⟨_,Lh v5.1.queue⟩,⟨_,Zg v5.1.runs⟩,⟨_,Lr v5.1.ends⟩]
noncomputable def O15:L :=
 lf Tryz.prog W0z [] [] [] [] [] [] []
def V0c(s1:State):Option ((List Seen)×Bool) :=
 (VW s1).bind fun y2=>some (y2.1,y2.2.2)
theorem J11{s1:State}{r:(List Seen)×Bool}(H:V0c s1=some r):Snd Tryz.prog W0z [X2 .rd s1] (.tup [nV 3 (r.1.map Wi),.bool r.2]) []:=by
 refine wS O15 [.t 2,.t 3] ?_
 unfold V0c at H
 obtain⟨y2,h2,H⟩:=bB H
 refine wG [.c 9 (X11 h2)] fun _=>?_
 replace H:=sI H;subst H
 exact wN [(2,.d),(3,.d)] [] [] [] [] [⟨_,J0t y2.1⟩]
noncomputable def Y1e:L :=
 lf Tryz.prog V0k [] [] [] [] [] [] []
def JZ(x1:Run):Option Seen :=
 some (Seen.mk x1.job.id x1.t (w64 (x1.t+x1.job.wall)))
theorem J0V{x1:Run}{r:Seen}(H:JZ x1=some r):Snd Tryz.prog V0k [Z1 .rd x1] (Wi r) []:=by
 refine wS Y1e [.c 2 3 true] ?_
 unfold JZ at H
 refine wP ?_
 replace H:=sI H;subst H
 exact wN [(2,.d)] [(2,[])] [] [] [] []
def X08(x1:Run):Seen :=
 (Seen.mk x1.job.id x1.t (w64 (x1.t+x1.job.wall)))
theorem J1j(x1:Run):JZ x1=some (X08 x1):=by
 unfold JZ X08
 first|rfl|simp only[O5]
theorem Q0y(x1:Run):Snd Tryz.prog V0k [Z1 .rd x1] (Wi (X08 x1)) []:=J0V (J1j x1)
noncomputable def U16:L :=
 lf Tryz.prog V0A [17] [] [] [] [(12,3)] [] []
def JF(n8:Int)(x11:Run)(_:Nat)(v11:(List Seen))(k11:(List Seen)->Option ((List Seen)×State×Bool)):Option ((List Seen)×State×Bool) :=
 bif (x11.t==n8)then((appL 24 v11 [(X08 x11)]).bind fun xs12=>k11 xs12)else(k11 v11)
def Z0g(k7:(State×(List Seen))->Option ((List Seen)×State×Bool))(y9:State×Bool)(v11:(List Seen)):Option ((List Seen)×State×Bool) :=
 k7 (y9.1,v11)
def Qb(v7:State×(List Seen))(k7:(State×(List Seen))->Option ((List Seen)×State×Bool)):Option ((List Seen)×State×Bool) :=
 (Zw v7.1).bind fun n8=>bif (decide (n8<0))then(some (v7.2,v7.1,true))else((UN v7.1 n8).bind fun y9=>bif (!y9.2)then(some ([],(State.mk (Topo.mk [] []) [] (Vec.mk 0 0 0) 0 0 [] [] []),false))else(rgl (JF n8) (Z0g k7 y9) y9.1.runs 0 v7.2))
def ZG(x4:Run)(_:Nat)(v4:(List Seen))(k4:(List Seen)->Option ((List Seen)×State×Bool)):Option ((List Seen)×State×Bool) :=
 (appL 24 v4 [(X08 x4)]).bind fun xs5=>k4 xs5
def LF(s1:State)(v4:(List Seen)):Option ((List Seen)×State×Bool) :=
 (Ug s1).bind fun y6=>whl Qb 9223372036854775807 (y6,v4)
def Ya(s1:State):Option ((List Seen)×State×Bool) :=
 (Vw s1).bind fun b2=>bif (!b2)then(some ([],(State.mk (Topo.mk [] []) [] (Vec.mk 0 0 0) 0 0 [] [] []),false))else(rgl ZG (LF s1) s1.runs 0 [])
theorem Jz{s1:State}{r:(List Seen)×State×Bool}(H:Ya s1=some r):Snd Tryz.prog V0A [X2 .rd s1] (.tup [.sref 0,X2 .nw r.2.1,.bool r.2.2]) [⟨3,r.1.map Wi,false⟩]:=by
 refine wS U16 [.t 2,.c 3 11 true,.t 4] ?_
 unfold Ya at H
 obtain⟨b2,h2,H⟩:=bB H
 refine wG [.c 14 (M08 h2)] fun _=>?_
 refine O0 H (fun H=>?_) fun H=>?_
 .refine wP ?_
  replace H:=sI H;subst H
  exact wN [(2,.d),(3,.d),(4,.d)] [(3,[.n 1,.n 4,.n 1,.d,.d,.d,.d,.d,.n 11,.n 13,.n 3])] [] [] [none] [⟨_,nw_I ([]:List Int)⟩,⟨_,J1 ([]:List Node)⟩,⟨_,Yg ([]:List Bool)⟩,⟨_,Lh ([]:List Job)⟩,⟨_,Zg ([]:List Run)⟩,⟨_,Lr ([]:List End)⟩]
 .refine wG [.u 20 (.ln _ _ fun _=>lm s1.runs (Z1 .rd))] fun q3=>?_
  refine wR (fun(i4:Nat) (v4:(List Seen))=>⟨[(1,.ptr 1 0),(3,.ptr 3 0),(5,.sref 17),(19,rV 13 (s1.runs.map (Z1 .rd))),(20,iV (s1.runs.length:Int)),(21,iV (i4:Int))],[],[(1,(X2 .rd s1).cells),(3,[.nl,.nl,.nl,iV 0,iV 0,iV 0,iV 0,iV 0,.nl,.nl,.nl])],[(17,⟨3,v4.map Wi,false⟩)]⟩) H (fun i4 x4 v4 I m k4 hxv4 hiv4 H N22=>?_) (fun v4 I m H=>?_)
  .unfold ZG at H
   refine wP ?_
   refine wt (ltT hiv4) ?_
   obtain⟨xs5,h5,H⟩:=bB H
   refine wG [.u 23 (.ix _ _ _ fun _=>Q0 (Z1 .rd) (J0 hxv4)),.c 27 (Q0y x4),.u 29 (.ap _ _ _ _ fun _=>L0 Wi h5),.w 30 (wi .i64 rfl hiv4 q3.1)] fun _=>?_
   exact wT (N22 _ H)
  .unfold LF at H
   refine wP ?_
   refine wf (ltF s1.runs.length) ?_
   obtain⟨y6,h6,H⟩:=bB H
   refine wG [.c 32 (UD h6)] fun _=>?_
   refine wW (fun(v7:State×(List Seen))=>⟨[(1,.ptr 1 0),(3,.ptr 3 0),(5,.sref 17)],[],[(1,(X2 .nw v7.1).cells),(3,[.nl,.nl,.nl,iV 0,iV 0,iV 0,iV 0,iV 0,.nl,.nl,.nl])],[(17,⟨3,v7.2.map Wi,false⟩)]⟩) H (fun v7 I m k7 H N69=>?_)
   unfold Qb at H
   obtain⟨n8,h8,H⟩:=bB H
   refine wG [.u 34 (.call _ _ _ _ _ (AEs.of (xs:=[.agg [rV 1 (v7.1.topo.parents.map eI),rV 4 (v7.1.topo.nodes.map Y1),rV 1 (v7.1.up.map eBo),iV v7.1.lic.a,iV v7.1.lic.b,iV v7.1.lic.c,iV v7.1.depth,iV v7.1.now,rV 11 (v7.1.queue.map eJob),rV 13 (v7.1.runs.map (Z1 .nw)),rV 3 (v7.1.ends.map eEnd)]]) (by simp)) (fun _=>V08 h8))] fun _=>?_
   refine O0 H (fun H=>?_) fun H=>?_
   .refine wP ?_
    replace H:=sI H;subst H
    exact wN [(2,.d),(3,.d),(4,.d)] [(3,[])] [(17,some 17,0)] [] [some 17] [⟨_,nw_I v7.1.topo.parents⟩,⟨_,J1 v7.1.topo.nodes⟩,⟨_,Yg v7.1.up⟩,⟨_,Lh v7.1.queue⟩,⟨_,Zg v7.1.runs⟩,⟨_,Lr v7.1.ends⟩,⟨_,J0t v7.2⟩]
   .obtain⟨y9,h9,H⟩:=bB H
    refine wG [.u 42 (.call _ _ _ _ _ (AEs.of (xs:=[.agg [rV 1 (v7.1.topo.parents.map eI),rV 4 (v7.1.topo.nodes.map Y1),rV 1 (v7.1.up.map eBo),iV v7.1.lic.a,iV v7.1.lic.b,iV v7.1.lic.c,iV v7.1.depth,iV v7.1.now,rV 11 (v7.1.queue.map eJob),rV 13 (v7.1.runs.map (Z1 .nw)),rV 3 (v7.1.ends.map eEnd)],iV n8]) (by simp)) (fun _=>V18 h9))] fun _=>?_
    refine O0 H (fun H=>?_) fun H=>?_
    .refine wP ?_
     replace H:=sI H;subst H
     exact wN [(2,.d),(3,.d),(4,.d)] [(3,[.n 1,.n 4,.n 1,.d,.d,.d,.d,.d,.n 11,.n 13,.n 3])] [] [] [none] [⟨_,nw_I ([]:List Int)⟩,⟨_,J1 ([]:List Node)⟩,⟨_,Yg ([]:List Bool)⟩,⟨_,Lh ([]:List Job)⟩,⟨_,Zg ([]:List Run)⟩,⟨_,Lr ([]:List End)⟩]
    .refine wG [.u 51 (.ln _ _ fun _=>lm y9.1.runs (Z1 .nw))] fun q10=>?_
     refine wR (fun(i11:Nat) (v11:(List Seen))=>⟨[(1,.ptr 1 0),(3,.ptr 3 0),(5,.sref 17),(8,iV n8),(50,nV 13 (y9.1.runs.map (Z1 .nw))),(51,iV (y9.1.runs.length:Int)),(52,iV (i11:Int))],[],[(1,(X2 .nw y9.1).cells),(3,[.nl,.nl,.nl,iV 0,iV 0,iV 0,iV 0,iV 0,.nl,.nl,.nl])],[(17,⟨3,v11.map Wi,false⟩)]⟩) H (fun i11 x11 v11 I m k11 hxv11 hiv11 H N60=>?_) (fun v11 I m H=>?_)
     .unfold JF at H
      refine wP ?_
      refine wt (ltT hiv11) ?_
      refine wG [.u 54 (.ix _ _ _ fun _=>Q0 (Z1 .nw) (J0 hxv11))] fun _=>?_
      refine O0 H (fun H=>?_) fun H=>?_
      .obtain⟨xs12,h12,H⟩:=bB H
       refine wG [.c 62 (Q0y x11),.u 64 (.ap _ _ _ _ fun _=>L0 Wi h12),.w 65 (wi .i64 rfl hiv11 q10.1)] fun _=>?_
       exact wT (N60 _ H)
      .refine wG [.w 65 (wi .i64 rfl hiv11 q10.1)] fun _=>?_
       exact wT (N60 _ H)
     .unfold Z0g at H
      refine wP ?_
      refine wf (ltF y9.1.runs.length) ?_
      refine wP ?_
      exact wT (N69 _ H)
noncomputable def Z17:L :=
 lf Tryz.prog O0A [] [(9,1)] [] [] [] [] []
def Q0d(s1:State):Option ((List Seen)×Bool) :=
 (Ya s1).bind fun y2=>some (y2.1,y2.2.2)
theorem Q18{s1:State}{r:(List Seen)×Bool}(H:Q0d s1=some r):Snd Tryz.prog O0A [X2 .rd s1] (.tup [.sref 0,.bool r.2]) [⟨3,r.1.map Wi,false⟩]:=by
 refine wS Z17 [.t 2,.t 3] ?_
 unfold Q0d at H
 obtain⟨y2,h2,H⟩:=bB H
 refine wG [.c 9 (Jz h2)] fun _=>?_
 replace H:=sI H;subst H
 exact wN [(2,.d),(3,.d)] [] [(10000,some 10000,0)] [] [some 10000] [⟨_,J0t y2.1⟩]
noncomputable def V1e:L :=
 lf Tryz.prog X0R [] [] [] [] [] [] []
def Y0o(s1:State):Option (State×Bool) :=
 (Ya s1).bind fun y2=>some (y2.2.1,y2.2.2)
theorem M1e{s1:State}{r:State×Bool}(H:Y0o s1=some r):Snd Tryz.prog X0R [X2 .rd s1] (.tup [X2 .nw r.1,.bool r.2]) []:=by
 refine wS V1e [.c 2 11 true,.t 3] ?_
 unfold Y0o at H
 obtain⟨y2,h2,H⟩:=bB H
 refine wG [.c 9 (Jz h2)] fun _=>?_
 replace H:=sI H;subst H
 exact wN [(2,.d),(3,.d)] [(2,[])] [] [] [] [⟨_,nw_I y2.2.1.topo.parents⟩,⟨_,J1 y2.2.1.topo.nodes⟩,⟨_,Yg y2.2.1.up⟩,⟨_,Lh y2.2.1.queue⟩,⟨_,Zg y2.2.1.runs⟩,⟨_,Lr y2.2.1.ends⟩]
noncomputable def X1e:L :=
 lf Tryz.prog Y0R [] [] [] [] [] [] []
def V00(id2:Int)(x5:Seen)(_:Nat)(_:Unit)(k5:Unit->Option Int):Option Int :=
 bif (x5.id==id2)then(some x5.start)else(k5 ())
def L0n(_:Unit):Option Int :=
 some (-1)
def U08(s1:State)(id2:Int):Option Int :=
 (Ya s1).bind fun y3=>rgl (V00 id2) L0n y3.1 0 ()
theorem Q1e{s1:State}{id2 r:Int}(H:U08 s1 id2=some r):Snd Tryz.prog Y0R [X2 .rd s1,iV id2] (iV r) []:=by
 refine wS X1e [.t 4] ?_
 unfold U08 at H
 obtain⟨y3,h3,H⟩:=bB H
 refine wG [.c 12 (Jz h3),.u 17 (.ln _ _ fun _=>lm y3.1 Wi)] fun q4=>?_
 refine wR (fun(i5:Nat) (v5:Unit)=>⟨[(1,iV id2),(16,nV 3 (y3.1.map Wi)),(17,iV (y3.1.length:Int)),(18,iV (i5:Int))],[],[],[]⟩) H (fun i5 x5 v5 I m k5 hxv5 hiv5 H N21=>?_) (fun v5 I m H=>?_)
 .unfold V00 at H
  refine wP ?_
  refine wt (ltT hiv5) ?_
  refine wG [.u 20 (.ix _ _ _ fun _=>Q0 Wi (J0 hxv5))] fun _=>?_
  refine O0 H (fun H=>?_) fun H=>?_
  .obtain rfl:=sI H
   exact wP (wE [(4,.d)])
  .refine wG [.w 28 (wi .i64 rfl hiv5 q4.1)] fun _=>?_
   exact wT (N21 () H)
 .unfold L0n at H
  refine wP ?_
  refine wf (ltF y3.1.length) ?_
  obtain rfl:=sI H
  exact wP (wE [(4,.d)])
noncomputable def U0F:L :=
 lf Tryz.prog J0b [] [] [] [] [] [] []
def ZE(x4:Seen)(_:Nat)(v4:Int)(k4:Int->Option Int):Option Int :=
 k4 (max v4 x4.fin)
def LX(v4:Int):Option Int :=
 some v4
def Uf(s1:State):Option Int :=
 (Ya s1).bind fun y2=>bif (!y2.2.2)then(some (-1))else(rgl ZE LX y2.1 0 s1.now)
theorem X04{s1:State}{r:Int}(H:Uf s1=some r):Snd Tryz.prog J0b [X2 .rd s1] (iV r) []:=by
 refine wS U0F [.t 2] ?_
 unfold Uf at H
 obtain⟨y2,h2,H⟩:=bB H
 refine wG [.c 11 (Jz h2)] fun _=>?_
 refine O0 H (fun H=>?_) fun H=>?_
 .obtain rfl:=sI H
  exact wP (wE [(2,.d)])
 .refine wG [.u 20 (.ln _ _ fun _=>lm y2.1 Wi)] fun q3=>?_
  refine wR (fun(i4:Nat) (v4:Int)=>⟨[(6,iV v4),(19,nV 3 (y2.1.map Wi)),(20,iV (y2.1.length:Int)),(21,iV (i4:Int))],[],[],[]⟩) H (fun i4 x4 v4 I m k4 hxv4 hiv4 H N23=>?_) (fun v4 I m H=>?_)
  .unfold ZE at H
   refine wP ?_
   refine wt (ltT hiv4) ?_
   refine wG [.u 23 (.ix _ _ _ fun _=>Q0 Wi (J0 hxv4)),.w 29 (wi .i64 rfl hiv4 q3.1)] fun _=>?_
   exact wT (N23 _ H)
  .unfold LX at H
   refine wP ?_
   refine wf (ltF y2.1.length) ?_
   obtain rfl:=sI H
   exact wP (wE [(2,.d)])
noncomputable def M16:L :=
 lf Tryz.prog W0A [17] [] [] [] [] [] []
def YV(x4:Job)(_:Nat)(v4:(List Int))(k4:(List Int)->Option (List Int)):Option (List Int) :=
 (appL 8 v4 [x4.id]).bind fun xs5=>k4 xs5
def ZV(v4:(List Int)):Option (List Int) :=
 some v4
def OX(s1:State):Option (List Int) :=
 (Ya s1).bind fun y2=>bif (!y2.2.2)then(some [])else(rgl YV ZV y2.2.1.queue 0 [])
theorem U18{s1:State}{r:(List Int)}(H:OX s1=some r):Snd Tryz.prog W0A [X2 .rd s1] (.sref 0) [⟨1,r.map eI,false⟩]:=by
 refine wS M16 [.t 2] ?_
 unfold OX at H
 obtain⟨y2,h2,H⟩:=bB H
 refine wG [.c 11 (Jz h2)] fun _=>?_
 refine O0 H (fun H=>?_) fun H=>?_
 .refine wP ?_
  replace H:=sI H;subst H
  exact wN [(2,.d)] [] [] [] [none] []
 .refine wG [.u 20 (.ln _ _ fun _=>lm y2.2.1.queue eJob)] fun q3=>?_
  refine wR (fun(i4:Nat) (v4:(List Int))=>⟨[(6,.sref 17),(19,nV 11 (y2.2.1.queue.map eJob)),(20,iV (y2.2.1.queue.length:Int)),(21,iV (i4:Int))],[],[],[(17,⟨1,v4.map eI,false⟩)]⟩) H (fun i4 x4 v4 I m k4 hxv4 hiv4 H N23=>?_) (fun v4 I m H=>?_)
  .unfold YV at H
   refine wP ?_
   refine wt (ltT hiv4) ?_
   obtain⟨xs5,h5,H⟩:=bB H
   refine wG [.u 23 (.ix _ _ _ fun _=>Q0 eJob (J0 hxv4)),.u 29 (.ap _ _ _ _ fun _=>L0 eI h5),.w 30 (wi .i64 rfl hiv4 q3.1)] fun _=>?_
   exact wT (N23 _ H)
  .unfold ZV at H
   refine wP ?_
   refine wf (ltF y2.2.1.queue.length) ?_
   refine wP ?_
   replace H:=sI H;subst H
   exact wN [(2,.d)] [] [(17,some 17,0)] [] [some 17] [⟨_,nw_I v4⟩]
end
theorem Y0Y{α β γ:Type}{bd:α->Nat->β->(β->Option γ)->Option γ}{kk:β->Option γ}:∀(xs ys:List α) (i:Nat) (v:β),rgl bd kk (xs++ys) i v=rgl bd (fun v'=>rgl bd kk ys (i+xs.length) v') xs i v
 |[],ys,i,v=>by simp[rgl]
 |x::xs,ys,i,v=>by
  rw[List.cons_append,rgl,rgl]
  congr 1
  funext v'
  rw[Y0Y xs ys (i+1) v',yT,show i+1+xs.length=i+(xs.length+1) by omega]
def V0C(x:Run):Seen:=Seen.mk x.job.id x.t (endOf x)
def VH(l:List Seen)(id:Int):Bool:=l.any fun x=>x.id==id
theorem Z0Z(l:List Seen)(id:Int):Xv l id=some (VH l id):=by
 unfold Xv VH
 rw[Wj (r:=some true) (p:=fun x=>x.id==id) (fun x _ i k=>rfl)]
 unfold MH
 cases l.any fun x=>x.id==id<;>rfl
theorem Q1E(k:List Seen->Option (List Seen))(l:List Seen)(xs:List Run):∀(i:Nat),(∀x∈xs,VH l x.job.id=true)->rgl Q9 k xs i l=k l:=by
 induction xs with
 |nil=>intro i _;rfl
 |cons x xs ih =>
  intro i h
  rw[rgl,Q9,Z0Z,bS,h x (yJ ..)]
  exact ih (i+1) fun y hy=>h y (yH _ hy)
theorem LZ(l m:List Seen)(id:Int):VH (l++m) id=(VH l id||VH m id):=by simp[VH]
theorem Z1m(k:List Seen->Option (List Seen))(xs:List Run):∀(i:Nat) (l:List Seen),(xs.map fun x=>x.job.id).Nodup->(∀x∈xs,VH l x.job.id=false)->l.length+xs.length<=4194304->rgl Q9 k xs i l=k (l++xs.map V0C):=by
 induction xs with
 |nil=>intro i l _ _ _;simp[rgl]
 |cons x xs ih =>
  intro i l hn h hl
  simp only[yT]at hl
  rw[List.map_cons,List.nodup_cons]at hn
  rw[rgl,Q9,Z0Z,bS,h x (yJ ..)]
  simp only[Bool.not_false,yN]
  rw[M0 (by simp;omega),bS,ih (i+1) _ hn.2 (fun y hy=>?_) (by simp;omega)]
  .simp[V0C,endOf]
  .rw[LZ,h y (yH _ hy)]
   have:y.job.id≠x.job.id:=fun e=>hn.1 (by rw[← e];exact List.mem_map_of_mem (f:=fun x:Run=>x.job.id) hy)
   simp[VH]
   exact fun e=>this e.symm
theorem W0X{s:State}(hs:SmallS s)(hn:0<=nextF s):∃r,Wk s (nextF s)=some r/\UN s (nextF s)=some r/\(r.2=true->StateP s/\∃new,StartP (endF s (nextF s)) r.1 new):=by
 obtain⟨r,h1,h2⟩:=O1H hs (nextF s)
 refine⟨r,h1,h2,fun hr=>?_⟩
 unfold Wk at h1
 rw[(Oe hs.jobs).1,bS]at h1
 cases hS:stateOk s with
 |false =>
  rw[hS]at h1
  cases h1
  cases hr
 |true =>
  have hP:=JG hS
  refine⟨hP,?_⟩
  rw[hS]at h1
  simp only[yL,Bool.false_or]at h1
  cases hc:((!M2 (nextF s))||decide (nextF s<s.now))with
  |true =>
   rw[hc]at h1
   cases h1
   cases hr
  |false =>
   rw[hc,yM,Xb hs,bS,Yv,bS]at h1
   rw[show(9223372036854775807:Nat)=9223372036854775805+1+1 from rfl,whl,LM _ hs]at h1
   simp only[hn,Int.le_refl,decide_true,Bool.and_self,yN]at h1
   by_cases h3:300<((endF s (nextF s)).ends.length:Int)
   .rw[decide_eq_true h3,yN]at h1
    cases h1
    cases hr
   .rw[decide_eq_false h3,yM]at h1
    have hsm:=M0w hs (nextF s) (by omega)
    obtain⟨s',new,e1,_,hT⟩:=M1l hsm
    rw[e1,bS,whl,LM _ (hT.small hsm)]at h1
    have hlt:¬ (0<=nextF s'/\nextF s'<=nextF s):=by
     rintro⟨q1,q2⟩
     obtain⟨x,hx,he⟩:=Jm q1
     rw[hT.runs]at hx
     rcases List.mem_append.1 hx with hx|hx
     .have hx2:=List.mem_filter.1 hx
      have hmin:=(Z1y s.runs (-1) (fun y hy=>by
       obtain⟨_,_,_,_,hy5⟩:=hP.runs.job y hy
       unfold W0J at hy5
       simp only[yD,yO]at hy5
       have:=U8.1 hy5.1.1.1
       unfold endOf;rw[X5 (by omega)]
       have:=U8.1 hP.now
       omega)).2 x hx2.1
      have hne:endOf x≠nextF s:=by simpa using hx2.2
      unfold nextF at *
      omega
     .have hq:x.job∈s.queue:=hT.perm.mem_iff.1 (List.mem_append_right _ (List.mem_map_of_mem hx))
      have hj:=Md.1 ((V4 hP.queue).2.1 x.job (List.mem_append_left _ hq))
      have ht:x.t=nextF s:=(hT.fresh x hx).1
      have htime:time (nextF s)=true:=by
       simp only[Bool.or_eq_false_iff,Bool.not_eq_false']at hc
       exact hc.1
      have:=U8.1 htime
      unfold endOf at he
      rw[X5 (by omega)]at he
      omega
    have hcc:(decide (0<=nextF s')&&decide (nextF s'<=nextF s))=false:=by
     rw[Bool.and_eq_false_iff,decide_eq_false_iff_not,decide_eq_false_iff_not]
     omega
    rw[hcc,yM]at h1
    cases h1
    refine⟨new,?_⟩
    have:atT s' (nextF s)=s':=by
     have:=hT.now
     show State.mk s'.topo s'.up s'.lic s'.depth (nextF s) s'.queue s'.runs s'.ends=s'
     rw[show nextF s=s'.now from this.symm]
    rw[this]
    exact hT
structure AheadP(s:State)(l:List Seen):Prop where
 small:SmallS s
 sees:∀x∈s.runs,VH l x.job.id=true
 free:∀j∈s.queue,VH l j.id=false
 uniq:(s.queue.map Job.id).Nodup
 len:l.length+s.queue.length<=1048576
theorem VN(xs:List Run)(id:Int):VH (xs.map V0C) id=true↔id∈xs.map fun x=>x.job.id:=by
 simp[VH,V0C]
theorem Y0k{s:State}{l:List Seen}(h:AheadP s l){s':State}{new:List Run}(hP:StateP s)(hn:0<=nextF s)(hT:StartP (endF s (nextF s)) s' new) :
  Oq l s'=some (l++new.map V0C)/\(∀k,rgl (JF (nextF s)) k s'.runs 0 l=k (l++new.map V0C))/\AheadP s' (l++new.map V0C):=by
 have hp:=hT.perm
 have hq:(s.queue.map Job.id).Nodup:=h.uniq
 have hall:((s'.queue++new.map Run.job).map Job.id).Nodup:=(hp.map _).nodup_iff.2 hq
 rw[List.map_append,List.map_map,List.nodup_append]at hall
 have hlen:=hp.length_eq
 simp only[yU,List.length_map,endF]at hlen
 have hh:=h.len
 have hj:=h.small.jobs
 have kl:(keepF (nextF s) s.runs).length<=s.runs.length:=List.length_filter_le ..
 have hin:∀x∈new,x.job∈s.queue:=fun x hx=>hp.mem_iff.1 (List.mem_append_right _ (List.mem_map_of_mem hx))
 have hqin:∀j∈s'.queue,j∈s.queue:=fun j hj=>hp.mem_iff.1 (List.mem_append_left _ hj)
 have hkeep:∀x∈keepF (nextF s) s.runs,VH l x.job.id=true:=fun x hx=>h.sees x (List.mem_filter.1 hx).1
 have hsm:SmallS s':=by
  refine hT.small (M0w h.small _ ?_)
  have e1:(doneF (nextF s) s.runs).length<=s.runs.length:=by unfold doneF;rw[List.length_map];exact List.length_filter_le ..
  have e2:=hP.ends
  have e3:=(V4 hP.queue).1
  unfold allJobs at e3
  simp only[yU,List.length_map]at e3
  simp only[endF,yU]
  omega
 refine⟨?_,fun k=>?_,hsm,fun x hx=>?_,fun j hj=>?_,hall.1,by simp;omega⟩
 .unfold Oq
  rw[hT.runs,Y0Y,show(endF s (nextF s)).runs=keepF (nextF s) s.runs from rfl,Q1E _ l _ 0 hkeep,Z1m _ new _ l hall.2.1 (fun x hx=>h.free _ (hin x hx)) (by omega)]
  rfl
 .rw[U5 (bd:=JF (nextF s)) (bs:=24) (p:=fun x=>x.t==nextF s) (f:=V0C) (fun x _ i b k=>rfl) (by rw[hT.runs,yU,show(endF s (nextF s)).runs=keepF (nextF s) s.runs from rfl];omega)]
  rw[hT.runs,List.filter_append]
  have f1:((endF s (nextF s)).runs.filter fun x=>x.t==nextF s)=[]:=by
   refine List.filter_eq_nil_iff.2 fun x hx=>?_
   have hx1:x∈s.runs:=(List.mem_filter.1 hx).1
   obtain⟨y,hy,he⟩:=Jm hn
   obtain⟨_,_,_,_,hx5⟩:=hP.runs.job x hx1
   obtain⟨_,_,_,_,hy5⟩:=hP.runs.job y hy
   unfold W0J at hx5 hy5
   simp only[yD,yO]at hx5 hy5
   have b1:=U8.1 hx5.1.1.1
   have b2:=U8.1 hy5.1.1.1
   have b3:=U8.1 hP.now
   unfold endOf at he
   rw[X5 (by omega)]at he
   simp
   omega
  have f2:(new.filter fun x=>x.t==nextF s)=new:=List.filter_eq_self.2 fun x hx=>by
   have:x.t=nextF s:=(hT.fresh x hx).1
   simpa using this
  rw[f1,f2,List.nil_append]
 .rw[hT.runs]at hx
  rw[LZ]
  rcases List.mem_append.1 hx with hx|hx
  .rw[hkeep x hx];rfl
  .rw[(VN new x.job.id).2 (List.mem_map_of_mem (f:=fun x:Run=>x.job.id) hx),Bool.or_true]
 .rw[LZ,h.free j (hqin j hj),Bool.false_or]
  rw[← Bool.not_eq_true]
  intro e
  rw[VN]at e
  exact hall.2.2 j.id (List.mem_map_of_mem hj) j.id e rfl
structure AheadR(r:List Seen×State×Bool):Prop where
 len:r.1.length<=1048576
 queue:r.2.1.queue.length<=1048576
 bad:r.2.2=false->r.2.1.queue=[]
theorem V10:AheadR ([],State.mk (Topo.mk [] []) [] (Vec.mk 0 0 0) 0 0 [] [] [],false):=⟨by simp,by simp,fun _=>rfl⟩
theorem AheadP.res{s:State}{l:List Seen}(h:AheadP s l):AheadR (l,s,true):=⟨by have:=h.len;simp only;omega,by have:=h.small.jobs;simp only;omega,fun e=>by cases e⟩
theorem L1k:∀(m:Nat) (s:State) (l:List Seen) (f1 f2:Nat),AheadP s l->s.queue.length+s.runs.length<=m->m<f1->m<f2->∃r,whl Mq f1 (s,l)=some r/\whl Qb f2 (s,l)=some r/\AheadR r:=by
 intro m
 induction m with
 |zero =>
  intro s l f1 f2 h hm h1 h2
  obtain⟨f1,rfl⟩:∃f,f1=f+1:=⟨f1-1,by omega⟩
  obtain⟨f2,rfl⟩:∃f,f2=f+1:=⟨f2-1,by omega⟩
  rw[whl,whl,Mq,Qb]
  simp only[Yv,UH,bS]
  by_cases hn:0<=nextF s
  .obtain⟨x,hx,_⟩:=Jm hn
   have:=List.length_pos_of_mem hx
   omega
  .rw[decide_eq_false hn,decide_eq_true (show nextF s<0 by omega)]
   exact⟨_,rfl,rfl,h.res⟩
 |succ m ih =>
  intro s l f1 f2 h hm h1 h2
  obtain⟨f1,rfl⟩:∃f,f1=f+1:=⟨f1-1,by omega⟩
  obtain⟨f2,rfl⟩:∃f,f2=f+1:=⟨f2-1,by omega⟩
  rw[whl,whl,Mq,Qb]
  simp only[Yv,UH,bS]
  by_cases hn:0<=nextF s
  .rw[decide_eq_true hn,decide_eq_false (show ¬ nextF s<0 by omega)]
   obtain⟨r,e1,e2,e3⟩:=W0X h.small hn
   simp only[e1,e2,bS,yN,yM]
   cases hr:r.2 with
   |false=>exact⟨_,rfl,rfl,V10⟩
   |true =>
    obtain⟨hP,new,hT⟩:=e3 hr
    obtain⟨a1,a2,a3⟩:=Y0k h hP hn hT
    simp only[yL,yM,a1,a2,bS]
    have hl:=hT.len
    obtain⟨x,hx,he⟩:=Jm hn
    have hk:=Q0I hx he
    have:(endF s (nextF s)).queue.length+(endF s (nextF s)).runs.length=s.queue.length+(keepF (nextF s) s.runs).length:=rfl
    exact ih r.1 _ f1 f2 a3 (by omega) (by omega) (by omega)
  .rw[decide_eq_false hn,decide_eq_true (show nextF s<0 by omega)]
   exact⟨_,rfl,rfl,h.res⟩
theorem Q1H{s:State}(hj:s.queue.length+s.runs.length<=1048576):∃r,VW s=some r/\Ya s=some r/\AheadR r:=by
 obtain⟨h1,h2⟩:=Oe hj
 unfold VW Ya
 rw[h1,h2,bS,bS]
 cases hS:stateOk s with
 |false=>exact⟨_,rfl,rfl,V10⟩
 |true =>
  have hP:=JG hS
  have hs:=hP.small
  obtain⟨q1,q2,q3⟩:=V4 hP.queue
  unfold allJobs at q1 q3
  rw[List.map_append,List.map_map,List.nodup_append]at q3
  simp only[yU,List.length_map]at q1
  simp only[yL,yM,Xb hs,bS]
  have e1:Wq [] s=some (s.runs.map V0C):=by
   unfold Wq
   have:=Z1m Mw s.runs 0 [] q3.2.1 (fun x _=>rfl) (by simp;omega)
   exact this
  rw[e1,bS]
  rw[U5 (bd:=ZG) (bs:=24) (p:=fun _=>true) (f:=V0C) (fun x _ i b k=>rfl) (by simp;omega)]
  unfold LF
  rw[VS hs,bS]
  have e2:s.runs.filter (fun _=>true)=s.runs:=List.filter_eq_self.2 fun _ _=>rfl
  rw[e2,List.nil_append]
  refine L1k (s.queue.length+s.runs.length) s _ _ _ ⟨hs,fun x hx=>?_,fun j hj=>?_,q3.1,by simp;omega⟩ (yV _) (by omega) (by omega)
  .exact(VN s.runs x.job.id).2 (List.mem_map_of_mem (f:=fun x:Run=>x.job.id) hx)
  .rw[← Bool.not_eq_true]
   intro e
   rw[VN]at e
   exact q3.2.2 j.id (List.mem_map_of_mem hj) j.id e rfl
def M07(h b:Int):Int:=bAnd .i64 (w64 (w64 (w64 (h*151)+w64 b)+7)) 1073741823
def newH(bs:List Int):Int:=(bs.take 4000).foldl M07 (w64 (958001+bs.length))
def X0L(bs:List Int):Option l01Cur:=if bs.length<=1048576 then some ⟨bs,0,newH bs⟩else none
def O0f:L :=
 .seq (
 .reg [.mv 2 (.c (.bad))]) (
 .seq (
 .reg [.mv 5 (.t 0),.ln 6 (.t 5),.bi 7 .add (.c (.int .i64 958001)) (.t 6),.mv 3 (.t 7)]) (
 .seq (
 .seq (
 .reg [.mv 4 (.c (.int .i64 0))]) (
 .blk 0 (
  .loop (
   .seq (
   .seq (
   .reg [.mv 8 (.t 4),.mv 9 (.t 0),.ln 10 (.t 9),.bi 11 .lss (.t 8) (.t 10),.mv 12 (.t 11),.g 12 true (.mv 13 (.t 4)),.g 12 true (.bi 14 .lss (.t 13) (.c (.int .i64 4000))),.pk 15 (.t 12) (.t 14) (.c (.bool false))]) (
   .cond (.t 15) (
    .skip) (
    .exit 0))) (
   .seq (
   .blk 1 (
    .reg [.mv 18 (.t 3),.bi 19 .mul (.t 18) (.c (.int .i64 151)),.mv 20 (.t 0),.mv 21 (.t 4),.ia 22 (.t 20) (.t 21) 1,.ld 23 (.t 22) 1 false,.cv 24 .i64 (.t 23),.bi 25 .add (.t 19) (.t 24),.bi 26 .add (.t 25) (.c (.int .i64 7)),.bi 27 .and (.t 26) (.c (.int .i64 1073741823)),.mv 3 (.t 27)])) (
   .reg [.mv 16 (.t 4),.bi 17 .add (.t 16) (.c (.int .i64 1)),.mv 4 (.t 17)])))))) (
 .seq (
 .reg [.mv 28 (.t 0),.mv 29 (.t 3),.bd 30 [.nl,.int .i64 0,.int .i64 0] [(0,1,(.t 28)),(2,1,(.t 29))],.bx 31 (.t 30),.mv 2 (.t 31)]) (
 .ret))))
def O0S:List Rv:=[.t 2]
theorem X0X:Ms Tryz.prog Y01 1 O0f O0S=true:=by kernel_rfl
set_option maxRecDepth 20000 in
theorem J1r{bs:List Int}{c:l01Cur}(H:X0L bs=some c):SndB Tryz.prog Y01 [.sl .rd 1 (bs.map eB)] (fun cs=>cs=(U0 .rd c).cells):=by
 unfold X0L at H
 split at H
 rotate_left
 .cases H
 rename_i hl
 cases H
 refine V1N X0X rfl (by simp) (U1Q ?_)
 unfold O0f
 simp
 intro _
 refine M20 bs.length (fun i s=>i<=4000/\s.e 0=.sl .rd 1 (bs.map eB)/\s.e 3=.int .i64 ((bs.take i).foldl M07 (w64 (958001+bs.length)))/\s.e 4=.int .i64 (i:Nat)) (fun s=>s.e 0=.sl .rd 1 (bs.map eB)/\s.e 3=.int .i64 (newH bs)) ?_ ?_ ?_
 .simp[w64]
 .rintro i s hi ⟨h4000,e0,e3,e4⟩
  by_cases hlt:i<bs.length
  .by_cases h4:(i:Int)<4000
   .simp[e0,e3,e4,hlt,h4]
    intro _
    refine O1E hlt ⟨by omega,?_⟩
    have et:(bs.take (i+1)).foldl M07 (w64 (958001+bs.length))=M07 ((bs.take i).foldl M07 (w64 (958001+bs.length))) bs[i]:=by
     rw[List.take_succ_eq_append_getElem hlt,List.foldl_append];rfl
    rw[et]
    generalize (bs.take i).foldl M07 (w64 (958001+bs.length))=h
    simp[e0,Q1a hlt (by omega:bs.length<=9223372036854775807)]
    rfl
   .simp[e0,e3,e4,hlt,h4]
    intro _
    refine V1L ?_
    have h40:i=4000:=by omega
    have e:newH bs=(bs.take i).foldl M07 (w64 (958001+bs.length)):=by unfold newH;rw[h40]
    simp[e0,e3,e]
  .simp[e0,e3,e4,hlt]
   intro _
   refine V1L ?_
   have e:newH bs=(bs.take i).foldl M07 (w64 (958001+bs.length)):=by
    unfold newH;rw[List.take_of_length_le (by omega),List.take_of_length_le (by omega)]
   simp[e0,e3,e]
 rintro s ⟨e0,e3⟩
 simp[e0,e3]
end Go.Proofs.YtpgaganbacipnaaGreat
