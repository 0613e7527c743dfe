/-
  Lemmas, part 12.
-/
import Derived.Test.YtodafdoninblmaaGreatV11
import Derived.Test.YtodafdoninblmaaGreatV1
namespace Go.Proofs.YtodafdoninblmaaGreat
open Go Go.RowKit Eng
def L0v:L :=
sR [.bx 1 0,.al 2 [.nl,.nl,.nl,.nl,.nl],.mv 3 (cB false)]
 (sR [fA 9 1 0,lT 10 9 2,fA 11 1 2,lF 12 11 1,.bd 13 [.nl,.nl,.nl,.nl,.nl] [(0,2,10),(2,1,12)],.al 4 [.nl,.nl,.nl,.nl,.nl],.st 4 13 5]
 (.seq (sR [fA 14 1 0,lT 15 14 2,cQ 16 XH [15],.un 17 16,mV 18 17,gF 18 (fA 19 1 2),gF 18 (lF 20 19 1),gF 18 (.ln 21 20),gF 18 (fA 22 1 0),gF 18 (fA 23 22 1),gF 18 (lF 24 23 1),gF 18 (.ln 25 24),gF 18 (bI 26 .neq 21 25),.pk 27 18 (cB true) 26,mV 28 27,gF 28 (fA 29 1 3),gF 28 (lT 30 29 3),gF 28 (cQ 31 O4 [30]),gF 28 (.un 32 31),.pk 33 28 (cB true) 32]
 (.cond 33 (sR [.bd 34 [.nl,.nl,.nl,.nl,.nl] [],.st 2 34 5,.mv 3 (cB false)]
 gR)
 .skip))
 (.seq (sR [fA 35 1 0,fA 36 35 1,lF 37 36 1,.ln 38 37,.mv 39 (kI 0)]
 (.blk 0 (.loop (.gw (sR [bI 40 .lss 39 38]
 (.seq (.cond 40 .skip
 (.exit 0))
 (.seq (.blk 1 (sR [iA 41 37 39 4,lT 42 41 4,.al 6 [.int .i64 0,.int .i64 0,.int .i64 0,.int .i64 0],.st 6 42 4]
 (sR [fA 44 6 1,lT 45 44 3,cQ 46 Mz [45],mV 43 46,eX 47 43 0,eX 48 43 1,.al 7 [.nl],.st 7 47 1,mV 8 48]
 (.reg [fA 49 4 3,lF 50 49 1,lT 51 7 1,.bs 52 1 [51] false,.ap 53 50 52 1 24,fA 54 4 3,.st 54 53 1]))))
 (.reg [.bi 55 .add 39 (kI 1),mV 39 55]))))))))
 (sR [fA 57 1 3,lT 58 57 3,cQ 59 Mz [58],mV 56 59,eX 60 56 0,eX 61 56 1,fA 62 4 4,.st 62 60 1]
 (sR [lT 63 4 5,.cl 64 UT [63],.st 2 64 5,.mv 3 (cB true)]
 gR)))))
def Lu(x4:Node)(_:Nat)(v4:(List (List Pt)))(k4:(List (List Pt))->Option (Room×Bool)):Option (Room×Bool) :=
 (appL 24 v4 [(U5 x4.cap).1]).bind fun xs5=>k4 xs5
def Mu(s1:State)(v4:(List (List Pt))):Option (Room×Bool) :=
 (Lo (Room.mk s1.topo s1.up v4 ((U5 s1.lic).1))).bind fun y6=>some (y6,true)
def Yq(s1:State):Option (Room×Bool) :=
 (Xc s1.topo).bind fun b2=>bif (((!b2)||((s1.up.length:Int)!=(s1.topo.nodes.length:Int)))||(!(X0 s1.lic)))then(some ((Room.mk (Topo.mk [] []) [] [] []),false))else(rgl Lu (Mu s1) s1.topo.nodes 0 [])
theorem Q0t{s1:State}{r:Room×Bool}(H:Yq s1=some r):Snd Tryz.prog W07 [Q2 .rd s1] (.tup [.agg [nV 1 (r.1.topo.parents.map eI),nV 4 (r.1.topo.nodes.map L2),.sref 0,nV 1 (r.1.profs.map (O1 .nw)),nV 4 (r.1.lics.map ePt)],.bool r.2]) [⟨1,r.1.up.map eBo,false⟩]:=by
 refine wS L0v [.c 2 5 true,.t 3] ?_
 unfold Yq at H
 obtain⟨b2,h2,H⟩:=bB H
 refine wG [.c 16 (WR h2),.g 21 [((!b2),false)] (.ln _ _ fun _=>lm s1.up eBo),.g 25 [((!b2),false)] (.ln _ _ fun _=>lm s1.topo.nodes L2),.g 31 [(((!b2)||((s1.up.length:Int)!=(s1.topo.nodes.length:Int))),false)] (.call _ _ _ _ _ (AEs.refl _) (fun _=>L4 s1.lic))] fun _=>?_
 refine V0 H (fun H=>?_) fun H=>?_
 .refine wP ?_
  replace H:=sI H;subst H
  exact wN [(2,.d),(3,.d)] [(2,[.n 1,.n 4,.d,.n 1,.n 4])] [] [] [none] [⟨_,nw_I ([]:List Int)⟩,⟨_,Y7 ([]:List Node)⟩,⟨_,U7 ([]:List (List Pt))⟩,⟨_,Xg ([]:List Pt)⟩]
 .refine wG [.u 38 (.ln _ _ fun _=>lm s1.topo.nodes L2)] fun q3=>?_
  refine X07 (fun(i4:Nat) (v4:(List (List Pt)))=>⟨[(1,.ptr 1 0),(2,.ptr 2 0),(4,.ptr 4 0),(37,.sl .rd 4 (s1.topo.nodes.map L2)),(38,.int .i64 (s1.topo.nodes.length:Int)),(39,.int .i64 (i4:Int))],[],[(1,(Q2 .rd s1).cells),(2,[.nl,.nl,.nl,.nl,.nl]),(4,[.sl .rd 1 (s1.topo.parents.map eI),.sl .rd 4 (s1.topo.nodes.map L2),.sl .rd 1 (s1.up.map eBo),.sref 260000,.nl])],[(260000,⟨1,v4.map (O1 .nw),false⟩)]⟩) [] [(4,[.d,.d,.d,.z 260000,.d])] [(260000,(none,1))] [] (by kernel_rfl) (by kernel_rfl) H (fun i4 x4 v4 I m k4 hxv4 hiv4 H N24=>?_) (fun v4 I m H=>?_)
  .unfold Lu at H
   refine wP ?_
   refine wt (ltT hiv4) ?_
   obtain⟨xs5,h5,H⟩:=bB H
   refine wG [.u 41 (.ix _ _ _ fun _=>Y0 L2 (Q0 hxv4)),.c 46 (Q04 x4.cap),.u 53 (.ap _ _ _ _ fun _=>M0 (O1 .nw) h5),.w 55 (wi .i64 rfl hiv4 q3.1)] fun _=>?_
   exact wT (N24 _ H)
  .unfold Mu at H
   refine wP ?_
   refine wf (ltF s1.topo.nodes.length) ?_
   obtain⟨y6,h6,H⟩:=bB H
   refine wG [.c 59 (Q04 s1.lic),.u 64 (.call _ _ _ _ _ (AEs.of (xs:=[.agg [rV 1 (s1.topo.parents.map eI),rV 4 (s1.topo.nodes.map L2),rV 1 (s1.up.map eBo),rV 1 (v4.map (O1 .nw)),rV 4 (((U5 s1.lic).1).map ePt)]]) (by simp)) (fun _=>M03 h6))] fun _=>?_
   replace H:=sI H;subst H
   exact wN [(2,.d),(3,.d)] [(2,[.d,.d,.d,.f,.d])] [(65000,some 65000,0)] [65001] [some 65000] [⟨_,nw_I y6.topo.parents⟩,⟨_,Y7 y6.topo.nodes⟩,⟨_,U7 y6.profs⟩,⟨_,Xg y6.lics⟩,⟨_,OF y6.up⟩]
def M0O:L :=
sR [.bx 1 0,.al 2 [.nl,.nl,.nl,.nl,.nl],.mv 3 (cB false)]
 (sR [lT 13 1 11,cQ 14 W07 [13],mV 12 14,eX 15 12 0,eX 16 12 1,.al 4 [.nl,.nl,.nl,.nl,.nl],.st 4 15 5,mV 5 16]
 (.seq (sR [mV 17 5,.un 18 17,mV 19 18,gF 19 (fA 20 1 7),gF 19 (lF 21 20 1),gF 19 (cQ 22 W7 [21]),gF 19 (.un 23 22),.pk 24 19 (cB true) 23]
 (.cond 24 (sR [.bd 25 [.nl,.nl,.nl,.nl,.nl] [],.st 2 25 5,.mv 3 (cB false)]
 gR)
 .skip))
 (.seq (sR [fA 26 1 9,lF 27 26 1,.ln 28 27,.mv 29 (kI 0)]
 (.blk 0 (.loop (.gw (sR [bI 30 .lss 29 28]
 (.seq (.cond 30 .skip
 (.exit 0))
 (.seq (.blk 1 (sR [iA 31 27 29 13,lT 32 31 13,.al 7 [.int .i64 0,.int .i64 0,.int .i64 0,.int .i64 0,.int .i64 0,.int .i64 0,.int .i64 0,.int .i64 0,.int .i64 0,.int .i64 0,.int .i64 0,.int .i64 0,.nl],.st 7 32 13]
 (sR [fA 33 7 11,lF 34 33 1,fA 35 7 0,fA 36 35 9,lF 37 36 1,bI 38 .add 34 37,mV 8 38]
 (.seq (sR [lT 39 4 5,fA 40 7 0,lT 41 40 11,fA 42 7 12,lF 43 42 1,cQ 44 VT [39,41,43],.un 45 44,mV 46 45,gF 46 (fA 47 7 11),gF 46 (lF 48 47 1),gF 46 (cQ 49 W7 [48]),gF 46 (.un 50 49),.pk 51 46 (cB true) 50,mV 52 51,gF 52 (fA 53 7 11),gF 52 (lF 54 53 1),gF 52 (fA 55 1 7),gF 52 (lF 56 55 1),gF 52 (bI 57 .gtr 54 56),.pk 58 52 (cB true) 57,mV 59 58,gF 59 (mV 60 8),gF 59 (fA 61 1 7),gF 59 (lF 62 61 1),gF 59 (bI 63 .leq 60 62),.pk 64 59 (cB true) 63,mV 65 64,gF 65 (mV 66 8),gF 65 (.bi 67 .gtr 66 (kI 1000000000)),.pk 68 65 (cB true) 67]
 (.cond 68 (sR [.bd 69 [.nl,.nl,.nl,.nl,.nl] [],.st 2 69 5,.mv 3 (cB false)]
 gR)
 .skip))
 (sR [fA 70 7 0,lT 71 70 11,.al 9 [.int .i64 0,.int .i64 0,.int .i64 0,.int .i64 0,.int .i64 0,.int .i64 0,.int .i64 0,.int .i64 0,.int .i64 0,.int .i64 0,.int .i64 0],.st 9 71 11]
 (sR [mV 72 8,fA 73 1 7,lF 74 73 1,bI 75 .sub 72 74,fA 76 9 9,.st 76 75 1]
 (sR [lT 78 4 5,lT 79 9 11,fA 80 1 7,lF 81 80 1,fA 82 7 12,lF 83 82 1,cQ 84 X0d [78,79,81,83],mV 77 84,eX 85 77 0,eX 86 77 1,.al 10 [.nl,.nl,.nl,.nl,.nl],.st 10 85 5,mV 11 86]
 (.seq (sR [mV 87 11,.un 88 87]
 (.cond 88 (sR [.bd 89 [.nl,.nl,.nl,.nl,.nl] [],.st 2 89 5,.mv 3 (cB false)]
 gR)
 .skip))
 (.reg [lT 90 10 5,.st 4 90 5])))))))))
 (.reg [.bi 91 .add 29 (kI 1),mV 29 91]))))))))
 (sR [lT 92 4 5,.st 2 92 5,.mv 3 (cB true)]
 gR))))
def Oq(s1:State)(x4:Run)(_:Nat)(v4:Room)(k4:Room->Option (Room×Bool)):Option (Room×Bool) :=
 (Mo v4 x4.job x4.nodes).bind fun b5=>bif (((((!b5)||(!(W4 x4.t)))||(decide (s1.now<x4.t)))||(decide ((w64 (x4.t+x4.job.wall))<=s1.now)))||(decide (1000000000<(w64 (x4.t+x4.job.wall)))))then(some ((Room.mk (Topo.mk [] []) [] [] []),false))else((QA v4 (Job.mk x4.job.id x4.job.prio x4.job.nodes x4.job.need x4.job.lic (w64 ((w64 (x4.t+x4.job.wall))-s1.now)) x4.job.level) s1.now x4.nodes).bind fun y6=>bif (!y6.2)then(some ((Room.mk (Topo.mk [] []) [] [] []),false))else(k4 y6.1))
def X04(v4:Room):Option (Room×Bool) :=
 some (v4,true)
def Vc(s1:State):Option (Room×Bool) :=
 (Yq s1).bind fun y2=>bif ((!y2.2)||(!(W4 s1.now)))then(some ((Room.mk (Topo.mk [] []) [] [] []),false))else(rgl (Oq s1) X04 s1.runs 0 y2.1)
theorem Y0b{s1:State}{r:Room×Bool}(H:Vc s1=some r):Snd Tryz.prog X00 [Q2 .rd s1] (.tup [Ye .nw r.1,.bool r.2]) []:=by
 refine wS M0O [.c 2 5 true,.t 3] ?_
 unfold Vc at H
 obtain⟨y2,h2,H⟩:=bB H
 refine wG [.c 14 (Q0t h2),.g 22 [((!y2.2),false)] (.call _ _ _ _ _ (AEs.refl _) (fun _=>L9 s1.now))] fun _=>?_
 refine V0 H (fun H=>?_) fun H=>?_
 .refine wP ?_
  replace H:=sI H;subst H
  exact wN [(2,.d),(3,.d)] [(2,[.n 1,.n 4,.n 1,.n 1,.n 4])] [] [] [] [⟨_,nw_I ([]:List Int)⟩,⟨_,Y7 ([]:List Node)⟩,⟨_,OF ([]:List Bool)⟩,⟨_,U7 ([]:List (List Pt))⟩,⟨_,Xg ([]:List Pt)⟩]
 .refine wG [.u 28 (.ln _ _ fun _=>lm s1.runs (L0 .rd))] fun q3=>?_
  refine wR (fun(i4:Nat) (v4:Room)=>⟨[(1,.ptr 1 0),(2,.ptr 2 0),(4,.ptr 4 0),(27,rV 13 (s1.runs.map (L0 .rd))),(28,iV (s1.runs.length:Int)),(29,iV (i4:Int))],[],[(1,(Q2 .rd s1).cells),(2,[.nl,.nl,.nl,.nl,.nl]),(4,(Ye .nw v4).cells)],[]⟩) H (fun i4 x4 v4 I m k4 hxv4 hiv4 H N46=>?_) (fun v4 I m H=>?_)
  .unfold Oq at H
   refine wP ?_
   refine wt (ltT hiv4) ?_
   obtain⟨b5,h5,H⟩:=bB H
   refine wG [.u 31 (.ix _ _ _ fun _=>Y0 (L0 .rd) (Q0 hxv4)),.u 44 (.call _ _ _ _ _ (AEs.of (xs:=[.agg [rV 1 (v4.topo.parents.map eI),rV 4 (v4.topo.nodes.map L2),rV 1 (v4.up.map eBo),rV 1 (v4.profs.map (O1 .nw)),rV 4 (v4.lics.map ePt)],.agg [iV x4.job.id,iV x4.job.prio,iV x4.job.nodes,iV x4.job.need.a,iV x4.job.need.b,iV x4.job.need.c,iV x4.job.lic.a,iV x4.job.lic.b,iV x4.job.lic.c,iV x4.job.wall,iV x4.job.level],rV 1 (x4.nodes.map eI)]) (by simp)) (fun _=>W03 h5)),.g 49 [((!b5),false)] (.call _ _ _ _ _ (AEs.refl _) (fun _=>L9 x4.t))] fun _=>?_
   refine V0 H (fun H=>?_) fun H=>?_
   .refine wP ?_
    replace H:=sI H;subst H
    exact wN [(2,.d),(3,.d)] [(2,[.n 1,.n 4,.n 1,.n 1,.n 4])] [] [] [] [⟨_,nw_I ([]:List Int)⟩,⟨_,Y7 ([]:List Node)⟩,⟨_,OF ([]:List Bool)⟩,⟨_,U7 ([]:List (List Pt))⟩,⟨_,Xg ([]:List Pt)⟩]
   .obtain⟨y6,h6,H⟩:=bB H
    refine wG [.u 84 (.call _ _ _ _ _ (AEs.of (xs:=[.agg [rV 1 (v4.topo.parents.map eI),rV 4 (v4.topo.nodes.map L2),rV 1 (v4.up.map eBo),rV 1 (v4.profs.map (O1 .nw)),rV 4 (v4.lics.map ePt)],.agg [iV x4.job.id,iV x4.job.prio,iV x4.job.nodes,iV x4.job.need.a,iV x4.job.need.b,iV x4.job.need.c,iV x4.job.lic.a,iV x4.job.lic.b,iV x4.job.lic.c,iV (w64 ((w64 (x4.t+x4.job.wall))-s1.now)),iV x4.job.level],iV s1.now,rV 1 (x4.nodes.map eI)]) (by simp)) (fun _=>Q0A h6))] fun _=>?_
    refine V0 H (fun H=>?_) fun H=>?_
    .refine wP ?_
     replace H:=sI H;subst H
     exact wN [(2,.d),(3,.d)] [(2,[.n 1,.n 4,.n 1,.n 1,.n 4])] [] [] [] [⟨_,nw_I ([]:List Int)⟩,⟨_,Y7 ([]:List Node)⟩,⟨_,OF ([]:List Bool)⟩,⟨_,U7 ([]:List (List Pt))⟩,⟨_,Xg ([]:List Pt)⟩]
    .refine wG [.w 91 (wi .i64 rfl hiv4 q3.1)] fun _=>?_
     exact wT (N46 _ H)
  .unfold X04 at H
   refine wP ?_
   refine wf (ltF s1.runs.length) ?_
   refine wP ?_
   replace H:=sI H;subst H
   exact wN [(2,.d),(3,.d)] [(2,[])] [] [] [] [⟨_,nw_I v4.topo.parents⟩,⟨_,Y7 v4.topo.nodes⟩,⟨_,OF v4.up⟩,⟨_,U7 v4.profs⟩,⟨_,Xg v4.lics⟩]
def J0E:L :=
sR [.bx 1 0,.mv 2 (.c (.nl))]
 (sR [.bs 6 11 [] true,fA 7 1 8,lF 8 7 1,.ap 9 6 8 11 88,mV 3 9]
 (.seq (sR [fA 10 1 9,lF 11 10 1,.ln 12 11,.mv 13 (kI 0)]
 (.blk 0 (.loop (.gw (sR [bI 14 .lss 13 12]
 (.seq (.cond 14 .skip
 (.exit 0))
 (.seq (.blk 1 (sR [iA 15 11 13 13,lT 16 15 13,.al 5 [.int .i64 0,.int .i64 0,.int .i64 0,.int .i64 0,.int .i64 0,.int .i64 0,.int .i64 0,.int .i64 0,.int .i64 0,.int .i64 0,.int .i64 0,.int .i64 0,.nl],.st 5 16 13]
 (.reg [mV 17 3,fA 18 5 0,lT 19 18 11,.bs 20 11 [19] false,.ap 21 17 20 11 88,mV 3 21])))
 (.reg [.bi 22 .add 13 (kI 1),mV 13 22]))))))))
 (sR [mV 23 3,mV 2 23]
 gR)))
def JB(x4:Run)(_:Nat)(v4:(List Job))(k4:(List Job)->Option (List Job)):Option (List Job) :=
 (appL 88 v4 [x4.job]).bind fun xs5=>k4 xs5
def LB(v4:(List Job)):Option (List Job) :=
 some v4
def Mg(s1:State):Option (List Job) :=
 (appL 88 ([]:List Job) s1.queue).bind fun xs2=>rgl JB LB s1.runs 0 xs2
theorem X03{s1:State}{r:(List Job)}(H:Mg s1=some r):Snd Tryz.prog ZT [Q2 .rd s1] (nV 11 (r.map eJob)) []:=by
 refine wS J0E [.t 2] ?_
 unfold Mg at H
 obtain⟨xs2,h2,H⟩:=bB H
 refine wG [.u 9 (.ap _ _ _ _ fun _=>M0 eJob h2),.u 12 (.ln _ _ fun _=>lm s1.runs (L0 .rd))] fun q3=>?_
 refine wR (fun(i4:Nat) (v4:(List Job))=>⟨[(3,.sref 6),(11,rV 13 (s1.runs.map (L0 .rd))),(12,iV (s1.runs.length:Int)),(13,iV (i4:Int))],[],[],[(6,⟨11,v4.map eJob,false⟩)]⟩) H (fun i4 x4 v4 I m k4 hxv4 hiv4 H N15=>?_) (fun v4 I m H=>?_)
 .unfold JB at H
  refine wP ?_
  refine wt (ltT hiv4) ?_
  obtain⟨xs5,h5,H⟩:=bB H
  refine wG [.u 15 (.ix _ _ _ fun _=>Y0 (L0 .rd) (Q0 hxv4)),.u 21 (.ap _ _ _ _ fun _=>M0 eJob h5),.w 22 (wi .i64 rfl hiv4 q3.1)] fun _=>?_
  exact wT (N15 _ H)
 .unfold LB at H
  refine wP ?_
  refine wf (ltF s1.runs.length) ?_
  refine wP ?_
  replace H:=sI H;subst H
  exact wN [(2,.f)] [] [] [6] [] [⟨_,Z0U v4⟩]
def J0F:L :=
sR [.bx 1 0,.mv 2 (cB false)]
 (sR [lT 12 1 11,cQ 13 X00 [12],mV 11 13,eX 14 11 0,eX 15 11 1,.al 3 [.nl,.nl,.nl,.nl,.nl],.st 3 14 5,mV 4 15]
 (.seq (sR [mV 16 4,.un 17 16,mV 18 17,gF 18 (fA 19 1 6),gF 18 (lF 20 19 1),gF 18 (.bi 21 .lss 20 (kI 0)),.pk 22 18 (cB true) 21,mV 23 22,gF 23 (fA 24 1 6),gF 23 (lF 25 24 1),gF 23 (.bi 26 .gtr 25 (kI 60)),.pk 27 23 (cB true) 26,mV 28 27,gF 28 (lT 29 1 11),gF 28 (cQ 30 ZT [29]),gF 28 (cQ 31 V0d [30]),gF 28 (.un 32 31),.pk 33 28 (cB true) 32,mV 34 33,gF 34 (fA 35 1 10),gF 34 (lF 36 35 1),gF 34 (.ln 37 36),gF 34 (.bi 38 .gtr 37 (kI 300)),.pk 39 34 (cB true) 38]
 (.cond 39 (.seq (rE 2 (cB false))
 gR)
 .skip))
 (.seq (sR [fA 40 1 9,lF 41 40 1,.ln 42 41,.mv 43 (kI 0)]
 (.blk 0 (.loop (.gw (sR [bI 44 .lss 43 42]
 (.seq (.cond 44 .skip
 (.exit 0))
 (.seq (.blk 1 (sR [iA 45 41 43 13,lT 46 45 13,.al 6 [.int .i64 0,.int .i64 0,.int .i64 0,.int .i64 0,.int .i64 0,.int .i64 0,.int .i64 0,.int .i64 0,.int .i64 0,.int .i64 0,.int .i64 0,.int .i64 0,.nl],.st 6 46 13]
 (.seq (sR [fA 47 6 12,lF 48 47 1,.ln 49 48,.mv 50 (kI 0)]
 (.blk 2 (.loop (.gw (sR [bI 51 .lss 50 49]
 (.seq (.cond 51 .skip
 (.exit 2))
 (.seq (.blk 3 (sR [mV 52 50,iA 53 48 50 1,lF 54 53 1,mV 7 52,mV 8 54]
 (sR [fA 55 1 2,lF 56 55 1,mV 57 8,iA 58 56 57 1,lF 59 58 1,.un 60 59,mV 61 60,gF 61 (mV 62 7),gF 61 (.bi 63 .gtr 62 (kI 0)),gF 61 (mV 64 63),gT 64 (fA 65 6 12),gT 64 (lF 66 65 1),gT 64 (mV 67 7),gT 64 (.bi 68 .sub 67 (kI 1)),gT 64 (iA 69 66 68 1),gT 64 (lF 70 69 1),gT 64 (mV 71 8),gT 64 (bI 72 .geq 70 71),gF 61 (.pk 73 64 72 (cB false)),.pk 74 61 (cB true) 73]
 (.cond 74 (.seq (rE 2 (cB false))
 gR)
 .skip))))
 (.reg [.bi 75 .add 50 (kI 1),mV 50 75]))))))))
 (.seq (.rq 12 [fA 76 1 0,lT 77 76 2,fA 78 1 0,lT 79 78 2,fA 80 6 12,lF 81 80 1,cQ 82 Y0l [79,81],cQ 83 O5 [77,82],fA 84 6 0,fA 85 84 10,lF 86 85 1,bI 87 .gtr 83 86])
 (.cond 87 (.seq (rE 2 (cB false))
 gR)
 .skip)))))
 (.reg [.bi 88 .add 43 (kI 1),mV 43 88]))))))))
 (.seq (sR [fA 89 1 10,lF 90 89 1,.ln 91 90,.mv 92 (kI 0)]
 (.blk 4 (.loop (.gw (sR [bI 93 .lss 92 91]
 (.seq (.cond 93 .skip
 (.exit 4))
 (.seq (.blk 5 (sR [iA 94 90 92 3,lT 95 94 3,.al 10 [.int .i64 0,.int .i64 0,.int .i64 0],.st 10 95 3]
 (sR [fA 96 10 0,lF 97 96 1,.bi 98 .lss 97 (kI 1),mV 99 98,gF 99 (fA 100 10 0),gF 99 (lF 101 100 1),gF 99 (.bi 102 .gtr 101 (kI 999)),.pk 103 99 (cB true) 102,mV 104 103,gF 104 (fA 105 10 1),gF 104 (lF 106 105 1),gF 104 (.bi 107 .lss 106 (kI 0)),.pk 108 104 (cB true) 107,mV 109 108,gF 109 (fA 110 10 1),gF 109 (lF 111 110 1),gF 109 (fA 112 1 7),gF 109 (lF 113 112 1),gF 109 (bI 114 .gtr 111 113),.pk 115 109 (cB true) 114,mV 116 115,gF 116 (fA 117 10 2),gF 116 (lF 118 117 1),gF 116 (.bi 119 .lss 118 (kI 1)),.pk 120 116 (cB true) 119,mV 121 120,gF 121 (fA 122 10 2),gF 121 (lF 123 122 1),gF 121 (.bi 124 .gtr 123 (kI 4)),.pk 125 121 (cB true) 124]
 (.cond 125 (.seq (rE 2 (cB false))
 gR)
 .skip))))
 (.reg [.bi 126 .add 92 (kI 1),mV 92 126]))))))))
 (.seq (rE 2 (cB true))
 gR)))))
def Jm(s1:State)(x6:Run)(x8:Int)(i8:Nat)(_:Unit)(k8:Unit->Option Bool):Option Bool :=
 (idx s1.up x8).bind fun e9=>(bif (!e9)then some default else(bif (decide (0<(i8:Int)))then(idx x6.nodes (w64 ((i8:Int)-1)))else some default)).bind fun e10=>bif ((!e9)||((decide (0<(i8:Int)))&&(decide (x8<=e10))))then(some false)else(k8 ())
def V8(s1:State)(x6:Run)(k6:Unit->Option Bool)(_:Unit):Option Bool :=
 (Zo s1.topo x6.nodes).bind fun n11=>(V7 s1.topo n11).bind fun n12=>bif (decide (x6.job.level<n12))then(some false)else(k6 ())
def Mm(s1:State)(x14:End)(_:Nat)(_:Unit)(k14:Unit->Option Bool):Option Bool :=
 bif ((((((decide (x14.id<1))||(decide (999<x14.id)))||(decide (x14.t<0)))||(decide (s1.now<x14.t)))||(decide (x14.why<1)))||(decide (4<x14.why)))then(some false)else(k14 ())
def WC(_:Unit):Option Bool :=
 some true
def Lm(s1:State)(x6:Run)(_:Nat)(_:Unit)(k6:Unit->Option Bool):Option Bool :=
 rgl (Jm s1 x6) (V8 s1 x6 k6) x6.nodes 0 ()
def OC(s1:State)(_:Unit):Option Bool :=
 rgl (Mm s1) WC s1.ends 0 ()
def Zp(s1:State):Option Bool :=
 (Vc s1).bind fun y2=>(bif (((!y2.2)||(decide (s1.depth<0)))||(decide (60<s1.depth)))then some default else(Mg s1)).bind fun y3=>(bif (((!y2.2)||(decide (s1.depth<0)))||(decide (60<s1.depth)))then some default else(WA y3)).bind fun b4=>bif (((((!y2.2)||(decide (s1.depth<0)))||(decide (60<s1.depth)))||(!b4))||(decide (300<(s1.ends.length:Int))))then(some false)else(rgl (Lm s1) (OC s1) s1.runs 0 ())
theorem Z04{s1:State}{r:Bool}(H:Zp s1=some r):Snd Tryz.prog QT [Q2 .rd s1] (.bool r) []:=by
 refine wS J0F [.t 2] ?_
 unfold Zp at H
 obtain⟨y2,h2,H⟩:=bB H
 obtain⟨y3,h3,H⟩:=bB H
 obtain⟨b4,h4,H⟩:=bB H
 refine wG [.c 13 (Y0b h2),.g 30 [(_,false)] (.call _ _ _ _ _ (AEs.refl _) (fun q=>X03 (bF q.1 h3))),.g 31 [(_,false)] (.call _ _ _ _ _ (AEs.refl _) (fun q=>O0A (bF q.1 h4))),.g 37 [(((((!y2.2)||(decide (s1.depth<0)))||(decide (60<s1.depth)))||(!b4)),false)] (.ln _ _ fun _=>lm s1.ends eEnd)] fun _=>?_
 refine V0 H (fun H=>?_) fun H=>?_
 .obtain rfl:=sI H
  exact wP (wE [(2,.d)])
 .refine wG [.u 42 (.ln _ _ fun _=>lm s1.runs (L0 .rd))] fun q5=>?_
  refine wR (fun(i6:Nat) (v6:Unit)=>⟨[(1,.ptr 1 0),(41,rV 13 (s1.runs.map (L0 .rd))),(42,iV (s1.runs.length:Int)),(43,iV (i6:Int))],[],[(1,(Q2 .rd s1).cells)],[]⟩) H (fun i6 x6 v6 I m k6 hxv6 hiv6 H N51=>?_) (fun v6 I m H=>?_)
  .unfold Lm at H
   refine wP ?_
   refine wt (ltT hiv6) ?_
   refine wG [.u 45 (.ix _ _ _ fun _=>Y0 (L0 .rd) (Q0 hxv6)),.u 49 (.ln _ _ fun _=>lm x6.nodes eI)] fun q7=>?_
   refine wR (fun(i8:Nat) (v8:Unit)=>⟨[(1,.ptr 1 0),(6,.ptr 6 0),(41,rV 13 (s1.runs.map (L0 .rd))),(42,iV (s1.runs.length:Int)),(43,iV (i6:Int)),(48,rV 1 (x6.nodes.map eI)),(49,iV (x6.nodes.length:Int)),(50,iV (i8:Int))],[],[(1,(Q2 .rd s1).cells),(6,(L0 .rd x6).cells)],[]⟩) H (fun i8 x8 v8 I m k8 hxv8 hiv8 H N34=>?_) (fun v8 I m H=>?_)
   .unfold Jm at H
    refine wP ?_
    refine wt (ltT hiv8) ?_
    obtain⟨e9,h9,H⟩:=bB H
    obtain⟨e10,h10,H⟩:=bB H
    refine wG [.u 53 (.ix _ _ _ fun _=>Y0 eI (Q0 hxv8)),.u 58 (.ix _ _ _ fun _=>Y0 eBo h9),.g 69 [(_,true),(_,false)] (.ix _ _ _ fun q=>Y0 eI (bT q.1 (bF q.2.1 h10)))] fun _=>?_
    refine V0 H (fun H=>?_) fun H=>?_
    .obtain rfl:=sI H
     exact wP (wE [(2,.d)])
    .refine wG [.w 75 (wi .i64 rfl hiv8 q7.1)] fun _=>?_
     exact wT (N34 () H)
   .unfold V8 at H
    refine wP ?_
    refine wf (ltF x6.nodes.length) ?_
    obtain⟨n11,h11,H⟩:=bB H
    obtain⟨n12,h12,H⟩:=bB H
    refine wG [.c 82 (X0L h11),.c 83 (X8 h12)] fun _=>?_
    refine V0 H (fun H=>?_) fun H=>?_
    .obtain rfl:=sI H
     exact wP (wE [(2,.d)])
    .refine wG [.w 88 (wi .i64 rfl hiv6 q5.1)] fun _=>?_
     exact wT (N51 () H)
  .unfold OC at H
   refine wP ?_
   refine wf (ltF s1.runs.length) ?_
   refine wG [.u 91 (.ln _ _ fun _=>lm s1.ends eEnd)] fun q13=>?_
   refine wR (fun(i14:Nat) (v14:Unit)=>⟨[(1,.ptr 1 0),(90,rV 3 (s1.ends.map eEnd)),(91,iV (s1.ends.length:Int)),(92,iV (i14:Int))],[],[(1,(Q2 .rd s1).cells)],[]⟩) H (fun i14 x14 v14 I m k14 hxv14 hiv14 H N73=>?_) (fun v14 I m H=>?_)
   .unfold Mm at H
    refine wP ?_
    refine wt (ltT hiv14) ?_
    refine wG [.u 94 (.ix _ _ _ fun _=>Y0 eEnd (Q0 hxv14))] fun _=>?_
    refine V0 H (fun H=>?_) fun H=>?_
    .obtain rfl:=sI H
     exact wP (wE [(2,.d)])
    .refine wG [.w 126 (wi .i64 rfl hiv14 q13.1)] fun _=>?_
     exact wT (N73 () H)
   .unfold WC at H
    refine wP ?_
    refine wf (ltF s1.ends.length) ?_
    obtain rfl:=sI H
    exact wP (wE [(2,.d)])
def L0o:L :=
sR [.bx 1 0,.al 2 [.nl,.nl,.nl,.int .i64 0,.int .i64 0,.int .i64 0,.int .i64 0,.int .i64 0,.nl,.nl,.nl]]
 (sR [fA 6 1 0,lT 7 6 2,cQ 8 Yu [7],fA 9 1 0,.st 9 8 2]
 (sR [fA 10 1 2,lF 11 10 1,.ap 12 (.c (.nl)) 11 1 1,fA 13 1 2,.st 13 12 1]
 (sR [fA 14 1 8,lF 15 14 1,.ap 16 (.c (.nl)) 15 11 88,fA 17 1 8,.st 17 16 1]
 (sR [.mv 3 (.c (.nl))]
 (.seq (sR [fA 18 1 9,lF 19 18 1,.ln 20 19,.mv 21 (kI 0)]
 (.blk 0 (.loop (.gw (sR [bI 22 .lss 21 20]
 (.seq (.cond 22 .skip
 (.exit 0))
 (.seq (.blk 1 (sR [iA 23 19 21 13,lT 24 23 13,.al 5 [.int .i64 0,.int .i64 0,.int .i64 0,.int .i64 0,.int .i64 0,.int .i64 0,.int .i64 0,.int .i64 0,.int .i64 0,.int .i64 0,.int .i64 0,.int .i64 0,.nl],.st 5 24 13]
 (sR [fA 25 5 12,lF 26 25 1,cQ 27 Xu [26],fA 28 5 12,.st 28 27 1]
 (.reg [mV 29 3,lT 30 5 13,.bs 31 13 [30] false,.ap 32 29 31 13 120,mV 3 32]))))
 (.reg [.bi 33 .add 21 (kI 1),mV 21 33]))))))))
 (sR [mV 34 3,fA 35 1 9,.st 35 34 1]
 (sR [fA 36 1 10,lF 37 36 1,.ap 38 (.c (.nl)) 37 3 24,fA 39 1 10,.st 39 38 1]
 (sR [lT 40 1 11,.st 2 40 11]
 gR))))))))
def Og(x6:Run)(_:Nat)(v6:(List Run))(k6:(List Run)->Option State):Option State :=
 (O6 x6.nodes).bind fun y7=>(appL 120 v6 [(Run.mk x6.job x6.t y7)]).bind fun xs8=>k6 xs8
def Ws(s1:State)(y2:Topo)(xs3:List Bool)(xs4:List Job)(v6:(List Run)):Option State :=
 (appL 24 ([]:List End) s1.ends).bind fun xs9=>some (State.mk y2 xs3 s1.lic s1.depth s1.now xs4 v6 xs9)
def Zg(s1:State):Option State :=
 (Lb s1.topo).bind fun y2=>(appL 1 ([]:List Bool) s1.up).bind fun xs3=>(appL 88 ([]:List Job) s1.queue).bind fun xs4=>rgl Og (Ws s1 y2 xs3 xs4) s1.runs 0 []
theorem JW{s1 r:State}(H:Zg s1=some r):Snd Tryz.prog UE [Q2 .rd s1] (.agg [nV 1 (r.topo.parents.map eI),nV 4 (r.topo.nodes.map L2),nV 1 (r.up.map eBo),iV r.lic.a,iV r.lic.b,iV r.lic.c,iV r.depth,iV r.now,.sref 0,.sref 1,.sref 2]) [⟨11,r.queue.map eJob,false⟩,⟨13,r.runs.map (L0 .nw),false⟩,⟨3,r.ends.map eEnd,false⟩]:=by
 refine wS L0o [.c 2 11 true] ?_
 unfold Zg at H
 obtain⟨y2,h2,H⟩:=bB H
 obtain⟨xs3,h3,H⟩:=bB H
 obtain⟨xs4,h4,H⟩:=bB H
 refine wG [.c 8 (XD h2),.u 12 (.ap _ _ _ _ fun _=>M0 eBo h3),.u 16 (.ap _ _ _ _ fun _=>M0 eJob h4),.u 20 (.ln _ _ fun _=>lm s1.runs (L0 .rd))] fun q5=>?_
 refine X07 (fun(i6:Nat) (v6:(List Run))=>⟨[(1,.ptr 1 0),(2,.ptr 2 0),(3,.sref 417002),(19,.sl .rd 13 (s1.runs.map (L0 .rd))),(20,.int .i64 (s1.runs.length:Int)),(21,.int .i64 (i6:Int))],[],[(1,[.sl .nw 1 (y2.parents.map eI),.sl .nw 4 (y2.nodes.map L2),.sref 12,.int .i64 s1.lic.a,.int .i64 s1.lic.b,.int .i64 s1.lic.c,.int .i64 s1.depth,.int .i64 s1.now,.sref 16,.sl .rd 13 (s1.runs.map (L0 .rd)),.sl .rd 3 (s1.ends.map eEnd)]),(2,[.nl,.nl,.nl,.int .i64 0,.int .i64 0,.int .i64 0,.int .i64 0,.int .i64 0,.nl,.nl,.nl])],[(12,⟨1,xs3.map eBo,false⟩),(16,⟨11,xs4.map eJob,false⟩),(417002,⟨13,v6.map (L0 .nw),false⟩)]⟩) [(3,.z 417002)] [] [(417002,(none,13))] [] (by kernel_rfl) (by kernel_rfl) H (fun i6 x6 v6 I m k6 hxv6 hiv6 H N20=>?_) (fun v6 I m H=>?_)
 .unfold Og at H
  refine wP ?_
  refine wt (ltT hiv6) ?_
  obtain⟨y7,h7,H⟩:=bB H
  obtain⟨xs8,h8,H⟩:=bB H
  refine wG [.u 23 (.ix _ _ _ fun _=>Y0 (L0 .rd) (Q0 hxv6)),.c 27 (VD h7),.u 32 (.ap _ _ _ _ fun _=>M0 (L0 .nw) h8),.w 33 (wi .i64 rfl hiv6 q5.1)] fun _=>?_
  exact wT (N20 _ H)
 .unfold Ws at H
  refine wP ?_
  refine wf (ltF s1.runs.length) ?_
  obtain⟨xs9,h9,H⟩:=bB H
  refine wG [.u 38 (.ap _ _ _ _ fun _=>M0 eEnd h9)] fun _=>?_
  replace H:=sI H;subst H
  exact wN [(2,.d)] [(2,[.d,.d,.f,.d,.d,.d,.d,.d,.d,.d,.d])] [(16,some 16,0),(417002,some 417002,0),(38,some 38,0)] [12] [some 16,some 417002,some 38] [⟨_,nw_I y2.parents⟩,⟨_,Y7 y2.nodes⟩,⟨_,OF xs3⟩,⟨_,Z0U xs4⟩,⟨_,Z0Z v6⟩,⟨_,V1i xs9⟩]
def V13:L :=
sR [.bx 3 0,.bx 5 2,.al 6 [.nl,.nl,.nl,.nl,.nl]]
 (sR [lT 12 3 2,cQ 13 Yu [12],mV 14 1,.ap 15 (.c (.nl)) 14 1 1,.bd 16 [.nl,.nl,.nl,.nl,.nl] [(0,2,13),(2,1,15)],.al 7 [.nl,.nl,.nl,.nl,.nl],.st 7 16 5]
 (.seq (sR [fA 17 3 1,lF 18 17 1,.ln 19 18,.mv 20 (kI 0)]
 (.blk 0 (.loop (.gw (sR [bI 21 .lss 20 19]
 (.seq (.cond 21 .skip
 (.exit 0))
 (.seq (.blk 1 (sR [iA 22 18 20 4,lT 23 22 4,.al 9 [.int .i64 0,.int .i64 0,.int .i64 0,.int .i64 0],.st 9 23 4]
 (sR [fA 25 9 1,lT 26 25 3,cQ 27 YA [26],mV 24 27,eX 28 24 0,eX 29 24 1,.al 10 [.nl],.st 10 28 1,mV 11 29]
 (.reg [fA 30 7 3,lF 31 30 1,lT 32 10 1,.bs 33 1 [32] false,.ap 34 31 33 1 24,fA 35 7 3,.st 35 34 1]))))
 (.reg [.bi 36 .add 20 (kI 1),mV 20 36]))))))))
 (sR [lT 38 5 3,cQ 39 YA [38],mV 37 39,eX 40 37 0,eX 41 37 1,fA 42 7 4,.st 42 40 1]
 (sR [lT 43 7 5,.st 6 43 5]
 gR))))
def US(x7:Node)(_:Nat)(v7:(List (List Pt)))(k7:(List (List Pt))->Option Room):Option Room :=
 (appL 24 v7 [(Qe x7.cap).1]).bind fun xs8=>k7 xs8
def VS(lic3:Vec)(y4:Topo)(xs5:List Bool)(v7:(List (List Pt))):Option Room :=
 some (Room.mk y4 xs5 v7 ((Qe lic3).1))
def MW(t1:Topo)(up2:List Bool)(lic3:Vec):Option Room :=
 (Lb t1).bind fun y4=>(appL 1 ([]:List Bool) up2).bind fun xs5=>rgl US (VS lic3 y4 xs5) t1.nodes 0 []
theorem Q14{t1:Topo}{up2:List Bool}{lic3:Vec}{r:Room}(H:MW t1 up2 lic3=some r):Snd Tryz.prog V0t [Y3 .rd t1,rV 1 (up2.map eBo),eVec lic3] (Ye .nw r) []:=by
 refine wS V13 [.c 6 5 true] ?_
 unfold MW at H
 obtain⟨y4,h4,H⟩:=bB H
 obtain⟨xs5,h5,H⟩:=bB H
 refine wG [.c 13 (XD h4),.u 15 (.ap _ _ _ _ fun _=>M0 eBo h5),.u 19 (.ln _ _ fun _=>lm t1.nodes L2)] fun q6=>?_
 refine X07 (fun(i7:Nat) (v7:(List (List Pt)))=>⟨[(5,.ptr 5 0),(6,.ptr 6 0),(7,.ptr 7 0),(18,.sl .rd 4 (t1.nodes.map L2)),(19,.int .i64 (t1.nodes.length:Int)),(20,.int .i64 (i7:Int))],[],[(5,(eVec lic3).cells),(6,[.nl,.nl,.nl,.nl,.nl]),(7,[.sl .nw 1 (y4.parents.map eI),.sl .nw 4 (y4.nodes.map L2),.sref 15,.sref 380001,.nl])],[(15,⟨1,xs5.map eBo,false⟩),(380001,⟨1,v7.map (O1 .nw),false⟩)]⟩) [] [(7,[.d,.d,.d,.z 380001,.d])] [(380001,(none,1))] [] (by kernel_rfl) (by kernel_rfl) H (fun i7 x7 v7 I m k7 hxv7 hiv7 H N17=>?_) (fun v7 I m H=>?_)
 .unfold US at H
  refine wP ?_
  refine wt (ltT hiv7) ?_
  obtain⟨xs8,h8,H⟩:=bB H
  refine wG [.u 22 (.ix _ _ _ fun _=>Y0 L2 (Q0 hxv7)),.c 27 (U06 x7.cap),.u 34 (.ap _ _ _ _ fun _=>M0 (O1 .nw) h8),.w 36 (wi .i64 rfl hiv7 q6.1)] fun _=>?_
  exact wT (N17 _ H)
 .unfold VS at H
  refine wP ?_
  refine wf (ltF t1.nodes.length) ?_
  refine wG [.c 39 (U06 lic3)] fun _=>?_
  replace H:=sI H;subst H
  exact wN [(6,.d)] [(6,[.d,.d,.f,.f,.d])] [] [15,380001] [] [⟨_,nw_I y4.parents⟩,⟨_,Y7 y4.nodes⟩,⟨_,OF xs5⟩,⟨_,U7 v7⟩,⟨_,Xg ((Qe lic3).1)⟩]
def O0R:L :=
sR [.bx 1 0,.al 2 [.nl,.nl,.nl,.nl,.nl],.mv 3 (cB false)]
 (.seq (sR [fA 9 1 0,lT 10 9 2,cQ 11 WH [10],.un 12 11,mV 13 12,gF 13 (fA 14 1 2),gF 13 (lF 15 14 1),gF 13 (.ln 16 15),gF 13 (fA 17 1 0),gF 13 (fA 18 17 1),gF 13 (lF 19 18 1),gF 13 (.ln 20 19),gF 13 (bI 21 .neq 16 20),.pk 22 13 (cB true) 21,mV 23 22,gF 23 (fA 24 1 3),gF 23 (lT 25 24 3),gF 23 (cQ 26 Q5 [25]),gF 23 (.un 27 26),.pk 28 23 (cB true) 27,mV 29 28,gF 29 (fA 30 1 7),gF 29 (lF 31 30 1),gF 29 (cQ 32 Zf [31]),gF 29 (.un 33 32),.pk 34 29 (cB true) 33]
 (.cond 34 (sR [.bd 35 [.nl,.nl,.nl,.nl,.nl] [],.st 2 35 5,.mv 3 (cB false)]
 gR)
 .skip))
 (sR [fA 36 1 0,lT 37 36 2,fA 38 1 2,lF 39 38 1,fA 40 1 3,lT 41 40 3,cQ 42 V0t [37,39,41],.al 4 [.nl,.nl,.nl,.nl,.nl],.st 4 42 5]
 (.seq (sR [fA 43 1 9,lF 44 43 1,.ln 45 44,.mv 46 (kI 0)]
 (.blk 0 (.loop (.gw (sR [bI 47 .lss 46 45]
 (.seq (.cond 47 .skip
 (.exit 0))
 (.seq (.blk 1 (sR [iA 48 44 46 13,lT 49 48 13,.al 6 [.int .i64 0,.int .i64 0,.int .i64 0,.int .i64 0,.int .i64 0,.int .i64 0,.int .i64 0,.int .i64 0,.int .i64 0,.int .i64 0,.int .i64 0,.int .i64 0,.nl],.st 6 49 13]
 (.seq (sR [fA 50 6 0,lT 51 50 11,cQ 52 Qi [51],.un 53 52,mV 54 53,gF 54 (fA 55 6 11),gF 54 (lF 56 55 1),gF 54 (fA 57 1 7),gF 54 (lF 58 57 1),gF 54 (.cq 59 Q1 [56,(kI 0),58]),gF 54 (.un 60 59),.pk 61 54 (cB true) 60,mV 62 61,gF 62 (fA 63 6 11),gF 62 (lF 64 63 1),gF 62 (fA 65 6 0),gF 62 (fA 66 65 9),gF 62 (lF 67 66 1),gF 62 (bI 68 .add 64 67),gF 62 (fA 69 1 7),gF 62 (lF 70 69 1),gF 62 (.bi 71 .add 70 (kI 1)),gF 62 (.cq 72 Q1 [68,71,(kI 1000000000)]),gF 62 (.un 73 72),.pk 74 62 (cB true) 73]
 (.cond 74 (sR [.bd 75 [.nl,.nl,.nl,.nl,.nl] [],.st 2 75 5,.mv 3 (cB false)]
 gR)
 .skip))
 (sR [lT 77 4 5,fA 78 6 0,lT 79 78 11,fA 80 1 7,lF 81 80 1,fA 82 6 11,lF 83 82 1,fA 84 6 0,fA 85 84 9,lF 86 85 1,bI 87 .add 83 86,fA 88 6 12,lF 89 88 1,.cq 90 Y0t [77,79,81,87,89,(.c (.fn Ui []))],mV 76 90,eX 91 76 0,eX 92 76 1,.al 7 [.nl,.nl,.nl,.nl,.nl],.st 7 91 5,mV 8 92]
 (.seq (sR [mV 93 8,.un 94 93]
 (.cond 94 (sR [.bd 95 [.nl,.nl,.nl,.nl,.nl] [],.st 2 95 5,.mv 3 (cB false)]
 gR)
 .skip))
 (.reg [lT 96 7 5,.st 4 96 5]))))))
 (.reg [.bi 97 .add 46 (kI 1),mV 46 97]))))))))
 (sR [lT 98 4 5,.st 2 98 5,.mv 3 (cB true)]
 gR))))
def Yt(s1:State)(x5:Run)(_:Nat)(v5:Room)(k5:Room->Option (Room×Bool)):Option (Room×Bool) :=
 bif (((!(W5 x5.job))||(!(Z0 x5.t 0 s1.now)))||(!(Z0 (w64 (x5.t+x5.job.wall)) (w64 (s1.now+1)) 1000000000)))then(some ((Room.mk (Topo.mk [] []) [] [] []),false))else((Y6 v5 x5.job s1.now (w64 (x5.t+x5.job.wall)) x5.nodes).bind fun y6=>bif (!y6.2)then(some ((Room.mk (Topo.mk [] []) [] [] []),false))else(k5 y6.1))
def Y06(v5:Room):Option (Room×Bool) :=
 some (v5,true)
def Ux(s1:State):Option (Room×Bool) :=
 (Yi s1.topo).bind fun b2=>bif ((((!b2)||((s1.up.length:Int)!=(s1.topo.nodes.length:Int)))||(!(J0 s1.lic)))||(!(J5 s1.now)))then(some ((Room.mk (Topo.mk [] []) [] [] []),false))else((MW s1.topo s1.up s1.lic).bind fun y3=>rgl (Yt s1) Y06 s1.runs 0 y3)
theorem V0c{s1:State}{r:Room×Bool}(H:Ux s1=some r):Snd Tryz.prog V01 [Q2 .rd s1] (.tup [Ye .nw r.1,.bool r.2]) []:=by
 refine wS O0R [.c 2 5 true,.t 3] ?_
 unfold Ux at H
 obtain⟨b2,h2,H⟩:=bB H
 refine wG [.c 11 (WS h2),.g 16 [((!b2),false)] (.ln _ _ fun _=>lm s1.up eBo),.g 20 [((!b2),false)] (.ln _ _ fun _=>lm s1.topo.nodes L2),.g 26 [(((!b2)||((s1.up.length:Int)!=(s1.topo.nodes.length:Int))),false)] (.call _ _ _ _ _ (AEs.refl _) (fun _=>M5 s1.lic)),.g 32 [((((!b2)||((s1.up.length:Int)!=(s1.topo.nodes.length:Int)))||(!(J0 s1.lic))),false)] (.call _ _ _ _ _ (AEs.refl _) (fun _=>Ul s1.now))] fun _=>?_
 refine V0 H (fun H=>?_) fun H=>?_
 .refine wP ?_
  replace H:=sI H;subst H
  exact wN [(2,.d),(3,.d)] [(2,[.n 1,.n 4,.n 1,.n 1,.n 4])] [] [] [] [⟨_,nw_I ([]:List Int)⟩,⟨_,Y7 ([]:List Node)⟩,⟨_,OF ([]:List Bool)⟩,⟨_,U7 ([]:List (List Pt))⟩,⟨_,Xg ([]:List Pt)⟩]
 .obtain⟨y3,h3,H⟩:=bB H
  refine wG [.c 42 (Q14 h3),.u 45 (.ln _ _ fun _=>lm s1.runs (L0 .rd))] fun q4=>?_
  refine wR (fun(i5:Nat) (v5:Room)=>⟨[(1,.ptr 1 0),(2,.ptr 2 0),(4,.ptr 4 0),(44,rV 13 (s1.runs.map (L0 .rd))),(45,iV (s1.runs.length:Int)),(46,iV (i5:Int))],[],[(1,(Q2 .rd s1).cells),(2,[.nl,.nl,.nl,.nl,.nl]),(4,(Ye .nw v5).cells)],[]⟩) H (fun i5 x5 v5 I m k5 hxv5 hiv5 H N40=>?_) (fun v5 I m H=>?_)
  .unfold Yt at H
   refine wP ?_
   refine wt (ltT hiv5) ?_
   refine wG [.u 48 (.ix _ _ _ fun _=>Y0 (L0 .rd) (Q0 hxv5)),.c 52 (Vt x5.job),.g 59 [((!(W5 x5.job)),false)] (.call _ _ _ _ _ (AEs.refl _) (fun _=>V1 x5.t 0 s1.now)),.g 72 [(((!(W5 x5.job))||(!(Z0 x5.t 0 s1.now))),false)] (.call _ _ _ _ _ (AEs.refl _) (fun _=>V1 (w64 (x5.t+x5.job.wall)) (w64 (s1.now+1)) 1000000000))] fun _=>?_
   refine V0 H (fun H=>?_) fun H=>?_
   .refine wP ?_
    replace H:=sI H;subst H
    exact wN [(2,.d),(3,.d)] [(2,[.n 1,.n 4,.n 1,.n 1,.n 4])] [] [] [] [⟨_,nw_I ([]:List Int)⟩,⟨_,Y7 ([]:List Node)⟩,⟨_,OF ([]:List Bool)⟩,⟨_,U7 ([]:List (List Pt))⟩,⟨_,Xg ([]:List Pt)⟩]
   .obtain⟨y6,h6,H⟩:=bB H
    refine wG [.u 90 (.call _ _ _ _ _ (AEs.of (xs:=[.agg [rV 1 (v5.topo.parents.map eI),rV 4 (v5.topo.nodes.map L2),rV 1 (v5.up.map eBo),rV 1 (v5.profs.map (O1 .nw)),rV 4 (v5.lics.map ePt)],.agg [iV x5.job.id,iV x5.job.prio,iV x5.job.nodes,iV x5.job.need.a,iV x5.job.need.b,iV x5.job.need.c,iV x5.job.lic.a,iV x5.job.lic.b,iV x5.job.lic.c,iV x5.job.wall,iV x5.job.level],iV s1.now,iV (w64 (x5.t+x5.job.wall)),rV 1 (x5.nodes.map eI),.fn Ui []]) (by simp)) (fun _=>WL h6))] fun _=>?_
    refine V0 H (fun H=>?_) fun H=>?_
    .refine wP ?_
     replace H:=sI H;subst H
     exact wN [(2,.d),(3,.d)] [(2,[.n 1,.n 4,.n 1,.n 1,.n 4])] [] [] [] [⟨_,nw_I ([]:List Int)⟩,⟨_,Y7 ([]:List Node)⟩,⟨_,OF ([]:List Bool)⟩,⟨_,U7 ([]:List (List Pt))⟩,⟨_,Xg ([]:List Pt)⟩]
    .refine wG [.w 97 (wi .i64 rfl hiv5 q4.1)] fun _=>?_
     exact wT (N40 _ H)
  .unfold Y06 at H
   refine wP ?_
   refine wf (ltF s1.runs.length) ?_
   refine wP ?_
   replace H:=sI H;subst H
   exact wN [(2,.d),(3,.d)] [(2,[])] [] [] [] [⟨_,nw_I v5.topo.parents⟩,⟨_,Y7 v5.topo.nodes⟩,⟨_,OF v5.up⟩,⟨_,U7 v5.profs⟩,⟨_,Xg v5.lics⟩]
def Z0p:L :=
sR [.bx 1 0,.mv 2 (.c (.nl))]
 (sR [.bs 6 11 [] true,fA 7 1 8,lF 8 7 1,.ap 9 6 8 11 88,mV 3 9]
 (.seq (sR [fA 10 1 9,lF 11 10 1,.ln 12 11,.mv 13 (kI 0)]
 (.blk 0 (.loop (.gw (sR [bI 14 .lss 13 12]
 (.seq (.cond 14 .skip
 (.exit 0))
 (.seq (.blk 1 (sR [iA 15 11 13 13,lT 16 15 13,.al 5 [.int .i64 0,.int .i64 0,.int .i64 0,.int .i64 0,.int .i64 0,.int .i64 0,.int .i64 0,.int .i64 0,.int .i64 0,.int .i64 0,.int .i64 0,.int .i64 0,.nl],.st 5 16 13]
 (.reg [mV 17 3,fA 18 5 0,lT 19 18 11,.bs 20 11 [19] false,.ap 21 17 20 11 88,mV 3 21])))
 (.reg [.bi 22 .add 13 (kI 1),mV 13 22]))))))))
 (sR [mV 23 3,mV 2 23]
 gR)))
def XQ(x4:Run)(_:Nat)(v4:(List Job))(k4:(List Job)->Option (List Job)):Option (List Job) :=
 (appL 88 v4 [x4.job]).bind fun xs5=>k4 xs5
def YQ(v4:(List Job)):Option (List Job) :=
 some v4
def Wl(s1:State):Option (List Job) :=
 (appL 88 ([]:List Job) s1.queue).bind fun xs2=>rgl XQ YQ s1.runs 0 xs2
theorem YX{s1:State}{r:(List Job)}(H:Wl s1=some r):Snd Tryz.prog WE [Q2 .rd s1] (nV 11 (r.map eJob)) []:=by
 refine wS Z0p [.t 2] ?_
 unfold Wl at H
 obtain⟨xs2,h2,H⟩:=bB H
 refine wG [.u 9 (.ap _ _ _ _ fun _=>M0 eJob h2),.u 12 (.ln _ _ fun _=>lm s1.runs (L0 .rd))] fun q3=>?_
 refine wR (fun(i4:Nat) (v4:(List Job))=>⟨[(3,.sref 6),(11,rV 13 (s1.runs.map (L0 .rd))),(12,iV (s1.runs.length:Int)),(13,iV (i4:Int))],[],[],[(6,⟨11,v4.map eJob,false⟩)]⟩) H (fun i4 x4 v4 I m k4 hxv4 hiv4 H N15=>?_) (fun v4 I m H=>?_)
 .unfold XQ at H
  refine wP ?_
  refine wt (ltT hiv4) ?_
  obtain⟨xs5,h5,H⟩:=bB H
  refine wG [.u 15 (.ix _ _ _ fun _=>Y0 (L0 .rd) (Q0 hxv4)),.u 21 (.ap _ _ _ _ fun _=>M0 eJob h5),.w 22 (wi .i64 rfl hiv4 q3.1)] fun _=>?_
  exact wT (N15 _ H)
 .unfold YQ at H
  refine wP ?_
  refine wf (ltF s1.runs.length) ?_
  refine wP ?_
  replace H:=sI H;subst H
  exact wN [(2,.f)] [] [] [6] [] [⟨_,Z0U v4⟩]
def W0H:L :=
sR [.bx 1 0,.mv 2 (cB false)]
 (.seq (sR [lT 12 1 11,cQ 13 V01 [12],mV 11 13,eX 14 11 0,eX 15 11 1,.al 3 [.nl,.nl,.nl,.nl,.nl],.st 3 14 5,mV 4 15]
 (sR [mV 16 4,.un 17 16,mV 18 17,gF 18 (fA 19 1 6),gF 18 (lF 20 19 1),gF 18 (.cq 21 Q1 [20,(kI 0),(kI 60)]),gF 18 (.un 22 21),.pk 23 18 (cB true) 22,mV 24 23,gF 24 (lT 25 1 11),gF 24 (cQ 26 WE [25]),gF 24 (cQ 27 L0d [26]),gF 24 (.un 28 27),.pk 29 24 (cB true) 28,mV 30 29,gF 30 (fA 31 1 10),gF 30 (lF 32 31 1),gF 30 (.ln 33 32),gF 30 (.bi 34 .gtr 33 (kI 300)),.pk 35 30 (cB true) 34]
 (.cond 35 (.seq (rE 2 (cB false))
 gR)
 .skip)))
 (.seq (sR [fA 36 1 9,lF 37 36 1,.ln 38 37,.mv 39 (kI 0)]
 (.blk 0 (.loop (.gw (sR [bI 40 .lss 39 38]
 (.seq (.cond 40 .skip
 (.exit 0))
 (.seq (.blk 1 (sR [iA 41 37 39 13,lT 42 41 13,.al 6 [.int .i64 0,.int .i64 0,.int .i64 0,.int .i64 0,.int .i64 0,.int .i64 0,.int .i64 0,.int .i64 0,.int .i64 0,.int .i64 0,.int .i64 0,.int .i64 0,.nl],.st 6 42 13]
 (.seq (sR [fA 43 6 12,lF 44 43 1,.ln 45 44,.mv 46 (kI 0)]
 (.blk 2 (.loop (.gw (sR [bI 47 .lss 46 45]
 (.seq (.cond 47 .skip
 (.exit 2))
 (.seq (.blk 3 (sR [iA 48 44 46 1,lF 49 48 1,mV 8 49]
 (sR [fA 50 1 2,lF 51 50 1,mV 52 8,iA 53 51 52 1,lF 54 53 1,.un 55 54]
 (.cond 55 (.seq (rE 2 (cB false))
 gR)
 .skip))))
 (.reg [.bi 56 .add 46 (kI 1),mV 46 56]))))))))
 (.seq (.rq 18 [fA 57 6 12,lF 58 57 1,cQ 59 VN [58],.un 60 59,mV 61 60,gF 61 (fA 62 1 0),gF 61 (lT 63 62 2),gF 61 (fA 64 1 0),gF 61 (lT 65 64 2),gF 61 (fA 66 6 12),gF 61 (lF 67 66 1),gF 61 (cQ 68 V0m [65,67]),gF 61 (cQ 69 WB [63,68]),gF 61 (fA 70 6 0),gF 61 (fA 71 70 10),gF 61 (lF 72 71 1),gF 61 (bI 73 .gtr 69 72),.pk 74 61 (cB true) 73])
 (.cond 74 (.seq (rE 2 (cB false))
 gR)
 .skip)))))
 (.reg [.bi 75 .add 39 (kI 1),mV 39 75]))))))))
 (.seq (sR [fA 76 1 10,lF 77 76 1,.ln 78 77,.mv 79 (kI 0)]
 (.blk 4 (.loop (.gw (sR [bI 80 .lss 79 78]
 (.seq (.cond 80 .skip
 (.exit 4))
 (.seq (.blk 5 (sR [iA 81 77 79 3,lT 82 81 3,.al 10 [.int .i64 0,.int .i64 0,.int .i64 0],.st 10 82 3]
 (sR [fA 83 10 0,lF 84 83 1,.cq 85 Q1 [84,(kI 1),(kI 999)],.un 86 85,mV 87 86,gF 87 (fA 88 10 1),gF 87 (lF 89 88 1),gF 87 (fA 90 1 7),gF 87 (lF 91 90 1),gF 87 (.cq 92 Q1 [89,(kI 0),91]),gF 87 (.un 93 92),.pk 94 87 (cB true) 93,mV 95 94,gF 95 (fA 96 10 2),gF 95 (lF 97 96 1),gF 95 (.cq 98 Q1 [97,(kI 1),(kI 4)]),gF 95 (.un 99 98),.pk 100 95 (cB true) 99]
 (.cond 100 (.seq (rE 2 (cB false))
 gR)
 .skip))))
 (.reg [.bi 101 .add 79 (kI 1),mV 79 101]))))))))
 (.seq (rE 2 (cB true))
 gR))))
def LD(s1:State)(x8:Int)(_:Nat)(_:Unit)(k8:Unit->Option Bool):Option Bool :=
 (idx s1.up x8).bind fun e9=>bif (!e9)then(some false)else(k8 ())
def MD(s1:State)(x6:Run)(k6:Unit->Option Bool)(_:Unit):Option Bool :=
 (Wd x6.nodes).bind fun b10=>(bif (!b10)then some default else(Qx s1.topo x6.nodes)).bind fun n11=>(bif (!b10)then some default else(Up s1.topo n11)).bind fun n12=>bif ((!b10)||(decide (x6.job.level<n12)))then(some false)else(k6 ())
def Qn(s1:State)(x14:End)(_:Nat)(_:Unit)(k14:Unit->Option Bool):Option Bool :=
 bif (((!(Z0 x14.id 1 999))||(!(Z0 x14.t 0 s1.now)))||(!(Z0 x14.why 1 4)))then(some false)else(k14 ())
def WD(_:Unit):Option Bool :=
 some true
def Wn(s1:State)(x6:Run)(_:Nat)(_:Unit)(k6:Unit->Option Bool):Option Bool :=
 rgl (LD s1) (MD s1 x6 k6) x6.nodes 0 ()
def OD(s1:State)(_:Unit):Option Bool :=
 rgl (Qn s1) WD s1.ends 0 ()
def Wp(s1:State):Option Bool :=
 (Ux s1).bind fun y2=>(bif ((!y2.2)||(!(Z0 s1.depth 0 60)))then some default else(Wl s1)).bind fun y3=>(bif ((!y2.2)||(!(Z0 s1.depth 0 60)))then some default else(QB y3)).bind fun b4=>bif ((((!y2.2)||(!(Z0 s1.depth 0 60)))||(!b4))||(decide (300<(s1.ends.length:Int))))then(some false)else(rgl (Wn s1) (OD s1) s1.runs 0 ())
theorem Z06{s1:State}{r:Bool}(H:Wp s1=some r):Snd Tryz.prog ZU [Q2 .rd s1] (.bool r) []:=by
 refine wS W0H [.t 2] ?_
 unfold Wp at H
 obtain⟨y2,h2,H⟩:=bB H
 obtain⟨y3,h3,H⟩:=bB H
 obtain⟨b4,h4,H⟩:=bB H
 refine wG [.c 13 (V0c h2),.g 21 [((!y2.2),false)] (.call _ _ _ _ _ (AEs.refl _) (fun _=>V1 s1.depth 0 60)),.g 26 [(_,false)] (.call _ _ _ _ _ (AEs.refl _) (fun q=>YX (bF q.1 h3))),.g 27 [(_,false)] (.call _ _ _ _ _ (AEs.refl _) (fun q=>V0I (bF q.1 h4))),.g 33 [((((!y2.2)||(!(Z0 s1.depth 0 60)))||(!b4)),false)] (.ln _ _ fun _=>lm s1.ends eEnd)] fun _=>?_
 refine V0 H (fun H=>?_) fun H=>?_
 .obtain rfl:=sI H
  exact wP (wE [(2,.d)])
 .refine wG [.u 38 (.ln _ _ fun _=>lm s1.runs (L0 .rd))] fun q5=>?_
  refine wR (fun(i6:Nat) (v6:Unit)=>⟨[(1,.ptr 1 0),(37,rV 13 (s1.runs.map (L0 .rd))),(38,iV (s1.runs.length:Int)),(39,iV (i6:Int))],[],[(1,(Q2 .rd s1).cells)],[]⟩) H (fun i6 x6 v6 I m k6 hxv6 hiv6 H N52=>?_) (fun v6 I m H=>?_)
  .unfold Wn at H
   refine wP ?_
   refine wt (ltT hiv6) ?_
   refine wG [.u 41 (.ix _ _ _ fun _=>Y0 (L0 .rd) (Q0 hxv6)),.u 45 (.ln _ _ fun _=>lm x6.nodes eI)] fun q7=>?_
   refine wR (fun(i8:Nat) (v8:Unit)=>⟨[(1,.ptr 1 0),(6,.ptr 6 0),(37,rV 13 (s1.runs.map (L0 .rd))),(38,iV (s1.runs.length:Int)),(39,iV (i6:Int)),(44,rV 1 (x6.nodes.map eI)),(45,iV (x6.nodes.length:Int)),(46,iV (i8:Int))],[],[(1,(Q2 .rd s1).cells),(6,(L0 .rd x6).cells)],[]⟩) H (fun i8 x8 v8 I m k8 hxv8 hiv8 H N35=>?_) (fun v8 I m H=>?_)
   .unfold LD at H
    refine wP ?_
    refine wt (ltT hiv8) ?_
    obtain⟨e9,h9,H⟩:=bB H
    refine wG [.u 48 (.ix _ _ _ fun _=>Y0 eI (Q0 hxv8)),.u 53 (.ix _ _ _ fun _=>Y0 eBo h9)] fun _=>?_
    refine V0 H (fun H=>?_) fun H=>?_
    .obtain rfl:=sI H
     exact wP (wE [(2,.d)])
    .refine wG [.w 56 (wi .i64 rfl hiv8 q7.1)] fun _=>?_
     exact wT (N35 () H)
   .unfold MD at H
    refine wP ?_
    refine wf (ltF x6.nodes.length) ?_
    obtain⟨b10,h10,H⟩:=bB H
    obtain⟨n11,h11,H⟩:=bB H
    obtain⟨n12,h12,H⟩:=bB H
    refine wG [.c 59 (Q0a h10),.g 68 [(_,false)] (.call _ _ _ _ _ (AEs.refl _) (fun q=>Z0T (bF q.1 h11))),.g 69 [(_,false)] (.call _ _ _ _ _ (AEs.refl _) (fun q=>OG (bF q.1 h12)))] fun _=>?_
    refine V0 H (fun H=>?_) fun H=>?_
    .obtain rfl:=sI H
     exact wP (wE [(2,.d)])
    .refine wG [.w 75 (wi .i64 rfl hiv6 q5.1)] fun _=>?_
     exact wT (N52 () H)
  .unfold OD at H
   refine wP ?_
   refine wf (ltF s1.runs.length) ?_
   refine wG [.u 78 (.ln _ _ fun _=>lm s1.ends eEnd)] fun q13=>?_
   refine wR (fun(i14:Nat) (v14:Unit)=>⟨[(1,.ptr 1 0),(77,rV 3 (s1.ends.map eEnd)),(78,iV (s1.ends.length:Int)),(79,iV (i14:Int))],[],[(1,(Q2 .rd s1).cells)],[]⟩) H (fun i14 x14 v14 I m k14 hxv14 hiv14 H N74=>?_) (fun v14 I m H=>?_)
   .unfold Qn at H
    refine wP ?_
    refine wt (ltT hiv14) ?_
    refine wG [.u 81 (.ix _ _ _ fun _=>Y0 eEnd (Q0 hxv14)),.c 85 (V1 x14.id 1 999),.g 92 [((!(Z0 x14.id 1 999)),false)] (.call _ _ _ _ _ (AEs.refl _) (fun _=>V1 x14.t 0 s1.now)),.g 98 [(((!(Z0 x14.id 1 999))||(!(Z0 x14.t 0 s1.now))),false)] (.call _ _ _ _ _ (AEs.refl _) (fun _=>V1 x14.why 1 4))] fun _=>?_
    refine V0 H (fun H=>?_) fun H=>?_
    .obtain rfl:=sI H
     exact wP (wE [(2,.d)])
    .refine wG [.w 101 (wi .i64 rfl hiv14 q13.1)] fun _=>?_
     exact wT (N74 () H)
   .unfold WD at H
    refine wP ?_
    refine wf (ltF s1.ends.length) ?_
    obtain rfl:=sI H
    exact wP (wE [(2,.d)])
theorem Y14(r:Room)(j:Job)(from_ to_:Int)(nodes:List Int):Y6 r j from_ to_ nodes=bif diffOk r j nodes then Z09 r j.need j.lic from_ to_ nodes else some Xr:=by
 unfold Y6 diffOk
 rw[X0c,bS,Zk]
 cases hr:roomOk r with
 |false=>rfl
 |true =>
  have hR:=XV.1 hr
  rw[Y0f hR.small.nodes]
  cases O0 j with
  |false=>rfl
  |true =>
   simp only[yL,Bool.or_self,yM,Bool.true_and,bS]
   cases(decide ((nodes.length:Int)=j.nodes)&&J3 r.topo nodes&&decide nodes.Nodup)with
   |false=>rfl
   |true =>
    simp only[yL,Bool.or_self,yM,yN]
    rw[L0x hR.small,bS]
    unfold Z09 Y9 Z9
    simp only[fun p f t v=>(J0f p f t v).1]
    rfl
def idsOk(l:List Job):Bool:=decide (l.map Job.id).Nodup
noncomputable def queueOk(l:List Job):Bool:=decide (l.length<=60)&&l.all O0&&idsOk l
theorem W1j{l:List Job}{i:Nat}{x:Job}(hx:l[i]?=some x):((l.take (i+1)).map Job.id).Nodup↔((l.take i).map Job.id).Nodup/\∀y∈l.take i,y.id≠x.id:=by
 obtain⟨hi,rfl⟩:=yB hx
 rw[List.take_succ_eq_append_getElem hi,List.map_append,List.nodup_append]
 constructor
 .intro h;exact⟨h.1,fun y hy e=>h.2.2 _ (List.mem_map_of_mem hy) _ (List.mem_singleton.2 rfl) e⟩
 .intro h;exact⟨h.1,by simp,fun a ha b hb e=>by
   obtain⟨y,hy,rfl⟩:=yY ha
   rw[show b=l[i].id by simpa using hb]at e
   exact h.2 y hy e⟩
theorem M0T{γ:Type}{bd:Job->Nat->Unit->(Unit->Option γ)->Option γ}{kk:Unit->Option γ}{r:Option γ}{l:List Job}
  (hb:∀i x k,l[i]?=some x->bd x i () k=bif (!O0 x)||(l.take i).any (fun y=>y.id==x.id)then r else k ()):rgl bd kk l 0 ()=bif l.all O0&&idsOk l then kk ()else r:=by
 refine Ud (fun i (_:Unit)=>(∀y∈l.take i,O0 y=true)/\((l.take i).map Job.id).Nodup) (fun o=>o=bif l.all O0&&idsOk l then kk ()else r) (fun i x b k hx hI hk=>?_) (fun b hI=>?_) (by simp)
 .have hil:=(yB hx).1
  rw[hb i x k hx]
  cases hj:O0 x with
  |false =>
   have:l.all O0=false:=List.all_eq_false.2 ⟨x,yE hx,by rw[hj];simp⟩
   rw[this];rfl
  |true =>
   cases hc:(l.take i).any (fun y=>y.id==x.id)with
   |true =>
    obtain⟨y,hy,he⟩:=List.any_eq_true.1 hc
    have:idsOk l=false:=by
     unfold idsOk
     rw[decide_eq_false_iff_not]
     intro q
     have q2:((l.take (i+1)).map Job.id).Nodup:=q.sublist ((List.take_sublist _ _).map _)
     exact((W1j hx).1 q2).2 y hy (by simpa using he)
    rw[this,Bool.and_false];rfl
   |false =>
    refine hk () ⟨fun y hy=>?_,(W1j hx).2 ⟨hI.2,fun y hy e=>?_⟩⟩
    .obtain⟨hi,rfl⟩:=yB hx
     rw[List.take_succ_eq_append_getElem hi]at hy
     rcases List.mem_append.1 hy with hy|hy
     .exact hI.1 y hy
     .rw[List.mem_singleton.1 hy];exact hj
    .have:=List.any_eq_false.1 hc y hy
     simp[e]at this
 .rw[List.take_of_length_le (yV _)]at hI
  rw[List.all_eq_true.2 hI.1]
  unfold idsOk
  rw[decide_eq_true hI.2];rfl
theorem M0A(l:List Job):WA l=some (queueOk l):=by
 unfold WA queueOk
 by_cases h:60<l.length
 .simp[show(60:Int)<l.length by omega,show ¬ l.length<=60 by omega]
 .rw[show decide ((60:Int)<(l.length:Int))=false by simp;omega,show decide (l.length<=60)=true by simp;omega]
  simp only[yM,Bool.true_and]
  rw[M0T (r:=some false) (fun i x k hx=>?_)]
  .unfold LC
   cases(l.all O0&&idsOk l)<;>rfl
  .have hil:=(yB hx).1
   unfold JC
   cases O0 x with
   |false=>rfl
   |true =>
    simp only[yL,yM,Bool.false_or]
    have h:=Z0e (bd:=Vf l i x k) (fun(i:Nat) (_:Unit)=>(i:Int)) (n:=i)
     (B:=fun m _ _ k=>bif (match l[m]? with|some e=>e.id==x.id|none=>false)then some false else k ()) (kk:=fun _=>k ()) (fun m st k hm=>by
      obtain⟨e,he⟩:∃e,l[m]?=some e:=⟨_,yA (by omega)⟩
      have hlt:(m:Int)<(i:Int):=by omega
      simp only[Vf,hlt,decide_true,yN,U2,he,bS,Zc (n:=m) (by omega)])
     (fun m st k hm=>by
      have hlt:¬ (m:Int)<(i:Int):=by omega
      simp only[Vf,hlt,decide_false,yM]) 9223372036854775807 0 () (by omega)
    refine h.trans ?_
    rw[Mh (r:=some false) (p:=fun(m:Nat)=>match l[m]? with|some e=>e.id==x.id|none=>false) (fun m _ i k=>rfl)]
    have e:(List.range' 0 (i-0)).any (fun(m:Nat)=>match l[m]? with|some e=>e.id==x.id|none=>false)=(l.take i).any (fun y=>y.id==x.id):=by
     rw[Bool.eq_iff_iff,List.any_eq_true,List.any_eq_true]
     constructor
     .rintro⟨m,hm,hq⟩
      obtain⟨j,hj,rfl⟩:=List.mem_range'.1 hm
      have hlt:0+1*j<l.length:=by omega
      rw[yA hlt]at hq
      exact⟨_,List.mem_take_iff_getElem.2 ⟨0+1*j,by omega,rfl⟩,hq⟩
     .rintro⟨y,hy,hq⟩
      obtain⟨m,hm,rfl⟩:=List.mem_take_iff_getElem.1 hy
      exact⟨m,List.mem_range'.2 ⟨m,by omega,by omega⟩,by rw[yA (by omega)];exact hq⟩
    rw[e]
theorem U1f(l:List Job)(c:Job):W0 l c=some (l.any fun y=>y.id==c.id):=by
 unfold W0 U1
 have:∃r:Int,rgl (Z1 c) Y2 l 0 ()=some r/\decide (0<=r)=l.any fun y=>y.id==c.id:=by
  refine Ud (fun i (_:Unit)=>∀y∈l.take i,(y.id==c.id)=false) (fun o=>∃r:Int,o=some r/\decide (0<=r)=l.any fun y=>y.id==c.id) (fun i x b k hx hI hk=>?_) (fun b hI=>?_) (by simp)
  .unfold Z1 Ol
   cases h:(x.id==c.id)with
   |true=>exact⟨i,rfl,by rw[List.any_eq_true.2 ⟨x,yE hx,h⟩];simp⟩
   |false =>
    refine hk () fun y hy=>?_
    obtain⟨hi,rfl⟩:=yB hx
    rw[List.take_succ_eq_append_getElem hi]at hy
    rcases List.mem_append.1 hy with hy|hy
    .exact hI y hy
    .rw[List.mem_singleton.1 hy];exact h
  .rw[List.take_of_length_le (yV _)]at hI
   exact⟨-1,rfl,by rw[List.any_eq_false.2 fun y hy=>by rw[hI y hy];simp];rfl⟩
 obtain⟨r,h1,h2⟩:=this
 rw[h1,bS,h2]
theorem U0I(l:List Job):QB l=some (queueOk l):=by
 unfold QB queueOk
 rw[M0T (r:=some false) (fun i x k hx=>?_)]
 .unfold JD
  have e:decide ((l.length:Int)<=60)=decide (l.length<=60):=by rw[Bool.eq_iff_iff];simp;omega
  rw[e]
  cases l.all O0<;>cases idsOk l<;>cases decide (l.length<=60)<;>rfl
 .have hil:=(yB hx).1
  unfold ZE
  rw[Zk,M15 (by omega)]
  cases O0 x with
  |false=>rfl
  |true =>
   simp only[yL,yM,bS,U1f,Bool.false_or]
theorem Q0I(v:Vec):Qe v=U5 v:=rfl
def UM(t:Topo)(up:List Bool)(lic:Vec):Room:=⟨t,up,t.nodes.map fun x=>(U5 x.cap).1,(U5 lic).1⟩
theorem M0V{v:Vec}(h:X0 v=true):ProfP (U5 v).1:=by
 unfold U5
 rw[h]
 simp only[yL,yM]
 exact⟨by simp,by simp,fun x hx=>by simp at hx;rw[← hx],fun x hx=>by simp at hx;subst hx;exact⟨rfl,h⟩,fun i x y hx hy=>by simp at hy⟩
theorem Q0s{t:Topo}(h:TopoP t){up:List Bool}(hu:up.length=t.nodes.length){lic:Vec}(hl:X0 lic=true):RoomP (UM t up lic) :=
  ⟨h,hu,by simp[UM],fun p hp=>by
    obtain⟨x,hx,rfl⟩:=yY hp
    exact M0V (h.node x hx).2.2.2,M0V hl⟩
theorem W14{t:Topo}(h:TopoP t){up:List Bool}(hu:up.length=t.nodes.length)(lic:Vec):MW t up lic=some (UM t up lic):=by
 have:=h.tree.le;have:=h.nodes
 unfold MW Lb O6
 rw[U0 (by simp;omega),bS,bS,U0 (by simp;omega),bS,bS,U0 (by simp;omega),bS]
 rw[Z7 (bd:=US) (bs:=24) (p:=fun _=>true) (f:=fun x=>(U5 x.cap).1) (fun x hx i b k=>rfl) (by simp;omega)]
 unfold VS UM
 simp[List.filter_eq_self.2,Q0I]
theorem W0t(s:State):Yq s=some (bif topoOk s.topo&&decide (s.up.length=s.topo.nodes.length)&&X0 s.lic then(UM s.topo s.up s.lic,true)else Xr):=by
 unfold Yq
 rw[Zl,bS,Y10]
 cases ht:topoOk s.topo with
 |false=>rfl
 |true =>
 cases hu:decide (s.up.length=s.topo.nodes.length)with
 |false=>rfl
 |true =>
 cases hl:X0 s.lic with
 |false=>rfl
 |true =>
  have h:=MH.1 ht
  have hu:=of_decide_eq_true hu
  have:=h.nodes
  simp only[yL,Bool.or_self,yM,Bool.and_self,yN]
  rw[Z7 (bd:=Lu) (bs:=24) (p:=fun _=>true) (f:=fun x=>(U5 x.cap).1) (fun x hx i b k=>rfl) (by simp;omega)]
  unfold Mu
  rw[show(s.topo.nodes.filter fun _=>true)=s.topo.nodes from List.filter_eq_self.2 fun _ _=>rfl,List.nil_append]
  have hR:=Q0s h hu hl
  unfold UM at hR
  rw[L03 hR.small,bS]
  rfl
def L17(s:State)(x:Run):Bool:=time x.t&&decide (x.t<=s.now)&&decide (s.now<x.t+x.job.wall)&&decide (x.t+x.job.wall<=1000000000)
noncomputable def V09(s:State)(x:Run)(v:Room):Option (Room×Bool):=bif diffOk v x.job x.nodes&&L17 s x then Z09 v x.job.need x.job.lic s.now (x.t+x.job.wall) x.nodes else some Xr
theorem M0W{s:State}(hs:time s.now=true)(x:Run)(i:Nat)(v:Room)(k:Room->Option (Room×Bool)):Oq s x i v k=(V09 s x v).bind fun y=>bif !y.2 then some Xr else k y.1:=by
 have hn:=Yy.1 hs
 unfold Oq V09
 rw[O03,bS,Jc]
 cases hd:diffOk v x.job x.nodes with
 |false=>rfl
 |true =>
  have hj:O0 x.job=true:=by unfold diffOk at hd;simp only[yD]at hd;exact hd.1.1.1.2
  have hj':=Vs.1 hj
  unfold L17
  by_cases ht:time x.t=true/\x.t<=s.now
  .have ht1:=Yy.1 ht.1
   rw[ht.1,Wc (n:=x.t+x.job.wall) (by omega),show decide (s.now<x.t)=false by simp;omega,show decide (x.t<=s.now)=true by simpa using ht.2]
   by_cases h3:s.now<x.t+x.job.wall
   .rw[show decide (x.t+x.job.wall<=s.now)=false by simp;omega,show decide (s.now<x.t+x.job.wall)=true by simpa using h3]
    by_cases h4:x.t+x.job.wall<=1000000000
    .rw[show decide (1000000000<x.t+x.job.wall)=false by simp;omega,show decide (x.t+x.job.wall<=1000000000)=true by simpa using h4]
     simp only[yL,Bool.or_self,yM,Bool.and_self,yN]
     rw[Wc (n:=x.t+x.job.wall-s.now) (by omega),W0A]
     have e:diffOk v ⟨x.job.id,x.job.prio,x.job.nodes,x.job.need,x.job.lic,x.t+x.job.wall-s.now,x.job.level⟩ x.nodes=true:=by
      have hj2:O0 ⟨x.job.id,x.job.prio,x.job.nodes,x.job.need,x.job.lic,x.t+x.job.wall-s.now,x.job.level⟩=true:=by
       rw[Vs];simp only;refine⟨hj'.1,hj'.2.1,hj'.2.2.1,hj'.2.2.2.1,hj'.2.2.2.2.1,by omega,hj'.2.2.2.2.2.2⟩
      unfold diffOk at hd ⊢
      rw[hj]at hd
      rw[hj2];exact hd
     rw[e,hs]
     simp only[Bool.and_self,yN]
     rw[show s.now+(x.t+x.job.wall-s.now)=x.t+x.job.wall by omega,Wc (by omega)]
     rfl
    .rw[show decide (1000000000<x.t+x.job.wall)=true by simp;omega,show decide (x.t+x.job.wall<=1000000000)=false by simpa using h4]
     simp[Xr]
   .rw[show decide (x.t+x.job.wall<=s.now)=true by simp;omega,show decide (s.now<x.t+x.job.wall)=false by simpa using h3]
    simp[Xr]
  .have:(time x.t&&decide (x.t<=s.now))=false:=by
    rw[Bool.eq_false_iff];intro q;simp only[yD,yO]at q;exact ht q
   rw[this]
   have h2:(!(time x.t)||decide (s.now<x.t))=true:=by
    cases hx:time x.t with
    |false=>rfl
    |true =>
     have:¬ x.t<=s.now:=fun q=>ht ⟨hx,q⟩
     simp;omega
   simp only[yL,Bool.false_or,h2,Bool.true_or,yN,Bool.false_and,Bool.and_false,yM,bS]
   rfl
theorem Z14{s:State}(hs:time s.now=true)(x:Run)(i:Nat)(v:Room)(k:Room->Option (Room×Bool)):Yt s x i v k=(V09 s x v).bind fun y=>bif !y.2 then some Xr else k y.1:=by
 have hn:=Yy.1 hs
 unfold Yt V09
 rw[Zk,Y14]
 cases hj:O0 x.job with
 |false =>
  have hd:diffOk v x.job x.nodes=false:=by unfold diffOk;rw[hj];simp
  rw[hd];rfl
 |true =>
  have hj':=Vs.1 hj
  by_cases h1:0<=x.t/\x.t<=s.now
  .rw[Wc (n:=x.t+x.job.wall) (by omega),Wc (n:=s.now+1) (by omega)]
   have e1:Z0 x.t 0 s.now=true:=by simp[Z0];exact h1
   have e2:Z0 (x.t+x.job.wall) (s.now+1) 1000000000=(decide (s.now<x.t+x.job.wall)&&decide (x.t+x.job.wall<=1000000000)):=by
    unfold Z0;congr 1
   have e3:time x.t=true:=by rw[Yy];omega
   unfold L17
   rw[e1,e2,e3,show decide (x.t<=s.now)=true by simpa using h1.2]
   simp only[yL,Bool.false_or,Bool.and_self,Bool.true_and]
   cases(decide (s.now<x.t+x.job.wall)&&decide (x.t+x.job.wall<=1000000000))<;>cases diffOk v x.job x.nodes<;>rfl
  .have e1:Z0 x.t 0 s.now=false:=by
    unfold Z0;rw[Bool.eq_false_iff];intro q;simp only[yD,yO]at q;exact h1 q
   have e2:L17 s x=false:=by
    unfold L17;rw[Bool.eq_false_iff];intro q;simp only[yD,yO,Yy]at q;exact h1 ⟨q.1.1.1.1,q.1.1.2⟩
   rw[e1,e2]
   simp[Xr]
noncomputable def Q0h(s:State):Option (Room×Bool):=rgl (fun x _ v k=>(V09 s x v).bind fun y=>bif !y.2 then some Xr else k y.1) (fun v=>some (v,true)) s.runs 0 (UM s.topo s.up s.lic)
noncomputable def LN(s:State):Bool:=topoOk s.topo&&decide (s.up.length=s.topo.nodes.length)&&X0 s.lic&&time s.now
theorem X0b(s:State):Vc s=bif LN s then Q0h s else some Xr:=by
 unfold Vc LN
 rw[W0t,bS,Jc]
 cases(topoOk s.topo&&decide (s.up.length=s.topo.nodes.length)&&X0 s.lic)with
 |false=>rfl
 |true =>
  cases hs:time s.now with
  |false=>rfl
  |true =>
   simp only[yN,yL,Bool.or_self,yM,Bool.and_self]
   unfold Q0h
   exact M0h (fun i x b k _=>M0W hs x i b k) fun b=>rfl
theorem U0c(s:State):Ux s=Vc s:=by
 rw[X0b]
 unfold Ux LN
 rw[OS,Zl,bS,Y10,Mj,XS]
 cases ht:topoOk s.topo with
 |false=>rfl
 |true =>
 cases hu:decide (s.up.length=s.topo.nodes.length)with
 |false=>rfl
 |true =>
 cases hl:X0 s.lic with
 |false=>rfl
 |true =>
 cases hs:time s.now with
 |false=>rfl
 |true =>
  simp only[yL,Bool.or_self,yM,Bool.and_self,yN]
  rw[W14 (MH.1 ht) (of_decide_eq_true hu),bS]
  unfold Q0h
  exact M0h (fun i x b k _=>Z14 hs x i b k) fun b=>rfl
structure RunsP(s:State):Prop where
 job:∀x∈s.runs,O0 x.job=true/\(x.nodes.length:Int)=x.job.nodes/\J3 s.topo x.nodes=true/\x.nodes.Nodup/\L17 s x=true
theorem Q0Y{s:State}(h:LN s=true):∃q,Q0h s=some q/\(q.2=true->RoomP q.1/\q.1.topo=s.topo/\q.1.up=s.up/\RunsP s):=by
 unfold LN at h
 simp only[yD,yO,MH]at h
 unfold Q0h
 refine Ud (fun i (v:Room)=>RoomP v/\v.topo=s.topo/\v.up=s.up/\∀x∈s.runs.take i,O0 x.job=true/\(x.nodes.length:Int)=x.job.nodes/\J3 s.topo x.nodes=true/\x.nodes.Nodup/\L17 s x=true) (fun o=>∃q:Room×Bool,o=some q/\(q.2=true->RoomP q.1/\q.1.topo=s.topo/\q.1.up=s.up/\RunsP s)) (fun i x v k hx hI hk=>?_) (fun v hI=>?_) ⟨Q0s h.1.1.1 h.1.1.2 h.1.2,rfl,rfl,by simp⟩
 .obtain⟨h1,h2,h3,h4⟩:=hI
  unfold V09
  cases hd:(diffOk v x.job x.nodes&&L17 s x)with
  |false=>exact⟨Xr,rfl,fun h=>by cases h⟩
  |true =>
   simp only[yD]at hd
   have hd1:=hd.1
   unfold diffOk at hd1
   simp only[yD,yO]at hd1
   obtain⟨q,q1,q2⟩:=W0W h1 x.job.need x.job.lic s.now (x.t+x.job.wall) hd1.1.2
   simp only[yN]
   rw[q1,bS]
   cases hq:q.2 with
   |false=>exact⟨Xr,rfl,fun h=>by cases h⟩
   |true =>
    obtain⟨a1,a2,a3⟩:=q2 hq
    refine hk q.1 ⟨a1,a2.trans h2,a3.trans h3,fun y hy=>?_⟩
    obtain⟨hi,rfl⟩:=yB hx
    rw[List.take_succ_eq_append_getElem hi]at hy
    rcases List.mem_append.1 hy with hy|hy
    .exact h4 y hy
    .rw[List.mem_singleton.1 hy]
     exact⟨hd1.1.1.1.2,hd1.1.1.2,by rw[← h2];exact hd1.1.2,hd1.2,hd.2⟩
 .obtain⟨h1,h2,h3,h4⟩:=hI
  rw[List.take_of_length_le (yV _)]at h4
  exact⟨_,rfl,fun _=>⟨h1,h2,h3,⟨h4⟩⟩⟩
theorem MC(s:State):∃q,Vc s=some q/\(q.2=true->LN s=true/\RoomP q.1/\q.1.topo=s.topo/\q.1.up=s.up/\RunsP s):=by
 rw[X0b]
 cases h:LN s with
 |false=>exact⟨Xr,rfl,fun h=>by cases h⟩
 |true =>
  obtain⟨q,h1,h2⟩:=Q0Y h
  exact⟨q,h1,fun h=>⟨rfl,h2 h⟩⟩
def allJobs(s:State):List Job:=s.queue++s.runs.map Run.job
theorem V03{s:State}(h:s.queue.length+s.runs.length<=1048576):Mg s=some (allJobs s):=by
 unfold Mg
 rw[U0 (by simp;omega),bS,Z7 (bd:=JB) (bs:=88) (p:=fun _=>true) (f:=Run.job) (fun x hx i b k=>rfl) (by simp;omega)]
 unfold LB allJobs
 simp[List.filter_eq_self.2]
theorem XX(s:State):Wl s=Mg s:=rfl
def AscP(l:List Int):Prop:=∀(i:Nat) (x y:Int),l[i]?=some x->l[i+1]?=some y->x<y
open Classical in
noncomputable def ascB(l:List Int):Bool:=decide (AscP l)
theorem O0z{l:List Int}:ascB l=true↔AscP l:=by unfold ascB;simp
theorem W0a{l:List Int}(hl:l.length<=1048576):Wd l=some (ascB l):=by
 unfold Wd
 have h:=Z0e (bd:=M7 l) (fun(i:Nat) (_:Unit)=>((i+1:Nat):Int)) (n:=l.length-1)
  (B:=fun x _ _ k=>bif (match l[x]?,l[x+1]? with|some a,some b=>decide (b<=a)|_,_=>true)then some false else k ()) (kk:=fun _=>some true) (fun i st k hi=>by
   obtain⟨a,ha⟩:∃e,l[i]?=some e:=⟨_,yA (by omega)⟩
   obtain⟨b,hb⟩:∃e,l[i+1]?=some e:=⟨_,yA (by omega)⟩
   have hlt:((i+1:Nat):Int)<(l.length:Int):=by omega
   simp only[M7,hlt,decide_true,yN,O0y (n:=i+1) (by omega) (by omega),Nat.add_sub_cancel,U2,ha,hb,bS,Zc (n:=i+1) (by omega)])
  (fun i st k hi=>by
   have hlt:¬ ((i+1:Nat):Int)<(l.length:Int):=by omega
   simp only[M7,hlt,decide_false,yM]) 9223372036854775807 0 () (by omega)
 refine h.trans ?_
 rw[Mh (r:=some false) (p:=fun(x:Nat)=>match l[x]?,l[x+1]? with|some a,some b=>decide (b<=a)|_,_=>true) (fun x _ i k=>rfl)]
 cases hany:(List.range' 0 (l.length-1-0)).any (fun(x:Nat)=>match l[x]?,l[x+1]? with|some a,some b=>decide (b<=a)|_,_=>true)with
 |true =>
  obtain⟨x,hx,hq⟩:=List.any_eq_true.1 hany
  obtain⟨j,hj,rfl⟩:=List.mem_range'.1 hx
  obtain⟨a,ha⟩:∃e,l[0+1*j]?=some e:=⟨_,yA (by omega)⟩
  obtain⟨b,hb⟩:∃e,l[0+1*j+1]?=some e:=⟨_,yA (by omega)⟩
  rw[ha,hb]at hq
  have:ascB l=false:=by
   rw[Bool.eq_false_iff]
   intro q
   have:=O0z.1 q _ a b ha hb
   simp at hq;omega
  rw[this];rfl
 |false =>
  have:ascB l=true:=O0z.2 fun i x y hx hy=>by
   have hlt:=(yB hy).1
   have:=List.any_eq_false.1 hany i (List.mem_range'.2 ⟨i,by omega,by omega⟩)
   rw[hx,hy]at this
   simpa using this
  rw[this];rfl
noncomputable def lowN(t:Topo)(l:List Int):Nat:=((Zo t l).getD 0).toNat
theorem L1t{t:Topo}{l:List Int}(h:J3 t l=true)(hne:l≠[]):lowN t l<t.parents.length/\Zo t l=some (lowN t l:Int)/\Qx t l=some (lowN t l:Int):=by
 obtain⟨s,h1,h2,h3⟩:=L1f h hne
 have:lowN t l=s:=by unfold lowN;rw[h2];simp
 rw[this];exact⟨h1,h2,h3⟩
def isUp(s:State)(n:Int):Bool:=(idx s.up n).getD false
noncomputable def runFit(s:State)(x:Run):Bool:=x.nodes.all (isUp s)&&ascB x.nodes&&decide (lev s.topo (lowN s.topo x.nodes)<=x.job.level)
def endOk(s:State)(e:End):Bool:=(decide (1<=e.id)&&decide (e.id<=999))&&(decide (0<=e.t)&&decide (e.t<=s.now))&&(decide (1<=e.why)&&decide (e.why<=4))
noncomputable def stateOk(s:State):Bool:=((Vc s).getD Xr).2&&(decide (0<=s.depth)&&decide (s.depth<=60))&&queueOk (allJobs s)&&decide (s.ends.length<=300)&&s.runs.all (runFit s)&&s.ends.all (endOk s)
theorem Z1a{a b:Int}:decide (b<a) = !decide (a<=b):=by rw[Bool.eq_iff_iff];simp
theorem O17{s:State}(_:TopoP s.topo)(hu:s.up.length=s.topo.nodes.length)(hR:RunsP s){x:Run}(hx:x∈s.runs) :
  x.nodes≠[]/\J3 s.topo x.nodes=true/\x.nodes.length<=24/\∀n∈x.nodes,∃b,idx s.up n=some b:=by
 obtain⟨h1,h2,h3,_,_⟩:=hR.job x hx
 have hj:=(Vs.1 h1).2.2.1
 refine⟨fun e=>by rw[e]at h2;simp at h2;omega,h3,by omega,fun n hn=>?_⟩
 have:=(J2.1 h3).2 n hn
 obtain⟨b,q,_⟩:=U0z (l:=s.up) (i:=n) this.1 (by rw[hu];exact this.2)
 exact⟨b,q⟩
theorem O0W{s:State}(hT:TopoP s.topo)(hu:s.up.length=s.topo.nodes.length)(hR:RunsP s){x:Run}(hx:x∈s.runs)(k:Unit->Option Bool)(i:Nat):Lm s x i () k=bif !runFit s x then some false else k ():=by
 obtain⟨h1,h2,h3,h4⟩:=O17 hT hu hR hx
 obtain⟨l1,l2,l3⟩:=L1t h2 h1
 unfold Lm
 have hk:V8 s x k ()=bif decide (lev s.topo (lowN s.topo x.nodes)<=x.job.level)then k ()else some false:=by
  unfold V8
  rw[l2,bS,Wb hT l1,bS,Z1a]
  cases decide (lev s.topo (lowN s.topo x.nodes)<=x.job.level)<;>rfl
 have:rgl (Jm s x) (V8 s x k) x.nodes 0 ()=bif x.nodes.all (isUp s)&&ascB x.nodes then V8 s x k ()else some false:=by
  refine Ud (fun i (_:Unit)=>(∀j n,j<i->x.nodes[j]?=some n->isUp s n=true)/\∀j a b,j+1<i->x.nodes[j]?=some a->x.nodes[j+1]?=some b->a<b) (fun o=>o=bif x.nodes.all (isUp s)&&ascB x.nodes then V8 s x k ()else some false) (fun i n b kc hi hI hkc=>?_) (fun b hI=>?_) ⟨fun j n h=>by omega,fun j a b h=>by omega⟩
  .have hil:=(yB hi).1
   obtain⟨u,hu'⟩:=h4 n (yE hi)
   have hup:isUp s n=u:=by unfold isUp;rw[hu'];rfl
   unfold Jm
   rw[hu',bS]
   cases u with
   |false =>
    have:x.nodes.all (isUp s)=false:=List.all_eq_false.2 ⟨n,yE hi,by rw[hup];simp⟩
    rw[this];rfl
   |true =>
    have new:∀j m,j<i+1->x.nodes[j]?=some m->isUp s m=true:=by
     intro j m hj hm
     by_cases e:j=i
     .subst e;rw[hi]at hm;cases hm;exact hup
     .exact hI.1 j m (by omega) hm
    by_cases h0:i=0
    .subst h0
     exact hkc () ⟨new,fun j a b hj=>by omega⟩
    .have hgt:decide ((0:Int)<(i:Int))=true:=by simp;omega
     obtain⟨q,hq⟩:∃q,x.nodes[i-1]?=some q:=⟨_,yA (by omega)⟩
     rw[hgt,O0y (by omega) (by omega)]
     simp only[yL,yM,yN,Bool.false_or,Bool.true_and,U2,hq,bS]
     by_cases h5:n<=q
     .have:ascB x.nodes=false:=by
       rw[Bool.eq_false_iff]
       intro w
       have:=O0z.1 w (i-1) q n hq (by rw[show i-1+1=i by omega];exact hi)
       omega
      rw[this,Bool.and_false];simp[h5]
     .simp only[h5,decide_false,yM]
      refine hkc () ⟨new,fun j a b hj ha hb=>?_⟩
      by_cases e:j+1=i
      .have:j=i-1:=by omega
       subst this
       rw[hq]at ha;cases ha
       rw[show i-1+1=i by omega,hi]at hb;cases hb
       omega
      .exact hI.2 j a b (by omega) ha hb
  .have e1:x.nodes.all (isUp s)=true:=List.all_eq_true.2 fun n hn=>by
    obtain⟨j,hj⟩:=List.getElem?_of_mem hn
    exact hI.1 j n (yB hj).1 hj
   have e2:ascB x.nodes=true:=O0z.2 fun j a b ha hb=>hI.2 j a b (yB hb).1 ha hb
   rw[e1,e2];rfl
 rw[this,hk]
 unfold runFit
 cases x.nodes.all (isUp s)<;>cases ascB x.nodes<;>cases decide (lev s.topo (lowN s.topo x.nodes)<=x.job.level)<;>rfl
theorem O1B{s:State}(hT:TopoP s.topo)(hu:s.up.length=s.topo.nodes.length)(hR:RunsP s){x:Run}(hx:x∈s.runs)(k:Unit->Option Bool)(i:Nat):Wn s x i () k=bif !runFit s x then some false else k ():=by
 obtain⟨h1,h2,h3,h4⟩:=O17 hT hu hR hx
 obtain⟨l1,l2,l3⟩:=L1t h2 h1
 unfold Wn
 rw[Mh (r:=some false) (p:=fun n=>!isUp s n) (fun n hn i k=>by
  obtain⟨u,hu'⟩:=h4 n hn
  unfold LD isUp
  rw[hu',bS];rfl),← List.not_all_eq_any_not]
 unfold MD
 rw[W0a (by omega),bS]
 unfold runFit
 cases x.nodes.all (isUp s)with
 |false=>rfl
 |true =>
 cases ascB x.nodes with
 |false=>rfl
 |true =>
  simp only[yL,yM,l3,bS,Us hT l1,Bool.false_or,Bool.true_and,Z1a]
theorem O0V{s:State}(hs:s.queue.length+s.runs.length<=1048576):Zp s=some (stateOk s)/\Wp s=some (stateOk s):=by
 obtain⟨q,h1,h2⟩:=MC s
 unfold Zp Wp stateOk
 rw[U0c,h1,bS,bS,XX,V03 hs,Option.getD_some]
 have e1:(decide (s.depth<0)||decide (60<s.depth)) = !(decide (0<=s.depth)&&decide (s.depth<=60)):=by rw[Bool.eq_iff_iff];simp
 have e2:Z0 s.depth 0 60=(decide (0<=s.depth)&&decide (s.depth<=60)):=rfl
 have e3:decide ((300:Int)<(s.ends.length:Int)) = !decide (s.ends.length<=300):=by rw[Bool.eq_iff_iff];simp;omega
 rw[Bool.or_assoc,e1,e2,e3]
 cases hq:q.2 with
 |false=>exact⟨rfl,rfl⟩
 |true =>
 obtain⟨a1,a2,a3,a4,a5⟩:=h2 hq
 have hT:TopoP s.topo:=by rw[← a3];exact a2.topo
 have hu:s.up.length=s.topo.nodes.length:=by rw[← a3,← a4];exact a2.up
 cases(decide (0<=s.depth)&&decide (s.depth<=60))with
 |false=>exact⟨rfl,rfl⟩
 |true =>
 simp only[yL,Bool.or_self,yM,bS,M0A,U0I,Bool.false_or,Bool.true_and]
 cases queueOk (allJobs s)with
 |false=>exact⟨rfl,rfl⟩
 |true =>
 cases decide (s.ends.length<=300)with
 |false=>exact⟨rfl,rfl⟩
 |true =>
 simp only[yL,Bool.or_self,yM,Bool.true_and]
 rw[Mh (r:=some false) (p:=fun x=>!runFit s x) (fun x hx i k=>O0W hT hu a5 hx k i),Mh (r:=some false) (p:=fun x=>!runFit s x) (fun x hx i k=>O1B hT hu a5 hx k i),← List.not_all_eq_any_not]
 unfold OC OD
 have f1:∀e:End,((((((decide (e.id<1))||(decide (999<e.id)))||(decide (e.t<0)))||(decide (s.now<e.t)))||(decide (e.why<1)))||(decide (4<e.why))) = !endOk s e:=by
  intro e;unfold endOk;rw[Bool.eq_iff_iff];simp;omega
 have f2:∀e:End,(((!(Z0 e.id 1 999))||(!(Z0 e.t 0 s.now)))||(!(Z0 e.why 1 4))) = !endOk s e:=by
  intro e;unfold endOk Z0
  cases(decide (1<=e.id)&&decide (e.id<=999))<;>cases(decide (0<=e.t)&&decide (e.t<=s.now))<;>cases(decide (1<=e.why)&&decide (e.why<=4))<;>rfl
 rw[Mh (bd:=Mm s) (r:=some false) (p:=fun e=>!endOk s e) (fun e he i k=>by unfold Mm;rw[f1]),Mh (bd:=Qn s) (r:=some false) (p:=fun e=>!endOk s e) (fun e he i k=>by unfold Qn;rw[f2]),← List.not_all_eq_any_not]
 unfold WC WD
 cases s.runs.all (runFit s)<;>cases s.ends.all (endOk s)<;>exact⟨rfl,rfl⟩
structure StateP(s:State):Prop where
 topo:TopoP s.topo
 up:s.up.length=s.topo.nodes.length
 lic:X0 s.lic=true
 now:time s.now=true
 room:∃r,Vc s=some (r,true)/\RoomP r/\r.topo=s.topo/\r.up=s.up
 runs:RunsP s
 depth:0<=s.depth/\s.depth<=60
 queue:queueOk (allJobs s)=true
 ends:s.ends.length<=300
 fit:∀x∈s.runs,runFit s x=true
 fin:∀e∈s.ends,endOk s e=true
theorem V1q{s:State}(h:stateOk s=true):StateP s:=by
 obtain⟨q,h1,h2⟩:=MC s
 unfold stateOk at h
 rw[h1,Option.getD_some]at h
 simp only[yD,yO,List.all_eq_true]at h
 obtain⟨⟨⟨⟨⟨a1,a2⟩,a3⟩,a4⟩,a5⟩,a6⟩:=h
 obtain⟨b1,b2,b3,b4,b5⟩:=h2 a1
 unfold LN at b1
 simp only[yD,yO,MH]at b1
 exact⟨b1.1.1.1,b1.1.1.2,b1.1.2,b1.2,⟨q.1,by rw[h1,← a1],b2,b3,b4⟩,b5,a2,a3,a4,a5,a6⟩
end Go.Proofs.YtodafdoninblmaaGreat
namespace Go.Proofs.YtodafdoninblmaaGreat.Eng
open Go Go.RowKit
theorem X0J{sz:Nat}:∀{es:List AV},(∀e∈es,e.cells.length=sz)->∀(i c:Nat),c<sz->(flat es)[i*sz+c]?=es[i]?.bind fun e=>e.cells[c]?
 |[],_,i,c,_=>by simp[flat]
 |x::l,h,0,c,hc=>by
  have hx:=h x (yJ ..)
  simp only[flat,ya]
  rw[yK (by rw[hx];omega)]
  simp
 |x::l,h,i+1,c,hc=>by
  have hx:=h x (yJ ..)
  have ih:=X0J (es:=l) (fun e he=>h e (yH _ he)) i c hc
  simp only[flat,ya]at ih ⊢
  rw[yS (by rw[hx,Nat.succ_mul];omega),hx,show(i+1)*sz+c-sz=i*sz+c by rw[Nat.succ_mul];omega,ih]
  simp
theorem Y0J{sz:Nat}:∀{es:List AV},(∀e∈es,e.cells.length=sz)->(flat es).length=es.length*sz
 |[],_=>by simp[flat]
 |x::l,h=>by
  have hx:=h x (yJ ..)
  have ih:=Y0J (es:=l) fun e he=>h e (yH _ he)
  simp only[flat,ya,yU,yT,Nat.succ_mul]at ih ⊢
  rw[ih,hx];omega
def O1z(P:Program)(f:FuncId)(sz:Nat)(es xa:List AV)(sel:List Nat)(ret:Bool):Prop :=
 ∀(w:World) (g:Gh) (n0:Nat) (us:List Value),Heap w g (hSt n0 [] [some ⟨sz,es,false⟩])->us.length=xa.length ->
  (∀(i:Nat) (a:AV) (v:Value),xa[i]?=some a->us[i]?=some v->Gv w g (hSt n0 [] [some ⟨sz,es,false⟩]) a v) ->
 (es=[]->Calls P f (.slice none 0 0::us).toArray w fun e w'=>e=.returned (if ret then .slice none 0 0 else .tuple #[])/\Below w.heap.size w w') /\
 ∀(b cap:Nat) (cur:Array Value) (ty:TypeId),w.heap[b]?=some (.cells cur ty (0,0))->es.length<=cap->cap<=maxLen->cur.size=cap*sz ->
  (∀(j:Nat) (a:AV) (u:Value),(flat es)[j]?=some a->cur[j]?=some u->a.one=true/\u.oneCell'=true/\Rd w g.S g.T a u)->(∀o,¬ g.S b o) ->
  Calls P f (.slice (some ⟨b,0,none⟩) es.length cap::us).toArray w fun e w'=>e=.returned (if ret then .slice (some ⟨b,0,none⟩) sel.length cap else .tuple #[]) /\
   ∃cur':Array Value,w'.heap[b]?=some (.cells cur' ty (0,0))/\cur'.size=cap*sz/\sel.length<=cap/\(∀(i s:Nat),sel[i]?=some s->∀c,c<sz->cur'[i*sz+c]?=cur[s*sz+c]?) /\
    w'.os=w.os/\w'.tape=w.tape/\w'.output=w.output/\w.heap.size<=w'.heap.size/\∀k,k<w.heap.size->k≠b->w'.heap[k]?=w.heap[k]?
theorem W0T{sz:Nat}{P:Program}{f:FuncId}{es es':List AV}{ret:Bool}{xa:List AV}{sel:List Nat}(h0:es=[]->es'=[])(hr:ret=false->es'.length=es.length)(hl1:es'.length=sel.length)(hl2:∀(i s:Nat),sel[i]?=some s->s<es.length/\es'[i]?=es[s]?)
  (h:O1z P f sz es xa sel ret):L0c P f sz es xa ret es':=by
 intro n0 w g vs H hN hl hvs
 match vs,hl with
 |v::us,hl =>
 obtain⟨hnil,hblk⟩:=h w g n0 us H (by simpa using hl) fun i a u ha hu=>hvs (i+1) a u (by simpa using ha) (by simpa using hu)
 have hv:v=g.rv 0:=by
  have q:=hvs 0 _ v rfl rfl
  exact q.sref_inv (by rfl)
 subst hv
 have hrow:=H.rws 0 ⟨sz,es,false⟩ rfl
 have hrn:=H.rwn 0 ⟨sz,es,false⟩ rfl
 obtain⟨xs,ty,hown,hcl,hc⟩:=hrow
 simp only at hcl
 have fin:∀(v':Value) (w':World) (e:Ending),e=.returned (if ret then v' else .tuple #[])->(ret=false->v'=g.rv 0)->v'.ownBlock=(g.rv 0).ownBlock->v'.oneCell'=true->Wt w' g.S g.T ⟨sz,es',false⟩ v'->w'.os=w.os->w'.tape=w.tape->w'.output=w.output->w.heap.size<=w'.heap.size ->
   (∀k,k<w.heap.size->(g.rv 0).ownBlock≠some k->w'.heap[k]?=w.heap[k]?) ->
   ∃v,e=.returned v/\Kept (OwnB g 0 1) w w'/\∃n1 res bout upd new,n0<=n1/\(bout=[]/\(match ret with|true=>res=.sref 1/\upd=[none]/\new=[⟨sz,es',false⟩]|false=>res=.tup []/\upd=[some es']/\new=[])) /\
   bout.map List.length=([]:List (List AV)).map List.length/\upd.length=1/\∃g':Gh,(∀b o,g'.S b o->(g.S b o\/w.heap.size<=b\/OwnB g 0 1 b)/\(w.heap.size<=b\/OwnB g 0 1 b->UnfB w' b))/\(∀b,g'.N b->g.N b) /\
   (∀i,i<0->g'.bb i=g.bb i)/\(∀i es,upd[i]?=some (some es)->g'.rv i=g.rv i)/\Heap w' g' (hSt n1 bout (W3 [⟨sz,es,false⟩] upd new)) /\
   (∀(j:Nat) (r:Row),new[j]?=some r->∀b,(g'.rv (1+j)).ownBlock=some b->w.heap.size<=b\/OwnB g 0 1 b) /\
   (∀i,i<n0->g'.ov i=g.ov i)/\(∀i D,n0<=i->g'.ov i=some D->∀b,D b->w.heap.size<=b\/OwnB g 0 1 b) /\
   Gv w' g' (hSt n1 bout (W3 [⟨sz,es,false⟩] upd new)) res v:=by
  intro v' w' e he hv' hb' h1 hro q1 q2 q3 q4 q5
  have hownB:∀b,g.own b->b<w.heap.size/\(g.rv 0).ownBlock≠some b:=fun b hb=>⟨H.ow.size hb,fun q=>H.ow.rw 0 _ rfl b q hb⟩
  have noU:∀b o,g.S b o->(g.S b o\/w.heap.size<=b\/OwnB g 0 1 b)/\(w.heap.size<=b\/OwnB g 0 1 b->UnfB w' b):=fun b o h=>⟨.inl h,fun q=>by
   rcases q with q|⟨i,hi,_⟩|⟨i,hi,e⟩
   .exact absurd (H.sw b o h) (Nat.not_lt.2 q)
   .omega
   .have:i=0:=by omega
    subst this
    exact absurd h ((hrn.2 b e).2 o)⟩
  have hK:Kept (OwnB g 0 1) w w':=⟨q1,q2,q3,q4,fun k hk hno=>q5 k hk fun q=>hno (.inr ⟨0,by omega,q⟩)⟩
  cases ret with
  |false =>
   have hv':=hv' rfl
   subst hv'
   refine⟨.tuple #[],by simpa using he,hK,n0,.tup [],[],[some es'],[],yV _,⟨rfl,rfl,rfl,rfl⟩,rfl,rfl,g,noU,fun b h=>h,fun i hi=>by omega,fun i es _=>rfl,?_,fun j r h=>by simp at h,fun _ _=>rfl,
    fun i D hi ho=>fun _ _=>absurd (H.ow.lt i D ho) (by simp only[hSt];omega),.tup [] [] rfl fun i a v h=>by simp at h⟩
   have hrw:∀k r,(hSt n0 [] (W3 [⟨sz,es,false⟩] [some es'] [])).rw k=some r->k=0/\r=⟨sz,es',false⟩:=by
    intro k r hk
    match k with
    |0=>simp[hSt,W3]at hk;exact⟨rfl,hk.symm⟩
    |k+1=>simp[hSt,W3]at hk
   refine⟨fun k cs h=>by simp[hSt]at h,fun k cs h=>by simp[hSt]at h,fun k r hk=>?_,fun k r hk=>?_,fun k k' cs cs' h=>by simp[hSt]at h,fun k k' cs r h=>by simp[hSt]at h,fun k k' r r' hk hk' hne=>?_,fun b o h=>Nat.lt_of_lt_of_le (H.sw b o h) q4,?_⟩
   .obtain⟨rfl,rfl⟩:=hrw k r hk;exact hro
   .obtain⟨rfl,rfl⟩:=hrw k r hk;exact⟨rfl,hrn.2⟩
   .obtain⟨rfl,_⟩:=hrw k r hk;obtain⟨rfl,_⟩:=hrw k' r' hk';exact absurd rfl hne
   .refine H.ow.turn rfl (fun _ h=>h) (yV _) (fun b hb=>q5 b (hownB b hb).1 (hownB b hb).2) (fun k cs h=>by simp[hSt]at h) fun k r hk b hb=>?_
    obtain⟨rfl,_⟩:=hrw k r hk
    exact H.ow.rw 0 _ rfl b hb
  |true =>
   refine⟨v',by simpa using he,hK,n0,.sref 1,[],[none],[⟨sz,es',false⟩],yV _,⟨rfl,rfl,rfl,rfl⟩,rfl,rfl,{ g with rv:=fun i=>if i=1 then v' else g.rv i },noU,fun b h=>h,fun i hi=>by omega,fun i es h=>?_,?_,fun j r h b hb=>?_,fun _ _=>rfl,
    fun i D hi ho=>fun _ _=>absurd (H.ow.lt i D ho) (by simp only[hSt];omega),.sref 1 v' h1 fun r hr=>by simp⟩
   .match i with
    |0=>simp at h
    |i+1=>simp at h
   .have hrw:∀k r,(hSt n0 [] (W3 [⟨sz,es,false⟩] [none] [⟨sz,es',false⟩])).rw k=some r->k=1/\r=⟨sz,es',false⟩:=by
     intro k r hk
     match k with
     |0=>simp[hSt,W3]at hk
     |1=>simp[hSt,W3]at hk;exact⟨rfl,hk.symm⟩
     |k+2=>simp[hSt,W3]at hk
    have hT:({ g with rv:=fun i=>if i=1 then v' else g.rv i }:Gh).T=g.T:=Gh.T_eq rfl rfl
    refine⟨fun k cs h=>by simp[hSt]at h,fun k cs h=>by simp[hSt]at h,fun k r hk=>?_,fun k r hk=>?_,fun k k' cs cs' h=>by simp[hSt]at h,fun k k' cs r h=>by simp[hSt]at h,fun k k' r r' hk hk' hne=>?_,fun b o h=>Nat.lt_of_lt_of_le (H.sw b o h) q4,?_⟩
    .obtain⟨rfl,rfl⟩:=hrw k r hk
     rw[hT];exact hro
    .obtain⟨rfl,rfl⟩:=hrw k r hk
     refine⟨rfl,fun b hb=>hrn.2 b ?_⟩
     simp only[yb]at hb
     rw[← hb',hb]
    .obtain⟨rfl,_⟩:=hrw k r hk;obtain⟨rfl,_⟩:=hrw k' r' hk';exact absurd rfl hne
    .refine H.ow.turn rfl (fun _ h=>h) (yV _) (fun b hb=>q5 b (hownB b hb).1 (hownB b hb).2) (fun k cs h=>by simp[hSt]at h) fun k r hk b hb=>?_
     obtain⟨rfl,_⟩:=hrw k r hk
     simp only[yb]at hb
     exact H.ow.rw 0 _ rfl b (by rw[← hb',hb])
   .match j with
    |0 =>
     simp only[Nat.add_zero,yb]at hb
     exact .inr (.inr ⟨0,by omega,by rw[← hb',hb]⟩)
    |j+1=>simp at h
 rcases hown.2 with⟨hv,hn⟩|⟨b,cap,cur,hv,_,hb,hnc,hcm,hcs,htk⟩
 .have hz:es=[]:=List.eq_nil_of_length_eq_zero hn
  subst hz
  have hz':=h0 rfl
  subst hz'
  have:=hnil rfl
  rw[← hv]at this
  refine this.mono fun e w' hw=>?_
  obtain⟨he,hw⟩:=hw
  refine fin (g.rv 0) w' e (by rw[he]) (fun _=>rfl) rfl (by rw[hv];rfl) ?_ hw.os hw.tape hw.output hw.size fun k hk _=>hw.block k hk
  exact⟨xs,ty,⟨hown.1,.inl ⟨hv,hn⟩⟩,fun e he=>by simp at he,fun j a u ha=>by simp[flat]at ha⟩
 .simp only at hv hnc htk hc hcs
  have hfs:=Y0J hcl
  have hnS:=(hrn.2 b (by rw[hv];rfl)).2
  have hcx:∀j,j<es.length*sz->cur[j]?=xs[j]?:=by
   intro j hj
   rw[← htk]
   simp[hj]
  have:=hblk b cap cur ty hb hnc hcm hcs (fun j a u ha hu=>by
   have hj:j<es.length*sz:=by have:=(yB ha).1;omega
   exact hc j a u ha (by rw[← hcx j hj];exact hu)) hnS
  rw[← hv]at this
  refine this.mono fun e w' hw=>?_
  obtain⟨he,cur',c1,c2,c4,c3,q1,q2,q3,q4,q5⟩:=hw
  rw[← hl1]at he c4
  have hcl':∀e∈es',e.cells.length=sz:=fun e he=>by
   obtain⟨i,hi⟩:=List.getElem?_of_mem he
   have hi2:i<sel.length:=by rw[← hl1];exact(yB hi).1
   have:=(hl2 i sel[i] (yA hi2)).2
   rw[hi]at this
   exact hcl e (yE this.symm)
  have hrob:Wt w' g.S g.T ⟨sz,es',false⟩ (.slice (some ⟨b,0,none⟩) es'.length cap):=by
   have hm:es'.length*sz<=cap*sz:=Nat.mul_le_mul_right sz c4
   refine⟨cur'.toList.take (es'.length*sz),ty,⟨by simp;omega,.inr ⟨b,cap,cur',rfl,Nat.zero_le _,c1,c4,hcm,c2,rfl⟩⟩,hcl',fun j a u ha hu=>?_⟩
   have hj:j<es'.length*sz:=by have:=(yB ha).1;rw[Y0J hcl']at this;exact this
   have hz:0<sz:=by
    rcases Nat.eq_zero_or_pos sz with h|h
    .rw[h,Nat.mul_zero]at hj;omega
    .exact h
   have hm2:j % sz<sz:=Nat.mod_lt _ hz
   have e0:j / sz*sz+j % sz=j:=by rw[Nat.mul_comm];exact Nat.div_add_mod j sz
   have hi2:j / sz<sel.length:=by rw[← hl1];exact Nat.div_lt_of_lt_mul (by rw[Nat.mul_comm];exact hj)
   obtain⟨hs1,hs2⟩:=hl2 _ _ (yA hi2)
   have hu2:cur'[j]?=some u:=by simpa[List.getElem?_take,hj]using hu
   rw[← e0,X0J hcl' _ _ hm2,hs2,← X0J hcl _ _ hm2]at ha
   rw[← e0,c3 _ _ (yA hi2) _ hm2]at hu2
   have hlt:sel[j / sz]*sz+j % sz<es.length*sz:=by
    have:=Nat.mul_le_mul_right sz (show sel[j / sz]+1<=es.length from hs1)
    rw[Nat.succ_mul]at this;omega
   rw[hcx _ hlt]at hu2
   obtain⟨r1,r2,r3⟩:=hc _ a u ha hu2
   refine⟨r1,r2,r3.mono (fun _ _ h=>h) TLe.refl fun b' o hS=>?_⟩
   have hne:b'≠b:=fun e=>hnS o (e ▸ hS)
   simp only[World.cell?,q5 b' (H.sw b' o hS) hne]
  refine fin (.slice (some ⟨b,0,none⟩) es'.length cap) w' e he (fun hr'=>by rw[hv,hr hr']) (by rw[hv];rfl) rfl hrob q1 q2 q3 q4 fun k hk hne=>q5 k hk fun e=>hne (by rw[hv,e];rfl)
end Go.Proofs.YtodafdoninblmaaGreat.Eng
namespace Go.Proofs.YtodafdoninblmaaGreat
open Go Go.RowKit Eng Go.Sort
def J0k(cur:Array Value)(j:Nat):List Value:=(List.range 13).map fun c=>cur[j*13+c]!
theorem X0a(cur:Array Value)(j:Nat):(J0k cur j).length=13:=by simp[J0k]
theorem V0V{cur:Array Value}{j c:Nat}(hc:c<13)(h:j*13+c<cur.size):(J0k cur j)[c]?=cur[j*13+c]?:=by
 simp[J0k,hc,h]
theorem J1K{w:World}{g:Gh}{s:St}{f:Nat}{e:AV}{v:Value}(h:Gv w g s (.fn f [.ept e 0]) v):∃u,v=.func (.func f) #[] #[u]/\Rd w g.S g.T (.ept e 0) u:=by
 obtain⟨vs,rfl,hl,hc⟩:=h.fn_inv
 match vs,hl with
 |[u],_ =>
  refine⟨u,rfl,?_⟩
  have q:=hc 0 _ u rfl rfl
  cases q with
  |data _ _ q=>exact q
def delF(p:Run->Option Bool):List Run->Option (List Run)
 |[]=>some []
 |x::l=>(p x).bind fun b=>(delF p l).bind fun r=>some (bif b then r else x::r)
theorem W1k{p:Run->Option Bool}:∀{l r:List Run},delF p l=some r->(∀x∈l,∃b,p x=some b)/\r=l.filter fun x=>!(p x).getD false
 |[],r,h=>by cases h;simp
 |x::l,r,h=>by
  simp only[delF]at h
  obtain⟨b,hb,h⟩:=Option.bind_eq_some_iff.1 h
  obtain⟨r',hr,h⟩:=Option.bind_eq_some_iff.1 h
  cases h
  obtain⟨q1,q2⟩:=W1k hr
  refine⟨fun y hy=>?_,?_⟩
  .rcases yX hy with rfl|hy
   .exact⟨b,hb⟩
   .exact q1 y hy
  .rw[List.filter_cons,hb]
   cases b<;>simp[q2]
theorem X1m(f:Run->Bool)(l:List Run):l.filter f=(sel (fun j=>match l[j]? with|some x=>!f x|none=>true) l.length).map fun j=>l.getD j default:=by
 have e:=Go.Lib.keptUpTo_filter f l.toArray
 simp only[Go.Lib.keptUpTo,List.size_toArray]at e
 rw[← e]
 unfold sel
 have hf:(List.range l.length).filter (fun j=>f l.toArray[j]!)=(List.range l.length).filter fun j=>!(match l[j]? with|some x=>!f x|none=>true):=by
  apply List.filter_congr
  intro j hj
  have hj:=List.mem_range.1 hj
  simp[hj]
 rw[hf]
 apply List.map_congr_left
 intro j hj
 have hj:=List.mem_range.1 (List.mem_filter.1 hj).1
 simp[hj]
set_option maxHeartbeats 4000000 in
theorem W1v(g:Nat)(lb:Array Value)(w:World):Calls Tryz.prog 183 #[.slice none 0 0,.func (.func g) #[] lb] w fun e w'=>e=.returned (.int .i64 (-1))/\Below w.heap.size w w':=by
 have mixed:Tryz.prog.follows .mixedOrders=true:=by kernel_rfl
 go_enter Tryz.func183,Tryz.ntmps183
 go_wp2
 go_loopg [5,8] 0 (fun gg _ s8 wr=>s8=.int .i64 0/\Aside (Below w.heap.size w wr))
 case atStart=>exact⟨rfl,Below.refl _ w⟩
 case round =>
  obtain⟨rfl,BW⟩:=hrel
  go_wp2
  go_ret
  exact⟨rfl,BW.out⟩
set_option maxHeartbeats 4000000 in
theorem L1x(g:Nat)(lb:Array Value)(w:World):Calls Tryz.prog 102 #[.slice none 0 0,.func (.func g) #[] lb] w fun e w'=>e=.returned (.slice none 0 0)/\Below w.heap.size w w':=by
 have mixed:Tryz.prog.follows .mixedOrders=true:=by kernel_rfl
 have e6:∀args w,(callFunc 183 args).run Tryz.prog w=.ok (.enter 183 args) w:=enters_of Tryz.func183 (by kernel_rfl) rfl
 have hI:=W1v g lb w
 go_enter Tryz.func102,Tryz.ntmps102
 go_wp2_with (go_at_fn 183;refine hI.mono ?_;rintro e w' ⟨rfl,hb⟩)
 go_ret
 exact⟨rfl,hb⟩
theorem O1x(es:List AV)(hes:∀e∈es,∃cs,e=.agg cs/\cs.length=13/\∀a∈cs,a.one=true)(f:Nat)(hf:isFn Tryz.prog f=true)(e0:AV)(p:Nat->Bool)(hp:∀(i:Nat) (e:AV),es[i]?=some e->Snd Tryz.prog f [e.rdt,.ept e0 0] (.bool (p i)) []) :
  O1z Tryz.prog X1 13 es [.fn f [.ept e0 0]] (sel p es.length) true:=by
 have hes13:∀e∈es,e.cells.length=13:=fun e he=>by obtain⟨cs,rfl,h,_⟩:=hes e he;exact h
 intro w gh n0 us H hul hus
 match us,hul with
 |[u],_ =>
 obtain⟨u0,rfl,hu0⟩:=J1K (hus 0 _ u rfl rfl)
 refine⟨fun _=>(L1x f #[u0] w).mono fun e w' h=>⟨by simpa using h.1,h.2⟩,fun b cap cur ty h1 h2 h3 h4 h5 h6=>?_⟩
 have hm:=Nat.mul_le_mul_right 13 h2
 have hlt:∀j c,j<es.length->c<13->j*13+c<cur.size:=fun j c hj hc=>by
  have:=Nat.mul_le_mul_right 13 (show j+1<=es.length from hj)
  rw[Nat.succ_mul]at this;omega
 have hrd:∀(j:Nat) (e:AV),es[j]?=some e->∀(c:Nat) (a:AV) (u:Value),e.cells[c]?=some a->(J0k cur j)[c]?=some u->a.one=true/\u.oneCell'=true/\Rd w gh.S gh.T a u:=by
  intro j e he c a u ha hu
  have hj:j<es.length:=(yB he).1
  have hc:c<13:=by have:=(yB hu).1;rwa [X0a]at this
  rw[V0V hc (hlt j c hj hc)]at hu
  refine h5 (j*13+c) a u ?_ hu
  rw[X0J hes13 _ _ hc,he]
  exact ha
 have hone:∀j,j<es.length->∀v∈J0k cur j,v.oneCell'=true:=by
  intro j hj v hv
  obtain⟨c,hc⟩:=List.getElem?_of_mem hv
  have hcl:c<13:=by have:=(yB hc).1;rwa [X0a]at this
  have he:=yA hj
  obtain⟨a,ha⟩:∃a,(es[j]).cells[c]?=some a:=⟨_,yA (by rw[hes13 es[j] (List.getElem_mem hj)];exact hcl)⟩
  exact(hrd j _ he c a v ha hc).2.1
 have hw:=M1x b 0 cap es.length cur ty (J0k cur) p f #[u0] w (fun args w=>O04 hf args) rfl (fun j=>X0a _ _) hone (by simp only[maxLen]at h3;omega) h2 h1 h4 (fun j hj i hi=>(V0V hi (hlt j i hj hi)).symm) fun W j hj hW=>by
  have he:=yA hj
  have hS:∀b' o,gh.S b' o->W.cell? ⟨b',o,none⟩=w.cell? ⟨b',o,none⟩:=fun b' o hs=>by
   have hne:b'≠b:=fun e=>h6 o (e ▸ hs)
   simp only[World.cell?,hW.block b' (H.sw b' o hs) hne]
  obtain⟨cs,ecs,hcs,h1a⟩:=hes es[j] (List.getElem_mem hj)
  have hx:Rd W gh.S (fun _ _ _=>True) (es[j]).rdt (.agg (J0k cur j).toArray):=by
   refine Rd.rdt (N:=gh.T) (fun _ _=>trivial) ?_
   rw[ecs]
   refine .agg cs _ (by rw[hcs,X0a]) h1a fun c a v ha hv=>?_
   exact((hrd j _ he c a v (by rw[ecs];exact ha) hv).2.2).mono (fun _ _ h=>h) TLe.refl hS
  have hu:Rd W gh.S (fun _ _ _=>True) (.ept e0 0) u0:=hu0.mono (fun _ _ h=>h) ⟨fun _ _ _ _ _ _ _ _=>trivial,fun _ _ _ _=>trivial⟩ hS
  refine(hp j _ he W gh.S (fun _ _ _=>True) [.agg (J0k cur j).toArray,u0] (fun b' o hs=>Nat.lt_of_lt_of_le (H.sw b' o hs) hW.size) rfl fun i a v ha hv=>?_).mono fun e w' hq=>?_
  .match i with
   |0=>simp at ha hv;subst ha;subst hv;exact hx
   |1=>simp at ha hv;subst ha;subst hv;exact hu
   |i+2=>simp at ha
  .obtain⟨v,rfl,hb,g2,_,_,_,hg,_⟩:=hq
   exact⟨by rw[hg.bool_inv],hb⟩
 refine hw.mono fun e w' h=>?_
 obtain⟨he,hB,cr,q1,q2,q3⟩:=h
 refine⟨by simpa using he,cr,q1,q2,?_,fun i s hi c hc=>q3 i s hi c hc,hB.os,hB.tape,hB.output,hB.size,hB.block⟩
 refine Nat.le_trans ?_ h2
 have:=List.length_filter_le (fun j=>!p j) (List.range es.length)
 simpa[sel]using this
theorem X0V{tg:Tag}{f:Nat}{e0:AV}{p:Run->Option Bool}{l r:List Run}(hf:isFn Tryz.prog f=true)(hp:∀x b,p x=some b->Snd Tryz.prog f [L0 .rd x,.ept e0 0] (.bool b) [])(h:delF p l=some r) :
  L0c Tryz.prog X1 13 (l.map (L0 tg)) [.fn f [.ept e0 0]] true (r.map (L0 tg)):=by
 obtain⟨hall,hr⟩:=W1k h
 have hs:=X1m (fun x=>!(p x).getD false) l
 rw[← hr]at hs
 have key:=O1x (l.map (L0 tg)) (fun e he=>by
   obtain⟨x,_,rfl⟩:=yY he
   refine⟨_,rfl,rfl,fun a ha=>?_⟩
   simp only[List.mem_cons,List.not_mem_nil,or_false]at ha
   rcases ha with rfl|rfl|rfl|rfl|rfl|rfl|rfl|rfl|rfl|rfl|rfl|rfl|rfl<;>rfl) f hf e0 (fun j=>match l[j]? with|some x=>!(!(p x).getD false)|none=>true) fun i e he=>by
  obtain⟨x,hx,rfl⟩:∃x,l[i]?=some x/\L0 tg x=e:=by simpa using he
  obtain⟨b,hb⟩:=hall x (yE hx)
  have q:=hp x b hb
  simp only[hx,hb,Option.getD_some,Bool.not_not]
  simpa using q
 rw[List.length_map]at key
 have hS:∀s∈sel (fun j=>match l[j]? with|some x=>!(!(p x).getD false)|none=>true) l.length,s<l.length:=fun s hs=>List.mem_range.1 (List.mem_filter.1 hs).1
 generalize sel (fun j=>match l[j]? with|some x=>!(!(p x).getD false)|none=>true) l.length=S at key hs hS
 refine W0T (sel:=S) (fun e=>?_) (fun e=>by cases e) (by rw[hs];simp) (fun i s hi=>?_) key
 .have:l=[]:=by simpa using e
  subst this
  cases h;rfl
 .have hs2:=hS s (yE hi)
  refine⟨by simpa using hs2,?_⟩
  rw[hs,List.map_map,yF,hi,yF,yA hs2]
  simp[hs2]
def Lx(cur:Array Value)(sz i:Nat):List Value:=(List.range sz).map fun c=>cur[i*sz+c]!
theorem M0f(cur:Array Value)(sz i:Nat):(Lx cur sz i).length=sz:=by simp[Lx]
theorem L0f{cur:Array Value}{sz i c:Nat}(hc:c<sz)(h:i*sz+c<cur.size):(Lx cur sz i)[c]?=cur[i*sz+c]?:=by
 simp[Lx,hc,h]
theorem J1l{sz:Nat}(h0:0<sz){P:Program}{ρ:Shelf.Ren}(L:SlLaysF0.n6 P ρ)(aE:∀w,(isAgg (ρ.t 24)).run P w=.ok true w)(zE:∀w,(Go.sizeOf (ρ.t 24)).run P w=.ok sz w)(g:Nat)(eg:∀args w,(callFunc g args).run P w=.ok (.enter g args) w)
  (es:List AV) (hes:∀e∈es,e.cells.length=sz) (cf:Fin es.length->Fin es.length->Int) (hO:SWO (ltOf cf)) (hT:∀x y,(ltOf cf) x y=false->(ltOf cf) y x=false->x=y)
  (hcmp:∀(w0:World) (S:Nat->Nat->Prop) (T:Tag->Nat->Value->Prop) (x y:Fin es.length) (vx vy:List Value),vx.length=sz->vy.length=sz->(∀(c:Nat) (a:AV) (u:Value),(es[x]).cells[c]?=some a->vx[c]?=some u->Rd w0 S T a u)->(∀(c:Nat) (a:AV) (u:Value),(es[y]).cells[c]?=some a->vy[c]?=some u->Rd w0 S T a u) ->
   ∀w:World,Calls P g #[.agg vx.toArray,.agg vy.toArray] w fun e w'=>e=.returned (.int .i64 (cf x y))/\∃q os',w'=grow (w.drewN q) os') (hl:es.length<4611686018427387904) :
  O1z P (ρ.f 6) sz es [.fn g []] (((List.finRange es.length).mergeSort fun x y=>!(ltOf cf) y x).map Fin.val) false:=by
 intro w gh n0 us H hul hus
 match us,hul with
 |[u],_ =>
 obtain⟨vs,hu,hvs,_⟩:=(hus 0 _ u rfl rfl).fn_inv
 have hvs0:vs=[]:=List.eq_nil_of_length_eq_zero (by simpa using hvs.symm)
 subst hvs0
 refine⟨fun hz=>?_,fun b cap cur ty h1 h2 h3 h4 h5 h6=>?_⟩
 .subst hz
  exact(AnyF.slices_SortFunc_none L none 0 u w).mono fun e w' h=>⟨by simp[h.1],by rw[h.2];exact Below.refl _ _⟩
 .have hb:b<w.heap.size:=(Array.getElem?_eq_some_iff.1 h1).1
  by_cases hz:es=[]
  .subst hz
   refine(AnyF.slices_SortFunc_none L (some ⟨b,0,none⟩) cap u w).mono fun e w' h=>?_
   obtain⟨he,rfl⟩:=h
   exact⟨by simp[he],cur,h1,h4,by simp,fun i s hi=>by simp at hi,rfl,rfl,rfl,yV _,fun _ _ _=>rfl⟩
  .have hn:0<es.length:=List.length_pos_iff.2 hz
   haveI:Inhabited (Fin es.length):=⟨⟨0,hn⟩⟩
   have hsz:∀(x:Fin es.length) (c:Nat),c<sz->x.val*sz+c<es.length*sz:=fun x c hc=>by
    have:=Nat.mul_le_mul_right sz (show x.val+1<=es.length from x.isLt)
    rw[Nat.succ_mul]at this;omega
   have hm:=Nat.mul_le_mul_right sz h2
   have hcs:∀(x:Fin es.length) (c:Nat),c<sz->x.val*sz+c<cur.size:=fun x c hc=>by have:=hsz x c hc;omega
   have hk:∀x:Fin es.length,(Lx cur sz x.val).length=sz:=fun x=>M0f _ _ _
   have hrd:∀(x:Fin es.length) (c:Nat) (a:AV) (u:Value),(es[x]).cells[c]?=some a->(Lx cur sz x.val)[c]?=some u->a.one=true/\u.oneCell'=true/\Rd w gh.S gh.T a u:=by
    intro x c a u ha hu
    have hc:c<sz:=by have:=(yB hu).1;rwa [M0f]at this
    rw[L0f hc (hcs x c hc)]at hu
    refine h5 (x.val*sz+c) a u ?_ hu
    rw[X0J hes _ _ hc,yA x.isLt]
    exact ha
   have h1c:∀x:Fin es.length,∀v∈Lx cur sz x.val,v.oneCell'=true:=by
    intro x v hv
    obtain⟨c,hc⟩:=List.getElem?_of_mem hv
    have hcl:c<sz:=by have:=(yB hc).1;rwa [M0f]at this
    obtain⟨a,ha⟩:∃a,(es[x]).cells[c]?=some a:=⟨_,yA (by rw[hes es[x] (List.getElem_mem x.isLt)];exact hcl)⟩
    exact(hrd x c a v ha hc).2.1
   have hflat:∀(l:List (Fin es.length)) (i c:Nat),c<sz->(flatK (fun x:Fin es.length=>Lx cur sz x.val) sz l.toArray).toList[i*sz+c]?=l[i]?.bind fun x=>(Lx cur sz x.val)[c]?:=fun l i c hc=>by
    rw[J1n h0 hk]
    exact U0f hk l i c hc
   have hs0:(flatK (fun x:Fin es.length=>Lx cur sz x.val) sz (List.finRange es.length).toArray).size=es.length*sz:=by simp
   have hH:HoldsK (fun x:Fin es.length=>Lx cur sz x.val) sz w b 0 (List.finRange es.length).toArray:=by
    refine O1n h1 ?_
    apply List.ext_getElem? 
    intro j
    by_cases hj:j<es.length*sz
    .have hc:j % sz<sz:=Nat.mod_lt _ h0
     have e0:j / sz*sz+j % sz=j:=by rw[Nat.mul_comm];exact Nat.div_add_mod j sz
     have hi:j / sz<es.length:=Nat.div_lt_of_lt_mul (by rw[Nat.mul_comm];exact hj)
     have q:=hflat (List.finRange es.length) (j / sz) (j % sz) hc
     rw[e0]at q
     have hg:(List.finRange es.length)[j / sz]?=some ⟨j / sz,hi⟩:=by
      rw[yA (by simpa using hi)]
      simp
     rw[q,hg,bS,L0f hc (hcs ⟨j / sz,hi⟩ _ hc)]
     simp only[e0]
     simp[hj]
    .rw[List.getElem?_eq_none (by simp;omega),List.getElem?_eq_none (by simp;omega)]
   have:=AnyQ.slices_SortFunc_total L sz aE zE (fun x:Fin es.length=>Lx cur sz x.val) hk h1c cf hO g #[] b 0 cap (List.finRange es.length).toArray w eg
    (fun m os dk _ x y=>hcmp w gh.S gh.T x y _ _ (hk x) (hk y) (fun c a u ha hu=>(hrd x c a u ha hu).2.2) (fun c a u ha hu=>(hrd y c a u ha hu).2.2) _) hH hb (by simpa using hl) hT
   simp only[List.size_toArray,List.length_finRange]at this
   rw[hu]
   refine this.mono fun e w' h=>?_
   obtain⟨he,n,os,hw⟩:=h
   obtain⟨M,hM⟩:∃M,M=(List.finRange es.length).mergeSort fun x y=>!(ltOf cf) y x:=⟨_,rfl⟩
   have hMl:M.length=es.length:=by rw[hM];simp
   obtain⟨F,hF⟩:∃F,F=flatK (fun x:Fin es.length=>Lx cur sz x.val) sz M.toArray:=⟨_,rfl⟩
   have hFs:F.size=es.length*sz:=by rw[hF];simp[hMl]
   have hw2:w'=grow (putRow id (Sort.ahead w n) b 0 F) os:=by
    rw[hw,hF,hM]
    rfl
   rw[hw2,← hM]
   obtain⟨cur',q1,q2,q3,q4,q5⟩:=Z1e (F:=F) h1 (by rw[hFs,h4];exact hm) n os
   refine⟨by simp[he],cur',q1,by rw[q2,h4],by simpa[hMl]using h2,fun i s hi c hc=>?_,rfl,rfl,rfl,q4,q5⟩
   rw[yF,Option.map_eq_some_iff]at hi
   obtain⟨x,hx,rfl⟩:=hi
   have hil:i<es.length:=by rw[← hMl];exact(yB hx).1
   have q:=hflat M i c hc
   rw[hx,bS,L0f hc (hcs x c hc),← hF]at q
   rw[← q,← q3,List.getElem?_take,yd (by rw[hFs];exact hsz ⟨i,hil⟩ c hc),Array.getElem?_toList]
def runLt(x y:Run):Bool:=if x.job.prio≠y.job.prio then decide (x.job.prio<y.job.prio)else if x.t≠y.t then decide (y.t<x.t)else decide (y.job.id<x.job.id)
def YD(x y:Run):Bool:=!runLt y x
def O1d(l:List Run):Prop:=(l.map (·.job.id)).Nodup/\l.length<4611686018427387904
instance(l:List Run):Decidable (O1d l):=by unfold O1d;infer_instance
def J0g(l:List Run):Option (List Run):=if O1d l then some (l.mergeSort YD)else none
theorem Oh(x y:Run):runLt x y=true↔x.job.prio<y.job.prio\/(x.job.prio=y.job.prio/\(y.t<x.t\/(x.t=y.t/\y.job.id<x.job.id))):=by
 unfold runLt
 by_cases h1:x.job.prio=y.job.prio
 .by_cases h2:x.t=y.t
  .simp[h1,h2]
  .simp[h1,h2]
 .simp[h1]
def X0h(l:List Run)(x y:Fin l.length):Int:=if runLt l[x] l[y]=true then -1 else 1
theorem M04(l:List Run)(x y:Fin l.length):ltOf (X0h l) x y=runLt l[x] l[y]:=by
 unfold ltOf X0h
 cases runLt l[x] l[y]<;>rfl
theorem U1m(l:List Run):SWO (ltOf (X0h l)) where
 irrefl x:=by
  rw[M04]
  cases h:runLt l[x] l[x]with
  |false=>rfl
  |true=>rw[Oh]at h;omega
 trans x y z h1 h2:=by
  rw[M04,Oh]at *
  omega
 ntrans x y z h1 h2:=by
  rw[M04,Bool.eq_false_iff,ne_eq,Oh]at *
  omega
theorem J17{l:List Run}(h:(l.map (·.job.id)).Nodup)(x y:Fin l.length)(h1:ltOf (X0h l) x y=false)(h2:ltOf (X0h l) y x=false):x=y:=by
 rw[M04,Bool.eq_false_iff,ne_eq,Oh]at h1 h2
 have e:l[x].job.id=l[y].job.id:=by omega
 have hp:=List.pairwise_iff_getElem.1 h
 rcases Nat.lt_trichotomy x.val y.val with q|q|q
 .exact absurd (by simpa using e) (hp x.val y.val (by simp) (by simp) q)
 .exact Fin.ext q
 .exact absurd (by simpa using e.symm) (hp y.val x.val (by simp) (by simp) q)
theorem W0Z(l:List Run)(n:Nat)(hn:n=l.length)(f:Fin n->Fin n->Bool)(hf:∀x y:Fin n,f x y=YD (l[x.val]'(hn ▸ x.isLt)) (l[y.val]'(hn ▸ y.isLt))):((List.finRange n).mergeSort f).map (fun x:Fin n=>l[x.val]'(hn ▸ x.isLt))=l.mergeSort YD:=by
 subst hn
 have hfr:(List.finRange l.length).map (fun x:Fin l.length=>l[x.val])=l:=by
  apply List.ext_getElem
  .simp
  .intro i h1 h2;simp
 conv=>rhs;rw[← hfr]
 rw[List.map_mergeSort]
 intro a _ b _
 exact hf a b
theorem J1g{w:World}{S:Nat->Nat->Prop}{T:Tag->Nat->Value->Prop}{tg:Tag}{x:Run}{v:List Value}(hl:v.length=13)(h:∀(c:Nat) (a:AV) (u:Value),(L0 tg x).cells[c]?=some a->v[c]?=some u->Rd w S T a u) :
  ∃av,v=[.int .i64 x.job.id,.int .i64 x.job.prio,.int .i64 x.job.nodes,.int .i64 x.job.need.a,.int .i64 x.job.need.b,.int .i64 x.job.need.c,.int .i64 x.job.lic.a,.int .i64 x.job.lic.b,.int .i64 x.job.lic.c,.int .i64 x.job.wall,.int .i64 x.job.level,.int .i64 x.t,av]:=by
 match v,hl with
 |[v0,v1,v2,v3,v4,v5,v6,v7,v8,v9,v10,v11,v12],_ =>
  have g:∀(c:Nat) (n:Int) (u:Value),(L0 tg x).cells[c]?=some (.int .i64 n)->[v0,v1,v2,v3,v4,v5,v6,v7,v8,v9,v10,v11,v12][c]?=some u->u=.int .i64 n:=fun c n u h1 h2=>by
   have:=h c _ u h1 h2
   cases this;rfl
  refine⟨v12,?_⟩
  rw[g 0 _ v0 rfl rfl,g 1 _ v1 rfl rfl,g 2 _ v2 rfl rfl,g 3 _ v3 rfl rfl,g 4 _ v4 rfl rfl,g 5 _ v5 rfl rfl,g 6 _ v6 rfl rfl,g 7 _ v7 rfl rfl,g 8 _ v8 rfl rfl,g 9 _ v9 rfl rfl,g 10 _ v10 rfl rfl,g 11 _ v11 rfl rfl]
theorem Q1d{tg:Tag}{l r:List Run}(h:J0g l=some r):L0c Tryz.prog Z6 13 (l.map (L0 tg)) [.fn QE []] false (r.map (L0 tg)):=by
 unfold J0g at h
 split at h
 .rename_i hl
  cases h
  have eg:∀args w,(callFunc 105 args).run Tryz.prog w=.ok (.enter 105 args) w:=enters_of Tryz.func105 (by kernel_rfl) rfl
  have hlen:(l.map (L0 tg)).length=l.length:=by simp
  have c0:∀x:Fin (l.map (L0 tg)).length,x.val<l.length:=fun x=>by rw[← hlen];exact x.isLt
  have cx:∀x:Fin (l.map (L0 tg)).length,(l.map (L0 tg))[x]=L0 tg (l[x.val]'(c0 x)):=fun x=>by simp
  have key:=J1l (sz:=13) (by omega) (ρ:=Tryz.sortFR_ren) Tryz.sortFR Tryz.isAgg126 Tryz.sizeOf126 105 eg (l.map (L0 tg)) (fun e he=>by obtain⟨x,_,rfl⟩:=yY he;rfl)
   (fun x y=>X0h l ⟨x.val,c0 x⟩ ⟨y.val,c0 y⟩) ?_ ?_ ?_ (by rw[hlen];exact hl.2)
  .have hM:=W0Z l _ hlen (fun x y=>!(ltOf fun x y=>X0h l ⟨x.val,c0 x⟩ ⟨y.val,c0 y⟩) y x) fun x y=>by
    have:=M04 l ⟨y.val,c0 y⟩ ⟨x.val,c0 x⟩
    show(!(ltOf (X0h l) ⟨y.val,c0 y⟩ ⟨x.val,c0 x⟩))=_
    rw[this];rfl
   generalize ((List.finRange (l.map (L0 tg)).length).mergeSort fun x y=>!(ltOf fun x y=>X0h l ⟨x.val,c0 x⟩ ⟨y.val,c0 y⟩) y x)=M at key hM
   refine W0T (fun e=>?_) (fun _=>by simp) ?_ (fun i s hi=>?_) key
   .have:l=[]:=by simpa using e
    subst this;simp
   .rw[← hM];simp
   .obtain⟨x,hx,rfl⟩:∃x,M[i]?=some x/\x.val=s:=by simpa using hi
    refine⟨x.isLt,?_⟩
    rw[← hM,List.map_map,yF,hx,yA x.isLt]
    simp
  .have:=U1m l
   exact⟨fun x=>this.irrefl _,fun x y z=>this.trans _ _ _,fun x y z=>this.ntrans _ _ _⟩
  .intro x y h1 h2
   have:=J17 hl.1 ⟨x.val,c0 x⟩ ⟨y.val,c0 y⟩ h1 h2
   exact Fin.ext (by simpa using congrArg Fin.val this)
  .intro w0 S T x y vx vy hx hy hvx hvy w
   rw[cx]at hvx hvy
   obtain⟨av,rfl⟩:=J1g hx hvx
   obtain⟨bv,rfl⟩:=J1g hy hvy
   exact Z0W _ _ _ _ _ _ _ _ _ _ _ _ _ _ _ _ _ _ _ _ _ _ _ _ av bv w
 .cases h
end Go.Proofs.YtodafdoninblmaaGreat
namespace Go.Proofs.YtodafdoninblmaaGreat
open Go Go.RowKit Eng
section
set_option maxRecDepth 20000
def X0O:L :=
sR [.bx 2 0,.bx 3 1,.mv 4 (cB false)]
 (.seq (sR [fA 5 2 0,fA 6 5 1,lF 7 6 1,fA 8 3 0,fA 9 8 1,lF 10 9 1,bI 11 .neq 7 10]
 (.cond 11 (sR [fA 12 2 0,fA 13 12 1,lF 14 13 1,fA 15 3 0,fA 16 15 1,lF 17 16 1,bI 18 .lss 14 17,mV 4 18]
 gR)
 .skip))
 (sR [fA 19 2 11,lF 20 19 1,fA 21 3 11,lF 22 21 1,bI 23 .gtr 20 22,mV 24 23,gF 24 (fA 25 2 11),gF 24 (lF 26 25 1),gF 24 (fA 27 3 11),gF 24 (lF 28 27 1),gF 24 (bI 29 .eql 26 28),gF 24 (mV 30 29),gT 30 (fA 31 2 0),gT 30 (fA 32 31 0),gT 30 (lF 33 32 1),gT 30 (fA 34 3 0),gT 30 (fA 35 34 0),gT 30 (lF 36 35 1),gT 30 (bI 37 .gtr 33 36),gF 24 (.pk 38 30 37 (cB false)),.pk 39 24 (cB true) 38,mV 4 39]
 gR))
def YF(a1 b2:Run):Option Bool :=
 bif (a1.job.prio != b2.job.prio)then(some (decide (a1.job.prio<b2.job.prio)))else(some ((decide (b2.t<a1.t))||((a1.t==b2.t)&&(decide (b2.job.id<a1.job.id)))))
theorem Y0u{a1 b2:Run}{r:Bool}(H:YF a1 b2=some r):Snd Tryz.prog LZ [L0 .rd a1,L0 .rd b2] (.bool r) []:=by
 refine wS X0O [.t 4] ?_
 unfold YF at H
 refine wP ?_
 refine V0 H (fun H=>?_) fun H=>?_
 .obtain rfl:=sI H
  exact wP (wE [(4,.d)])
 .obtain rfl:=sI H
  exact wP (wE [(4,.d)])
def Yc(a1 b2:Run):Bool :=
 bif (a1.job.prio != b2.job.prio)then((decide (a1.job.prio<b2.job.prio)))else(((decide (b2.t<a1.t))||((a1.t==b2.t)&&(decide (b2.job.id<a1.job.id)))))
theorem Y0X(a1 b2:Run):YF a1 b2=some (Yc a1 b2):=by
 unfold YF Yc
 first|rfl|simp only[Z2]
theorem O0K(a1 b2:Run):Snd Tryz.prog LZ [L0 .rd a1,L0 .rd b2] (.bool (Yc a1 b2)) []:=Y0u (Y0X a1 b2)
def Y0P:L :=
sR [.bx 2 0,.bx 3 1,.mv 4 (cB false)]
 (.seq (sR [lT 10 2 11,cQ 11 QT [10],.un 12 11]
 (.cond 12 (.seq (rE 4 (cB false))
 gR)
 .skip))
 (sR [lT 14 2 11,cQ 15 X00 [14],mV 13 15,eX 16 13 0,eX 17 13 1,.al 5 [.nl,.nl,.nl,.nl,.nl],.st 5 16 5,mV 6 17]
 (sR [lT 19 5 5,lT 20 3 11,fA 21 2 7,lF 22 21 1,cQ 23 Y08 [19,20,22],mV 18 23,eX 24 18 0,eX 25 18 1,eX 26 18 2,mV 7 24,mV 8 25,mV 9 26]
 (sR [mV 27 9,mV 28 27,gT 28 (mV 29 7),gT 28 (fA 30 2 7),gT 28 (lF 31 30 1),gT 28 (bI 32 .eql 29 31),.pk 33 28 32 (cB false),mV 4 33]
 gR))))
def Me(s1:State)(j2:Job):Option Bool :=
 (Zp s1).bind fun b3=>bif (!b3)then(some false)else((Vc s1).bind fun y4=>(Uj y4.1 j2 s1.now).bind fun y5=>some (y5.2.2&&(y5.1==s1.now)))
theorem LR{s1:State}{j2:Job}{r:Bool}(H:Me s1 j2=some r):Snd Tryz.prog UH [Q2 .rd s1,eJob j2] (.bool r) []:=by
 refine wS Y0P [.t 4] ?_
 unfold Me at H
 obtain⟨b3,h3,H⟩:=bB H
 refine wG [.c 11 (Z04 h3)] fun _=>?_
 refine V0 H (fun H=>?_) fun H=>?_
 .obtain rfl:=sI H
  exact wP (wE [(4,.d)])
 .obtain⟨y4,h4,H⟩:=bB H
  obtain⟨y5,h5,H⟩:=bB H
  refine wG [.c 15 (Y0b h4),.u 23 (.call _ _ _ _ _ (AEs.of (xs:=[.agg [rV 1 (y4.1.topo.parents.map eI),rV 4 (y4.1.topo.nodes.map L2),rV 1 (y4.1.up.map eBo),rV 1 (y4.1.profs.map (O1 .nw)),rV 4 (y4.1.lics.map ePt)],.agg [iV j2.id,iV j2.prio,iV j2.nodes,iV j2.need.a,iV j2.need.b,iV j2.need.c,iV j2.lic.a,iV j2.lic.b,iV j2.lic.c,iV j2.wall,iV j2.level],iV s1.now]) (by simp)) (fun _=>O0u h5))] fun _=>?_
  replace H:=sI H;subst H
  exact wE [(4,.d)]
def L0E:L :=
sR [.bx 2 0,.bx 3 1,.mv 4 (.c (.nl))]
 (sR [.bs 12 13 [] true,mV 5 12]
 (.seq (sR [fA 13 2 9,lF 14 13 1,.ln 15 14,.mv 16 (kI 0)]
 (.blk 0 (.loop (.gw (sR [bI 17 .lss 16 15]
 (.seq (.cond 17 .skip
 (.exit 0))
 (.seq (.blk 1 (sR [iA 18 14 16 13,lT 19 18 13,.al 7 [.int .i64 0,.int .i64 0,.int .i64 0,.int .i64 0,.int .i64 0,.int .i64 0,.int .i64 0,.int .i64 0,.int .i64 0,.int .i64 0,.int .i64 0,.int .i64 0,.nl],.st 7 19 13]
 (.seq (sR [fA 20 7 0,fA 21 20 1,lF 22 21 1,fA 23 3 1,lF 24 23 1,bI 25 .geq 22 24]
 (.cond 25 (.exit 1)
 .skip))
 (sR [.bs 26 13 [] true,mV 8 26]
 (.seq (rE 9 (cB false))
 (.seq (sR [mV 27 5,.ln 28 27,.mv 29 (kI 0)]
 (.blk 2 (.loop (.gw (sR [bI 30 .lss 29 28]
 (.seq (.cond 30 .skip
 (.exit 2))
 (.seq (.blk 3 (sR [iA 31 27 29 13,lT 32 31 13,.al 11 [.int .i64 0,.int .i64 0,.int .i64 0,.int .i64 0,.int .i64 0,.int .i64 0,.int .i64 0,.int .i64 0,.int .i64 0,.int .i64 0,.int .i64 0,.int .i64 0,.nl],.st 11 32 13]
 (.seq (sR [mV 33 9,.un 34 33,mV 35 34,gT 35 (lT 36 7 13),gT 35 (lT 37 11 13),gT 35 (cQ 38 LZ [36,37]),.pk 39 35 38 (cB false)]
 (.cond 39 (sR [mV 40 8,lT 41 7 13,.bs 42 13 [41] false,.ap 43 40 42 13 120,mV 8 43]
 (rE 9 (cB true)))
 .skip))
 (.gw (.reg [mV 44 8,lT 45 11 13,.bs 46 13 [45] false,.ap 47 44 46 13 120,mV 8 47])))))
 (.reg [.bi 48 .add 29 (kI 1),mV 29 48]))))))))
 (.seq (sR [mV 49 9,.un 50 49]
 (.cond 50 (.reg [mV 51 8,lT 52 7 13,.bs 53 13 [52] false,.ap 54 51 53 13 120,mV 8 54])
 .skip))
 (.reg [mV 55 8,mV 5 55]))))))))
 (.reg [.bi 56 .add 16 (kI 1),mV 16 56]))))))))
 (sR [mV 57 5,mV 4 57]
 gR)))
def U0B:List Rv:=[.t 4]
theorem L0J:QM Tryz.prog Wz 2 L0E U0B=true:=by kernel_rfl
def M6(x6:Run)(k6:(Bool×(List Run))->Option (List Run))(v8:Bool×(List Run)):Option (List Run) :=
 (appL 120 v8.2 [x6]).bind fun xs9=>k6 (v8.1,xs9)
def Wa(x4 x6:Run)(_:Nat)(v6:Bool×(List Run))(k6:(Bool×(List Run))->Option (List Run)):Option (List Run) :=
 bif ((!v6.1)&&(Yc x4 x6))then((appL 120 v6.2 [x4]).bind fun xs7=>(M6 x6 k6) (true,xs7))else((M6 x6 k6) (v6.1,v6.2))
def Qa(x4:Run)(k4:(List Run)->Option (List Run))(v6:Bool×(List Run)):Option (List Run) :=
 bif (!v6.1)then((appL 120 v6.2 [x4]).bind fun xs10=>k4 xs10)else(k4 v6.2)
def Ym(j2:Job)(x4:Run)(_:Nat)(v4:(List Run))(k4:(List Run)->Option (List Run)):Option (List Run) :=
 bif (decide (j2.prio<=x4.job.prio))then(k4 v4)else(rgl (Wa x4) (Qa x4 k4) v4 0 (false,[]))
def MB(v4:(List Run)):Option (List Run) :=
 some v4
def VA(s1:State)(j2:Job):Option (List Run) :=
 rgl (Ym j2) MB s1.runs 0 []
set_option maxRecDepth 20000 in
theorem J0z{s1:State}{j2:Job}{r:(List Run)}(H:VA s1 j2=some r):ConD Tryz.prog Wz [Q2 .rd s1,eJob j2] [] [] (.sref 0) [] [] [(13,r.map (L0 .rd))]:=by
 refine O1W [] L0J rfl (by kernel_rfl) ?_
 unfold VA at H
 refine wG [.u 15 (.ln _ _ fun _=>lm s1.runs (L0 .rd))] fun q3=>?_
 refine wR (fun(i4:Nat) (v4:(List Run))=>⟨[(3,.ptr 3 0),(5,.sref 12),(14,rV 13 (s1.runs.map (L0 .rd))),(15,iV (s1.runs.length:Int)),(16,iV (i4:Int))],[],[(3,(eJob j2).cells)],[(12,⟨13,v4.map (L0 .rd),false⟩)]⟩) H (fun i4 x4 v4 I m k4 hxv4 hiv4 H N56=>?_) (fun v4 I m H=>?_)
 .unfold Ym at H
  refine wP ?_
  refine wt (ltT hiv4) ?_
  refine wG [.u 18 (.ix _ _ _ fun _=>Y0 (L0 .rd) (Q0 hxv4))] fun _=>?_
  refine V0 H (fun H=>?_) fun H=>?_
  .refine wG [.w 56 (wi .i64 rfl hiv4 q3.1)] fun _=>?_
   exact wT (N56 _ H)
  .refine wG [.u 28 (.ln _ _ fun _=>lm v4 (L0 .rd))] fun q5=>?_
   refine wR (fun(i6:Nat) (v6:Bool×(List Run))=>⟨[(3,.ptr 3 0),(7,.ptr 7 0),(8,.sref 26),(9,.bool v6.1),(14,rV 13 (s1.runs.map (L0 .rd))),(15,iV (s1.runs.length:Int)),(16,iV (i4:Int)),(27,.sref 12),(28,iV (v4.length:Int)),(29,iV (i6:Int))],[],[(3,(eJob j2).cells),(7,(L0 .rd x4).cells)],[(26,⟨13,v6.2.map (L0 .rd),false⟩),(12,⟨13,v4.map (L0 .rd),false⟩)]⟩) H (fun i6 x6 v6 I m k6 hxv6 hiv6 H N36=>?_) (fun v6 I m H=>?_)
   .unfold Wa at H
    refine wP ?_
    refine wt (ltT hiv6) ?_
    refine wG [.u 31 (.ix _ _ _ fun _=>Y0 (L0 .rd) (Q0 hxv6)),.u 32 (.el _ _ _ fun _=>gm (L0 .rd) (L7 (Q0 hxv6))),.g 38 [((!v6.1),true)] (.call _ _ _ _ _ (AEs.refl _) (fun _=>O0K x4 x6))] fun _=>?_
    refine WZ (r:=r) (M6 x6 k6) 0 (fun v8:Bool×(List Run)=>⟨[(3,.ptr 3 0),(7,.ptr 7 0),(8,.sref 26),(9,.bool v8.1),(11,.ptr 11 0),(14,.sl .rd 13 (s1.runs.map (L0 .rd))),(15,.int .i64 (s1.runs.length:Int)),(16,.int .i64 (i4:Int)),(27,.sref 12),(28,.int .i64 (v4.length:Int)),(29,.int .i64 (i6:Int))],[],[(3,(eJob j2).cells),(7,(L0 .rd x4).cells),(11,(L0 .rd x6).cells)],[(26,⟨13,v8.2.map (L0 .rd),false⟩),(12,⟨13,v4.map (L0 .rd),false⟩)]⟩) (by kernel_rfl) (fun v8 H=>?_) (fun J28=>?_)
    .unfold M6 at H
     obtain⟨xs9,h9,H⟩:=bB H
     refine wG [.u 47 (.ap _ _ _ _ fun _=>M0 (L0 .rd) h9),.w 48 (wi .i64 rfl hiv6 q5.1)] fun _=>?_
     exact wT (N36 _ H)
    .refine V0 H (fun H=>?_) fun H=>?_
     .obtain⟨xs7,h7,H⟩:=bB H
      refine wG [.u 43 (.ap _ _ _ _ fun _=>M0 (L0 .rd) h7)] fun _=>?_
      exact wT (J28 _ H)
     .refine wP ?_
      exact wT (J28 _ H)
   .unfold Qa at H
    refine wP ?_
    refine wf (ltF v4.length) ?_
    refine wP ?_
    refine V0 H (fun H=>?_) fun H=>?_
    .obtain⟨xs10,h10,H⟩:=bB H
     refine wG [.u 54 (.ap _ _ _ _ fun _=>M0 (L0 .rd) h10),.w 56 (wi .i64 rfl hiv4 q3.1)] fun _=>?_
     exact M1f (N56 _ H) [] [] [(12,(some 26,0))] [] (by kernel_rfl) (by kernel_rfl)
    .refine wG [.w 56 (wi .i64 rfl hiv4 q3.1)] fun _=>?_
     exact M1f (N56 _ H) [] [] [(12,(some 26,0))] [] (by kernel_rfl) (by kernel_rfl)
 .unfold MB at H
  refine wP ?_
  refine wf (ltF s1.runs.length) ?_
  refine wP ?_
  replace H:=sI H;subst H
  exact Q1z [(4,.d)] [] [(12,some 12,0)] [] [12] (by kernel_rfl)
def M0N:L :=
sR [.mv 4 (.c (.nl))]
 (sR [.bs 8 1 [] true,mV 5 8]
 (.seq (sR [mV 9 0,.ln 10 9,.mv 11 (kI 0)]
 (.blk 0 (.loop (.gw (sR [bI 12 .lss 11 10]
 (.seq (.cond 12 .skip
 (.exit 0))
 (.seq (.blk 1 (sR [iA 13 9 11 1,lF 14 13 1,mV 7 14]
 (sR [mV 15 7,mV 16 1,bI 17 .neq 15 16]
 (.cond 17 (.reg [mV 18 5,mV 19 7,.bs 20 1 [19] false,.ap 21 18 20 1 8,mV 5 21])
 .skip))))
 (.reg [.bi 22 .add 11 (kI 1),mV 11 22]))))))))
 (sR [mV 23 5,mV 4 23]
 gR)))
def OI(n2 x4:Int)(_:Nat)(v4:(List Int))(k4:(List Int)->Option (List Int)):Option (List Int) :=
 bif (x4 != n2)then((appL 8 v4 [x4]).bind fun xs5=>k4 xs5)else(k4 v4)
def WI(v4:(List Int)):Option (List Int) :=
 some v4
def Ou(l1:List Int)(n2:Int):Option (List Int) :=
 rgl (OI n2) WI l1 0 []
theorem J0a{l1:List Int}{n2:Int}{r:(List Int)}(H:Ou l1 n2=some r):Snd Tryz.prog MZ [rV 1 (l1.map eI),iV n2] (nV 1 (r.map eI)) []:=by
 refine wS M0N [.t 4] ?_
 unfold Ou at H
 refine wG [.u 10 (.ln _ _ fun _=>lm l1 eI)] fun q3=>?_
 refine wR (fun(i4:Nat) (v4:(List Int))=>⟨[(1,iV n2),(5,.sref 8),(9,rV 1 (l1.map eI)),(10,iV (l1.length:Int)),(11,iV (i4:Int))],[],[],[(8,⟨1,v4.map eI,false⟩)]⟩) H (fun i4 x4 v4 I m k4 hxv4 hiv4 H N19=>?_) (fun v4 I m H=>?_)
 .unfold OI at H
  refine wP ?_
  refine wt (ltT hiv4) ?_
  refine wG [.u 13 (.ix _ _ _ fun _=>Y0 eI (Q0 hxv4))] fun _=>?_
  refine V0 H (fun H=>?_) fun H=>?_
  .obtain⟨xs5,h5,H⟩:=bB H
   refine wG [.u 21 (.ap _ _ _ _ fun _=>M0 eI h5),.w 22 (wi .i64 rfl hiv4 q3.1)] fun _=>?_
   exact wT (N19 _ H)
  .refine wG [.w 22 (wi .i64 rfl hiv4 q3.1)] fun _=>?_
   exact wT (N19 _ H)
 .unfold WI at H
  refine wP ?_
  refine wf (ltF l1.length) ?_
  refine wP ?_
  replace H:=sI H;subst H
  exact wN [(4,.f)] [] [] [8] [] [⟨_,nw_I v4⟩]
def WN:L :=
sR [.bx 2 0,.al 4 [.nl,.nl,.nl,.int .i64 0,.int .i64 0,.int .i64 0,.int .i64 0,.int .i64 0,.nl,.nl,.nl]]
 (sR [.bs 8 13 [] true,mV 5 8]
 (.seq (sR [fA 9 2 9,lF 10 9 1,.ln 11 10,.mv 12 (kI 0)]
 (.blk 0 (.loop (.gw (sR [bI 13 .lss 12 11]
 (.seq (.cond 13 .skip
 (.exit 0))
 (.seq (.blk 1 (sR [iA 14 10 12 13,lT 15 14 13,.al 7 [.int .i64 0,.int .i64 0,.int .i64 0,.int .i64 0,.int .i64 0,.int .i64 0,.int .i64 0,.int .i64 0,.int .i64 0,.int .i64 0,.int .i64 0,.int .i64 0,.nl],.st 7 15 13]
 (sR [mV 16 1,fA 17 7 0,fA 18 17 0,lF 19 18 1,cQ 20 Je [16,19],.un 21 20]
 (.cond 21 (.reg [mV 22 5,lT 23 7 13,.bs 24 13 [23] false,.ap 25 22 24 13 120,mV 5 25])
 .skip))))
 (.reg [.bi 26 .add 12 (kI 1),mV 12 26]))))))))
 (sR [mV 27 5,fA 28 2 9,.st 28 27 1]
 (sR [lT 29 2 11,.st 4 29 11]
 gR))))
def QN:List Rv:=[.c 4 11 true]
theorem MN:QM Tryz.prog X6 2 WN QN=true:=by kernel_rfl
def U6(ids2:List Int)(x4:Run)(_:Nat)(v4:(List Run))(k4:(List Run)->Option State):Option State :=
 (M9 ids2 x4.job.id).bind fun b5=>bif (!b5)then((appL 120 v4 [x4]).bind fun xs6=>k4 xs6)else(k4 v4)
def O9(s1:State)(v4:(List Run)):Option State :=
 some (State.mk s1.topo s1.up s1.lic s1.depth s1.now s1.queue v4 s1.ends)
def M3(s1:State)(ids2:List Int):Option State :=
 rgl (U6 ids2) (O9 s1) s1.runs 0 []
set_option maxRecDepth 20000 in
theorem Va{s1:State}{ids2:List Int}{r:State}(H:M3 s1 ids2=some r):ConD Tryz.prog X6 [Q2 .rd s1,rV 1 (ids2.map eI)] [] [] (.agg [rV 1 (r.topo.parents.map eI),rV 4 (r.topo.nodes.map L2),rV 1 (r.up.map eBo),iV r.lic.a,iV r.lic.b,iV r.lic.c,iV r.depth,iV r.now,rV 11 (r.queue.map eJob),nV 13 (r.runs.map (L0 .rd)),rV 3 (r.ends.map eEnd)]) [] [] []:=by
 refine O1W [] MN rfl (by kernel_rfl) ?_
 unfold M3 at H
 refine wG [.u 11 (.ln _ _ fun _=>lm s1.runs (L0 .rd))] fun q3=>?_
 refine wR (fun(i4:Nat) (v4:(List Run))=>⟨[(1,rV 1 (ids2.map eI)),(2,.ptr 2 0),(4,.ptr 4 0),(5,.sref 8),(10,rV 13 (s1.runs.map (L0 .rd))),(11,iV (s1.runs.length:Int)),(12,iV (i4:Int))],[],[(2,(Q2 .rd s1).cells),(4,[.nl,.nl,.nl,iV 0,iV 0,iV 0,iV 0,iV 0,.nl,.nl,.nl])],[(8,⟨13,v4.map (L0 .rd),false⟩)]⟩) H (fun i4 x4 v4 I m k4 hxv4 hiv4 H N19=>?_) (fun v4 I m H=>?_)
 .unfold U6 at H
  refine wP ?_
  refine wt (ltT hiv4) ?_
  obtain⟨b5,h5,H⟩:=bB H
  refine wG [.u 14 (.ix _ _ _ fun _=>Y0 (L0 .rd) (Q0 hxv4)),.c 20 (Lf h5)] fun _=>?_
  refine V0 H (fun H=>?_) fun H=>?_
  .obtain⟨xs6,h6,H⟩:=bB H
   refine wG [.u 25 (.ap _ _ _ _ fun _=>M0 (L0 .rd) h6),.w 26 (wi .i64 rfl hiv4 q3.1)] fun _=>?_
   exact wT (N19 _ H)
  .refine wG [.w 26 (wi .i64 rfl hiv4 q3.1)] fun _=>?_
   exact wT (N19 _ H)
 .unfold O9 at H
  refine wP ?_
  refine wf (ltF s1.runs.length) ?_
  refine wP ?_
  replace H:=sI H;subst H
  exact Q1z [(4,.d)] [(4,[.d,.d,.d,.d,.d,.d,.d,.d,.d,.f,.d])] [] [8] [] (by kernel_rfl)
def M0F:L :=
sR [.bx 2 0,.bx 3 1,.mv 4 (.c (.nl)),.mv 5 (cB false)]
 (.seq (.rz [(8,6,[.int .i64 0,.int .i64 0,.int .i64 0,.int .i64 0,.int .i64 0,.int .i64 0,.int .i64 0,.int .i64 0,.int .i64 0,.int .i64 0,.int .i64 0])] [(0,false,lT 14 2 11),
 (1,false,cQ 15 ZT [14]),
 (2,false,fA 16 3 0),
 (3,false,lF 17 16 1),
 (4,false,cQ 18 J0c [15,17]),
 (5,false,mV 13 18),
 (6,false,eX 19 13 0),
 (7,false,eX 20 13 1)]
 [.st 6 19 11,mV 7 20])
 (.seq (sR [lT 21 2 11,cQ 22 QT [21],.un 23 22,mV 24 23,gF 24 (lT 25 3 11),gF 24 (cQ 26 Mp [25]),gF 24 (.un 27 26),.pk 28 24 (cB true) 27,mV 29 28,gF 29 (mV 30 7),.pk 31 29 (cB true) 30]
 (.cond 31 (sR [.mv 4 (.c (.nl)),.mv 5 (cB false)]
 gR)
 .skip))
 (sR [.bs 32 1 [] true,mV 8 32]
 (.seq (sR [lT 33 2 11,lT 34 3 11,.cm 35 Wz [33,34],.ln 36 35,.mv 37 (kI 0)]
 (.blk 0 (.loop (.gw (sR [bI 38 .lss 37 36]
 (.seq (.cond 38 .skip
 (.exit 0))
 (.seq (.blk 1 (sR [iA 39 35 37 13,lT 40 39 13,.al 10 [.int .i64 0,.int .i64 0,.int .i64 0,.int .i64 0,.int .i64 0,.int .i64 0,.int .i64 0,.int .i64 0,.int .i64 0,.int .i64 0,.int .i64 0,.int .i64 0,.nl],.st 10 40 13]
 (.seq (.seq (.rz [] [(0,false,lT 41 2 11),
 (3,false,lT 44 3 11),
 (1,true,.sc 42 8 none none 1),
 (2,true,.cm 43 X6 [41,42])]
 [cQ 45 UH [43,44]])
 (.cond 45 (.exit 0)
 .skip))
 (.reg [mV 46 8,fA 47 10 0,fA 48 47 0,lF 49 48 1,.bs 50 1 [49] false,.ap 51 46 50 1 8,mV 8 51]))))
 (.reg [.bi 52 .add 37 (kI 1),mV 37 52]))))))))
 (.gw (.seq (.seq (.rz [] [(0,false,lT 53 2 11),
 (3,false,lT 56 3 11),
 (1,true,.sc 54 8 none none 1),
 (2,true,.cm 55 X6 [53,54])]
 [cQ 57 UH [55,56],.un 58 57])
 (.cond 58 (sR [.mv 4 (.c (.nl)),.mv 5 (cB false)]
 gR)
 .skip))
 (.seq (sR [.bs 59 1 [] true,mV 60 8,.ap 61 59 60 1 8,.ln 62 61,.mv 63 (kI 0)]
 (.blk 2 (.loop (.gw (sR [bI 64 .lss 63 62]
 (.seq (.cond 64 .skip
 (.exit 2))
 (.seq (.blk 3 (sR [iA 65 61 63 1,lF 66 65 1,mV 12 66]
 (.seq (.rz [] [(0,false,lT 67 2 11),
 (2,false,mV 69 12),
 (5,false,lT 72 3 11),
 (1,true,mV 68 8),
 (3,true,cQ 70 MZ [68,69]),
 (4,true,.cm 71 X6 [67,70])]
 [cQ 73 UH [71,72]])
 (.cond 73 (.reg [mV 74 8,mV 75 12,cQ 76 MZ [74,75],mV 8 76])
 .skip))))
 (.reg [.bi 77 .add 63 (kI 1),mV 63 77]))))))))
 (sR [mV 78 8,mV 4 78,.mv 5 (cB true)]
 gR))))))))
def Wm(s1:State)(j2:Job)(x17:Int)(_:Nat)(v17:(List Int))(k17:(List Int)->Option ((List Int)×Bool)):Option ((List Int)×Bool) :=
 (Ou v17 x17).bind fun y18=>(M3 s1 y18).bind fun y19=>(Me y19 j2).bind fun b20=>bif b20 then((Ou v17 x17).bind fun y21=>k17 y21)else(k17 v17)
def UC(v17:(List Int)):Option ((List Int)×Bool) :=
 some (v17,true)
def Ja(s1:State)(j2:Job)(v12:(List Int)):Option ((List Int)×Bool) :=
 (M3 s1 v12).bind fun y13=>(Me y13 j2).bind fun b14=>bif (!b14)then(some ([],false))else((appL 8 ([]:List Int) v12).bind fun xs15=>rgl (Wm s1 j2) UC xs15 0 v12)
def Om(s1:State)(j2:Job)(x8:Run)(_:Nat)(v8:(List Int))(k8:(List Int)->Option ((List Int)×Bool)):Option ((List Int)×Bool) :=
 (M3 s1 v8).bind fun y9=>(Me y9 j2).bind fun b10=>bif b10 then((Ja s1 j2) v8)else((appL 8 v8 [x8.job.id]).bind fun xs11=>k8 xs11)
def QC(s1:State)(j2:Job)(v8:(List Int)):Option ((List Int)×Bool) :=
 (Ja s1 j2) v8
def ZO(s1:State)(j2:Job):Option ((List Int)×Bool) :=
 (Mg s1).bind fun y3=>(UA y3 j2.id).bind fun y4=>(Zp s1).bind fun b5=>bif (((!b5)||(!(O0 j2)))||y4.2)then(some ([],false))else((VA s1 j2).bind fun y6=>rgl (Om s1 j2) (QC s1 j2) y6 0 [])
theorem V0A{s1:State}{j2:Job}{r:(List Int)×Bool}(H:ZO s1 j2=some r):Snd Tryz.prog Y0d [Q2 .rd s1,eJob j2] (.tup [nV 1 (r.1.map eI),.bool r.2]) []:=by
 refine wS M0F [.t 4,.t 5] ?_
 unfold ZO at H
 obtain⟨y3,h3,H⟩:=bB H
 obtain⟨y4,h4,H⟩:=bB H
 obtain⟨b5,h5,H⟩:=bB H
 refine wG [.c 15 (X03 h3),.c 18 (Z0A h4),.c 22 (Z04 h5),.g 26 [((!b5),false)] (.call _ _ _ _ _ (AEs.refl _) (fun _=>QF j2))] fun _=>?_
 refine V0 H (fun H=>?_) fun H=>?_
 .refine wP ?_
  replace H:=sI H;subst H
  exact wN [(4,.n 1),(5,.d)] [] [] [] [] [⟨_,nw_I ([]:List Int)⟩]
 .obtain⟨y6,h6,H⟩:=bB H
  refine wG [.u 35 (.cw Wz [] [] [] [] [Q2 .rd s1,eJob j2] _ _ _ _ _ (GEs.of [false,false] (by simp)) (by simp) (by simp) (by simp) (fun _=>J0z h6)),.u 36 (.ln _ _ fun _=>lm y6 (L0 .rd))] fun q7=>?_
  refine WZ (r:=r) (Ja s1 j2) 0 (fun v12:(List Int)=>⟨[(2,.ptr 2 0),(3,.ptr 3 0),(8,.sref 32)],[],[(2,(Q2 .rd s1).cells),(3,(eJob j2).cells)],[(32,⟨1,v12.map eI,true⟩)]⟩) (by kernel_rfl) (fun v12 H=>?_) (fun J63=>?_)
  .unfold Ja at H
   obtain⟨y13,h13,H⟩:=bB H
   obtain⟨b14,h14,H⟩:=bB H
   refine wG [.u 54 (.sc _ none none _ fun _=>O1k (v12.map eI)),.u 55 (.cz X6 [] [] [Q2 .rd s1,nV 1 (v12.map eI)] _ _ _ (by simp) (by simp) (fun _=>by simp) (fun _=>Va h13)),.c 57 (LR h14)] fun _=>?_
   refine V0 H (fun H=>?_) fun H=>?_
   .refine wP ?_
    replace H:=sI H;subst H
    exact wN [(4,.n 1),(5,.d)] [] [] [] [] [⟨_,nw_I ([]:List Int)⟩]
   .obtain⟨xs15,h15,H⟩:=bB H
    refine wG [.u 61 (.ap _ _ _ _ fun _=>M0 eI h15),.u 62 (.ln _ _ fun _=>lm xs15 eI)] fun q16=>?_
    refine X07 (fun(i17:Nat) (v17:(List Int))=>⟨[(2,.ptr 2 0),(3,.ptr 3 0),(8,.sl .nw 1 (v17.map eI)),(61,.sref 59),(62,.int .i64 (xs15.length:Int)),(63,.int .i64 (i17:Int))],[],[(2,(Q2 .rd s1).cells),(3,(eJob j2).cells)],[(59,⟨1,xs15.map eI,false⟩)]⟩) [(8,.f)] [] [] [32] (by kernel_rfl) (by kernel_rfl) H (fun i17 x17 v17 I m k17 hxv17 hiv17 H N56=>?_) (fun v17 I m H=>?_)
    .unfold Wm at H
     refine wP ?_
     refine wt (ltT hiv17) ?_
     obtain⟨y18,h18,H⟩:=bB H
     obtain⟨y19,h19,H⟩:=bB H
     obtain⟨b20,h20,H⟩:=bB H
     refine wG [.u 65 (.ix _ _ _ fun _=>Y0 eI (Q0 hxv17)),.u 66 (.el _ _ _ fun _=>gm eI (L7 (Q0 hxv17))),.c 70 (J0a h18),.u 71 (.cz X6 [] [] [Q2 .rd s1,nV 1 (y18.map eI)] _ _ _ (by simp) (by simp) (fun _=>by simp) (fun _=>Va h19)),.c 73 (LR h20)] fun _=>?_
     refine V0 H (fun H=>?_) fun H=>?_
     .obtain⟨y21,h21,H⟩:=bB H
      refine wG [.c 76 (J0a h21),.w 77 (wi .i64 rfl hiv17 q16.1)] fun _=>?_
      exact wT (N56 _ H)
     .refine wG [.w 77 (wi .i64 rfl hiv17 q16.1)] fun _=>?_
      exact wT (N56 _ H)
    .unfold UC at H
     refine wP ?_
     refine wf (ltF xs15.length) ?_
     refine wP ?_
     replace H:=sI H;subst H
     exact wN [(4,.d),(5,.d)] [] [] [] [] [⟨_,nw_I v17⟩]
  .refine X07 (fun(i8:Nat) (v8:(List Int))=>⟨[(2,.ptr 2 0),(3,.ptr 3 0),(8,.sref 32),(35,.sref 36000),(36,.int .i64 (y6.length:Int)),(37,.int .i64 (i8:Int))],[],[(2,(Q2 .rd s1).cells),(3,(eJob j2).cells)],[(32,⟨1,v8.map eI,true⟩),(36000,⟨13,y6.map (L0 .rd),false⟩)]⟩) [] [] [] [32] (by kernel_rfl) (by kernel_rfl) H (fun i8 x8 v8 I m k8 hxv8 hiv8 H N29=>?_) (fun v8 I m H=>?_)
   .unfold Om at H
    refine wP ?_
    refine wt (ltT hiv8) ?_
    obtain⟨y9,h9,H⟩:=bB H
    obtain⟨b10,h10,H⟩:=bB H
    refine wG [.u 39 (.ix _ _ _ fun _=>Y0 (L0 .rd) (Q0 hxv8)),.u 40 (.el _ _ _ fun _=>gm (L0 .rd) (L7 (Q0 hxv8))),.u 42 (.sc _ none none _ fun _=>O1k (v8.map eI)),.u 43 (.cz X6 [] [] [Q2 .rd s1,nV 1 (v8.map eI)] _ _ _ (by simp) (by simp) (fun _=>by simp) (fun _=>Va h9)),.c 45 (LR h10)] fun _=>?_
    refine V0 H (fun H=>?_) fun H=>?_
    .refine wP ?_
     exact wT (J63 _ H)
    .obtain⟨xs11,h11,H⟩:=bB H
     refine wG [.u 51 (.ap _ _ _ _ fun _=>M0 eI h11),.w 52 (wi .i64 rfl hiv8 q7.1)] fun _=>?_
     exact wT (N29 _ H)
   .unfold QC at H
    refine wP ?_
    refine wf (ltF y6.length) ?_
    refine wP ?_
    exact wT (J63 _ H)
def M0o:L :=
sR [.bx 2 0,.mv 3 (cB false)]
 (sR [lF 4 1 1,fA 5 2 0,fA 6 5 0,lF 7 6 1,cQ 8 Z4 [4,7],mV 3 8]
 gR)
def Jy(x1:Run)(x2:List Int):Option Bool :=
 (X2 x2 x1.job.id).bind fun b3=>some b3
theorem V0p{x1:Run}{x2:List Int}{r:Bool}(H:Jy x1 x2=some r):Snd Tryz.prog Ln [L0 .rd x1,.ept (.agg [rV 1 (x2.map eI)]) 0] (.bool r) []:=by
 refine wS M0o [.t 3] ?_
 unfold Jy at H
 obtain⟨b3,h3,H⟩:=bB H
 refine wG [.c 8 (J4 h3)] fun _=>?_
 replace H:=sI H;subst H
 exact wE [(3,.d)]
def X0H:L :=
sR [.bx 2 0,.bx 3 1,.al 4 [.nl,.nl,.nl,.int .i64 0,.int .i64 0,.int .i64 0,.int .i64 0,.int .i64 0,.nl,.nl,.nl]]
 (sR [lT 5 2 11,.cl 6 UE [5],.st 2 6 11]
 (sR [.fb 3,fA 7 2 9,lF 8 7 1,.mf 9 Ln [3],.cm 10 X1 [8,9],fA 11 2 9,.st 11 10 1]
 (sR [lT 12 2 11,.st 4 12 11]
 gR)))
def Vp(s1:State)(ids2:List Int):Option State :=
 (Zg s1).bind fun y3=>(delF (fun x4=>Jy x4 ids2) y3.runs).bind fun xs5=>some (State.mk y3.topo y3.up y3.lic y3.depth y3.now y3.queue xs5 y3.ends)
theorem W05{s1:State}{ids2:List Int}{r:State}(H:Vp s1 ids2=some r):Snd Tryz.prog LT [Q2 .rd s1,rV 1 (ids2.map eI)] (Q2 .nw r) []:=by
 refine wS X0H [.c 4 11 true] ?_
 unfold Vp at H
 obtain⟨y3,h3,H⟩:=bB H
 obtain⟨xs5,h5,H⟩:=bB H
 refine wG [.c 6 (JW h3),.u 10 (.cr X1 13 _ [.fn Ln [.ept (.agg [rV 1 (ids2.map eI)]) 0]] [.fn Ln [.ept (.agg [rV 1 (ids2.map eI)]) 0]] true _ (fun _=>by simp) (fun _=>by simp) (fun _=>by simp) (fun _=>X0V (tg:=.nw) (by kernel_rfl) (fun x b hb=>V0p hb) h5))] fun _=>?_
 replace H:=sI H;subst H
 exact wN [(4,.d)] [(4,[.d,.d,.d,.d,.d,.d,.d,.d,.f,.f,.f])] [] [7000,11000,7002] [] [⟨_,nw_I y3.topo.parents⟩,⟨_,Y7 y3.topo.nodes⟩,⟨_,OF y3.up⟩,⟨_,Z0U y3.queue⟩,⟨_,Z0Z xs5⟩,⟨_,V1i y3.ends⟩]
def J0R:L :=
sR [.bx 2 0,.bx 3 1,.mv 4 (cB false)]
 (.seq (sR [lT 10 2 11,cQ 11 ZU [10],.un 12 11]
 (.cond 12 (.seq (rE 4 (cB false))
 gR)
 .skip))
 (sR [lT 14 2 11,cQ 15 V01 [14],mV 13 15,eX 16 13 0,eX 17 13 1,.al 5 [.nl,.nl,.nl,.nl,.nl],.st 5 16 5,mV 6 17]
 (sR [lT 19 5 5,lT 20 3 11,fA 21 2 7,lF 22 21 1,cQ 23 L08 [19,20,22],mV 18 23,eX 24 18 0,eX 25 18 1,eX 26 18 2,mV 7 24,mV 8 25,mV 9 26]
 (sR [mV 27 9,mV 28 27,gT 28 (mV 29 7),gT 28 (fA 30 2 7),gT 28 (lF 31 30 1),gT 28 (bI 32 .eql 29 31),.pk 33 28 32 (cB false),mV 4 33]
 gR))))
def Uo(s1:State)(j2:Job):Option Bool :=
 (Wp s1).bind fun b3=>bif (!b3)then(some false)else((Ux s1).bind fun y4=>(Uk y4.1 j2 s1.now).bind fun y5=>some (y5.2.2&&(y5.1==s1.now)))
theorem Q0c{s1:State}{j2:Job}{r:Bool}(H:Uo s1 j2=some r):Snd Tryz.prog U01 [Q2 .rd s1,eJob j2] (.bool r) []:=by
 refine wS J0R [.t 4] ?_
 unfold Uo at H
 obtain⟨b3,h3,H⟩:=bB H
 refine wG [.c 11 (Z06 h3)] fun _=>?_
 refine V0 H (fun H=>?_) fun H=>?_
 .obtain rfl:=sI H
  exact wP (wE [(4,.d)])
 .obtain⟨y4,h4,H⟩:=bB H
  obtain⟨y5,h5,H⟩:=bB H
  refine wG [.c 15 (V0c h4),.u 23 (.call _ _ _ _ _ (AEs.of (xs:=[.agg [rV 1 (y4.1.topo.parents.map eI),rV 4 (y4.1.topo.nodes.map L2),rV 1 (y4.1.up.map eBo),rV 1 (y4.1.profs.map (O1 .nw)),rV 4 (y4.1.lics.map ePt)],.agg [iV j2.id,iV j2.prio,iV j2.nodes,iV j2.need.a,iV j2.need.b,iV j2.need.c,iV j2.lic.a,iV j2.lic.b,iV j2.lic.c,iV j2.wall,iV j2.level],iV s1.now]) (by simp)) (fun _=>V0y h5))] fun _=>?_
  replace H:=sI H;subst H
  exact wE [(4,.d)]
def J0o:L :=
sR [.bx 2 0,.mv 3 (cB false)]
 (sR [fA 4 2 0,fA 5 4 1,lF 6 5 1,fA 7 1 1,lF 8 7 1,bI 9 .geq 6 8,mV 3 9]
 gR)
def Un(x1:Run)(x2:Job):Option Bool :=
 some (decide (x2.prio<=x1.job.prio))
theorem X0f{x1:Run}{x2:Job}{r:Bool}(H:Un x1 x2=some r):Snd Tryz.prog Mf [L0 .rd x1,.ept (eJob x2) 0] (.bool r) []:=by
 refine wS J0o [.t 3] ?_
 unfold Un at H
 obtain rfl:=sI H
 exact wP (wE [(3,.d)])
def Ql(x1:Run)(x2:Job):Bool :=
 (decide (x2.prio<=x1.job.prio))
theorem J0x(x1:Run)(x2:Job):Un x1 x2=some (Ql x1 x2):=by
 unfold Un Ql
 first|rfl|simp only[Z2]
theorem Q0p(x1:Run)(x2:Job):Snd Tryz.prog Mf [L0 .rd x1,.ept (eJob x2) 0] (.bool (Ql x1 x2)) []:=X0f (J0x x1 x2)
def U0H:L :=
sR [.bx 2 0,.bx 3 1,.mv 4 (.c (.nl)),.mv 5 (cB false)]
 (.seq (.seq (.rq 16 [lT 10 2 11,cQ 11 ZU [10],.un 12 11,mV 13 12,gF 13 (lT 14 3 11),gF 13 (cQ 15 Qi [14]),gF 13 (.un 16 15),.pk 17 13 (cB true) 16,mV 18 17,gF 18 (lT 19 2 11),gF 18 (cQ 20 WE [19]),gF 18 (fA 21 3 0),gF 18 (lF 22 21 1),gF 18 (cQ 23 X0t [20,22]),gF 18 (.bi 24 .geq 23 (kI 0)),.pk 25 18 (cB true) 24])
 (.cond 25 (sR [.mv 4 (.c (.nl)),.mv 5 (cB false)]
 gR)
 .skip))
 (sR [.fb 3,lT 26 2 11,.cl 27 UE [26],.fd 28 27 9 1 false,.mf 29 Mf [3],.cm 30 X1 [28,29],mV 6 30]
 (sR [mV 31 6,.cm 32 Z6 [31,(.c (.fn QE []))]]
 (sR [.bs 33 1 [] true,mV 7 33]
 (.seq (.blk 0 (.loop (.gw (.seq (.seq (.rq 6 [lT 34 2 11,mV 35 7,cQ 36 LT [34,35],lT 37 3 11,cQ 38 U01 [36,37],.un 39 38])
 (.cond 39 .skip
 (.exit 0)))
 (.blk 1 (.seq (sR [mV 40 7,.ln 41 40,mV 42 6,.ln 43 42,bI 44 .eql 41 43]
 (.cond 44 (sR [.mv 4 (.c (.nl)),.mv 5 (cB false)]
 gR)
 .skip))
 (.reg [mV 45 7,mV 46 6,mV 47 7,.ln 48 47,iA 49 46 48 13,fA 50 49 0,fA 51 50 0,lF 52 51 1,.bs 53 1 [52] false,.ap 54 45 53 1 8,mV 7 54])))))))
 (.seq (.seq (rE 8 (kI 0))
 (.blk 2 (.loop (.gw (.seq (sR [mV 55 8,mV 56 7,.ln 57 56,bI 58 .lss 55 57]
 (.cond 58 .skip
 (.exit 2)))
 (.blk 3 (.seq (.gw (.rz [] [(0,false,mV 59 7),
 (1,false,mV 60 8),
 (2,false,.sc 61 59 none (some 60) 1),
 (4,false,mV 63 7),
 (5,false,mV 64 8),
 (6,false,.bi 65 .add 64 (kI 1)),
 (7,false,.sc 66 63 (some 65) none 1),
 (3,true,.cl 62 Xu [61])]
 [.ap 67 62 66 1 8,mV 9 67]))
 (.seq (.rq 5 [lT 68 2 11,mV 69 9,cQ 70 LT [68,69],lT 71 3 11,cQ 72 U01 [70,71]])
 (.cond 72 (.reg [mV 73 9,mV 7 73])
 (.reg [mV 74 8,.bi 75 .add 74 (kI 1),mV 8 75]))))))))))
 (sR [.bs 76 1 [] true,mV 77 7,.ap 78 76 77 1 8,mV 4 78,.mv 5 (cB true)]
 gR)))))))
def Xb(s1:State)(j2:Job)(v17:(List Int)×Int)(k17:((List Int)×Int)->Option ((List Int)×Bool)):Option ((List Int)×Bool) :=
 bif (decide (v17.2<(v17.1.length:Int)))then((cutL v17.1 none (some v17.2)).bind fun xs19=>(cutL v17.1 (some (w64 (v17.2+1))) none).bind fun xs20=>(O6 xs19).bind fun y21=>(appL 8 y21 xs20).bind fun xs22=>(Vp s1 xs22).bind fun y23=>(Uo y23 j2).bind fun b24=>bif b24 then(k17 (xs22,v17.2))else(k17 (v17.1,(w64 (v17.2+1)))))else((appL 8 ([]:List Int) v17.1).bind fun xs25=>some (xs25,true))
def Of(s1:State)(j2:Job)(xs9:List Run)(v10:(List Int))(k10:(List Int)->Option ((List Int)×Bool)):Option ((List Int)×Bool) :=
 (Vp s1 v10).bind fun y11=>(Uo y11 j2).bind fun b12=>bif (!b12)then(bif ((v10.length:Int)==(xs9.length:Int))then(some ([],false))else((idx xs9 (v10.length:Int)).bind fun e14=>(appL 8 v10 [e14.job.id]).bind fun xs15=>k10 xs15))else(whl (Xb s1 j2) 9223372036854775807 (v10,0))
def JP(s1:State)(j2:Job):Option ((List Int)×Bool) :=
 (Wp s1).bind fun b3=>(bif ((!b3)||(!(W5 j2)))then some default else(Wl s1)).bind fun y4=>(bif ((!b3)||(!(W5 j2)))then some default else(OW y4 j2.id)).bind fun n5=>bif (((!b3)||(!(W5 j2)))||(decide (0<=n5)))then(some ([],false))else((Zg s1).bind fun y6=>(delF (fun x7=>some (Ql x7 j2)) y6.runs).bind fun xs8=>(J0g xs8).bind fun xs9=>whl (Of s1 j2 xs9) 9223372036854775807 [])
theorem O05{s1:State}{j2:Job}{r:(List Int)×Bool}(H:JP s1 j2=some r):Snd Tryz.prog JT [Q2 .rd s1,eJob j2] (.tup [.sref 0,.bool r.2]) [⟨1,r.1.map eI,false⟩]:=by
 refine wS U0H [.t 4,.t 5] ?_
 unfold JP at H
 obtain⟨b3,h3,H⟩:=bB H
 obtain⟨y4,h4,H⟩:=bB H
 obtain⟨n5,h5,H⟩:=bB H
 refine wG [.c 11 (Z06 h3),.g 15 [((!b3),false)] (.call _ _ _ _ _ (AEs.refl _) (fun _=>Vt j2)),.g 20 [(_,false)] (.call _ _ _ _ _ (AEs.refl _) (fun q=>YX (bF q.1 h4))),.g 23 [(_,false)] (.call _ _ _ _ _ (AEs.refl _) (fun q=>X14 (bF q.1 h5)))] fun _=>?_
 refine V0 H (fun H=>?_) fun H=>?_
 .refine wP ?_
  replace H:=sI H;subst H
  exact wN [(4,.d),(5,.d)] [] [] [] [none] []
 .obtain⟨y6,h6,H⟩:=bB H
  obtain⟨xs8,h8,H⟩:=bB H
  obtain⟨xs9,h9,H⟩:=bB H
  refine wG [.c 27 (JW h6),.u 30 (.cr X1 13 _ [.fn Mf [.ept (eJob j2) 0]] [.fn Mf [.ept (eJob j2) 0]] true _ (fun _=>by simp) (fun _=>by simp) (fun _=>by simp) (fun _=>X0V (tg:=.nw) (by kernel_rfl) (fun x b hb=>by cases hb;exact Q0p x j2) h8)),.u 32 (.cr Z6 13 _ [.fn QE []] _ false _ (fun _=>by simp) (fun _=>by simp) (fun _=>by simp) (fun _=>Q1d (tg:=.nw) h9))] fun _=>?_
  refine wW (fun(v10:(List Int))=>⟨[(2,.ptr 2 0),(3,.ept (eJob j2) 0),(6,.sref 31000),(7,.sref 33)],[],[(2,(Q2 .rd s1).cells)],[(31000,⟨13,xs9.map (L0 .nw),false⟩),(33,⟨1,v10.map eI,false⟩)]⟩) H (fun v10 I m k10 H N27=>?_)
  unfold Of at H
  obtain⟨y11,h11,H⟩:=bB H
  obtain⟨b12,h12,H⟩:=bB H
  refine wG [.c 36 (W05 h11),.u 38 (.call _ _ _ _ _ (AEs.of (xs:=[.agg [rV 1 (y11.topo.parents.map eI),rV 4 (y11.topo.nodes.map L2),rV 1 (y11.up.map eBo),iV y11.lic.a,iV y11.lic.b,iV y11.lic.c,iV y11.depth,iV y11.now,rV 11 (y11.queue.map eJob),rV 13 (y11.runs.map (L0 .nw)),rV 3 (y11.ends.map eEnd)],.agg [iV j2.id,iV j2.prio,iV j2.nodes,iV j2.need.a,iV j2.need.b,iV j2.need.c,iV j2.lic.a,iV j2.lic.b,iV j2.lic.c,iV j2.wall,iV j2.level]]) (by simp)) (fun _=>Q0c h12))] fun _=>?_
  refine V0 H (fun H=>?_) fun H=>?_
  .refine wG [.u 41 (.ln _ _ fun _=>lm v10 eI),.u 43 (.ln _ _ fun _=>lm xs9 (L0 .nw))] fun q13=>?_
   refine V0 H (fun H=>?_) fun H=>?_
   .refine wP ?_
    replace H:=sI H;subst H
    exact wN [(4,.d),(5,.d)] [] [] [] [none] []
   .obtain⟨e14,h14,H⟩:=bB H
    obtain⟨xs15,h15,H⟩:=bB H
    refine wG [.u 48 (.ln _ _ fun _=>lm v10 eI),.u 49 (.ix _ _ _ fun _=>Y0 (L0 .nw) h14),.u 52 (.el _ _ _ fun _=>gm (L0 .nw) (L7 h14)),.u 54 (.ap _ _ _ _ fun _=>M0 eI h15)] fun q16=>?_
    exact wT (N27 _ H)
  .refine wP ?_
   refine U1z (fun(v17:(List Int)×Int)=>⟨[(2,.ptr 2 0),(3,.ept (eJob j2) 0),(7,.sl .nw 1 (v17.1.map eI)),(8,.int .i64 v17.2)],[],[(2,(Q2 .rd s1).cells)],[]⟩) [(7,.f)] [] [] [33] (by kernel_rfl) (by kernel_rfl) H (fun v17 I m k17 H N44=>?_)
   unfold Xb at H
   refine wG [.u 57 (.ln _ _ fun _=>lm v17.1 eI)] fun q18=>?_
   refine V0 H (fun H=>?_) fun H=>?_
   .refine wP ?_
    refine W1X [] [] [] (by kernel_rfl) ?_
    obtain⟨xs19,h19,H⟩:=bB H
    obtain⟨xs20,h20,H⟩:=bB H
    obtain⟨y21,h21,H⟩:=bB H
    obtain⟨xs22,h22,H⟩:=bB H
    obtain⟨y23,h23,H⟩:=bB H
    obtain⟨b24,h24,H⟩:=bB H
    refine wG [.u 61 (.sc _ _ _ _ fun _=>V0k eI h19),.u 66 (.sc _ _ _ _ fun _=>V0k eI h20),.c 62 (VD h21),.u 67 (.ap _ _ _ _ fun _=>M0 eI h22),.c 70 (W05 h23),.u 72 (.call _ _ _ _ _ (AEs.of (xs:=[.agg [rV 1 (y23.topo.parents.map eI),rV 4 (y23.topo.nodes.map L2),rV 1 (y23.up.map eBo),iV y23.lic.a,iV y23.lic.b,iV y23.lic.c,iV y23.depth,iV y23.now,rV 11 (y23.queue.map eJob),rV 13 (y23.runs.map (L0 .nw)),rV 3 (y23.ends.map eEnd)],.agg [iV j2.id,iV j2.prio,iV j2.nodes,iV j2.need.a,iV j2.need.b,iV j2.need.c,iV j2.lic.a,iV j2.lic.b,iV j2.lic.c,iV j2.wall,iV j2.level]]) (by simp)) (fun _=>Q0c h24))] fun _=>?_
    refine V0 H (fun H=>?_) fun H=>?_
    .refine wP ?_
     exact M1f (N44 _ H) [(7,.f)] [] [] [63000] (by kernel_rfl) (by kernel_rfl)
    .refine wP ?_
     exact wT (N44 _ H)
   .obtain⟨xs25,h25,H⟩:=bB H
    refine wG [.u 78 (.ap _ _ _ _ fun _=>M0 eI h25)] fun _=>?_
    replace H:=sI H;subst H
    exact wN [(4,.d),(5,.d)] [] [(76,some 76,0)] [] [some 76] [⟨_,nw_I xs25⟩]
end
section
theorem L1z{s:State}(hs:s.queue.length+s.runs.length<=1048576)(j:Job):∃b,Me s j=some b/\Uo s j=some b:=by
 obtain⟨h1,h2⟩:=O0V hs
 unfold Me Uo
 rw[h1,h2,U0c,bS,bS]
 cases stateOk s with
 |false=>exact⟨false,rfl,rfl⟩
 |true =>
  obtain⟨q,hq,_⟩:=MC s
  simp only[yL,yM,hq,bS,J1f,V02]
  exact⟨_,rfl,rfl⟩
theorem Z0i{l:List Job}(h:queueOk l=true):l.length<=60/\(∀x∈l,O0 x=true)/\(l.map Job.id).Nodup:=by
 unfold queueOk idsOk at h
 simp only[yD,yO,List.all_eq_true]at h
 exact⟨h.1.1,h.1.2,h.2⟩
structure SmallS(s:State):Prop where
 up:s.up.length<=1048576
 par:s.topo.parents.length<=1048576
 nodes:s.topo.nodes.length<=1048576
 jobs:s.queue.length+s.runs.length<=1048576
 ends:s.ends.length<=1048576
 run:∀x∈s.runs,x.nodes.length<=1048576
theorem StateP.small{s:State}(h:StateP s):SmallS s:=by
 have hq:=(Z0i h.queue).1
 unfold allJobs at hq
 simp only[yU,List.length_map]at hq
 exact⟨by have:=h.up;have:=h.topo.nodes;omega,by have:=h.topo.tree.le;omega,by have:=h.topo.nodes;omega,by omega,by have:=h.ends;omega,fun x hx=>by
  obtain⟨h1,h2,_⟩:=h.runs.job x hx
  have:=Vs.1 h1;omega⟩
theorem V0s{s:State}(h:SmallS s):Zg s=some s:=by
 unfold Zg Lb O6
 have:=h.up;have:=h.par;have:=h.nodes;have:=h.jobs;have:=h.ends
 rw[U0 (by simp;omega),bS,bS,U0 (by simp;omega),bS,bS,U0 (by simp;omega),bS,U0 (by simp;omega),bS]
 rw[Z7 (bd:=Og) (bs:=120) (p:=fun _=>true) (f:=id) (fun x hx i b k=>by
  have:=h.run x hx
  unfold Og O6
  rw[U0 (by simp;omega),bS,bS];simp) (by simp;omega)]
 unfold Ws
 rw[U0 (by simp;omega),bS]
 simp[List.filter_eq_self.2]
structure StartP(s s':State)(new:List Run):Prop where
 topo:s'.topo=s.topo
 up:s'.up=s.up
 lic:s'.lic=s.lic
 depth:s'.depth=s.depth
 now:s'.now=s.now
 ends:s'.ends=s.ends
 runs:s'.runs=s.runs++new
 fresh:∀x∈new,x.t=s.now/\x.nodes.length<=24
 perm:(s'.queue++new.map Run.job).Perm s.queue
def vHas(l:List Job)(id:Int):Bool:=l.any fun y=>y.id==id
theorem U1O(l:List Job)(id:Int):∃y,UA l id=some y/\y.2=vHas l id:=by
 unfold UA vHas
 refine Ud (fun i (_:Unit)=>∀y∈l.take i,(y.id==id)=false) (fun o=>∃y:Job×Bool,o=some y/\y.2=l.any fun y=>y.id==id) (fun i x b k hx hI hk=>?_) (fun b hI=>?_) (by simp)
 .unfold ZC
  cases h:(x.id==id)with
  |true=>exact⟨(x,true),rfl,by rw[List.any_eq_true.2 ⟨x,yE hx,h⟩]⟩
  |false =>
   refine hk () fun y hy=>?_
   obtain⟨hi,rfl⟩:=yB hx
   rw[List.take_succ_eq_append_getElem hi]at hy
   rcases List.mem_append.1 hy with hy|hy
   .exact hI y hy
   .rw[List.mem_singleton.1 hy];exact h
 .rw[List.take_of_length_le (yV _)]at hI
  exact⟨_,rfl,by rw[List.any_eq_false.2 fun y hy=>by rw[hI y hy];simp]⟩
theorem v_at(l:List Job)(id:Int):∃r,OW l id=some r/\decide (0<=r)=vHas l id:=by
 unfold OW J1 vHas
 suffices h:∃r,rgl (Y1 id) M2 l 0 ()=some r/\decide (0<=r)=l.any fun y=>y.id==id by
  obtain⟨r,h1,h2⟩:=h
  exact⟨r,by rw[h1];rfl,h2⟩
 refine Ud (fun i (_:Unit)=>∀y∈l.take i,(y.id==id)=false) (fun o=>∃r:Int,o=some r/\decide (0<=r)=l.any fun y=>y.id==id) (fun i x b k hx hI hk=>?_) (fun b hI=>?_) (by simp)
 .unfold Y1 UB
  cases h:(x.id==id)with
  |true=>exact⟨i,rfl,by rw[List.any_eq_true.2 ⟨x,yE hx,h⟩];simp⟩
  |false =>
   refine hk () fun y hy=>?_
   obtain⟨hi,rfl⟩:=yB hx
   rw[List.take_succ_eq_append_getElem hi]at hy
   rcases List.mem_append.1 hy with hy|hy
   .exact hI y hy
   .rw[List.mem_singleton.1 hy];exact h
 .rw[List.take_of_length_le (yV _)]at hI
  exact⟨_,rfl,by rw[List.any_eq_false.2 fun y hy=>by rw[hI y hy];simp];rfl⟩
def woS(s:State)(ids:List Int):State:={ s with runs:=s.runs.filter fun x=>!ids.contains x.job.id }
theorem QI{s:State}(hs:s.runs.length<=1048576)(ids:List Int):M3 s ids=some (woS s ids):=by
 unfold M3
 rw[Z7 (bd:=U6 ids) (bs:=120) (p:=fun x=>!ids.contains x.job.id) (f:=fun x=>x) (fun x _ i b k=>by
  unfold U6
  rw[X9,bS]) (by simp;omega)]
 unfold O9
 simp[woS]
theorem W0f{p:Run->Option Bool}{f:Run->Bool}(h:∀x,p x=some (f x)):∀l,delF p l=some (l.filter fun x=>!f x)
 |[]=>rfl
 |x::l=>by
  rw[delF,h,bS,W0f h l,bS,List.filter_cons]
  cases f x<;>rfl
theorem QL{s:State}(hs:SmallS s)(ids:List Int):Vp s ids=some (woS s ids):=by
 unfold Vp
 rw[V0s hs,bS,W0f (f:=fun x=>ids.contains x.job.id) (fun x=>by unfold Jy;rw[Ob];rfl),bS]
 rfl
def canB(s:State)(j:Job):Bool:=(Me s j).getD false
theorem Z0r{s:State}(hs:s.queue.length+s.runs.length<=1048576)(j:Job):Me s j=some (canB s j)/\Uo s j=some (canB s j):=by
 obtain⟨b,h1,h2⟩:=L1z hs j
 unfold canB
 rw[h1,h2];exact⟨rfl,rfl⟩
theorem J08{s:State}(hs:s.queue.length+s.runs.length<=1048576)(ids:List Int):(woS s ids).queue.length+(woS s ids).runs.length<=1048576:=by
 have:=List.length_filter_le (fun x:Run=>!ids.contains x.job.id) s.runs
 show s.queue.length+_<=_
 simp only[woS];omega
theorem V0B{x y z:Run}(h1:YD x y=true)(h2:YD y z=true):YD x z=true:=by
 unfold YD at *
 rw[Bool.not_eq_true',Bool.eq_false_iff,ne_eq,Oh]at *
 omega
theorem L1d(x y:Run):(YD x y||YD y x)=true:=by
 cases h:YD x y with
 |true=>rfl
 |false =>
  unfold YD at *
  rw[Bool.not_eq_false',Oh]at h
  rw[Bool.false_or,Bool.not_eq_true',Bool.eq_false_iff,ne_eq,Oh]
  omega
theorem Q16(x y:Run):Yc x y=runLt x y:=by
 rw[Bool.eq_iff_iff,Oh]
 unfold Yc
 by_cases h:x.job.prio=y.job.prio
 .simp[h]
 .simp[h]
def insW(x:Run):List Run->List Run
 |[]=>[x]
 |y::l=>if Yc x y then x::y::l else y::insW x l
theorem Z0j(x:Run):∀l:List Run,(insW x l).Perm (x::l)
 |[]=>.refl _
 |y::l=>by
  unfold insW
  split
  .exact .refl _
  .exact((Z0j x l).cons y).trans (.swap x y l)
theorem W1B(x:Run)(l:List Run):(insW x l).length=l.length+1:=(Z0j x l).length_eq
theorem J1T{x y:Run}(h:Yc x y=true):YD x y=true:=by
 rw[Q16,Oh]at h
 unfold YD
 rw[Bool.not_eq_true',Bool.eq_false_iff,ne_eq,Oh];omega
theorem O1s{x y:Run}(h:¬ Yc x y=true):YD y x=true:=by
 rw[Q16]at h
 unfold YD
 rw[Bool.not_eq_true',Bool.eq_false_iff];exact h
theorem L0H(x:Run):∀{l:List Run},l.Pairwise (fun a b=>YD a b=true)->(insW x l).Pairwise (fun a b=>YD a b=true)
 |[],_=>by simp[insW]
 |y::l,h=>by
  unfold insW
  obtain⟨h1,h2⟩:=List.pairwise_cons.1 h
  split
  .rename_i hb
   refine List.pairwise_cons.2 ⟨fun z hz=>?_,h⟩
   rcases yX hz with rfl|hz
   .exact J1T hb
   .exact V0B (J1T hb) (h1 z hz)
  .rename_i hb
   refine List.pairwise_cons.2 ⟨fun z hz=>?_,L0H x h2⟩
   rcases yX ((Z0j x l).mem_iff.1 hz)with rfl|hz
   .exact O1s hb
   .exact h1 z hz
theorem U1g:∀(l v:List Run),(l.foldl (fun v x=>insW x v) v).Perm (l++v)/\(v.Pairwise (fun a b=>YD a b=true)->(l.foldl (fun v x=>insW x v) v).Pairwise (fun a b=>YD a b=true))
 |[],v=>⟨.refl _,id⟩
 |x::l,v=>by
  obtain⟨h1,h2⟩:=U1g l (insW x v)
  exact⟨h1.trans (((Z0j x v).append_left l).trans List.perm_middle),fun h=>h2 (L0H x h)⟩
theorem wTail(x:Run)(k:List Run->Option (List Run))(l:List Run):∀(i:Nat) (acc:List Run),acc.length+l.length<=1000002->rgl (Wa x) (Qa x k) l i (true,acc)=k (acc++l):=by
 induction l with
 |nil=>intro i acc h;simp[rgl,Qa]
 |cons y l ih =>
  intro i acc h
  simp only[yT]at h
  rw[rgl,Wa]
  simp only[yL,Bool.false_and,yM,M6]
  rw[U0 (by simp;omega),bS,ih (i+1) (acc++[y]) (by simp;omega)]
  simp
theorem wIns(x:Run)(k:List Run->Option (List Run))(l:List Run):∀(i:Nat) (p:Bool) (acc:List Run),acc.length+l.length<=1000000->rgl (Wa x) (Qa x k) l i (p,acc)=k (acc++if p then l else insW x l):=by
 induction l with
 |nil =>
  intro i p acc h
  simp only[rgl,Qa]
  cases p with
  |true=>simp
  |false =>
   simp only[Bool.not_false,yN,insW]
   rw[U0 (by simp at h ⊢;omega),bS];simp
 |cons y l ih =>
  intro i p acc h
  simp only[yT]at h
  rw[rgl,Wa]
  cases p with
  |true =>
   simp only[yL,Bool.false_and,yM,M6,yb]
   rw[U0 (by simp;omega),bS,ih (i+1) true (acc++[y]) (by simp;omega)]
   simp
  |false =>
   simp only[Bool.not_false,Bool.true_and,insW]
   cases hb:Yc x y with
   |true =>
    simp only[yN,yb,M6]
    rw[U0 (by simp;omega),bS,U0 (by simp;omega),bS]
    rw[wTail x k l (i+1) _ (by simp;omega)]
    simp
   |false =>
    simp only[yM,M6]
    rw[U0 (by simp;omega),bS,ih (i+1) false (acc++[y]) (by simp;omega)]
    simp
def U0t(s:State)(j:Job):List Run:=(s.runs.filter fun x=>!decide (j.prio<=x.job.prio)).foldl (fun v x=>insW x v) []
theorem X1O(j:Job)(l:List Run):∀(i:Nat) (v:List Run),v.length+l.length<=1000000->rgl (Ym j) MB l i v=some ((l.filter fun x=>!decide (j.prio<=x.job.prio)).foldl (fun v x=>insW x v) v):=by
 induction l with
 |nil=>intro i v _;rfl
 |cons x l ih =>
  intro i v h
  simp only[yT]at h
  rw[rgl,Ym,List.filter_cons]
  cases hb:decide (j.prio<=x.job.prio)with
  |true =>
   simp only[yN,yL,yG,yc]
   exact ih (i+1) v (by omega)
  |false =>
   simp only[yM,Bool.not_false,yb,List.foldl_cons]
   rw[wIns x _ v 0 false [] (by simp;omega)]
   simp only[List.nil_append,yG,yc]
   exact ih (i+1) (insW x v) (by rw[W1B];omega)
theorem M16{s:State}(hs:s.runs.length<=1000000)(j:Job):VA s j=some (U0t s j):=by
 unfold VA
 exact X1O j s.runs 0 [] (by simp;omega)
theorem Z0Y{s:State}(h:queueOk (allJobs s)=true):(s.runs.map (·.job.id)).Nodup/\s.runs.length<=60:=by
 obtain⟨h1,_,h3⟩:=Z0i h
 unfold allJobs at h1 h3
 rw[List.map_append,List.map_map]at h3
 simp only[yU,List.length_map]at h1
 exact⟨(List.nodup_append.1 h3).2.1,by omega⟩
theorem Z1d{s:State}(h:queueOk (allJobs s)=true)(j:Job):((U0t s j).map (·.job.id)).Nodup:=by
 have hp:=(U1g (s.runs.filter fun x=>!decide (j.prio<=x.job.prio)) []).1
 rw[List.append_nil]at hp
 exact((hp.map (·.job.id)).nodup_iff).2 ((Z0Y h).1.sublist (List.filter_sublist.map _))
theorem W1q{s:State}(h:queueOk (allJobs s)=true)(j:Job):J0g (s.runs.filter fun x=>!decide (j.prio<=x.job.prio))=some (U0t s j):=by
 obtain⟨h1,h2⟩:=Z0Y h
 have hn:((s.runs.filter fun x=>!decide (j.prio<=x.job.prio)).map (·.job.id)).Nodup:=h1.sublist (List.filter_sublist.map _)
 have hl:=List.length_filter_le (fun x:Run=>!decide (j.prio<=x.job.prio)) s.runs
 unfold J0g
 rw[yd ⟨hn,by omega⟩]
 congr 1
 unfold U0t
 obtain⟨p1,p2⟩:=U1g (s.runs.filter fun x=>!decide (j.prio<=x.job.prio)) []
 rw[List.append_nil]at p1
 generalize s.runs.filter (fun x=>!decide (j.prio<=x.job.prio))=L at hn p1 p2 ⊢
 have hs:(L.mergeSort YD).Pairwise (fun a b=>YD a b=true):=List.pairwise_mergeSort (le:=YD) (fun a b c=>V0B) L1d L
 refine List.Perm.eq_of_pairwise (le:=fun a b=>YD a b=true) (fun a b ha hb q1 q2=>?_) hs (p2 .nil) ((List.mergeSort_perm L _).trans p1.symm)
 have ea:a∈L:=(List.mergeSort_perm L YD).mem_iff.1 ha
 have eb:b∈L:=p1.mem_iff.1 hb
 have e:a.job.id=b.job.id:=by
  unfold YD at q1 q2
  rw[Bool.not_eq_true',Bool.eq_false_iff,ne_eq,Oh]at q1 q2
  omega
 obtain⟨i,hi,rfl⟩:=List.getElem_of_mem ea
 obtain⟨k,hk,rfl⟩:=List.getElem_of_mem eb
 have hp:=List.pairwise_iff_getElem.1 hn
 have hi':i<(L.map (·.job.id)).length:=by simpa using hi
 have hk':k<(L.map (·.job.id)).length:=by simpa using hk
 have e':(L.map (·.job.id))[i]'hi'=(L.map (·.job.id))[k]'hk':=by rw[List.getElem_map,List.getElem_map];exact e
 rcases Nat.lt_trichotomy i k with q|q|q
 .exact absurd e' (hp i k hi' hk' q)
 .subst q;rfl
 .exact absurd e'.symm (hp k i hk' hi' q)
def tkL(s:State)(j:Job):List Run->List Int->List Int
 |[],v=>v
 |x::l,v=>if canB (woS s v) j=true then v else tkL s j l (v++[x.job.id])
theorem J1p(s:State)(j:Job):∀(l:List Run) (v:List Int),(tkL s j l v).length<=v.length+l.length
 |[],v=>by simp[tkL]
 |x::l,v=>by
  rw[tkL];split
  .simp
  .have:=J1p s j l (v++[x.job.id]);simp at this ⊢;omega
theorem L1p(s:State)(j:Job):∀(l:List Run) (v:List Int),∃m,tkL s j l v=v++(l.map (·.job.id)).take m
 |[],v=>⟨0,by simp[tkL]⟩
 |x::l,v=>by
  rw[tkL];split
  .exact⟨0,by simp⟩
  .obtain⟨m,h⟩:=L1p s j l (v++[x.job.id])
   exact⟨m+1,by rw[h];simp⟩
def spL(s:State)(j:Job):List Int->List Int->List Int
 |[],v=>v
 |x::r,v=>spL s j r (if canB (woS s (v.filter fun y=>y != x)) j=true then v.filter fun y=>y != x else v)
theorem Q1q(s:State)(j:Job):∀(r v:List Int),(spL s j r v).length<=v.length
 |[],v=>by simp[spL]
 |x::r,v=>by
  rw[spL]
  refine Nat.le_trans (Q1q s j r _) ?_
  split
  .exact List.length_filter_le _ _
  .exact yV _
theorem X0A{l:List Int}(hl:l.length<=1000000)(n:Int):Ou l n=some (l.filter fun y=>y != n):=by
 unfold Ou
 rw[Z7 (bd:=OI n) (bs:=8) (p:=fun x=>x != n) (f:=fun x=>x) (fun x _ i b k=>rfl) (by simp;omega)]
 unfold WI
 simp
section
variable{s:State}{j:Job}
theorem L1l(hs:s.queue.length+s.runs.length<=1048576):∀(r:List Int) (i:Nat) (v:List Int),v.length<=1000000->rgl (Wm s j) UC r i v=some (spL s j r v,true):=by
 intro r
 induction r with
 |nil=>intro i v _;rfl
 |cons x r ih =>
  intro i v hv
  have hf:=List.length_filter_le (fun y=>y != x) v
  rw[rgl,Wm,X0A hv,bS,QI (by omega),bS,(Z0r (J08 hs _) j).1,bS,spL]
  cases hb:canB (woS s (v.filter fun y=>y != x)) j with
  |true =>
   simp only[yN,yb,bS]
   exact ih (i+1) _ (by omega)
  |false =>
   simp only[yM,yG,yc]
   exact ih (i+1) _ hv
theorem Z1o{kept r:List Int}{x:Int}(h:(kept++x::r).Nodup):(kept++x::r).filter (fun y=>y != x)=kept++r:=by
 obtain⟨h1,h2,h3⟩:=List.nodup_append.1 h
 obtain⟨h4,h5⟩:=List.nodup_cons.1 h2
 rw[List.filter_append,List.filter_cons]
 have e1:kept.filter (fun y=>y != x)=kept:=List.filter_eq_self.2 fun y hy=>by
  have:=h3 y hy x (yJ ..)
  simpa using this
 have e2:r.filter (fun y=>y != x)=r:=List.filter_eq_self.2 fun y hy=>by
  have:y≠x:=fun e=>h4 (e ▸ hy)
  simpa using this
 rw[e1,e2];simp
theorem Q1n(hS:SmallS s):∀(r kept:List Int) (fuel:Nat),r.length<fuel->kept.length+r.length<=1000000->(kept++r).Nodup->whl (Xb s j) fuel (kept++r,(kept.length:Int))=some (spL s j r (kept++r),true):=by
 intro r
 induction r with
 |nil =>
  intro kept fuel hf hk _
  obtain⟨f,rfl⟩:∃f,fuel=f+1:=⟨fuel-1,by simp at hf;omega⟩
  rw[whl,Xb]
  simp only[List.append_nil,Int.lt_irrefl,decide_false,yM,spL]
  rw[U0 (by simp;omega)]
  rfl
 |cons x r ih =>
  intro kept fuel hf hk hn
  obtain⟨f,rfl⟩:∃f,fuel=f+1:=⟨fuel-1,by simp at hf;omega⟩
  simp only[yT]at hf hk
  have hmid:=Z1o hn
  have hlt:(kept.length:Int)<((kept++x::r).length:Int):=by simp;omega
  have c1:cutL (kept++x::r) none (some (kept.length:Int))=some kept:=by
   have:(0:Int)<=kept.length/\(kept.length:Int)<=((kept++x::r).length:Int):=⟨by omega,by omega⟩
   simp only[cutL,bhi,blo,yd this]
   simp
  have c2:cutL (kept++x::r) (some (w64 ((kept.length:Int)+1))) none=some r:=by
   have:(0:Int)<=((kept.length+1:Nat):Int)/\((kept.length+1:Nat):Int)<=((kept++x::r).length:Int):=⟨by omega,by simp;omega⟩
   rw[Zc (by omega)]
   simp only[cutL,bhi,blo,yd this,List.take_length,yZ]
   rw[List.drop_append]
   simp
  have cp:O6 kept=some kept:=by
   unfold O6
   rw[U0 (by simp;omega)]
   simp
  rw[whl,Xb]
  simp only[decide_eq_true hlt,yN,c1,c2,cp,bS]
  rw[U0 (by omega),bS,QL hS,bS,(Z0r (J08 hS.jobs _) j).2,bS,spL,hmid]
  cases hb:canB (woS s (kept++r)) j with
  |true =>
   simp only[yN,yb]
   refine ih kept f (by omega) (by omega) ?_
   rw[← hmid];exact hn.sublist List.filter_sublist
  |false =>
   simp only[yM,yG,yc,Zc (show kept.length<9223372036854775807 by omega)]
   have:=ih (kept++[x]) f (by omega) (by simp;omega) (by simpa using hn)
   simpa using this
theorem U1q(hs:s.queue.length+s.runs.length<=1048576):∀(l:List Run) (i:Nat) (v:List Int),v.length+l.length<=1000000->rgl (Om s j) (QC s j) l i v=Ja s j (tkL s j l v):=by
 intro l
 induction l with
 |nil=>intro i v _;rfl
 |cons x l ih =>
  intro i v hv
  simp only[yT]at hv
  rw[rgl,Om,QI (by omega),bS,(Z0r (J08 hs _) j).1,bS,tkL]
  cases hb:canB (woS s v) j with
  |true=>simp only[yN,yb]
  |false =>
   simp only[yM,yG,yc]
   rw[U0 (by simp;omega),bS]
   exact ih (i+1) _ (by simp;omega)
theorem U1v(hS:SmallS s)(W:List Run)(hW:W.length<=1000):∀(l:List Run) (v:List Int) (fuel:Nat),l.length<fuel->W.drop v.length=l->v.length<=W.length ->
  whl (Of s j W) fuel v=bif canB (woS s (tkL s j l v)) j then whl (Xb s j) 9223372036854775807 (tkL s j l v,0)else some ([],false):=by
 intro l
 induction l with
 |nil =>
  intro v fuel hf hd hv
  obtain⟨f,rfl⟩:∃f,fuel=f+1:=⟨fuel-1,by simp at hf;omega⟩
  have hlen:v.length=W.length:=by
   have:=List.drop_eq_nil_iff.1 hd;omega
  rw[whl,Of,QL hS,bS,(Z0r (J08 hS.jobs _) j).2,bS,tkL]
  cases hb:canB (woS s v) j with
  |true=>rfl
  |false=>simp[hlen]
 |cons x l ih =>
  intro v fuel hf hd hv
  obtain⟨f,rfl⟩:∃f,fuel=f+1:=⟨fuel-1,by simp at hf;omega⟩
  simp only[yT]at hf
  have hlt:v.length<W.length:=by
   rcases Nat.lt_or_ge v.length W.length with h|h
   .exact h
   .rw[List.drop_of_length_le h]at hd;cases hd
  have hx:W[v.length]?=some x:=by
   have:=congrArg (·[0]?) hd
   simpa using this
  have hne:((v.length:Int)==(W.length:Int))=false:=by
   rw[beq_eq_false_iff_ne];omega
  rw[whl,Of,QL hS,bS,(Z0r (J08 hS.jobs _) j).2,bS,tkL]
  cases hb:canB (woS s v) j with
  |true=>simp only[yL,yM,yb,hb,yN]
  |false =>
   simp only[Bool.not_false,yN,hne,yM,yG,yc,U2,hx,bS]
   rw[U0 (by simp;omega),bS]
   refine ih (v++[x.job.id]) f (by omega) ?_ (by simp;omega)
   have:=congrArg (List.drop 1) hd
   rw[List.drop_drop]at this
   simpa using this
end
theorem L1o{s:State}(hs:s.queue.length+s.runs.length<=1048576)(j:Job):∃p:List Int×Bool,ZO s j=some p/\JP s j=some p/\p.1.length<=60:=by
 obtain⟨h1,h2⟩:=O0V hs
 obtain⟨y,hy1,hy2⟩:=U1O (allJobs s) j.id
 obtain⟨q,hq1,hq2⟩:=v_at (allJobs s) j.id
 unfold ZO JP
 rw[XX,V03 hs,bS,hy1,bS,h1,h2,bS,bS,hy2]
 cases hok:stateOk s with
 |false=>exact⟨([],false),by simp,by simp,by simp⟩
 |true =>
 cases hj:O0 j with
 |false=>exact⟨([],false),by simp,by simp[Zk,hj],by simp⟩
 |true =>
 simp only[yL,Bool.false_or,Bool.or_self,yM,Zk,hj,bS,hq1,hq2]
 cases hk:vHas (allJobs s) j.id with
 |true=>exact⟨([],false),by simp,by simp,by simp⟩
 |false =>
 simp only[yM]
 have hP:=V1q hok
 have hS:=hP.small
 obtain⟨hn,hr⟩:=Z0Y hP.queue
 have hW:=Z1d hP.queue j
 have hWl:(U0t s j).length<=60:=by
  have:=(U1g (s.runs.filter fun x=>!decide (j.prio<=x.job.prio)) []).1.length_eq
  have h2:=List.length_filter_le (fun x:Run=>!decide (j.prio<=x.job.prio)) s.runs
  unfold U0t
  rw[this];simp only[List.append_nil];omega
 have htl:=J1p s j (U0t s j) []
 simp only[List.length_nil,Nat.zero_add]at htl
 rw[M16 (by omega),bS,U1q hs _ 0 [] (by simp;omega)]
 rw[V0s hS,bS,W0f (f:=fun x=>decide (j.prio<=x.job.prio)) (fun x=>by rw[Ql]),bS,W1q hP.queue j,bS,U1v hS (U0t s j) (by omega) (U0t s j) [] _ (by omega) (by simp) (by simp)]
 obtain⟨m,hm⟩:=L1p s j (U0t s j) []
 have hnd:(tkL s j (U0t s j) []).Nodup:=by
  rw[hm,List.nil_append]
  exact hW.sublist (List.take_sublist _ _)
 generalize tkL s j (U0t s j) []=t at htl hnd
 unfold Ja
 rw[QI (by omega),bS,(Z0r (J08 hs _) j).1,bS]
 cases hb:canB (woS s t) j with
 |false=>exact⟨([],false),by simp,by simp,by simp⟩
 |true =>
  simp only[yL,yM,yN]
  rw[U0 (by simp;omega),bS,List.nil_append,L1l hs t 0 t (by omega)]
  have:=Q1n (j:=j) hS t [] 9223372036854775807 (by omega) (by simp;omega) (by simpa using hnd)
  simp only[List.length_nil,List.nil_append,Int.natCast_zero]at this
  rw[this]
  exact⟨_,rfl,rfl,by have:=Q1q s j t t;simp only;omega⟩
end
end Go.Proofs.YtodafdoninblmaaGreat
