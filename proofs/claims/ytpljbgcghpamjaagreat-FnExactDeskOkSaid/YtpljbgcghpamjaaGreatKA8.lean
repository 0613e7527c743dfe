/-
  Lemmas, part 8: the engine that steps through the code, the walks of functions, and the laws of what they compute.
-/
import Derived.Test.YtpljbgcghpamjaaGreatKA7
namespace Go.Proofs.YtpljbgcghpamjaaGreat
open Go Go.RowKit Eng
def Zmd:L :=
sR [.bx 1 (.t 0),.al 2 [.nl,.nl,.nl,.nl,.nl],.mv 3 (cB false)]
 (sR [fA 9 1 0,lD 10 9 2 true,fA 11 1 2,lD 12 11 1 false,.bd 13 [.nl,.nl,.nl,.nl,.nl] [(0,2,(.t 10)),(2,1,(.t 12))],.al 4 [.nl,.nl,.nl,.nl,.nl],.st (.t 4) (.t 13) 5]
 (.seq (sR [fA 14 1 0,lD 15 14 2 true,cQ 16 Za5 [15],.un 17 (.t 16),mV 18 17,.g 18 false (fA 19 1 2),.g 18 false (lD 20 19 1 false),.g 18 false (.ln 21 (.t 20)),.g 18 false (fA 22 1 0),.g 18 false (fA 23 22 1),.g 18 false (lD 24 23 1 false),.g 18 false (.ln 25 (.t 24)),.g 18 false (bI 26 .neq 21 25),.pk 27 (.t 18) (cB true) (.t 26),mV 28 27,.g 28 false (fA 29 1 3),.g 28 false (lD 30 29 3 true),.g 28 false (cQ 31 Zr [30]),.g 28 false (.un 32 (.t 31)),.pk 33 (.t 28) (cB true) (.t 32)]
 (.cond (.t 33) (sR [.bd 34 [.nl,.nl,.nl,.nl,.nl] [],.st (.t 2) (.t 34) 5,.mv 3 (cB false)]
 gR)
 .skip))
 (.seq (sR [fA 35 1 0,fA 36 35 1,lD 37 36 1 false,.ln 38 (.t 37),.mv 39 (kI 0)]
 (.blk 0 (.loop (.gw (sR [bI 40 .lss 39 38]
 (.seq (.cond (.t 40) .skip
 (.exit 0))
 (.seq (.blk 1 (sR [iA 41 37 39 4,lD 42 41 4 true,.al 6 [.int .i64 0,.int .i64 0,.int .i64 0,.int .i64 0],.st (.t 6) (.t 42) 4]
 (sR [fA 44 6 1,lD 45 44 3 true,cQ 46 Zk4 [45],mV 43 46,eX 47 43 0,eX 48 43 1,.al 7 [.nl],.st (.t 7) (.t 47) 1,mV 8 48]
 (.reg [fA 49 4 3,lD 50 49 1 false,lD 51 7 1 true,.bs 52 1 [(.t 51)] false,.ap 53 (.t 50) (.t 52) 1 24,fA 54 4 3,.st (.t 54) (.t 53) 1]))))
 (.reg [.bi 55 .add (.t 39) (kI 1),mV 39 55]))))))))
 (sR [fA 57 1 3,lD 58 57 3 true,cQ 59 Zk4 [58],mV 56 59,eX 60 56 0,eX 61 56 1,fA 62 4 4,.st (.t 62) (.t 60) 1]
 (sR [lD 63 4 5 true,cQ 64 ZV6 [63],.st (.t 2) (.t 64) 5,.mv 3 (cB true)]
 gR)))))
def ZH3 (x4:Node) (_:Nat) (v4:(List (List Pt))) (k4:(List (List Pt)) -> Option (Room × Bool)):Option (Room × Bool) :=
 (appL 24 v4 [(spec_ProfNew x4.cap).1]).bind fun xs5=>k4 xs5
def ZG3 (s1:State) (v4:(List (List Pt))):Option (Room × Bool) :=
 (spec_l04Copy (Room.mk s1.topo s1.up v4 ((spec_ProfNew s1.lic).1))).bind fun y6=>some (y6,true)
def spec_l06Empty (s1:State):Option (Room × Bool) :=
 (spec_TopoOk s1.topo).bind fun b2=>bif (((!b2) || ((s1.up.length:Int) != (s1.topo.nodes.length:Int))) || (!(spec_VecOk s1.lic))) then (some ((Room.mk (Topo.mk [] []) [] [] []),false)) else (rgl ZH3 (ZG3 s1) s1.topo.nodes 0 [])
theorem ZKc {s1:State} {r:Room × Bool} (H:spec_l06Empty s1 = some r):Snd Tryz.prog Z79 [Z21 .rd s1] (.tup [Zw3 .nw r.1,.bool r.2]) []:=by
 refine wS Zmd [.c 2 5 true,.t 3] ?_
 unfold spec_l06Empty at H
 obtain ⟨b2,h2,H⟩:=bB H
 refine wG [.c 16 (Zw6 h2),.g 21 [((!b2),false)] (.ln _ _ fun _=>lm s1.up eBo),.g 25 [((!b2),false)] (.ln _ _ fun _=>lm s1.topo.nodes eNode),.g 31 [(((!b2) || ((s1.up.length:Int) != (s1.topo.nodes.length:Int))),false)] (.call _ _ _ _ _ (AEs.refl _) (fun _=>Zs s1.lic))] fun _=>?_
 refine Wh_iH H (fun H=>?_) fun H=>?_
 .refine wP ?_
  replace H:=sI H; subst H
  exact wN [(2,.d),(3,.d)] [(2,[.n 1,.n 4,.n 1,.n 1,.n 4])] [] [] [] [⟨_,nw_I ([]:List Int)⟩,⟨_,ZP ([]:List Node)⟩,⟨_,nw_Bo ([]:List Bool)⟩,⟨_,ZM ([]:List (List Pt))⟩,⟨_,nw_Pt ([]:List Pt)⟩]
 .refine wG [.u 38 (.ln _ _ fun _=>lm s1.topo.nodes eNode)] fun q3=>?_
  refine Z2g (fun (i4:Nat) (v4:(List (List Pt)))=>⟨[(1,.ptr 1 0),(2,.ptr 2 0),(4,.ptr 4 0),(37,.sl .rd 4 (s1.topo.nodes.map eNode)),(38,.int .i64 (s1.topo.nodes.length:Int)),(39,.int .i64 (i4:Int))],[],[(1,(Z21 .rd s1).cells),(2,[.nl,.nl,.nl,.nl,.nl]),(4,[.sl .rd 1 (s1.topo.parents.map eI),.sl .rd 4 (s1.topo.nodes.map eNode),.sl .rd 1 (s1.up.map eBo),.sref 246000,.nl])],[(246000,⟨1,v4.map (Zo .nw),false⟩)]⟩) [] [(4,[.d,.d,.d,.z 246000,.d])] [(246000,(none,1))] [] (by kernel_rfl) (by kernel_rfl) H (fun i4 x4 v4 I m k4 hxv4 hiv4 H N24=>?_) (fun v4 I m H=>?_)
  .unfold ZH3 at H
   refine wP ?_
   refine wt (ltT hiv4) ?_
   obtain ⟨xs5,h5,H⟩:=bB H
   refine wG [.u 41 (.ix _ _ _ fun _=>Z0 eNode (Z6 hxv4)),.c 46 (ZC8 x4.cap),.u 53 (.ap _ _ _ _ fun _=>Zq (Zo .nw) h5),.w 55 (wi .i64 rfl hiv4 q3.1)] fun _=>?_
   exact wT (N24 _ H)
  .unfold ZG3 at H
   refine wP ?_
   refine wf (ltF s1.topo.nodes.length) ?_
   obtain ⟨y6,h6,H⟩:=bB H
   refine wG [.c 59 (ZC8 s1.lic),.u 64 (.call _ _ _ _ _ (AEs.of (xs:=[.agg [.sl .rd 1 (s1.topo.parents.map eI),.sl .rd 4 (s1.topo.nodes.map eNode),.sl .rd 1 (s1.up.map eBo),.sl .rd 1 (v4.map (Zo .nw)),.sl .rd 4 (((spec_ProfNew s1.lic).1).map ePt)]]) (by simp)) (fun _=>Zs8 h6))] fun _=>?_
   replace H:=sI H; subst H
   exact wN [(2,.d),(3,.d)] [(2,[])] [] [] [] [⟨_,nw_I y6.topo.parents⟩,⟨_,ZP y6.topo.nodes⟩,⟨_,nw_Bo y6.up⟩,⟨_,ZM y6.profs⟩,⟨_,nw_Pt y6.lics⟩]
def Z5h:L :=
sR [.bx 1 (.t 0),.al 2 [.nl,.nl,.nl,.nl,.nl],.mv 3 (cB false)]
 (sR [lD 13 1 11 true,cQ 14 Z79 [13],mV 12 14,eX 15 12 0,eX 16 12 1,.al 4 [.nl,.nl,.nl,.nl,.nl],.st (.t 4) (.t 15) 5,mV 5 16]
 (.seq (sR [mV 17 5,.un 18 (.t 17),mV 19 18,.g 19 false (fA 20 1 7),.g 19 false (lD 21 20 1 false),.g 19 false (cQ 22 Zd1 [21]),.g 19 false (.un 23 (.t 22)),.pk 24 (.t 19) (cB true) (.t 23)]
 (.cond (.t 24) (sR [.bd 25 [.nl,.nl,.nl,.nl,.nl] [],.st (.t 2) (.t 25) 5,.mv 3 (cB false)]
 gR)
 .skip))
 (.seq (sR [fA 26 1 9,lD 27 26 1 false,.ln 28 (.t 27),.mv 29 (kI 0)]
 (.blk 0 (.loop (.gw (sR [bI 30 .lss 29 28]
 (.seq (.cond (.t 30) .skip
 (.exit 0))
 (.seq (.blk 1 (sR [iA 31 27 29 13,lD 32 31 13 true,.al 7 [.int .i64 0,.int .i64 0,.int .i64 0,.int .i64 0,.int .i64 0,.int .i64 0,.int .i64 0,.int .i64 0,.int .i64 0,.int .i64 0,.int .i64 0,.int .i64 0,.nl],.st (.t 7) (.t 32) 13]
 (sR [fA 33 7 11,lD 34 33 1 false,fA 35 7 0,fA 36 35 9,lD 37 36 1 false,bI 38 .add 34 37,mV 8 38]
 (.seq (sR [lD 39 4 5 true,fA 40 7 0,lD 41 40 11 true,fA 42 7 12,lD 43 42 1 false,cQ 44 ZU6 [39,41,43],.un 45 (.t 44),mV 46 45,.g 46 false (fA 47 7 11),.g 46 false (lD 48 47 1 false),.g 46 false (cQ 49 Zd1 [48]),.g 46 false (.un 50 (.t 49)),.pk 51 (.t 46) (cB true) (.t 50),mV 52 51,.g 52 false (fA 53 7 11),.g 52 false (lD 54 53 1 false),.g 52 false (fA 55 1 7),.g 52 false (lD 56 55 1 false),.g 52 false (bI 57 .gtr 54 56),.pk 58 (.t 52) (cB true) (.t 57),mV 59 58,.g 59 false (mV 60 8),.g 59 false (fA 61 1 7),.g 59 false (lD 62 61 1 false),.g 59 false (bI 63 .leq 60 62),.pk 64 (.t 59) (cB true) (.t 63),mV 65 64,.g 65 false (mV 66 8),.g 65 false (.bi 67 .gtr (.t 66) (kI 1000000000)),.pk 68 (.t 65) (cB true) (.t 67)]
 (.cond (.t 68) (sR [.bd 69 [.nl,.nl,.nl,.nl,.nl] [],.st (.t 2) (.t 69) 5,.mv 3 (cB false)]
 gR)
 .skip))
 (sR [fA 70 7 0,lD 71 70 11 true,.al 9 [.int .i64 0,.int .i64 0,.int .i64 0,.int .i64 0,.int .i64 0,.int .i64 0,.int .i64 0,.int .i64 0,.int .i64 0,.int .i64 0,.int .i64 0],.st (.t 9) (.t 71) 11]
 (sR [mV 72 8,fA 73 1 7,lD 74 73 1 false,bI 75 .sub 72 74,fA 76 9 9,.st (.t 76) (.t 75) 1]
 (sR [lD 78 4 5 true,lD 79 9 11 true,fA 80 1 7,lD 81 80 1 false,fA 82 7 12,lD 83 82 1 false,cQ 84 ZY9 [78,79,81,83],mV 77 84,eX 85 77 0,eX 86 77 1,.al 10 [.nl,.nl,.nl,.nl,.nl],.st (.t 10) (.t 85) 5,mV 11 86]
 (.seq (sR [mV 87 11,.un 88 (.t 87)]
 (.cond (.t 88) (sR [.bd 89 [.nl,.nl,.nl,.nl,.nl] [],.st (.t 2) (.t 89) 5,.mv 3 (cB false)]
 gR)
 .skip))
 (.reg [lD 90 10 5 true,.st (.t 4) (.t 90) 5])))))))))
 (.reg [.bi 91 .add (.t 29) (kI 1),mV 29 91]))))))))
 (sR [lD 92 4 5 true,.st (.t 2) (.t 92) 5,.mv 3 (cB true)]
 gR))))
def Z73 (s1:State) (x4:Run) (_:Nat) (v4:Room) (k4:Room -> Option (Room × Bool)):Option (Room × Bool) :=
 (spec_l04Diff v4 x4.job x4.nodes).bind fun b5=>bif (((((!b5) || (!(spec_l01Time x4.t))) || (decide (s1.now < x4.t))) || (decide ((w64 (x4.t + x4.job.wall)) <= s1.now))) || (decide (1000000000 < (w64 (x4.t + x4.job.wall))))) then (some ((Room.mk (Topo.mk [] []) [] [] []),false)) else ((spec_Reserve v4 (Job.mk x4.job.id x4.job.prio x4.job.nodes x4.job.need x4.job.lic (w64 ((w64 (x4.t + x4.job.wall)) - s1.now)) x4.job.level) s1.now x4.nodes).bind fun y6=>bif (!y6.2) then (some ((Room.mk (Topo.mk [] []) [] [] []),false)) else (k4 y6.1))
def Zz8 (v4:Room):Option (Room × Bool) :=
 some (v4,true)
def spec_RoomOf (s1:State):Option (Room × Bool) :=
 (spec_l06Empty s1).bind fun y2=>bif ((!y2.2) || (!(spec_l01Time s1.now))) then (some ((Room.mk (Topo.mk [] []) [] [] []),false)) else (rgl (Z73 s1) Zz8 s1.runs 0 y2.1)
theorem Zfg {s1:State} {r:Room × Bool} (H:spec_RoomOf s1 = some r):Snd Tryz.prog Zbb [Z21 .rd s1] (.tup [Zw3 .nw r.1,.bool r.2]) []:=by
 refine wS Z5h [.c 2 5 true,.t 3] ?_
 unfold spec_RoomOf at H
 obtain ⟨y2,h2,H⟩:=bB H
 refine wG [.c 14 (ZKc h2),.g 22 [((!y2.2),false)] (.call _ _ _ _ _ (AEs.refl _) (fun _=>Zx1 s1.now))] fun _=>?_
 refine Wh_iH H (fun H=>?_) fun H=>?_
 .refine wP ?_
  replace H:=sI H; subst H
  exact wN [(2,.d),(3,.d)] [(2,[.n 1,.n 4,.n 1,.n 1,.n 4])] [] [] [] [⟨_,nw_I ([]:List Int)⟩,⟨_,ZP ([]:List Node)⟩,⟨_,nw_Bo ([]:List Bool)⟩,⟨_,ZM ([]:List (List Pt))⟩,⟨_,nw_Pt ([]:List Pt)⟩]
 .refine wG [.u 28 (.ln _ _ fun _=>lm s1.runs (eRunT .rd))] fun q3=>?_
  refine wR (fun (i4:Nat) (v4:Room)=>⟨[(1,.ptr 1 0),(2,.ptr 2 0),(4,.ptr 4 0),(27,.sl .rd 13 (s1.runs.map (eRunT .rd))),(28,.int .i64 (s1.runs.length:Int)),(29,.int .i64 (i4:Int))],[],[(1,(Z21 .rd s1).cells),(2,[.nl,.nl,.nl,.nl,.nl]),(4,(Zw3 .nw v4).cells)],[]⟩) H (fun i4 x4 v4 I m k4 hxv4 hiv4 H N46=>?_) (fun v4 I m H=>?_)
  .unfold Z73 at H
   refine wP ?_
   refine wt (ltT hiv4) ?_
   obtain ⟨b5,h5,H⟩:=bB H
   refine wG [.u 31 (.ix _ _ _ fun _=>Z0 (eRunT .rd) (Z6 hxv4)),.u 44 (.call _ _ _ _ _ (AEs.of (xs:=[.agg [.sl .rd 1 (v4.topo.parents.map eI),.sl .rd 4 (v4.topo.nodes.map eNode),.sl .rd 1 (v4.up.map eBo),.sl .rd 1 (v4.profs.map (Zo .nw)),.sl .rd 4 (v4.lics.map ePt)],.agg [.int .i64 x4.job.id,.int .i64 x4.job.prio,.int .i64 x4.job.nodes,.int .i64 x4.job.need.a,.int .i64 x4.job.need.b,.int .i64 x4.job.need.c,.int .i64 x4.job.lic.a,.int .i64 x4.job.lic.b,.int .i64 x4.job.lic.c,.int .i64 x4.job.wall,.int .i64 x4.job.level],.sl .rd 1 (x4.nodes.map eI)]) (by simp)) (fun _=>Zq8 h5)),.g 49 [((!b5),false)] (.call _ _ _ _ _ (AEs.refl _) (fun _=>Zx1 x4.t))] fun _=>?_
   refine Wh_iH H (fun H=>?_) fun H=>?_
   .refine wP ?_
    replace H:=sI H; subst H
    exact wN [(2,.d),(3,.d)] [(2,[.n 1,.n 4,.n 1,.n 1,.n 4])] [] [] [] [⟨_,nw_I ([]:List Int)⟩,⟨_,ZP ([]:List Node)⟩,⟨_,nw_Bo ([]:List Bool)⟩,⟨_,ZM ([]:List (List Pt))⟩,⟨_,nw_Pt ([]:List Pt)⟩]
   .obtain ⟨y6,h6,H⟩:=bB H
    refine wG [.u 84 (.call _ _ _ _ _ (AEs.of (xs:=[.agg [.sl .rd 1 (v4.topo.parents.map eI),.sl .rd 4 (v4.topo.nodes.map eNode),.sl .rd 1 (v4.up.map eBo),.sl .rd 1 (v4.profs.map (Zo .nw)),.sl .rd 4 (v4.lics.map ePt)],.agg [.int .i64 x4.job.id,.int .i64 x4.job.prio,.int .i64 x4.job.nodes,.int .i64 x4.job.need.a,.int .i64 x4.job.need.b,.int .i64 x4.job.need.c,.int .i64 x4.job.lic.a,.int .i64 x4.job.lic.b,.int .i64 x4.job.lic.c,.int .i64 (w64 ((w64 (x4.t + x4.job.wall)) - s1.now)),.int .i64 x4.job.level],.int .i64 s1.now,.sl .rd 1 (x4.nodes.map eI)]) (by simp)) (fun _=>Zee h6))] fun _=>?_
    refine Wh_iH H (fun H=>?_) fun H=>?_
    .refine wP ?_
     replace H:=sI H; subst H
     exact wN [(2,.d),(3,.d)] [(2,[.n 1,.n 4,.n 1,.n 1,.n 4])] [] [] [] [⟨_,nw_I ([]:List Int)⟩,⟨_,ZP ([]:List Node)⟩,⟨_,nw_Bo ([]:List Bool)⟩,⟨_,ZM ([]:List (List Pt))⟩,⟨_,nw_Pt ([]:List Pt)⟩]
    .refine wG [.w 91 (wi .i64 rfl hiv4 q3.1)] fun _=>?_
     exact wT (N46 _ H)
  .unfold Zz8 at H
   refine wP ?_
   refine wf (ltF s1.runs.length) ?_
   refine wP ?_
   replace H:=sI H; subst H
   exact wN [(2,.d),(3,.d)] [(2,[])] [] [] [] [⟨_,nw_I v4.topo.parents⟩,⟨_,ZP v4.topo.nodes⟩,⟨_,nw_Bo v4.up⟩,⟨_,ZM v4.profs⟩,⟨_,nw_Pt v4.lics⟩]
def Z3f:L :=
sR [.bx 1 (.t 0),.mv 2 (.c (.nl))]
 (sR [.bs 6 11 [] true,fA 7 1 8,lD 8 7 1 false,.ap 9 (.t 6) (.t 8) 11 88,mV 3 9]
 (.seq (sR [fA 10 1 9,lD 11 10 1 false,.ln 12 (.t 11),.mv 13 (kI 0)]
 (.blk 0 (.loop (.gw (sR [bI 14 .lss 13 12]
 (.seq (.cond (.t 14) .skip
 (.exit 0))
 (.seq (.blk 1 (sR [iA 15 11 13 13,lD 16 15 13 true,.al 5 [.int .i64 0,.int .i64 0,.int .i64 0,.int .i64 0,.int .i64 0,.int .i64 0,.int .i64 0,.int .i64 0,.int .i64 0,.int .i64 0,.int .i64 0,.int .i64 0,.nl],.st (.t 5) (.t 16) 13]
 (.reg [mV 17 3,fA 18 5 0,lD 19 18 11 true,.bs 20 11 [(.t 19)] false,.ap 21 (.t 17) (.t 20) 11 88,mV 3 21])))
 (.reg [.bi 22 .add (.t 13) (kI 1),mV 13 22]))))))))
 (sR [mV 23 3,mV 2 23]
 gR)))
def Zs4 (x4:Run) (_:Nat) (v4:(List Job)) (k4:(List Job) -> Option (List Job)):Option (List Job) :=
 (appL 88 v4 [x4.job]).bind fun xs5=>k4 xs5
def Zr4 (v4:(List Job)):Option (List Job) :=
 some v4
def spec_l06Jobs (s1:State):Option (List Job) :=
 (appL 88 ([]:List Job) s1.queue).bind fun xs2=>rgl Zs4 Zr4 s1.runs 0 xs2
theorem Zi5 {s1:State} {r:(List Job)} (H:spec_l06Jobs s1 = some r):Snd Tryz.prog Zi4 [Z21 .rd s1] (.sl .nw 11 (r.map eJob)) []:=by
 refine wS Z3f [.t 2] ?_
 unfold spec_l06Jobs at H
 obtain ⟨xs2,h2,H⟩:=bB H
 refine wG [.u 9 (.ap _ _ _ _ fun _=>Zq eJob h2),.u 12 (.ln _ _ fun _=>lm s1.runs (eRunT .rd))] fun q3=>?_
 refine wR (fun (i4:Nat) (v4:(List Job))=>⟨[(3,.sref 6),(11,.sl .rd 13 (s1.runs.map (eRunT .rd))),(12,.int .i64 (s1.runs.length:Int)),(13,.int .i64 (i4:Int))],[],[],[(6,⟨11,v4.map eJob,false⟩)]⟩) H (fun i4 x4 v4 I m k4 hxv4 hiv4 H N15=>?_) (fun v4 I m H=>?_)
 .unfold Zs4 at H
  refine wP ?_
  refine wt (ltT hiv4) ?_
  obtain ⟨xs5,h5,H⟩:=bB H
  refine wG [.u 15 (.ix _ _ _ fun _=>Z0 (eRunT .rd) (Z6 hxv4)),.u 21 (.ap _ _ _ _ fun _=>Zq eJob h5),.w 22 (wi .i64 rfl hiv4 q3.1)] fun _=>?_
  exact wT (N15 _ H)
 .unfold Zr4 at H
  refine wP ?_
  refine wf (ltF s1.runs.length) ?_
  refine wP ?_
  replace H:=sI H; subst H
  exact wN [(2,.f)] [] [] [6] [] [⟨_,ZDk v4⟩]
def Zaf:L :=
sR [.bx 1 (.t 0),.mv 2 (cB false)]
 (sR [lD 12 1 11 true,cQ 13 Zbb [12],mV 11 13,eX 14 11 0,eX 15 11 1,.al 3 [.nl,.nl,.nl,.nl,.nl],.st (.t 3) (.t 14) 5,mV 4 15]
 (.seq (sR [mV 16 4,.un 17 (.t 16),mV 18 17,.g 18 false (fA 19 1 6),.g 18 false (lD 20 19 1 false),.g 18 false (.bi 21 .lss (.t 20) (kI 0)),.pk 22 (.t 18) (cB true) (.t 21),mV 23 22,.g 23 false (fA 24 1 6),.g 23 false (lD 25 24 1 false),.g 23 false (.bi 26 .gtr (.t 25) (kI 60)),.pk 27 (.t 23) (cB true) (.t 26),mV 28 27,.g 28 false (lD 29 1 11 true),.g 28 false (cQ 30 Zi4 [29]),.g 28 false (cQ 31 ZZ9 [30]),.g 28 false (.un 32 (.t 31)),.pk 33 (.t 28) (cB true) (.t 32),mV 34 33,.g 34 false (fA 35 1 10),.g 34 false (lD 36 35 1 false),.g 34 false (.ln 37 (.t 36)),.g 34 false (.bi 38 .gtr (.t 37) (kI 300)),.pk 39 (.t 34) (cB true) (.t 38)]
 (.cond (.t 39) (.seq (rE 2 (cB false))
 gR)
 .skip))
 (.seq (sR [fA 40 1 9,lD 41 40 1 false,.ln 42 (.t 41),.mv 43 (kI 0)]
 (.blk 0 (.loop (.gw (sR [bI 44 .lss 43 42]
 (.seq (.cond (.t 44) .skip
 (.exit 0))
 (.seq (.blk 1 (sR [iA 45 41 43 13,lD 46 45 13 true,.al 6 [.int .i64 0,.int .i64 0,.int .i64 0,.int .i64 0,.int .i64 0,.int .i64 0,.int .i64 0,.int .i64 0,.int .i64 0,.int .i64 0,.int .i64 0,.int .i64 0,.nl],.st (.t 6) (.t 46) 13]
 (.seq (sR [fA 47 6 12,lD 48 47 1 false,.ln 49 (.t 48),.mv 50 (kI 0)]
 (.blk 2 (.loop (.gw (sR [bI 51 .lss 50 49]
 (.seq (.cond (.t 51) .skip
 (.exit 2))
 (.seq (.blk 3 (sR [mV 52 50,iA 53 48 50 1,lD 54 53 1 false,mV 7 52,mV 8 54]
 (sR [fA 55 1 2,lD 56 55 1 false,mV 57 8,iA 58 56 57 1,lD 59 58 1 false,.un 60 (.t 59),mV 61 60,.g 61 false (mV 62 7),.g 61 false (.bi 63 .gtr (.t 62) (kI 0)),.g 61 false (mV 64 63),.g 64 true (fA 65 6 12),.g 64 true (lD 66 65 1 false),.g 64 true (mV 67 7),.g 64 true (.bi 68 .sub (.t 67) (kI 1)),.g 64 true (iA 69 66 68 1),.g 64 true (lD 70 69 1 false),.g 64 true (mV 71 8),.g 64 true (bI 72 .geq 70 71),.g 61 false (.pk 73 (.t 64) (.t 72) (cB false)),.pk 74 (.t 61) (cB true) (.t 73)]
 (.cond (.t 74) (.seq (rE 2 (cB false))
 gR)
 .skip))))
 (.reg [.bi 75 .add (.t 50) (kI 1),mV 50 75]))))))))
 (.seq (.rq 12 [fA 76 1 0,lD 77 76 2 true,fA 78 1 0,lD 79 78 2 true,fA 80 6 12,lD 81 80 1 false,cQ 82 Zcb [79,81],cQ 83 Zk1 [77,82],fA 84 6 0,fA 85 84 10,lD 86 85 1 false,bI 87 .gtr 83 86])
 (.cond (.t 87) (.seq (rE 2 (cB false))
 gR)
 .skip)))))
 (.reg [.bi 88 .add (.t 43) (kI 1),mV 43 88]))))))))
 (.seq (sR [fA 89 1 10,lD 90 89 1 false,.ln 91 (.t 90),.mv 92 (kI 0)]
 (.blk 4 (.loop (.gw (sR [bI 93 .lss 92 91]
 (.seq (.cond (.t 93) .skip
 (.exit 4))
 (.seq (.blk 5 (sR [iA 94 90 92 3,lD 95 94 3 true,.al 10 [.int .i64 0,.int .i64 0,.int .i64 0],.st (.t 10) (.t 95) 3]
 (sR [fA 96 10 0,lD 97 96 1 false,.bi 98 .lss (.t 97) (kI 1),mV 99 98,.g 99 false (fA 100 10 0),.g 99 false (lD 101 100 1 false),.g 99 false (.bi 102 .gtr (.t 101) (kI 999)),.pk 103 (.t 99) (cB true) (.t 102),mV 104 103,.g 104 false (fA 105 10 1),.g 104 false (lD 106 105 1 false),.g 104 false (.bi 107 .lss (.t 106) (kI 0)),.pk 108 (.t 104) (cB true) (.t 107),mV 109 108,.g 109 false (fA 110 10 1),.g 109 false (lD 111 110 1 false),.g 109 false (fA 112 1 7),.g 109 false (lD 113 112 1 false),.g 109 false (bI 114 .gtr 111 113),.pk 115 (.t 109) (cB true) (.t 114),mV 116 115,.g 116 false (fA 117 10 2),.g 116 false (lD 118 117 1 false),.g 116 false (.bi 119 .lss (.t 118) (kI 1)),.pk 120 (.t 116) (cB true) (.t 119),mV 121 120,.g 121 false (fA 122 10 2),.g 121 false (lD 123 122 1 false),.g 121 false (.bi 124 .gtr (.t 123) (kI 4)),.pk 125 (.t 121) (cB true) (.t 124)]
 (.cond (.t 125) (.seq (rE 2 (cB false))
 gR)
 .skip))))
 (.reg [.bi 126 .add (.t 92) (kI 1),mV 92 126]))))))))
 (.seq (rE 2 (cB true))
 gR)))))
def ZI2 (s1:State) (x6:Run) (x8:Int) (i8:Nat) (_:Unit) (k8:Unit -> Option Bool):Option Bool :=
 (idx s1.up x8).bind fun e9=>(bif (!e9) then some default else (bif (decide (0 < (i8:Int))) then (idx x6.nodes (w64 ((i8:Int) - 1))) else some default)).bind fun e10=>bif ((!e9) || ((decide (0 < (i8:Int))) && (decide (x8 <= e10)))) then (some false) else (k8 ())
def ZY (s1:State) (x6:Run) (k6:Unit -> Option Bool) (_:Unit):Option Bool :=
 (spec_Lowest s1.topo x6.nodes).bind fun n11=>(spec_l02Level s1.topo n11).bind fun n12=>bif (decide (x6.job.level < n12)) then (some false) else (k6 ())
def ZG2 (s1:State) (x14:End) (_:Nat) (_:Unit) (k14:Unit -> Option Bool):Option Bool :=
 bif ((((((decide (x14.id < 1)) || (decide (999 < x14.id))) || (decide (x14.t < 0))) || (decide (s1.now < x14.t))) || (decide (x14.why < 1))) || (decide (4 < x14.why))) then (some false) else (k14 ())
def Zw4 (_:Unit):Option Bool :=
 some true
def ZH2 (s1:State) (x6:Run) (_:Nat) (_:Unit) (k6:Unit -> Option Bool):Option Bool :=
 rgl (ZI2 s1 x6) (ZY s1 x6 k6) x6.nodes 0 ()
def Zx4 (s1:State) (_:Unit):Option Bool :=
 rgl (ZG2 s1) Zw4 s1.ends 0 ()
def spec_StateOk (s1:State):Option Bool :=
 (spec_RoomOf s1).bind fun y2=>(bif (((!y2.2) || (decide (s1.depth < 0))) || (decide (60 < s1.depth))) then some default else (spec_l06Jobs s1)).bind fun y3=>(bif (((!y2.2) || (decide (s1.depth < 0))) || (decide (60 < s1.depth))) then some default else (spec_QueueOk y3)).bind fun b4=>bif (((((!y2.2) || (decide (s1.depth < 0))) || (decide (60 < s1.depth))) || (!b4)) || (decide (300 < (s1.ends.length:Int)))) then (some false) else (rgl (ZH2 s1) (Zx4 s1) s1.runs 0 ())
theorem Zde {s1:State} {r:Bool} (H:spec_StateOk s1 = some r):Snd Tryz.prog ZX9 [Z21 .rd s1] (.bool r) []:=by
 refine wS Zaf [.t 2] ?_
 unfold spec_StateOk at H
 obtain ⟨y2,h2,H⟩:=bB H
 obtain ⟨y3,h3,H⟩:=bB H
 obtain ⟨b4,h4,H⟩:=bB H
 refine wG [.c 13 (Zfg h2),.g 30 [(_,false)] (.call _ _ _ _ _ (AEs.refl _) (fun q=>Zi5 (bF q.1 h3))),.g 31 [(_,false)] (.call _ _ _ _ _ (AEs.refl _) (fun q=>Zge (bF q.1 h4))),.g 37 [(((((!y2.2) || (decide (s1.depth < 0))) || (decide (60 < s1.depth))) || (!b4)),false)] (.ln _ _ fun _=>lm s1.ends eEnd)] fun _=>?_
 refine Wh_iH H (fun H=>?_) fun H=>?_
 .refine wP ?_
  replace H:=sI H; subst H
  exact wE [(2,.d)]
 .refine wG [.u 42 (.ln _ _ fun _=>lm s1.runs (eRunT .rd))] fun q5=>?_
  refine wR (fun (i6:Nat) (v6:Unit)=>⟨[(1,.ptr 1 0),(41,.sl .rd 13 (s1.runs.map (eRunT .rd))),(42,.int .i64 (s1.runs.length:Int)),(43,.int .i64 (i6:Int))],[],[(1,(Z21 .rd s1).cells)],[]⟩) H (fun i6 x6 v6 I m k6 hxv6 hiv6 H N51=>?_) (fun v6 I m H=>?_)
  .unfold ZH2 at H
   refine wP ?_
   refine wt (ltT hiv6) ?_
   refine wG [.u 45 (.ix _ _ _ fun _=>Z0 (eRunT .rd) (Z6 hxv6)),.u 49 (.ln _ _ fun _=>lm x6.nodes eI)] fun q7=>?_
   refine wR (fun (i8:Nat) (v8:Unit)=>⟨[(1,.ptr 1 0),(6,.ptr 6 0),(41,.sl .rd 13 (s1.runs.map (eRunT .rd))),(42,.int .i64 (s1.runs.length:Int)),(43,.int .i64 (i6:Int)),(48,.sl .rd 1 (x6.nodes.map eI)),(49,.int .i64 (x6.nodes.length:Int)),(50,.int .i64 (i8:Int))],[],[(1,(Z21 .rd s1).cells),(6,(eRunT .rd x6).cells)],[]⟩) H (fun i8 x8 v8 I m k8 hxv8 hiv8 H N34=>?_) (fun v8 I m H=>?_)
   .unfold ZI2 at H
    refine wP ?_
    refine wt (ltT hiv8) ?_
    obtain ⟨e9,h9,H⟩:=bB H
    obtain ⟨e10,h10,H⟩:=bB H
    refine wG [.u 53 (.ix _ _ _ fun _=>Z0 eI (Z6 hxv8)),.u 58 (.ix _ _ _ fun _=>Z0 eBo h9),.g 69 [(_,true),(_,false)] (.ix _ _ _ fun q=>Z0 eI (bT q.1 (bF q.2.1 h10)))] fun _=>?_
    refine Wh_iH H (fun H=>?_) fun H=>?_
    .refine wP ?_
     replace H:=sI H; subst H
     exact wE [(2,.d)]
    .refine wG [.w 75 (wi .i64 rfl hiv8 q7.1)] fun _=>?_
     exact wT (N34 () H)
   .unfold ZY at H
    refine wP ?_
    refine wf (ltF x6.nodes.length) ?_
    obtain ⟨n11,h11,H⟩:=bB H
    obtain ⟨n12,h12,H⟩:=bB H
    refine wG [.c 82 (Zhg h11),.c 83 (ZF2 h12)] fun _=>?_
    refine Wh_iH H (fun H=>?_) fun H=>?_
    .refine wP ?_
     replace H:=sI H; subst H
     exact wE [(2,.d)]
    .refine wG [.w 88 (wi .i64 rfl hiv6 q5.1)] fun _=>?_
     exact wT (N51 () H)
  .unfold Zx4 at H
   refine wP ?_
   refine wf (ltF s1.runs.length) ?_
   refine wG [.u 91 (.ln _ _ fun _=>lm s1.ends eEnd)] fun q13=>?_
   refine wR (fun (i14:Nat) (v14:Unit)=>⟨[(1,.ptr 1 0),(90,.sl .rd 3 (s1.ends.map eEnd)),(91,.int .i64 (s1.ends.length:Int)),(92,.int .i64 (i14:Int))],[],[(1,(Z21 .rd s1).cells)],[]⟩) H (fun i14 x14 v14 I m k14 hxv14 hiv14 H N73=>?_) (fun v14 I m H=>?_)
   .unfold ZG2 at H
    refine wP ?_
    refine wt (ltT hiv14) ?_
    refine wG [.u 94 (.ix _ _ _ fun _=>Z0 eEnd (Z6 hxv14))] fun _=>?_
    refine Wh_iH H (fun H=>?_) fun H=>?_
    .refine wP ?_
     replace H:=sI H; subst H
     exact wE [(2,.d)]
    .refine wG [.w 126 (wi .i64 rfl hiv14 q13.1)] fun _=>?_
     exact wT (N73 () H)
   .unfold Zw4 at H
    refine wP ?_
    refine wf (ltF s1.ends.length) ?_
    refine wP ?_
    replace H:=sI H; subst H
    exact wE [(2,.d)]
def ZHj:L :=
sR [.bx 3 (.t 0),.bx 5 (.t 2),.al 6 [.nl,.nl,.nl,.nl,.nl]]
 (sR [lD 12 3 2 true,cQ 13 ZJ5 [12],mV 14 1,.ap 15 (.c (.nl)) (.t 14) 1 1,.bd 16 [.nl,.nl,.nl,.nl,.nl] [(0,2,(.t 13)),(2,1,(.t 15))],.al 7 [.nl,.nl,.nl,.nl,.nl],.st (.t 7) (.t 16) 5]
 (.seq (sR [fA 17 3 1,lD 18 17 1 false,.ln 19 (.t 18),.mv 20 (kI 0)]
 (.blk 0 (.loop (.gw (sR [bI 21 .lss 20 19]
 (.seq (.cond (.t 21) .skip
 (.exit 0))
 (.seq (.blk 1 (sR [iA 22 18 20 4,lD 23 22 4 true,.al 9 [.int .i64 0,.int .i64 0,.int .i64 0,.int .i64 0],.st (.t 9) (.t 23) 4]
 (sR [fA 25 9 1,lD 26 25 3 true,cQ 27 Zl4 [26],mV 24 27,eX 28 24 0,eX 29 24 1,.al 10 [.nl],.st (.t 10) (.t 28) 1,mV 11 29]
 (.reg [fA 30 7 3,lD 31 30 1 false,lD 32 10 1 true,.bs 33 1 [(.t 32)] false,.ap 34 (.t 31) (.t 33) 1 24,fA 35 7 3,.st (.t 35) (.t 34) 1]))))
 (.reg [.bi 36 .add (.t 20) (kI 1),mV 20 36]))))))))
 (sR [lD 38 5 3 true,cQ 39 Zl4 [38],mV 37 39,eX 40 37 0,eX 41 37 1,fA 42 7 4,.st (.t 42) (.t 40) 1]
 (sR [lD 43 7 5 true,.st (.t 6) (.t 43) 5]
 gR))))
def ZG6 (x7:Node) (_:Nat) (v7:(List (List Pt))) (k7:(List (List Pt)) -> Option Room):Option Room :=
 (appL 24 v7 [(impl_ProfNew x7.cap).1]).bind fun xs8=>k7 xs8
def ZF6 (lic3:Vec) (y4:Topo) (xs5:List Bool) (v7:(List (List Pt))):Option Room :=
 some (Room.mk y4 xs5 v7 ((impl_ProfNew lic3).1))
def impl_empty (t1:Topo) (up2:List Bool) (lic3:Vec):Option Room :=
 (impl_copyTopo t1).bind fun y4=>(appL 1 ([]:List Bool) up2).bind fun xs5=>rgl ZG6 (ZF6 lic3 y4 xs5) t1.nodes 0 []
theorem ZWj {t1:Topo} {up2:List Bool} {lic3:Vec} {r:Room} (H:impl_empty t1 up2 lic3 = some r):Snd Tryz.prog ZFc [ZF .rd t1,.sl .rd 1 (up2.map eBo),eVec lic3] (Zw3 .nw r) []:=by
 refine wS ZHj [.c 6 5 true] ?_
 unfold impl_empty at H
 obtain ⟨y4,h4,H⟩:=bB H
 obtain ⟨xs5,h5,H⟩:=bB H
 refine wG [.c 13 (Zc8 h4),.u 15 (.ap _ _ _ _ fun _=>Zq eBo h5),.u 19 (.ln _ _ fun _=>lm t1.nodes eNode)] fun q6=>?_
 refine Z2g (fun (i7:Nat) (v7:(List (List Pt)))=>⟨[(5,.ptr 5 0),(6,.ptr 6 0),(7,.ptr 7 0),(18,.sl .rd 4 (t1.nodes.map eNode)),(19,.int .i64 (t1.nodes.length:Int)),(20,.int .i64 (i7:Int))],[],[(5,(eVec lic3).cells),(6,[.nl,.nl,.nl,.nl,.nl]),(7,[.sl .nw 1 (y4.parents.map eI),.sl .nw 4 (y4.nodes.map eNode),.sref 15,.sref 574001,.nl])],[(15,⟨1,xs5.map eBo,false⟩),(574001,⟨1,v7.map (Zo .nw),false⟩)]⟩) [] [(7,[.d,.d,.d,.z 574001,.d])] [(574001,(none,1))] [] (by kernel_rfl) (by kernel_rfl) H (fun i7 x7 v7 I m k7 hxv7 hiv7 H N17=>?_) (fun v7 I m H=>?_)
 .unfold ZG6 at H
  refine wP ?_
  refine wt (ltT hiv7) ?_
  obtain ⟨xs8,h8,H⟩:=bB H
  refine wG [.u 22 (.ix _ _ _ fun _=>Z0 eNode (Z6 hxv7)),.c 27 (ZV8 x7.cap),.u 34 (.ap _ _ _ _ fun _=>Zq (Zo .nw) h8),.w 36 (wi .i64 rfl hiv7 q6.1)] fun _=>?_
  exact wT (N17 _ H)
 .unfold ZF6 at H
  refine wP ?_
  refine wf (ltF t1.nodes.length) ?_
  refine wG [.c 39 (ZV8 lic3)] fun _=>?_
  replace H:=sI H; subst H
  exact wN [(6,.d)] [(6,[.d,.d,.f,.f,.d])] [] [15,574001] [] [⟨_,nw_I y4.parents⟩,⟨_,ZP y4.nodes⟩,⟨_,nw_Bo xs5⟩,⟨_,ZM v7⟩,⟨_,nw_Pt ((impl_ProfNew lic3).1)⟩]
def Zt5:L :=
sR [.bx 6 (.t 0),.bx 7 (.t 1),.al 12 [.nl,.nl,.nl,.nl,.nl],.mv 13 (cB false)]
 (.seq (sR [lD 21 6 5 true,cQ 22 Zub [21],.un 23 (.t 22),mV 24 23,.g 24 false (lD 25 7 11 true),.g 24 false (cQ 26 Z33 [25]),.g 24 false (.un 27 (.t 26)),.pk 28 (.t 24) (cB true) (.t 27),mV 29 28,.g 29 false (fA 30 6 0),.g 29 false (lD 31 30 2 true),.g 29 false (lD 32 7 11 true),.g 29 false (mV 33 4),.g 29 false (cQ 34 Zq6 [31,32,33]),.g 29 false (.un 35 (.t 34)),.pk 36 (.t 29) (cB true) (.t 35)]
 (.cond (.t 36) (sR [.bd 37 [.nl,.nl,.nl,.nl,.nl] [],.st (.t 12) (.t 37) 5,.mv 13 (cB false)]
 gR)
 .skip))
 (sR [lD 38 6 5 true,.cl 39 Zm9 [(.t 38)],.al 14 [.nl,.nl,.nl,.nl,.nl],.st (.t 14) (.t 39) 5]
 (.seq (sR [mV 40 4,.ln 41 (.t 40),.mv 42 (kI 0)]
 (.blk 0 (.loop (.gw (sR [bI 43 .lss 42 41]
 (.seq (.cond (.t 43) .skip
 (.exit 0))
 (.seq (.blk 1 (sR [iA 44 40 42 1,lD 45 44 1 false,mV 16 45]
 (.seq (.rz [(14,17,[.nl])] [(0,false,mV 47 5),
 (3,false,mV 50 16),
 (6,false,mV 53 2),
 (7,false,mV 54 3),
 (8,false,fA 55 7 3),
 (9,false,lD 56 55 3 true),
 (1,true,fA 48 14 3),
 (2,true,lD 49 48 1 false),
 (4,true,iA 51 49 50 1),
 (5,true,lD 52 51 1 true),
 (10,false,.cc 57 (.t 47) [(.t 52),(.t 53),(.t 54),(.t 56)]),
 (11,false,mV 46 57),
 (12,false,eX 58 46 0),
 (13,false,eX 59 46 1)]
 [.st (.t 17) (.t 58) 1,mV 18 59])
 (.seq (sR [mV 60 18,.un 61 (.t 60)]
 (.cond (.t 61) (sR [.bd 62 [.nl,.nl,.nl,.nl,.nl] [],.st (.t 12) (.t 62) 5,.mv 13 (cB false)]
 gR)
 .skip))
 (.reg [fA 63 14 3,lD 64 63 1 false,mV 65 16,lD 66 17 1 true,iA 67 64 65 1,.st (.t 67) (.t 66) 1])))))
 (.reg [.bi 68 .add (.t 42) (kI 1),mV 42 68]))))))))
 (sR [mV 70 5,fA 71 14 4,lD 72 71 1 true,mV 73 2,mV 74 3,fA 75 7 6,lD 76 75 3 true,.cc 77 (.t 70) [(.t 72),(.t 73),(.t 74),(.t 76)],mV 69 77,eX 78 69 0,eX 79 69 1,.al 19 [.nl],.st (.t 19) (.t 78) 1,mV 20 79]
 (.seq (sR [mV 80 20,.un 81 (.t 80)]
 (.cond (.t 81) (sR [.bd 82 [.nl,.nl,.nl,.nl,.nl] [],.st (.t 12) (.t 82) 5,.mv 13 (cB false)]
 gR)
 .skip))
 (sR [lD 83 19 1 true,fA 84 14 4,.st (.t 84) (.t 83) 1]
 (sR [lD 85 14 5 true,.st (.t 12) (.t 85) 5,.mv 13 (cB true)]
 gR)))))))
def Zb1 (j2:Job) (from3:Int) (to4:Int) (x10:Int) (_:Nat) (v10:(List (List Pt))) (k10:(List (List Pt)) -> Option (Room × Bool)):Option (Room × Bool) :=
 (idx v10 x10).bind fun e11=>(impl_ProfTake e11 from3 to4 j2.need).bind fun y12=>bif (!y12.2) then (some ((Room.mk (Topo.mk [] []) [] [] []),false)) else (k10 (v10.set x10.toNat y12.1))
def Za1 (j2:Job) (from3:Int) (to4:Int) (y8:Room) (v10:(List (List Pt))):Option (Room × Bool) :=
 (impl_ProfTake y8.lics from3 to4 j2.lic).bind fun y13=>bif (!y13.2) then (some ((Room.mk (Topo.mk [] []) [] [] []),false)) else (some ((Room.mk y8.topo y8.up v10 y13.1),true))
def ZG (r1:Room) (j2:Job) (from3:Int) (to4:Int) (nodes5:List Int):Option (Room × Bool) :=
 (impl_RoomOk r1).bind fun b6=>(bif ((!b6) || (!(impl_JobOk j2))) then some default else (impl_areJobNodes r1.topo j2 nodes5)).bind fun b7=>bif (((!b6) || (!(impl_JobOk j2))) || (!b7)) then (some ((Room.mk (Topo.mk [] []) [] [] []),false)) else ((impl_copyRoom r1).bind fun y8=>rgl (Zb1 j2 from3 to4) (Za1 j2 from3 to4 y8) nodes5 0 y8.profs)
theorem Zv5 {r1:Room} {j2:Job} {from3:Int} {to4:Int} {nodes5:List Int} {r:Room × Bool} (H:ZG r1 j2 from3 to4 nodes5 = some r):Snd Tryz.prog ZEc [Zw3 .rd r1,eJob j2,.int .i64 from3,.int .i64 to4,.sl .rd 1 (nodes5.map eI),.fn Ze2 []] (.tup [Zw3 .nw r.1,.bool r.2]) []:=by
 refine wS Zt5 [.c 12 5 true,.t 13] ?_
 unfold ZG at H
 obtain ⟨b6,h6,H⟩:=bB H
 obtain ⟨b7,h7,H⟩:=bB H
 refine wG [.c 22 (ZXh h6),.g 26 [((!b6),false)] (.call _ _ _ _ _ (AEs.refl _) (fun _=>Z75 j2)),.g 34 [(_,false)] (.call _ _ _ _ _ (AEs.refl _) (fun q=>Zoa (bF q.1 h7)))] fun _=>?_
 refine Wh_iH H (fun H=>?_) fun H=>?_
 .refine wP ?_
  replace H:=sI H; subst H
  exact wN [(12,.d),(13,.d)] [(12,[.n 1,.n 4,.n 1,.n 1,.n 4])] [] [] [] [⟨_,nw_I ([]:List Int)⟩,⟨_,ZP ([]:List Node)⟩,⟨_,nw_Bo ([]:List Bool)⟩,⟨_,ZM ([]:List (List Pt))⟩,⟨_,nw_Pt ([]:List Pt)⟩]
 .obtain ⟨y8,h8,H⟩:=bB H
  refine wG [.c 39 (ZId h8),.u 41 (.ln _ _ fun _=>lm nodes5 eI)] fun q9=>?_
  refine wR (fun (i10:Nat) (v10:(List (List Pt)))=>⟨[(2,.int .i64 from3),(3,.int .i64 to4),(5,.fn Ze2 []),(7,.ptr 7 0),(12,.ptr 12 0),(14,.ptr 14 0),(40,.sl .rd 1 (nodes5.map eI)),(41,.int .i64 (nodes5.length:Int)),(42,.int .i64 (i10:Int))],[],[(7,(eJob j2).cells),(12,[.nl,.nl,.nl,.nl,.nl]),(14,[.sl .nw 1 (y8.topo.parents.map eI),.sl .nw 4 (y8.topo.nodes.map eNode),.sl .nw 1 (y8.up.map eBo),.sref 40000,.sl .nw 4 (y8.lics.map ePt)])],[(40000,⟨1,v10.map (Zo .nw),false⟩)]⟩) H (fun i10 x10 v10 I m k10 hxv10 hiv10 H N32=>?_) (fun v10 I m H=>?_)
  .unfold Zb1 at H
   refine wP ?_
   refine wt (ltT hiv10) ?_
   obtain ⟨e11,h11,H⟩:=bB H
   obtain ⟨y12,h12,H⟩:=bB H
   refine wG [.u 44 (.ix _ _ _ fun _=>Z0 eI (Z6 hxv10)),.u 51 (.ix _ _ _ fun _=>Z0 (Zo .nw) h11),.u 52 (.el _ _ _ fun _=>gm (Zo .nw) (Zt1 h11)),.u 57 (.clsr _ _ _ _ _ (AEs.refl _) (by kernel_rfl) (fun _=>Zh8 h12))] fun _=>?_
   refine Wh_iH H (fun H=>?_) fun H=>?_
   .refine wP ?_
    replace H:=sI H; subst H
    exact wN [(12,.d),(13,.d)] [(12,[.n 1,.n 4,.n 1,.n 1,.n 4])] [] [] [] [⟨_,nw_I ([]:List Int)⟩,⟨_,ZP ([]:List Node)⟩,⟨_,nw_Bo ([]:List Bool)⟩,⟨_,ZM ([]:List (List Pt))⟩,⟨_,nw_Pt ([]:List Pt)⟩]
   .refine wG [.u 67 (.ix _ _ _ fun _=>Z0 (Zo .nw) h11),.u 1000000 (.sto _ _ _ (Zo .nw y12.1) _ (fun _=>gm (Zo .nw) (Zt1 h11)) (fun _=>ZD4 ..)),.w 68 (wi .i64 rfl hiv10 q9.1)] fun _=>?_
    exact wT (N32 _ H)
  .unfold Za1 at H
   refine wP ?_
   refine wf (ltF nodes5.length) ?_
   obtain ⟨y13,h13,H⟩:=bB H
   refine wG [.u 77 (.clsr _ _ _ _ _ (AEs.refl _) (by kernel_rfl) (fun _=>Zh8 h13))] fun _=>?_
   refine Wh_iH H (fun H=>?_) fun H=>?_
   .refine wP ?_
    replace H:=sI H; subst H
    exact wN [(12,.d),(13,.d)] [(12,[.n 1,.n 4,.n 1,.n 1,.n 4])] [] [] [] [⟨_,nw_I ([]:List Int)⟩,⟨_,ZP ([]:List Node)⟩,⟨_,nw_Bo ([]:List Bool)⟩,⟨_,ZM ([]:List (List Pt))⟩,⟨_,nw_Pt ([]:List Pt)⟩]
   .refine wP ?_
    replace H:=sI H; subst H
    exact wN [(12,.d),(13,.d)] [(12,[.d,.d,.d,.f,.d])] [] [40000] [] [⟨_,nw_I y8.topo.parents⟩,⟨_,ZP y8.topo.nodes⟩,⟨_,nw_Bo y8.up⟩,⟨_,ZM v10⟩,⟨_,nw_Pt y13.1⟩]
def ZJh:L :=
sR [.bx 1 (.t 0),.al 2 [.nl,.nl,.nl,.nl,.nl],.mv 3 (cB false)]
 (.seq (sR [fA 9 1 0,lD 10 9 2 true,cQ 11 Ze5 [10],.un 12 (.t 11),mV 13 12,.g 13 false (fA 14 1 2),.g 13 false (lD 15 14 1 false),.g 13 false (.ln 16 (.t 15)),.g 13 false (fA 17 1 0),.g 13 false (fA 18 17 1),.g 13 false (lD 19 18 1 false),.g 13 false (.ln 20 (.t 19)),.g 13 false (bI 21 .neq 16 20),.pk 22 (.t 13) (cB true) (.t 21),mV 23 22,.g 23 false (fA 24 1 3),.g 23 false (lD 25 24 3 true),.g 23 false (cQ 26 Zu [25]),.g 23 false (.un 27 (.t 26)),.pk 28 (.t 23) (cB true) (.t 27),mV 29 28,.g 29 false (fA 30 1 7),.g 29 false (lD 31 30 1 false),.g 29 false (cQ 32 Zt2 [31]),.g 29 false (.un 33 (.t 32)),.pk 34 (.t 29) (cB true) (.t 33)]
 (.cond (.t 34) (sR [.bd 35 [.nl,.nl,.nl,.nl,.nl] [],.st (.t 2) (.t 35) 5,.mv 3 (cB false)]
 gR)
 .skip))
 (sR [fA 36 1 0,lD 37 36 2 true,fA 38 1 2,lD 39 38 1 false,fA 40 1 3,lD 41 40 3 true,cQ 42 ZFc [37,39,41],.al 4 [.nl,.nl,.nl,.nl,.nl],.st (.t 4) (.t 42) 5]
 (.seq (sR [fA 43 1 9,lD 44 43 1 false,.ln 45 (.t 44),.mv 46 (kI 0)]
 (.blk 0 (.loop (.gw (sR [bI 47 .lss 46 45]
 (.seq (.cond (.t 47) .skip
 (.exit 0))
 (.seq (.blk 1 (sR [iA 48 44 46 13,lD 49 48 13 true,.al 6 [.int .i64 0,.int .i64 0,.int .i64 0,.int .i64 0,.int .i64 0,.int .i64 0,.int .i64 0,.int .i64 0,.int .i64 0,.int .i64 0,.int .i64 0,.int .i64 0,.nl],.st (.t 6) (.t 49) 13]
 (.seq (sR [fA 50 6 0,lD 51 50 11 true,cQ 52 Z33 [51],.un 53 (.t 52),mV 54 53,.g 54 false (fA 55 6 11),.g 54 false (lD 56 55 1 false),.g 54 false (fA 57 1 7),.g 54 false (lD 58 57 1 false),.g 54 false (.cq 59 Z4 [(.t 56),(kI 0),(.t 58)]),.g 54 false (.un 60 (.t 59)),.pk 61 (.t 54) (cB true) (.t 60),mV 62 61,.g 62 false (fA 63 6 11),.g 62 false (lD 64 63 1 false),.g 62 false (fA 65 6 0),.g 62 false (fA 66 65 9),.g 62 false (lD 67 66 1 false),.g 62 false (bI 68 .add 64 67),.g 62 false (fA 69 1 7),.g 62 false (lD 70 69 1 false),.g 62 false (.bi 71 .add (.t 70) (kI 1)),.g 62 false (.cq 72 Z4 [(.t 68),(.t 71),(kI 1000000000)]),.g 62 false (.un 73 (.t 72)),.pk 74 (.t 62) (cB true) (.t 73)]
 (.cond (.t 74) (sR [.bd 75 [.nl,.nl,.nl,.nl,.nl] [],.st (.t 2) (.t 75) 5,.mv 3 (cB false)]
 gR)
 .skip))
 (sR [lD 77 4 5 true,fA 78 6 0,lD 79 78 11 true,fA 80 1 7,lD 81 80 1 false,fA 82 6 11,lD 83 82 1 false,fA 84 6 0,fA 85 84 9,lD 86 85 1 false,bI 87 .add 83 86,fA 88 6 12,lD 89 88 1 false,.cq 90 ZEc [(.t 77),(.t 79),(.t 81),(.t 87),(.t 89),(.c (.fn Ze2 []))],mV 76 90,eX 91 76 0,eX 92 76 1,.al 7 [.nl,.nl,.nl,.nl,.nl],.st (.t 7) (.t 91) 5,mV 8 92]
 (.seq (sR [mV 93 8,.un 94 (.t 93)]
 (.cond (.t 94) (sR [.bd 95 [.nl,.nl,.nl,.nl,.nl] [],.st (.t 2) (.t 95) 5,.mv 3 (cB false)]
 gR)
 .skip))
 (.reg [lD 96 7 5 true,.st (.t 4) (.t 96) 5]))))))
 (.reg [.bi 97 .add (.t 46) (kI 1),mV 46 97]))))))))
 (sR [lD 98 4 5 true,.st (.t 2) (.t 98) 5,.mv 3 (cB true)]
 gR))))
def Zu3 (s1:State) (x5:Run) (_:Nat) (v5:Room) (k5:Room -> Option (Room × Bool)):Option (Room × Bool) :=
 bif (((!(impl_JobOk x5.job)) || (!(impl_within x5.t 0 s1.now))) || (!(impl_within (w64 (x5.t + x5.job.wall)) (w64 (s1.now + 1)) 1000000000))) then (some ((Room.mk (Topo.mk [] []) [] [] []),false)) else ((ZG v5 x5.job s1.now (w64 (x5.t + x5.job.wall)) x5.nodes).bind fun y6=>bif (!y6.2) then (some ((Room.mk (Topo.mk [] []) [] [] []),false)) else (k5 y6.1))
def ZS8 (v5:Room):Option (Room × Bool) :=
 some (v5,true)
def impl_RoomOf (s1:State):Option (Room × Bool) :=
 (impl_TopoOk s1.topo).bind fun b2=>bif ((((!b2) || ((s1.up.length:Int) != (s1.topo.nodes.length:Int))) || (!(impl_VecOk s1.lic))) || (!(impl_isTime s1.now))) then (some ((Room.mk (Topo.mk [] []) [] [] []),false)) else ((impl_empty s1.topo s1.up s1.lic).bind fun y3=>rgl (Zu3 s1) ZS8 s1.runs 0 y3)
theorem ZZh {s1:State} {r:Room × Bool} (H:impl_RoomOf s1 = some r):Snd Tryz.prog Zvb [Z21 .rd s1] (.tup [Zw3 .nw r.1,.bool r.2]) []:=by
 refine wS ZJh [.c 2 5 true,.t 3] ?_
 unfold impl_RoomOf at H
 obtain ⟨b2,h2,H⟩:=bB H
 refine wG [.c 11 (ZJ6 h2),.g 16 [((!b2),false)] (.ln _ _ fun _=>lm s1.up eBo),.g 20 [((!b2),false)] (.ln _ _ fun _=>lm s1.topo.nodes eNode),.g 26 [(((!b2) || ((s1.up.length:Int) != (s1.topo.nodes.length:Int))),false)] (.call _ _ _ _ _ (AEs.refl _) (fun _=>Zv s1.lic)),.g 32 [((((!b2) || ((s1.up.length:Int) != (s1.topo.nodes.length:Int))) || (!(impl_VecOk s1.lic))),false)] (.call _ _ _ _ _ (AEs.refl _) (fun _=>Zb4 s1.now))] fun _=>?_
 refine Wh_iH H (fun H=>?_) fun H=>?_
 .refine wP ?_
  replace H:=sI H; subst H
  exact wN [(2,.d),(3,.d)] [(2,[.n 1,.n 4,.n 1,.n 1,.n 4])] [] [] [] [⟨_,nw_I ([]:List Int)⟩,⟨_,ZP ([]:List Node)⟩,⟨_,nw_Bo ([]:List Bool)⟩,⟨_,ZM ([]:List (List Pt))⟩,⟨_,nw_Pt ([]:List Pt)⟩]
 .obtain ⟨y3,h3,H⟩:=bB H
  refine wG [.c 42 (ZWj h3),.u 45 (.ln _ _ fun _=>lm s1.runs (eRunT .rd))] fun q4=>?_
  refine wR (fun (i5:Nat) (v5:Room)=>⟨[(1,.ptr 1 0),(2,.ptr 2 0),(4,.ptr 4 0),(44,.sl .rd 13 (s1.runs.map (eRunT .rd))),(45,.int .i64 (s1.runs.length:Int)),(46,.int .i64 (i5:Int))],[],[(1,(Z21 .rd s1).cells),(2,[.nl,.nl,.nl,.nl,.nl]),(4,(Zw3 .nw v5).cells)],[]⟩) H (fun i5 x5 v5 I m k5 hxv5 hiv5 H N40=>?_) (fun v5 I m H=>?_)
  .unfold Zu3 at H
   refine wP ?_
   refine wt (ltT hiv5) ?_
   refine wG [.u 48 (.ix _ _ _ fun _=>Z0 (eRunT .rd) (Z6 hxv5)),.c 52 (Z75 x5.job),.g 59 [((!(impl_JobOk x5.job)),false)] (.call _ _ _ _ _ (AEs.refl _) (fun _=>Z2 x5.t 0 s1.now)),.g 72 [(((!(impl_JobOk x5.job)) || (!(impl_within x5.t 0 s1.now))),false)] (.call _ _ _ _ _ (AEs.refl _) (fun _=>Z2 (w64 (x5.t + x5.job.wall)) (w64 (s1.now + 1)) 1000000000))] fun _=>?_
   refine Wh_iH H (fun H=>?_) fun H=>?_
   .refine wP ?_
    replace H:=sI H; subst H
    exact wN [(2,.d),(3,.d)] [(2,[.n 1,.n 4,.n 1,.n 1,.n 4])] [] [] [] [⟨_,nw_I ([]:List Int)⟩,⟨_,ZP ([]:List Node)⟩,⟨_,nw_Bo ([]:List Bool)⟩,⟨_,ZM ([]:List (List Pt))⟩,⟨_,nw_Pt ([]:List Pt)⟩]
   .obtain ⟨y6,h6,H⟩:=bB H
    refine wG [.u 90 (.call _ _ _ _ _ (AEs.of (xs:=[.agg [.sl .rd 1 (v5.topo.parents.map eI),.sl .rd 4 (v5.topo.nodes.map eNode),.sl .rd 1 (v5.up.map eBo),.sl .rd 1 (v5.profs.map (Zo .nw)),.sl .rd 4 (v5.lics.map ePt)],.agg [.int .i64 x5.job.id,.int .i64 x5.job.prio,.int .i64 x5.job.nodes,.int .i64 x5.job.need.a,.int .i64 x5.job.need.b,.int .i64 x5.job.need.c,.int .i64 x5.job.lic.a,.int .i64 x5.job.lic.b,.int .i64 x5.job.lic.c,.int .i64 x5.job.wall,.int .i64 x5.job.level],.int .i64 s1.now,.int .i64 (w64 (x5.t + x5.job.wall)),.sl .rd 1 (x5.nodes.map eI),.fn Ze2 []]) (by simp)) (fun _=>Zv5 h6))] fun _=>?_
    refine Wh_iH H (fun H=>?_) fun H=>?_
    .refine wP ?_
     replace H:=sI H; subst H
     exact wN [(2,.d),(3,.d)] [(2,[.n 1,.n 4,.n 1,.n 1,.n 4])] [] [] [] [⟨_,nw_I ([]:List Int)⟩,⟨_,ZP ([]:List Node)⟩,⟨_,nw_Bo ([]:List Bool)⟩,⟨_,ZM ([]:List (List Pt))⟩,⟨_,nw_Pt ([]:List Pt)⟩]
    .refine wG [.w 97 (wi .i64 rfl hiv5 q4.1)] fun _=>?_
     exact wT (N40 _ H)
  .unfold ZS8 at H
   refine wP ?_
   refine wf (ltF s1.runs.length) ?_
   refine wP ?_
   replace H:=sI H; subst H
   exact wN [(2,.d),(3,.d)] [(2,[])] [] [] [] [⟨_,nw_I v5.topo.parents⟩,⟨_,ZP v5.topo.nodes⟩,⟨_,nw_Bo v5.up⟩,⟨_,ZM v5.profs⟩,⟨_,nw_Pt v5.lics⟩]
def Z7c:L :=
sR [.bx 1 (.t 0),.mv 2 (.c (.nl))]
 (sR [.bs 6 11 [] true,fA 7 1 8,lD 8 7 1 false,.ap 9 (.t 6) (.t 8) 11 88,mV 3 9]
 (.seq (sR [fA 10 1 9,lD 11 10 1 false,.ln 12 (.t 11),.mv 13 (kI 0)]
 (.blk 0 (.loop (.gw (sR [bI 14 .lss 13 12]
 (.seq (.cond (.t 14) .skip
 (.exit 0))
 (.seq (.blk 1 (sR [iA 15 11 13 13,lD 16 15 13 true,.al 5 [.int .i64 0,.int .i64 0,.int .i64 0,.int .i64 0,.int .i64 0,.int .i64 0,.int .i64 0,.int .i64 0,.int .i64 0,.int .i64 0,.int .i64 0,.int .i64 0,.nl],.st (.t 5) (.t 16) 13]
 (.reg [mV 17 3,fA 18 5 0,lD 19 18 11 true,.bs 20 11 [(.t 19)] false,.ap 21 (.t 17) (.t 20) 11 88,mV 3 21])))
 (.reg [.bi 22 .add (.t 13) (kI 1),mV 13 22]))))))))
 (sR [mV 23 3,mV 2 23]
 gR)))
def Zc6 (x4:Run) (_:Nat) (v4:(List Job)) (k4:(List Job) -> Option (List Job)):Option (List Job) :=
 (appL 88 v4 [x4.job]).bind fun xs5=>k4 xs5
def Zb6 (v4:(List Job)):Option (List Job) :=
 some v4
def impl_State_all (s1:State):Option (List Job) :=
 (appL 88 ([]:List Job) s1.queue).bind fun xs2=>rgl Zc6 Zb6 s1.runs 0 xs2
theorem ZR3 {s1:State} {r:(List Job)} (H:impl_State_all s1 = some r):Snd Tryz.prog ZX2 [Z21 .rd s1] (.sl .nw 11 (r.map eJob)) []:=by
 refine wS Z7c [.t 2] ?_
 unfold impl_State_all at H
 obtain ⟨xs2,h2,H⟩:=bB H
 refine wG [.u 9 (.ap _ _ _ _ fun _=>Zq eJob h2),.u 12 (.ln _ _ fun _=>lm s1.runs (eRunT .rd))] fun q3=>?_
 refine wR (fun (i4:Nat) (v4:(List Job))=>⟨[(3,.sref 6),(11,.sl .rd 13 (s1.runs.map (eRunT .rd))),(12,.int .i64 (s1.runs.length:Int)),(13,.int .i64 (i4:Int))],[],[],[(6,⟨11,v4.map eJob,false⟩)]⟩) H (fun i4 x4 v4 I m k4 hxv4 hiv4 H N15=>?_) (fun v4 I m H=>?_)
 .unfold Zc6 at H
  refine wP ?_
  refine wt (ltT hiv4) ?_
  obtain ⟨xs5,h5,H⟩:=bB H
  refine wG [.u 15 (.ix _ _ _ fun _=>Z0 (eRunT .rd) (Z6 hxv4)),.u 21 (.ap _ _ _ _ fun _=>Zq eJob h5),.w 22 (wi .i64 rfl hiv4 q3.1)] fun _=>?_
  exact wT (N15 _ H)
 .unfold Zb6 at H
  refine wP ?_
  refine wf (ltF s1.runs.length) ?_
  refine wP ?_
  replace H:=sI H; subst H
  exact wN [(2,.f)] [] [] [6] [] [⟨_,ZDk v4⟩]
def Zyf:L :=
sR [.bx 1 (.t 0),.mv 2 (cB false)]
 (.seq (sR [lD 12 1 11 true,cQ 13 Zvb [12],mV 11 13,eX 14 11 0,eX 15 11 1,.al 3 [.nl,.nl,.nl,.nl,.nl],.st (.t 3) (.t 14) 5,mV 4 15]
 (sR [mV 16 4,.un 17 (.t 16),mV 18 17,.g 18 false (fA 19 1 6),.g 18 false (lD 20 19 1 false),.g 18 false (.cq 21 Z4 [(.t 20),(kI 0),(kI 60)]),.g 18 false (.un 22 (.t 21)),.pk 23 (.t 18) (cB true) (.t 22),mV 24 23,.g 24 false (lD 25 1 11 true),.g 24 false (cQ 26 ZX2 [25]),.g 24 false (cQ 27 Zaa [26]),.g 24 false (.un 28 (.t 27)),.pk 29 (.t 24) (cB true) (.t 28),mV 30 29,.g 30 false (fA 31 1 10),.g 30 false (lD 32 31 1 false),.g 30 false (.ln 33 (.t 32)),.g 30 false (.bi 34 .gtr (.t 33) (kI 300)),.pk 35 (.t 30) (cB true) (.t 34)]
 (.cond (.t 35) (.seq (rE 2 (cB false))
 gR)
 .skip)))
 (.seq (sR [fA 36 1 9,lD 37 36 1 false,.ln 38 (.t 37),.mv 39 (kI 0)]
 (.blk 0 (.loop (.gw (sR [bI 40 .lss 39 38]
 (.seq (.cond (.t 40) .skip
 (.exit 0))
 (.seq (.blk 1 (sR [iA 41 37 39 13,lD 42 41 13 true,.al 6 [.int .i64 0,.int .i64 0,.int .i64 0,.int .i64 0,.int .i64 0,.int .i64 0,.int .i64 0,.int .i64 0,.int .i64 0,.int .i64 0,.int .i64 0,.int .i64 0,.nl],.st (.t 6) (.t 42) 13]
 (.seq (sR [fA 43 6 12,lD 44 43 1 false,.ln 45 (.t 44),.mv 46 (kI 0)]
 (.blk 2 (.loop (.gw (sR [bI 47 .lss 46 45]
 (.seq (.cond (.t 47) .skip
 (.exit 2))
 (.seq (.blk 3 (sR [iA 48 44 46 1,lD 49 48 1 false,mV 8 49]
 (sR [fA 50 1 2,lD 51 50 1 false,mV 52 8,iA 53 51 52 1,lD 54 53 1 false,.un 55 (.t 54)]
 (.cond (.t 55) (.seq (rE 2 (cB false))
 gR)
 .skip))))
 (.reg [.bi 56 .add (.t 46) (kI 1),mV 46 56]))))))))
 (.seq (.rq 18 [fA 57 6 12,lD 58 57 1 false,cQ 59 ZM5 [58],.un 60 (.t 59),mV 61 60,.g 61 false (fA 62 1 0),.g 61 false (lD 63 62 2 true),.g 61 false (fA 64 1 0),.g 61 false (lD 65 64 2 true),.g 61 false (fA 66 6 12),.g 61 false (lD 67 66 1 false),.g 61 false (cQ 68 Zwb [65,67]),.g 61 false (cQ 69 Zo6 [63,68]),.g 61 false (fA 70 6 0),.g 61 false (fA 71 70 10),.g 61 false (lD 72 71 1 false),.g 61 false (bI 73 .gtr 69 72),.pk 74 (.t 61) (cB true) (.t 73)])
 (.cond (.t 74) (.seq (rE 2 (cB false))
 gR)
 .skip)))))
 (.reg [.bi 75 .add (.t 39) (kI 1),mV 39 75]))))))))
 (.seq (sR [fA 76 1 10,lD 77 76 1 false,.ln 78 (.t 77),.mv 79 (kI 0)]
 (.blk 4 (.loop (.gw (sR [bI 80 .lss 79 78]
 (.seq (.cond (.t 80) .skip
 (.exit 4))
 (.seq (.blk 5 (sR [iA 81 77 79 3,lD 82 81 3 true,.al 10 [.int .i64 0,.int .i64 0,.int .i64 0],.st (.t 10) (.t 82) 3]
 (sR [fA 83 10 0,lD 84 83 1 false,.cq 85 Z4 [(.t 84),(kI 1),(kI 999)],.un 86 (.t 85),mV 87 86,.g 87 false (fA 88 10 1),.g 87 false (lD 89 88 1 false),.g 87 false (fA 90 1 7),.g 87 false (lD 91 90 1 false),.g 87 false (.cq 92 Z4 [(.t 89),(kI 0),(.t 91)]),.g 87 false (.un 93 (.t 92)),.pk 94 (.t 87) (cB true) (.t 93),mV 95 94,.g 95 false (fA 96 10 2),.g 95 false (lD 97 96 1 false),.g 95 false (.cq 98 Z4 [(.t 97),(kI 1),(kI 4)]),.g 95 false (.un 99 (.t 98)),.pk 100 (.t 95) (cB true) (.t 99)]
 (.cond (.t 100) (.seq (rE 2 (cB false))
 gR)
 .skip))))
 (.reg [.bi 101 .add (.t 79) (kI 1),mV 79 101]))))))))
 (.seq (rE 2 (cB true))
 gR))))
def ZH4 (s1:State) (x8:Int) (_:Nat) (_:Unit) (k8:Unit -> Option Bool):Option Bool :=
 (idx s1.up x8).bind fun e9=>bif (!e9) then (some false) else (k8 ())
def ZG4 (s1:State) (x6:Run) (k6:Unit -> Option Bool) (_:Unit):Option Bool :=
 (impl_areAscending x6.nodes).bind fun b10=>(bif (!b10) then some default else (impl_Lowest s1.topo x6.nodes)).bind fun n11=>(bif (!b10) then some default else (impl_level s1.topo n11)).bind fun n12=>bif ((!b10) || (decide (x6.job.level < n12))) then (some false) else (k6 ())
def ZS2 (s1:State) (x14:End) (_:Nat) (_:Unit) (k14:Unit -> Option Bool):Option Bool :=
 bif (((!(impl_within x14.id 1 999)) || (!(impl_within x14.t 0 s1.now))) || (!(impl_within x14.why 1 4))) then (some false) else (k14 ())
def ZE4 (_:Unit):Option Bool :=
 some true
def ZT2 (s1:State) (x6:Run) (_:Nat) (_:Unit) (k6:Unit -> Option Bool):Option Bool :=
 rgl (ZH4 s1) (ZG4 s1 x6 k6) x6.nodes 0 ()
def ZF4 (s1:State) (_:Unit):Option Bool :=
 rgl (ZS2 s1) ZE4 s1.ends 0 ()
def impl_StateOk (s1:State):Option Bool :=
 (impl_RoomOf s1).bind fun y2=>(bif ((!y2.2) || (!(impl_within s1.depth 0 60))) then some default else (impl_State_all s1)).bind fun y3=>(bif ((!y2.2) || (!(impl_within s1.depth 0 60))) then some default else (impl_QueueOk y3)).bind fun b4=>bif ((((!y2.2) || (!(impl_within s1.depth 0 60))) || (!b4)) || (decide (300 < (s1.ends.length:Int)))) then (some false) else (rgl (ZT2 s1) (ZF4 s1) s1.runs 0 ())
theorem ZJf {s1:State} {r:Bool} (H:impl_StateOk s1 = some r):Snd Tryz.prog Z9a [Z21 .rd s1] (.bool r) []:=by
 refine wS Zyf [.t 2] ?_
 unfold impl_StateOk at H
 obtain ⟨y2,h2,H⟩:=bB H
 obtain ⟨y3,h3,H⟩:=bB H
 obtain ⟨b4,h4,H⟩:=bB H
 refine wG [.c 13 (ZZh h2),.g 21 [((!y2.2),false)] (.call _ _ _ _ _ (AEs.refl _) (fun _=>Z2 s1.depth 0 60)),.g 26 [(_,false)] (.call _ _ _ _ _ (AEs.refl _) (fun q=>ZR3 (bF q.1 h3))),.g 27 [(_,false)] (.call _ _ _ _ _ (AEs.refl _) (fun q=>ZLf (bF q.1 h4))),.g 33 [((((!y2.2) || (!(impl_within s1.depth 0 60))) || (!b4)),false)] (.ln _ _ fun _=>lm s1.ends eEnd)] fun _=>?_
 refine Wh_iH H (fun H=>?_) fun H=>?_
 .refine wP ?_
  replace H:=sI H; subst H
  exact wE [(2,.d)]
 .refine wG [.u 38 (.ln _ _ fun _=>lm s1.runs (eRunT .rd))] fun q5=>?_
  refine wR (fun (i6:Nat) (v6:Unit)=>⟨[(1,.ptr 1 0),(37,.sl .rd 13 (s1.runs.map (eRunT .rd))),(38,.int .i64 (s1.runs.length:Int)),(39,.int .i64 (i6:Int))],[],[(1,(Z21 .rd s1).cells)],[]⟩) H (fun i6 x6 v6 I m k6 hxv6 hiv6 H N52=>?_) (fun v6 I m H=>?_)
  .unfold ZT2 at H
   refine wP ?_
   refine wt (ltT hiv6) ?_
   refine wG [.u 41 (.ix _ _ _ fun _=>Z0 (eRunT .rd) (Z6 hxv6)),.u 45 (.ln _ _ fun _=>lm x6.nodes eI)] fun q7=>?_
   refine wR (fun (i8:Nat) (v8:Unit)=>⟨[(1,.ptr 1 0),(6,.ptr 6 0),(37,.sl .rd 13 (s1.runs.map (eRunT .rd))),(38,.int .i64 (s1.runs.length:Int)),(39,.int .i64 (i6:Int)),(44,.sl .rd 1 (x6.nodes.map eI)),(45,.int .i64 (x6.nodes.length:Int)),(46,.int .i64 (i8:Int))],[],[(1,(Z21 .rd s1).cells),(6,(eRunT .rd x6).cells)],[]⟩) H (fun i8 x8 v8 I m k8 hxv8 hiv8 H N35=>?_) (fun v8 I m H=>?_)
   .unfold ZH4 at H
    refine wP ?_
    refine wt (ltT hiv8) ?_
    obtain ⟨e9,h9,H⟩:=bB H
    refine wG [.u 48 (.ix _ _ _ fun _=>Z0 eI (Z6 hxv8)),.u 53 (.ix _ _ _ fun _=>Z0 eBo h9)] fun _=>?_
    refine Wh_iH H (fun H=>?_) fun H=>?_
    .refine wP ?_
     replace H:=sI H; subst H
     exact wE [(2,.d)]
    .refine wG [.w 56 (wi .i64 rfl hiv8 q7.1)] fun _=>?_
     exact wT (N35 () H)
   .unfold ZG4 at H
    refine wP ?_
    refine wf (ltF x6.nodes.length) ?_
    obtain ⟨b10,h10,H⟩:=bB H
    obtain ⟨n11,h11,H⟩:=bB H
    obtain ⟨n12,h12,H⟩:=bB H
    refine wG [.c 59 (ZC9 h10),.g 68 [(_,false)] (.call _ _ _ _ _ (AEs.refl _) (fun q=>Z2i (bF q.1 h11))),.g 69 [(_,false)] (.call _ _ _ _ _ (AEs.refl _) (fun q=>ZA7 (bF q.1 h12)))] fun _=>?_
    refine Wh_iH H (fun H=>?_) fun H=>?_
    .refine wP ?_
     replace H:=sI H; subst H
     exact wE [(2,.d)]
    .refine wG [.w 75 (wi .i64 rfl hiv6 q5.1)] fun _=>?_
     exact wT (N52 () H)
  .unfold ZF4 at H
   refine wP ?_
   refine wf (ltF s1.runs.length) ?_
   refine wG [.u 78 (.ln _ _ fun _=>lm s1.ends eEnd)] fun q13=>?_
   refine wR (fun (i14:Nat) (v14:Unit)=>⟨[(1,.ptr 1 0),(77,.sl .rd 3 (s1.ends.map eEnd)),(78,.int .i64 (s1.ends.length:Int)),(79,.int .i64 (i14:Int))],[],[(1,(Z21 .rd s1).cells)],[]⟩) H (fun i14 x14 v14 I m k14 hxv14 hiv14 H N74=>?_) (fun v14 I m H=>?_)
   .unfold ZS2 at H
    refine wP ?_
    refine wt (ltT hiv14) ?_
    refine wG [.u 81 (.ix _ _ _ fun _=>Z0 eEnd (Z6 hxv14)),.c 85 (Z2 x14.id 1 999),.g 92 [((!(impl_within x14.id 1 999)),false)] (.call _ _ _ _ _ (AEs.refl _) (fun _=>Z2 x14.t 0 s1.now)),.g 98 [(((!(impl_within x14.id 1 999)) || (!(impl_within x14.t 0 s1.now))),false)] (.call _ _ _ _ _ (AEs.refl _) (fun _=>Z2 x14.why 1 4))] fun _=>?_
    refine Wh_iH H (fun H=>?_) fun H=>?_
    .refine wP ?_
     replace H:=sI H; subst H
     exact wE [(2,.d)]
    .refine wG [.w 101 (wi .i64 rfl hiv14 q13.1)] fun _=>?_
     exact wT (N74 () H)
   .unfold ZE4 at H
    refine wP ?_
    refine wf (ltF s1.ends.length) ?_
    refine wP ?_
    replace H:=sI H; subst H
    exact wE [(2,.d)]
def ZYg:L :=
.seq (rE 2 (cB false))
 (.seq (.seq (rE 3 (kI 0))
 (.blk 0 (.loop (.gw (.seq (sR [mV 4 3,mV 5 0,.ls 6 (.t 5),bI 7 .lss 4 6]
 (.cond (.t 7) .skip
 (.exit 0)))
 (.seq (.blk 1 (sR [mV 10 0,mV 11 3,.ix 12 (.t 10) (.t 11),.bi 13 .lss (.t 12) (.c (.int .u8 97)),mV 14 13,.g 14 false (mV 15 0),.g 14 false (mV 16 3),.g 14 false (.ix 17 (.t 15) (.t 16)),.g 14 false (.bi 18 .gtr (.t 17) (.c (.int .u8 122))),.pk 19 (.t 14) (cB true) (.t 18)]
 (.cond (.t 19) (.seq (rE 2 (cB false))
 gR)
 .skip)))
 (.reg [mV 8 3,.bi 9 .add (.t 8) (kI 1),mV 3 9])))))))
 (sR [mV 20 0,.ls 21 (.t 20),.bi 22 .geq (.t 21) (kI 1),mV 23 22,.g 23 true (mV 24 0),.g 23 true (.ls 25 (.t 24)),.g 23 true (.bi 26 .leq (.t 25) (kI 8)),.pk 27 (.t 23) (.t 26) (cB false),mV 2 27]
 gR))
def Zl5 (s1:Str) (v2:Int) (k2:Int -> Option Bool):Option Bool :=
 bif (decide (v2 < (s1.length:Int))) then ((idx s1 v2).bind fun c3=>bif ((decide ((c3.toNat:Int) < 97)) || (decide (122 < (c3.toNat:Int)))) then (some false) else (k2 (w64 (v2 + 1)))) else (some ((decide (1 <= (s1.length:Int))) && (decide ((s1.length:Int) <= 8))))
def spec_WordOk (s1:Str):Option Bool :=
 whl (Zl5 s1) 9223372036854775807 0
theorem Zu6 {s1:Str} {r:Bool} (H:spec_WordOk s1 = some r):Snd Tryz.prog Z95 [.str s1] (.bool r) []:=by
 refine wS ZYg [.t 2] ?_
 unfold spec_WordOk at H
 refine wP ?_
 refine wW (fun (v2:Int)=>⟨[(0,.str s1),(3,.int .i64 v2)],[],[],[]⟩) H (fun v2 I m k2 H N18=>?_)
 unfold Zl5 at H
 refine wP ?_
 refine Wh_iH H (fun H=>?_) fun H=>?_
 .obtain ⟨c3,h3,H⟩:=bB H
  refine wG [.u 12 (.sx _ _ _ fun _=>h3),.g 17 [((decide ((c3.toNat:Int) < 97)),false)] (.sx _ _ _ fun _=>h3)] fun _=>?_
  refine Wh_iH H (fun H=>?_) fun H=>?_
  .refine wP ?_
   replace H:=sI H; subst H
   exact wE [(2,.d)]
  .refine wP ?_
   exact wT (N18 _ H)
 .refine wP ?_
  replace H:=sI H; subst H
  exact wE [(2,.d)]
def Z2f:L :=
.seq (rE 2 (cB false))
 (sR [mV 3 0,.bi 4 .geq (.t 3) (kI 0),mV 5 4,.g 5 true (mV 6 0),.g 5 true (.bi 7 .leq (.t 6) (kI 1000000000)),.pk 8 (.t 5) (.t 7) (cB false),mV 2 8]
 gR)
def ZX3 (n1:Int):Option Bool :=
 some ((decide (0 <= n1)) && (decide (n1 <= 1000000000)))
theorem ZCb {n1:Int} {r:Bool} (H:ZX3 n1 = some r):Snd Tryz.prog ZS6 [.int .i64 n1] (.bool r) []:=by
 refine wS Z2f [.t 2] ?_
 unfold ZX3 at H
 refine wP ?_
 replace H:=sI H; subst H
 exact wE [(2,.d)]
def spec_l11Used (n1:Int):Bool :=
 ((decide (0 <= n1)) && (decide (n1 <= 1000000000)))
theorem Z7g (n1:Int):ZX3 n1 = some (spec_l11Used n1):=by
 unfold ZX3 spec_l11Used
 first | rfl | simp only [Z7]
theorem Zbe (n1:Int):Snd Tryz.prog ZS6 [.int .i64 n1] (.bool (spec_l11Used n1)) []:=ZCb (Z7g n1)
def ZUa:L :=
.seq (rE 2 (cB false))
 (.seq (sR [mV 5 0,.ln 6 (.t 5),.bi 7 .gtr (.t 6) (kI 12)]
 (.cond (.t 7) (.seq (rE 2 (cB false))
 gR)
 .skip))
 (.seq (sR [mV 8 0,.ln 9 (.t 8),.mv 10 (kI 0)]
 (.blk 0 (.loop (.gw (sR [bI 11 .lss 10 9]
 (.seq (.cond (.t 11) .skip
 (.exit 0))
 (.seq (.blk 1 (sR [mV 12 10,iA 13 8 10 3,lD 14 13 3 true,.al 4 [.str [],.int .i64 0,.int .i64 0],mV 3 12,.st (.t 4) (.t 14) 3]
 (.seq (.rq 35 [fA 15 4 0,lD 16 15 1 false,cQ 17 Z95 [16],.un 18 (.t 17),mV 19 18,.g 19 false (mV 20 3),.g 19 false (.bi 21 .gtr (.t 20) (kI 0)),.g 19 false (mV 22 21),.g 22 true (mV 23 0),.g 22 true (mV 24 3),.g 22 true (.bi 25 .sub (.t 24) (kI 1)),.g 22 true (iA 26 23 25 3),.g 22 true (fA 27 26 0),.g 22 true (lD 28 27 1 false),.g 22 true (fA 29 4 0),.g 22 true (lD 30 29 1 false),.g 22 true (bI 31 .geq 28 30),.g 19 false (.pk 32 (.t 22) (.t 31) (cB false)),.pk 33 (.t 19) (cB true) (.t 32),mV 34 33,.g 34 false (fA 35 4 1),.g 34 false (lD 36 35 1 false),.g 34 false (.bi 37 .lss (.t 36) (kI 1)),.pk 38 (.t 34) (cB true) (.t 37),mV 39 38,.g 39 false (fA 40 4 1),.g 39 false (lD 41 40 1 false),.g 39 false (.bi 42 .gtr (.t 41) (kI 1000)),.pk 43 (.t 39) (cB true) (.t 42),mV 44 43,.g 44 false (fA 45 4 2),.g 44 false (lD 46 45 1 false),.g 44 false (cQ 47 ZS6 [46]),.g 44 false (.un 48 (.t 47)),.pk 49 (.t 44) (cB true) (.t 48)])
 (.cond (.t 49) (.seq (rE 2 (cB false))
 gR)
 .skip))))
 (.reg [.bi 50 .add (.t 10) (kI 1),mV 10 50]))))))))
 (.seq (rE 2 (cB true))
 gR)))
def ZY2 (l1:List Account) (x4:Account) (i4:Nat) (_:Unit) (k4:Unit -> Option Bool):Option Bool :=
 (spec_WordOk x4.name).bind fun b5=>(bif (!b5) then some default else (bif (decide (0 < (i4:Int))) then (idx l1 (w64 ((i4:Int) - 1))) else some default)).bind fun e6=>bif (((((!b5) || ((decide (0 < (i4:Int))) && (!(Op.bytesLess e6.name x4.name)))) || (decide (x4.share < 1))) || (decide (1000 < x4.share))) || (!(spec_l11Used x4.used))) then (some false) else (k4 ())
def Zq5 (_:Unit):Option Bool :=
 some true
def spec_AccountsOk (l1:List Account):Option Bool :=
 bif (decide (12 < (l1.length:Int))) then (some false) else (rgl (ZY2 l1) Zq5 l1 0 ())
theorem ZT5 {l1:List Account} {r:Bool} (H:spec_AccountsOk l1 = some r):Snd Tryz.prog ZU3 [.sl .rd 3 (l1.map Z1)] (.bool r) []:=by
 refine wS ZUa [.t 2] ?_
 unfold spec_AccountsOk at H
 refine wG [.u 6 (.ln _ _ fun _=>lm l1 Z1)] fun q2=>?_
 refine Wh_iH H (fun H=>?_) fun H=>?_
 .refine wP ?_
  replace H:=sI H; subst H
  exact wE [(2,.d)]
 .refine wG [.u 9 (.ln _ _ fun _=>lm l1 Z1)] fun q3=>?_
  refine wR (fun (i4:Nat) (v4:Unit)=>⟨[(0,.sl .rd 3 (l1.map Z1)),(8,.sl .rd 3 (l1.map Z1)),(9,.int .i64 (l1.length:Int)),(10,.int .i64 (i4:Int))],[],[],[]⟩) H (fun i4 x4 v4 I m k4 hxv4 hiv4 H N27=>?_) (fun v4 I m H=>?_)
  .unfold ZY2 at H
   refine wP ?_
   refine wt (ltT hiv4) ?_
   obtain ⟨b5,h5,H⟩:=bB H
   obtain ⟨e6,h6,H⟩:=bB H
   refine wG [.u 13 (.ix _ _ _ fun _=>Z0 Z1 (Z6 hxv4)),.c 17 (Zu6 h5),.g 26 [(_,true),(_,false)] (.ix _ _ _ fun q=>Z0 Z1 (bT q.1 (bF q.2.1 h6))),.g 47 [(((((!b5) || ((decide (0 < (i4:Int))) && (!(Op.bytesLess e6.name x4.name)))) || (decide (x4.share < 1))) || (decide (1000 < x4.share))),false)] (.call _ _ _ _ _ (AEs.refl _) (fun _=>Zbe x4.used))] fun _=>?_
   refine Wh_iH H (fun H=>?_) fun H=>?_
   .refine wP ?_
    replace H:=sI H; subst H
    exact wE [(2,.d)]
   .refine wG [.w 50 (wi .i64 rfl hiv4 q2.1)] fun _=>?_
    exact wT (N27 () H)
  .unfold Zq5 at H
   refine wP ?_
   refine wf (ltF l1.length) ?_
   refine wP ?_
   replace H:=sI H; subst H
   exact wE [(2,.d)]
def Z3c:L :=
.seq (rE 4 (kI 0))
 (.seq (sR [mV 7 0,cQ 8 ZU3 [7],.un 9 (.t 8)]
 (.cond (.t 9) (.seq (rE 4 (kI (-1)))
 gR)
 .skip))
 (.seq (sR [mV 10 0,.ln 11 (.t 10),.mv 12 (kI 0)]
 (.blk 0 (.loop (.gw (sR [bI 13 .lss 12 11]
 (.seq (.cond (.t 13) .skip
 (.exit 0))
 (.seq (.blk 1 (sR [mV 14 12,iA 15 10 12 3,lD 16 15 3 true,.al 6 [.str [],.int .i64 0,.int .i64 0],mV 5 14,.st (.t 6) (.t 16) 3]
 (sR [fA 17 6 0,lD 18 17 1 false,mV 19 1,bI 20 .eql 18 19]
 (.cond (.t 20) (sR [mV 21 5,mV 4 21]
 gR)
 .skip))))
 (.reg [.bi 22 .add (.t 12) (kI 1),mV 12 22]))))))))
 (.seq (rE 4 (kI (-1)))
 gR)))
def Za3 (name2:Str) (x5:Account) (i5:Nat) (_:Unit) (k5:Unit -> Option Int):Option Int :=
 bif (x5.name == name2) then (some (i5:Int)) else (k5 ())
def ZU5 (_:Unit):Option Int :=
 some (-1)
def spec_AccountAt (l1:List Account) (name2:Str):Option Int :=
 (spec_AccountsOk l1).bind fun b3=>bif (!b3) then (some (-1)) else (rgl (Za3 name2) ZU5 l1 0 ())
theorem ZHb {l1:List Account} {name2:Str} {r:Int} (H:spec_AccountAt l1 name2 = some r):Snd Tryz.prog Zm8 [.sl .rd 3 (l1.map Z1),.str name2] (.int .i64 r) []:=by
 refine wS Z3c [.t 4] ?_
 unfold spec_AccountAt at H
 obtain ⟨b3,h3,H⟩:=bB H
 refine wG [.c 8 (ZT5 h3)] fun _=>?_
 refine Wh_iH H (fun H=>?_) fun H=>?_
 .refine wP ?_
  replace H:=sI H; subst H
  exact wE [(4,.d)]
 .refine wG [.u 11 (.ln _ _ fun _=>lm l1 Z1)] fun q4=>?_
  refine wR (fun (i5:Nat) (v5:Unit)=>⟨[(1,.str name2),(10,.sl .rd 3 (l1.map Z1)),(11,.int .i64 (l1.length:Int)),(12,.int .i64 (i5:Int))],[],[],[]⟩) H (fun i5 x5 v5 I m k5 hxv5 hiv5 H N27=>?_) (fun v5 I m H=>?_)
  .unfold Za3 at H
   refine wP ?_
   refine wt (ltT hiv5) ?_
   refine wG [.u 15 (.ix _ _ _ fun _=>Z0 Z1 (Z6 hxv5))] fun _=>?_
   refine Wh_iH H (fun H=>?_) fun H=>?_
   .refine wP ?_
    replace H:=sI H; subst H
    exact wE [(4,.d)]
   .refine wG [.w 22 (wi .i64 rfl hiv5 q4.1)] fun _=>?_
    exact wT (N27 () H)
  .unfold ZU5 at H
   refine wP ?_
   refine wf (ltF l1.length) ?_
   refine wP ?_
   replace H:=sI H; subst H
   exact wE [(4,.d)]
def ZDh:L :=
.seq (rE 2 (cB false))
 (.seq (.seq (rE 3 (kI 0))
 (.blk 0 (.loop (.gw (.seq (sR [mV 4 3,mV 5 0,.ls 6 (.t 5),bI 7 .lss 4 6]
 (.cond (.t 7) .skip
 (.exit 0)))
 (.seq (.blk 1 (sR [mV 10 0,mV 11 3,.ix 12 (.t 10) (.t 11),.bi 13 .lss (.t 12) (.c (.int .u8 97)),mV 14 13,.g 14 false (mV 15 0),.g 14 false (mV 16 3),.g 14 false (.ix 17 (.t 15) (.t 16)),.g 14 false (.bi 18 .gtr (.t 17) (.c (.int .u8 122))),.pk 19 (.t 14) (cB true) (.t 18)]
 (.cond (.t 19) (.seq (rE 2 (cB false))
 gR)
 .skip)))
 (.reg [mV 8 3,.bi 9 .add (.t 8) (kI 1),mV 3 9])))))))
 (sR [mV 20 0,.ls 21 (.t 20),.cq 22 Z4 [(.t 21),(kI 1),(kI 8)],mV 2 22]
 gR))
def ZQ8 (s1:Str) (v2:Int) (k2:Int -> Option Bool):Option Bool :=
 bif (decide (v2 < (s1.length:Int))) then ((idx s1 v2).bind fun c3=>bif ((decide ((c3.toNat:Int) < 97)) || (decide (122 < (c3.toNat:Int)))) then (some false) else (k2 (w64 (v2 + 1)))) else (some (impl_within (s1.length:Int) 1 8))
def impl_WordOk (s1:Str):Option Bool :=
 whl (ZQ8 s1) 9223372036854775807 0
theorem ZI6 {s1:Str} {r:Bool} (H:impl_WordOk s1 = some r):Snd Tryz.prog Zd5 [.str s1] (.bool r) []:=by
 refine wS ZDh [.t 2] ?_
 unfold impl_WordOk at H
 refine wP ?_
 refine wW (fun (v2:Int)=>⟨[(0,.str s1),(3,.int .i64 v2)],[],[],[]⟩) H (fun v2 I m k2 H N18=>?_)
 unfold ZQ8 at H
 refine wP ?_
 refine Wh_iH H (fun H=>?_) fun H=>?_
 .obtain ⟨c3,h3,H⟩:=bB H
  refine wG [.u 12 (.sx _ _ _ fun _=>h3),.g 17 [((decide ((c3.toNat:Int) < 97)),false)] (.sx _ _ _ fun _=>h3)] fun _=>?_
  refine Wh_iH H (fun H=>?_) fun H=>?_
  .refine wP ?_
   replace H:=sI H; subst H
   exact wE [(2,.d)]
  .refine wP ?_
   exact wT (N18 _ H)
 .refine wG [.u 22 (.call _ _ _ _ _ (AEs.refl _) (fun _=>Z2 (s1.length:Int) 1 8))] fun _=>?_
  replace H:=sI H; subst H
  exact wE [(2,.d)]
def ZZa:L :=
.seq (rE 2 (cB false))
 (.seq (sR [mV 5 0,.ln 6 (.t 5),.mv 7 (kI 0)]
 (.blk 0 (.loop (.gw (sR [bI 8 .lss 7 6]
 (.seq (.cond (.t 8) .skip
 (.exit 0))
 (.seq (.blk 1 (sR [mV 9 7,iA 10 5 7 3,lD 11 10 3 true,.al 4 [.str [],.int .i64 0,.int .i64 0],mV 3 9,.st (.t 4) (.t 11) 3]
 (.seq (.rq 31 [fA 12 4 0,lD 13 12 1 false,cQ 14 Zd5 [13],.un 15 (.t 14),mV 16 15,.g 16 false (fA 17 4 1),.g 16 false (lD 18 17 1 false),.g 16 false (.cq 19 Z4 [(.t 18),(kI 1),(kI 1000)]),.g 16 false (.un 20 (.t 19)),.pk 21 (.t 16) (cB true) (.t 20),mV 22 21,.g 22 false (fA 23 4 2),.g 22 false (lD 24 23 1 false),.g 22 false (.cq 25 Z4 [(.t 24),(kI 0),(kI 1000000000)]),.g 22 false (.un 26 (.t 25)),.pk 27 (.t 22) (cB true) (.t 26),mV 28 27,.g 28 false (mV 29 3),.g 28 false (.bi 30 .gtr (.t 29) (kI 0)),.g 28 false (mV 31 30),.g 31 true (mV 32 0),.g 31 true (mV 33 3),.g 31 true (.bi 34 .sub (.t 33) (kI 1)),.g 31 true (iA 35 32 34 3),.g 31 true (fA 36 35 0),.g 31 true (lD 37 36 1 false),.g 31 true (fA 38 4 0),.g 31 true (lD 39 38 1 false),.g 31 true (bI 40 .geq 37 39),.g 28 false (.pk 41 (.t 31) (.t 40) (cB false)),.pk 42 (.t 28) (cB true) (.t 41)])
 (.cond (.t 42) (.seq (rE 2 (cB false))
 gR)
 .skip))))
 (.reg [.bi 43 .add (.t 7) (kI 1),mV 7 43]))))))))
 (sR [mV 44 0,.ln 45 (.t 44),.bi 46 .leq (.t 45) (kI 12),mV 2 46]
 gR))
def ZZ2 (l1:List Account) (x3:Account) (i3:Nat) (_:Unit) (k3:Unit -> Option Bool):Option Bool :=
 (impl_WordOk x3.name).bind fun b4=>(bif (((!b4) || (!(impl_within x3.share 1 1000))) || (!(impl_within x3.used 0 1000000000))) then some default else (bif (decide (0 < (i3:Int))) then (idx l1 (w64 ((i3:Int) - 1))) else some default)).bind fun e5=>bif ((((!b4) || (!(impl_within x3.share 1 1000))) || (!(impl_within x3.used 0 1000000000))) || ((decide (0 < (i3:Int))) && (!(Op.bytesLess e5.name x3.name)))) then (some false) else (k3 ())
def ZD5 (l1:List Account) (_:Unit):Option Bool :=
 some (decide ((l1.length:Int) <= 12))
def impl_AccountsOk (l1:List Account):Option Bool :=
 rgl (ZZ2 l1) (ZD5 l1) l1 0 ()
theorem Zg6 {l1:List Account} {r:Bool} (H:impl_AccountsOk l1 = some r):Snd Tryz.prog ZV3 [.sl .rd 3 (l1.map Z1)] (.bool r) []:=by
 refine wS ZZa [.t 2] ?_
 unfold impl_AccountsOk at H
 refine wG [.u 6 (.ln _ _ fun _=>lm l1 Z1)] fun q2=>?_
 refine wR (fun (i3:Nat) (v3:Unit)=>⟨[(0,.sl .rd 3 (l1.map Z1)),(5,.sl .rd 3 (l1.map Z1)),(6,.int .i64 (l1.length:Int)),(7,.int .i64 (i3:Int))],[],[],[]⟩) H (fun i3 x3 v3 I m k3 hxv3 hiv3 H N20=>?_) (fun v3 I m H=>?_)
 .unfold ZZ2 at H
  refine wP ?_
  refine wt (ltT hiv3) ?_
  obtain ⟨b4,h4,H⟩:=bB H
  obtain ⟨e5,h5,H⟩:=bB H
  refine wG [.u 10 (.ix _ _ _ fun _=>Z0 Z1 (Z6 hxv3)),.c 14 (ZI6 h4),.g 19 [((!b4),false)] (.call _ _ _ _ _ (AEs.refl _) (fun _=>Z2 x3.share 1 1000)),.g 25 [(((!b4) || (!(impl_within x3.share 1 1000))),false)] (.call _ _ _ _ _ (AEs.refl _) (fun _=>Z2 x3.used 0 1000000000)),.g 35 [(_,true),(_,false)] (.ix _ _ _ fun q=>Z0 Z1 (bT q.1 (bF q.2.1 h5)))] fun _=>?_
  refine Wh_iH H (fun H=>?_) fun H=>?_
  .refine wP ?_
   replace H:=sI H; subst H
   exact wE [(2,.d)]
  .refine wG [.w 43 (wi .i64 rfl hiv3 q2.1)] fun _=>?_
   exact wT (N20 () H)
 .unfold ZD5 at H
  refine wP ?_
  refine wf (ltF l1.length) ?_
  refine wG [.u 45 (.ln _ _ fun _=>lm l1 Z1)] fun q6=>?_
  replace H:=sI H; subst H
  exact wE [(2,.d)]
def Zbc:L :=
.seq (rE 4 (kI 0))
 (.seq (sR [mV 7 0,cQ 8 ZV3 [7],.un 9 (.t 8)]
 (.cond (.t 9) (.seq (rE 4 (kI (-1)))
 gR)
 .skip))
 (.seq (sR [mV 10 0,.ln 11 (.t 10),.mv 12 (kI 0)]
 (.blk 0 (.loop (.gw (sR [bI 13 .lss 12 11]
 (.seq (.cond (.t 13) .skip
 (.exit 0))
 (.seq (.blk 1 (sR [mV 14 12,iA 15 10 12 3,lD 16 15 3 true,.al 6 [.str [],.int .i64 0,.int .i64 0],mV 5 14,.st (.t 6) (.t 16) 3]
 (sR [fA 17 6 0,lD 18 17 1 false,mV 19 1,bI 20 .eql 18 19]
 (.cond (.t 20) (sR [mV 21 5,mV 4 21]
 gR)
 .skip))))
 (.reg [.bi 22 .add (.t 12) (kI 1),mV 12 22]))))))))
 (.seq (rE 4 (kI (-1)))
 gR)))
def Zi6 (name2:Str) (x5:Account) (i5:Nat) (_:Unit) (k5:Unit -> Option Int):Option Int :=
 bif (x5.name == name2) then (some (i5:Int)) else (k5 ())
def Zh6 (_:Unit):Option Int :=
 some (-1)
def impl_AccountAt (l1:List Account) (name2:Str):Option Int :=
 (impl_AccountsOk l1).bind fun b3=>bif (!b3) then (some (-1)) else (rgl (Zi6 name2) Zh6 l1 0 ())
theorem Zjc {l1:List Account} {name2:Str} {r:Int} (H:impl_AccountAt l1 name2 = some r):Snd Tryz.prog Zo8 [.sl .rd 3 (l1.map Z1),.str name2] (.int .i64 r) []:=by
 refine wS Zbc [.t 4] ?_
 unfold impl_AccountAt at H
 obtain ⟨b3,h3,H⟩:=bB H
 refine wG [.c 8 (Zg6 h3)] fun _=>?_
 refine Wh_iH H (fun H=>?_) fun H=>?_
 .refine wP ?_
  replace H:=sI H; subst H
  exact wE [(4,.d)]
 .refine wG [.u 11 (.ln _ _ fun _=>lm l1 Z1)] fun q4=>?_
  refine wR (fun (i5:Nat) (v5:Unit)=>⟨[(1,.str name2),(10,.sl .rd 3 (l1.map Z1)),(11,.int .i64 (l1.length:Int)),(12,.int .i64 (i5:Int))],[],[],[]⟩) H (fun i5 x5 v5 I m k5 hxv5 hiv5 H N27=>?_) (fun v5 I m H=>?_)
  .unfold Zi6 at H
   refine wP ?_
   refine wt (ltT hiv5) ?_
   refine wG [.u 15 (.ix _ _ _ fun _=>Z0 Z1 (Z6 hxv5))] fun _=>?_
   refine Wh_iH H (fun H=>?_) fun H=>?_
   .refine wP ?_
    replace H:=sI H; subst H
    exact wE [(4,.d)]
   .refine wG [.w 22 (wi .i64 rfl hiv5 q4.1)] fun _=>?_
    exact wT (N27 () H)
  .unfold Zh6 at H
   refine wP ?_
   refine wf (ltF l1.length) ?_
   refine wP ?_
   replace H:=sI H; subst H
   exact wE [(4,.d)]
def Znj:L :=
.seq (rE 2 (cB false))
 (sR [mV 3 0,.bi 4 .geq (.t 3) (kI 1),mV 5 4,.g 5 true (mV 6 0),.g 5 true (.bi 7 .leq (.t 6) (kI 999)),.pk 8 (.t 5) (.t 7) (cB false),mV 2 8]
 gR)
def ZQ5 (n1:Int):Option Bool :=
 some ((decide (1 <= n1)) && (decide (n1 <= 999)))
theorem Zae {n1:Int} {r:Bool} (H:ZQ5 n1 = some r):Snd Tryz.prog Zk6 [.int .i64 n1] (.bool r) []:=by
 refine wS Znj [.t 2] ?_
 unfold ZQ5 at H
 refine wP ?_
 replace H:=sI H; subst H
 exact wE [(2,.d)]
def spec_l12Id (n1:Int):Bool :=
 ((decide (1 <= n1)) && (decide (n1 <= 999)))
theorem Zrk (n1:Int):ZQ5 n1 = some (spec_l12Id n1):=by
 unfold ZQ5 spec_l12Id
 first | rfl | simp only [Z7]
theorem Zxa (n1:Int):Snd Tryz.prog Zk6 [.int .i64 n1] (.bool (spec_l12Id n1)) []:=Zae (Zrk n1)
def Z1f:L :=
sR [.bx 2 (.t 0),.bx 3 (.t 1),.mv 4 (cB false)]
 (sR [fA 5 2 0,lD 6 5 1 false,fA 7 3 0,lD 8 7 1 false,bI 9 .lss 6 8,mV 10 9,.g 10 false (fA 11 2 0),.g 10 false (lD 12 11 1 false),.g 10 false (fA 13 3 0),.g 10 false (lD 14 13 1 false),.g 10 false (bI 15 .eql 12 14),.g 10 false (mV 16 15),.g 16 true (fA 17 2 1),.g 16 true (lD 18 17 1 false),.g 16 true (fA 19 3 1),.g 16 true (lD 20 19 1 false),.g 16 true (bI 21 .lss 18 20),.g 10 false (.pk 22 (.t 16) (.t 21) (cB false)),.pk 23 (.t 10) (cB true) (.t 22),mV 4 23]
 gR)
def ZW3 (a1:Dep) (b2:Dep):Option Bool :=
 some ((decide (a1.id < b2.id)) || ((a1.id == b2.id) && (decide (a1.for_ < b2.for_))))
theorem ZBb {a1:Dep} {b2:Dep} {r:Bool} (H:ZW3 a1 b2 = some r):Snd Tryz.prog ZR6 [eDep a1,eDep b2] (.bool r) []:=by
 refine wS Z1f [.t 4] ?_
 unfold ZW3 at H
 refine wP ?_
 replace H:=sI H; subst H
 exact wE [(4,.d)]
def spec_l12Less (a1:Dep) (b2:Dep):Bool :=
 ((decide (a1.id < b2.id)) || ((a1.id == b2.id) && (decide (a1.for_ < b2.for_))))
theorem Z6g (a1:Dep) (b2:Dep):ZW3 a1 b2 = some (spec_l12Less a1 b2):=by
 unfold ZW3 spec_l12Less
 first | rfl | simp only [Z7]
theorem Z9e (a1:Dep) (b2:Dep):Snd Tryz.prog ZR6 [eDep a1,eDep b2] (.bool (spec_l12Less a1 b2)) []:=ZBb (Z6g a1 b2)
def Zah:L :=
.seq (rE 2 (cB false))
 (.seq (sR [mV 5 0,.ln 6 (.t 5),.bi 7 .gtr (.t 6) (kI 100)]
 (.cond (.t 7) (.seq (rE 2 (cB false))
 gR)
 .skip))
 (.seq (sR [mV 8 0,.ln 9 (.t 8),.mv 10 (kI 0)]
 (.blk 0 (.loop (.gw (sR [bI 11 .lss 10 9]
 (.seq (.cond (.t 11) .skip
 (.exit 0))
 (.seq (.blk 1 (sR [mV 12 10,iA 13 8 10 2,lD 14 13 2 true,.al 4 [.int .i64 0,.int .i64 0],mV 3 12,.st (.t 4) (.t 14) 2]
 (.seq (.rq 31 [fA 15 4 0,lD 16 15 1 false,cQ 17 Zk6 [16],.un 18 (.t 17),mV 19 18,.g 19 false (fA 20 4 1),.g 19 false (lD 21 20 1 false),.g 19 false (cQ 22 Zk6 [21]),.g 19 false (.un 23 (.t 22)),.pk 24 (.t 19) (cB true) (.t 23),mV 25 24,.g 25 false (fA 26 4 0),.g 25 false (lD 27 26 1 false),.g 25 false (fA 28 4 1),.g 25 false (lD 29 28 1 false),.g 25 false (bI 30 .eql 27 29),.pk 31 (.t 25) (cB true) (.t 30),mV 32 31,.g 32 false (mV 33 3),.g 32 false (.bi 34 .gtr (.t 33) (kI 0)),.g 32 false (mV 35 34),.g 35 true (mV 36 0),.g 35 true (mV 37 3),.g 35 true (.bi 38 .sub (.t 37) (kI 1)),.g 35 true (iA 39 36 38 2),.g 35 true (lD 40 39 2 true),.g 35 true (lD 41 4 2 true),.g 35 true (cQ 42 ZR6 [40,41]),.g 35 true (.un 43 (.t 42)),.g 32 false (.pk 44 (.t 35) (.t 43) (cB false)),.pk 45 (.t 32) (cB true) (.t 44)])
 (.cond (.t 45) (.seq (rE 2 (cB false))
 gR)
 .skip))))
 (.reg [.bi 46 .add (.t 10) (kI 1),mV 10 46]))))))))
 (.seq (rE 2 (cB true))
 gR)))
def Zp5 (l1:List Dep) (x4:Dep) (i4:Nat) (_:Unit) (k4:Unit -> Option Bool):Option Bool :=
 (bif (((!(spec_l12Id x4.id)) || (!(spec_l12Id x4.for_))) || (x4.id == x4.for_)) then some default else (bif (decide (0 < (i4:Int))) then (idx l1 (w64 ((i4:Int) - 1))) else some default)).bind fun e5=>bif ((((!(spec_l12Id x4.id)) || (!(spec_l12Id x4.for_))) || (x4.id == x4.for_)) || ((decide (0 < (i4:Int))) && (!(spec_l12Less e5 x4)))) then (some false) else (k4 ())
def ZF8 (_:Unit):Option Bool :=
 some true
def spec_DepsOk (l1:List Dep):Option Bool :=
 bif (decide (100 < (l1.length:Int))) then (some false) else (rgl (Zp5 l1) ZF8 l1 0 ())
theorem ZJ9 {l1:List Dep} {r:Bool} (H:spec_DepsOk l1 = some r):Snd Tryz.prog ZK7 [.sl .rd 2 (l1.map eDep)] (.bool r) []:=by
 refine wS Zah [.t 2] ?_
 unfold spec_DepsOk at H
 refine wG [.u 6 (.ln _ _ fun _=>lm l1 eDep)] fun q2=>?_
 refine Wh_iH H (fun H=>?_) fun H=>?_
 .refine wP ?_
  replace H:=sI H; subst H
  exact wE [(2,.d)]
 .refine wG [.u 9 (.ln _ _ fun _=>lm l1 eDep)] fun q3=>?_
  refine wR (fun (i4:Nat) (v4:Unit)=>⟨[(0,.sl .rd 2 (l1.map eDep)),(8,.sl .rd 2 (l1.map eDep)),(9,.int .i64 (l1.length:Int)),(10,.int .i64 (i4:Int))],[],[],[]⟩) H (fun i4 x4 v4 I m k4 hxv4 hiv4 H N27=>?_) (fun v4 I m H=>?_)
  .unfold Zp5 at H
   refine wP ?_
   refine wt (ltT hiv4) ?_
   obtain ⟨e5,h5,H⟩:=bB H
   refine wG [.u 13 (.ix _ _ _ fun _=>Z0 eDep (Z6 hxv4)),.c 17 (Zxa x4.id),.g 22 [((!(spec_l12Id x4.id)),false)] (.call _ _ _ _ _ (AEs.refl _) (fun _=>Zxa x4.for_)),.g 39 [(_,true),(_,false)] (.ix _ _ _ fun q=>Z0 eDep (bT q.1 (bF q.2.1 h5))),.g 42 [((decide (0 < (i4:Int))),true),((((!(spec_l12Id x4.id)) || (!(spec_l12Id x4.for_))) || (x4.id == x4.for_)),false)] (.call _ _ _ _ _ (AEs.refl _) (fun _=>Z9e e5 x4))] fun _=>?_
   refine Wh_iH H (fun H=>?_) fun H=>?_
   .refine wP ?_
    replace H:=sI H; subst H
    exact wE [(2,.d)]
   .refine wG [.w 46 (wi .i64 rfl hiv4 q2.1)] fun _=>?_
    exact wT (N27 () H)
  .unfold ZF8 at H
   refine wP ?_
   refine wf (ltF l1.length) ?_
   refine wP ?_
   replace H:=sI H; subst H
   exact wE [(2,.d)]
def Zld:L :=
sR [.mv 4 (.c (.nl))]
 (sR [.bs 9 1 [] true,mV 5 9]
 (.seq (.seq (rE 6 (cB true))
 (.blk 0 (.loop (.gw (.seq (sR [mV 10 6]
 (.cond (.t 10) .skip
 (.exit 0)))
 (.blk 1 (.seq (rE 6 (cB false))
 (sR [mV 11 0,.ln 12 (.t 11),.mv 13 (kI 0)]
 (.blk 2 (.loop (.gw (sR [bI 14 .lss 13 12]
 (.seq (.cond (.t 14) .skip
 (.exit 2))
 (.seq (.blk 3 (sR [iA 15 11 13 2,lD 16 15 2 true,.al 8 [.int .i64 0,.int .i64 0],.st (.t 8) (.t 16) 2]
 (sR [fA 17 8 0,lD 18 17 1 false,mV 19 1,bI 20 .eql 18 19,mV 21 20,.g 21 false (mV 22 5),.g 21 false (fA 23 8 0),.g 21 false (lD 24 23 1 false),.g 21 false (cQ 25 Zr2 [22,24]),.pk 26 (.t 21) (cB true) (.t 25),mV 27 26,.g 27 true (mV 28 5),.g 27 true (fA 29 8 1),.g 27 true (lD 30 29 1 false),.g 27 true (cQ 31 Zr2 [28,30]),.g 27 true (.un 32 (.t 31)),.pk 33 (.t 27) (.t 32) (cB false)]
 (.cond (.t 33) (sR [mV 34 5,fA 35 8 1,lD 36 35 1 false,.bs 37 1 [(.t 36)] false,.ap 38 (.t 34) (.t 37) 1 8,mV 5 38]
 (rE 6 (cB true)))
 .skip))))
 (.reg [.bi 39 .add (.t 13) (kI 1),mV 13 39])))))))))))))))
 (sR [mV 40 5,mV 4 40]
 gR)))
def Zf2 (id2:Int) (x5:Dep) (_:Nat) (v5:Bool × (List Int)) (k5:(Bool × (List Int)) -> Option (List Int)):Option (List Int) :=
 (bif (x5.id == id2) then some default else (spec_l02Has v5.2 x5.id)).bind fun b6=>(bif ((x5.id == id2) || b6) then (spec_l02Has v5.2 x5.for_) else some default).bind fun b7=>bif (((x5.id == id2) || b6) && (!b7)) then ((appL 8 v5.2 [x5.for_]).bind fun xs8=>k5 (true,xs8)) else (k5 (v5.1,v5.2))
def Zb7 (k3:(Bool × (List Int)) -> Option (List Int)) (v5:Bool × (List Int)):Option (List Int) :=
 k3 (v5.1,v5.2)
def ZF3 (l1:List Dep) (id2:Int) (v3:Bool × (List Int)) (k3:(Bool × (List Int)) -> Option (List Int)):Option (List Int) :=
 bif v3.1 then (rgl (Zf2 id2) (Zb7 k3) l1 0 (false,v3.2)) else (some v3.2)
def spec_l12Reach (l1:List Dep) (id2:Int):Option (List Int) :=
 whl (ZF3 l1 id2) 9223372036854775807 (true,[])
theorem ZJc {l1:List Dep} {id2:Int} {r:(List Int)} (H:spec_l12Reach l1 id2 = some r):Snd Tryz.prog Z69 [.sl .rd 2 (l1.map eDep),.int .i64 id2] (.sl .nw 1 (r.map eI)) []:=by
 refine wS Zld [.t 4] ?_
 unfold spec_l12Reach at H
 refine wP ?_
 refine wW (fun (v3:Bool × (List Int))=>⟨[(0,.sl .rd 2 (l1.map eDep)),(1,.int .i64 id2),(5,.sref 9),(6,.bool v3.1)],[],[],[(9,⟨1,v3.2.map eI,false⟩)]⟩) H (fun v3 I m k3 H N34=>?_)
 unfold ZF3 at H
 refine wP ?_
 refine Wh_iH H (fun H=>?_) fun H=>?_
 .refine wG [.u 12 (.ln _ _ fun _=>lm l1 eDep)] fun q4=>?_
  refine wR (fun (i5:Nat) (v5:Bool × (List Int))=>⟨[(0,.sl .rd 2 (l1.map eDep)),(1,.int .i64 id2),(5,.sref 9),(6,.bool v5.1),(11,.sl .rd 2 (l1.map eDep)),(12,.int .i64 (l1.length:Int)),(13,.int .i64 (i5:Int))],[],[],[(9,⟨1,v5.2.map eI,false⟩)]⟩) H (fun i5 x5 v5 I m k5 hxv5 hiv5 H N28=>?_) (fun v5 I m H=>?_)
  .unfold Zf2 at H
   refine wP ?_
   refine wt (ltT hiv5) ?_
   obtain ⟨b6,h6,H⟩:=bB H
   obtain ⟨b7,h7,H⟩:=bB H
   refine wG [.u 15 (.ix _ _ _ fun _=>Z0 eDep (Z6 hxv5)),.g 25 [(_,false)] (.call _ _ _ _ _ (AEs.refl _) (fun q=>Zz2 (bF q.1 h6))),.g 31 [(_,true)] (.call _ _ _ _ _ (AEs.refl _) (fun q=>Zz2 (bT q.1 h7)))] fun _=>?_
   refine Wh_iH H (fun H=>?_) fun H=>?_
   .obtain ⟨xs8,h8,H⟩:=bB H
    refine wG [.u 38 (.ap _ _ _ _ fun _=>Zq eI h8),.w 39 (wi .i64 rfl hiv5 q4.1)] fun _=>?_
    exact wT (N28 _ H)
   .refine wG [.w 39 (wi .i64 rfl hiv5 q4.1)] fun _=>?_
    exact wT (N28 _ H)
  .unfold Zb7 at H
   refine wP ?_
   refine wf (ltF l1.length) ?_
   refine wP ?_
   exact wT (N34 _ H)
 .refine wP ?_
  replace H:=sI H; subst H
  exact wN [(4,.f)] [] [] [9] [] [⟨_,nw_I v3.2⟩]
def Zsj:L :=
.seq (rE 2 (cB false))
 (.seq (sR [mV 5 0,cQ 6 ZK7 [5],.un 7 (.t 6)]
 (.cond (.t 7) (.seq (rE 2 (cB false))
 gR)
 .skip))
 (.seq (sR [mV 8 0,.ln 9 (.t 8),.mv 10 (kI 0)]
 (.blk 0 (.loop (.gw (sR [bI 11 .lss 10 9]
 (.seq (.cond (.t 11) .skip
 (.exit 0))
 (.seq (.blk 1 (sR [iA 12 8 10 2,lD 13 12 2 true,.al 4 [.int .i64 0,.int .i64 0],.st (.t 4) (.t 13) 2]
 (.seq (.rq 7 [mV 14 0,fA 15 4 0,lD 16 15 1 false,cQ 17 Z69 [14,16],fA 18 4 0,lD 19 18 1 false,cQ 20 Zr2 [17,19]])
 (.cond (.t 20) (.seq (rE 2 (cB true))
 gR)
 .skip))))
 (.reg [.bi 21 .add (.t 10) (kI 1),mV 10 21]))))))))
 (.seq (rE 2 (cB false))
 gR)))
def Zz6 (l1:List Dep) (x4:Dep) (_:Nat) (_:Unit) (k4:Unit -> Option Bool):Option Bool :=
 (spec_l12Reach l1 x4.id).bind fun y5=>(spec_l02Has y5 x4.id).bind fun b6=>bif b6 then (some true) else (k4 ())
def Zy6 (_:Unit):Option Bool :=
 some false
def spec_Round (l1:List Dep):Option Bool :=
 (spec_DepsOk l1).bind fun b2=>bif (!b2) then (some false) else (rgl (Zz6 l1) Zy6 l1 0 ())
theorem ZKi {l1:List Dep} {r:Bool} (H:spec_Round l1 = some r):Snd Tryz.prog ZBc [.sl .rd 2 (l1.map eDep)] (.bool r) []:=by
 refine wS Zsj [.t 2] ?_
 unfold spec_Round at H
 obtain ⟨b2,h2,H⟩:=bB H
 refine wG [.c 6 (ZJ9 h2)] fun _=>?_
 refine Wh_iH H (fun H=>?_) fun H=>?_
 .refine wP ?_
  replace H:=sI H; subst H
  exact wE [(2,.d)]
 .refine wG [.u 9 (.ln _ _ fun _=>lm l1 eDep)] fun q3=>?_
  refine wR (fun (i4:Nat) (v4:Unit)=>⟨[(0,.sl .rd 2 (l1.map eDep)),(8,.sl .rd 2 (l1.map eDep)),(9,.int .i64 (l1.length:Int)),(10,.int .i64 (i4:Int))],[],[],[]⟩) H (fun i4 x4 v4 I m k4 hxv4 hiv4 H N27=>?_) (fun v4 I m H=>?_)
  .unfold Zz6 at H
   refine wP ?_
   refine wt (ltT hiv4) ?_
   obtain ⟨y5,h5,H⟩:=bB H
   obtain ⟨b6,h6,H⟩:=bB H
   refine wG [.u 12 (.ix _ _ _ fun _=>Z0 eDep (Z6 hxv4)),.c 17 (ZJc h5),.c 20 (Zz2 h6)] fun _=>?_
   refine Wh_iH H (fun H=>?_) fun H=>?_
   .refine wP ?_
    replace H:=sI H; subst H
    exact wE [(2,.d)]
   .refine wG [.w 21 (wi .i64 rfl hiv4 q3.1)] fun _=>?_
    exact wT (N27 () H)
  .unfold Zy6 at H
   refine wP ?_
   refine wf (ltF l1.length) ?_
   refine wP ?_
   replace H:=sI H; subst H
   exact wE [(2,.d)]
def ZJj:L :=
sR [.bx 1 (.t 0),.mv 2 (cB false)]
 (sR [fA 3 1 0,lD 4 3 1 false,.cq 5 Z4 [(.t 4),(kI 1),(kI 999)],mV 6 5,.g 6 true (fA 7 1 1),.g 6 true (lD 8 7 1 false),.g 6 true (.cq 9 Z4 [(.t 8),(kI 1),(kI 999)]),.pk 10 (.t 6) (.t 9) (cB false),mV 11 10,.g 11 true (fA 12 1 0),.g 11 true (lD 13 12 1 false),.g 11 true (fA 14 1 1),.g 11 true (lD 15 14 1 false),.g 11 true (bI 16 .neq 13 15),.pk 17 (.t 11) (.t 16) (cB false),mV 2 17]
 gR)
def Z96 (d1:Dep):Option Bool :=
 some (((impl_within d1.id 1 999) && (impl_within d1.for_ 1 999)) && (d1.id != d1.for_))
theorem ZFf {d1:Dep} {r:Bool} (H:Z96 d1 = some r):Snd Tryz.prog Zl9 [eDep d1] (.bool r) []:=by
 refine wS ZJj [.t 2] ?_
 unfold Z96 at H
 refine wG [.c 5 (Z2 d1.id 1 999),.g 9 [((impl_within d1.id 1 999),true)] (.call _ _ _ _ _ (AEs.refl _) (fun _=>Z2 d1.for_ 1 999))] fun _=>?_
 replace H:=sI H; subst H
 exact wE [(2,.d)]
def impl_depOk (d1:Dep):Bool :=
 (((impl_within d1.id 1 999) && (impl_within d1.for_ 1 999)) && (d1.id != d1.for_))
theorem ZWk (d1:Dep):Z96 d1 = some (impl_depOk d1):=by
 unfold Z96 impl_depOk
 first | rfl | simp only [Z7]
theorem ZYj (d1:Dep):Snd Tryz.prog Zl9 [eDep d1] (.bool (impl_depOk d1)) []:=ZFf (ZWk d1)
def Zla:L :=
sR [.bx 2 (.t 0),.bx 3 (.t 1),.mv 4 (kI 0)]
 (.seq (sR [fA 5 2 0,lD 6 5 1 false,fA 7 3 0,lD 8 7 1 false,bI 9 .neq 6 8]
 (.cond (.t 9) (sR [fA 10 2 0,lD 11 10 1 false,fA 12 3 0,lD 13 12 1 false,bI 14 .sub 11 13,mV 4 14]
 gR)
 .skip))
 (sR [fA 15 2 1,lD 16 15 1 false,fA 17 3 1,lD 18 17 1 false,bI 19 .sub 16 18,mV 4 19]
 gR))
def Z22 (a1:Dep) (b2:Dep):Option Int :=
 bif (a1.id != b2.id) then (some (w64 (a1.id - b2.id))) else (some (w64 (a1.for_ - b2.for_)))
theorem ZP8 {a1:Dep} {b2:Dep} {r:Int} (H:Z22 a1 b2 = some r):Snd Tryz.prog ZC3 [eDep a1,eDep b2] (.int .i64 r) []:=by
 refine wS Zla [.t 4] ?_
 unfold Z22 at H
 refine wP ?_
 refine Wh_iH H (fun H=>?_) fun H=>?_
 .refine wP ?_
  replace H:=sI H; subst H
  exact wE [(4,.d)]
 .refine wP ?_
  replace H:=sI H; subst H
  exact wE [(4,.d)]
def impl_compareDeps (a1:Dep) (b2:Dep):Int :=
 bif (a1.id != b2.id) then ((w64 (a1.id - b2.id))) else ((w64 (a1.for_ - b2.for_)))
theorem Z1b (a1:Dep) (b2:Dep):Z22 a1 b2 = some (impl_compareDeps a1 b2):=by
 unfold Z22 impl_compareDeps
 first | rfl | simp only [Z7]
theorem Zna (a1:Dep) (b2:Dep):Snd Tryz.prog ZC3 [eDep a1,eDep b2] (.int .i64 (impl_compareDeps a1 b2)) []:=ZP8 (Z1b a1 b2)
def ZOh:L :=
.seq (rE 2 (cB false))
 (.seq (sR [mV 5 0,.ln 6 (.t 5),.mv 7 (kI 0)]
 (.blk 0 (.loop (.gw (sR [bI 8 .lss 7 6]
 (.seq (.cond (.t 8) .skip
 (.exit 0))
 (.seq (.blk 1 (sR [mV 9 7,iA 10 5 7 2,lD 11 10 2 true,.al 4 [.int .i64 0,.int .i64 0],mV 3 9,.st (.t 4) (.t 11) 2]
 (.seq (.rq 17 [lD 12 4 2 true,cQ 13 Zl9 [12],.un 14 (.t 13),mV 15 14,.g 15 false (mV 16 3),.g 15 false (.bi 17 .gtr (.t 16) (kI 0)),.g 15 false (mV 18 17),.g 18 true (mV 19 0),.g 18 true (mV 20 3),.g 18 true (.bi 21 .sub (.t 20) (kI 1)),.g 18 true (iA 22 19 21 2),.g 18 true (lD 23 22 2 true),.g 18 true (lD 24 4 2 true),.g 18 true (cQ 25 ZC3 [23,24]),.g 18 true (.bi 26 .geq (.t 25) (kI 0)),.g 15 false (.pk 27 (.t 18) (.t 26) (cB false)),.pk 28 (.t 15) (cB true) (.t 27)])
 (.cond (.t 28) (.seq (rE 2 (cB false))
 gR)
 .skip))))
 (.reg [.bi 29 .add (.t 7) (kI 1),mV 7 29]))))))))
 (sR [mV 30 0,.ln 31 (.t 30),.bi 32 .leq (.t 31) (kI 100),mV 2 32]
 gR))
def ZC5 (l1:List Dep) (x3:Dep) (i3:Nat) (_:Unit) (k3:Unit -> Option Bool):Option Bool :=
 (bif (!(impl_depOk x3)) then some default else (bif (decide (0 < (i3:Int))) then (idx l1 (w64 ((i3:Int) - 1))) else some default)).bind fun e4=>bif ((!(impl_depOk x3)) || ((decide (0 < (i3:Int))) && (decide (0 <= (impl_compareDeps e4 x3))))) then (some false) else (k3 ())
def ZY8 (l1:List Dep) (_:Unit):Option Bool :=
 some (decide ((l1.length:Int) <= 100))
def impl_DepsOk (l1:List Dep):Option Bool :=
 rgl (ZC5 l1) (ZY8 l1) l1 0 ()
theorem ZU9 {l1:List Dep} {r:Bool} (H:impl_DepsOk l1 = some r):Snd Tryz.prog ZX7 [.sl .rd 2 (l1.map eDep)] (.bool r) []:=by
 refine wS ZOh [.t 2] ?_
 unfold impl_DepsOk at H
 refine wG [.u 6 (.ln _ _ fun _=>lm l1 eDep)] fun q2=>?_
 refine wR (fun (i3:Nat) (v3:Unit)=>⟨[(0,.sl .rd 2 (l1.map eDep)),(5,.sl .rd 2 (l1.map eDep)),(6,.int .i64 (l1.length:Int)),(7,.int .i64 (i3:Int))],[],[],[]⟩) H (fun i3 x3 v3 I m k3 hxv3 hiv3 H N20=>?_) (fun v3 I m H=>?_)
 .unfold ZC5 at H
  refine wP ?_
  refine wt (ltT hiv3) ?_
  obtain ⟨e4,h4,H⟩:=bB H
  refine wG [.u 10 (.ix _ _ _ fun _=>Z0 eDep (Z6 hxv3)),.c 13 (ZYj x3),.g 22 [(_,true),(_,false)] (.ix _ _ _ fun q=>Z0 eDep (bT q.1 (bF q.2.1 h4))),.g 25 [((decide (0 < (i3:Int))),true),((!(impl_depOk x3)),false)] (.call _ _ _ _ _ (AEs.refl _) (fun _=>Zna e4 x3))] fun _=>?_
  refine Wh_iH H (fun H=>?_) fun H=>?_
  .refine wP ?_
   replace H:=sI H; subst H
   exact wE [(2,.d)]
  .refine wG [.w 29 (wi .i64 rfl hiv3 q2.1)] fun _=>?_
   exact wT (N20 () H)
 .unfold ZY8 at H
  refine wP ?_
  refine wf (ltF l1.length) ?_
  refine wG [.u 31 (.ln _ _ fun _=>lm l1 eDep)] fun q5=>?_
  replace H:=sI H; subst H
  exact wE [(2,.d)]
def Zzf:L :=
sR [.bx 2 (.t 0),.mv 3 (cB false)]
 (sR [fA 4 2 0,lD 5 4 1 false,fA 6 1 1,lD 7 6 1 false,bI 8 .eql 5 7,mV 3 8]
 gR)
def Ze4 (x1:Dep) (x2:Dep):Option Bool :=
 some (x1.id == x2.for_)
theorem Zdc {x1:Dep} {x2:Dep} {r:Bool} (H:Ze4 x1 x2 = some r):Snd Tryz.prog ZZ1 [eDep x1,.ept (eDep x2) 0] (.bool r) []:=by
 refine wS Zzf [.t 3] ?_
 unfold Ze4 at H
 refine wP ?_
 replace H:=sI H; subst H
 exact wE [(3,.d)]
def impl_Round_1 (x1:Dep) (x2:Dep):Bool :=
 (x1.id == x2.for_)
theorem ZWh (x1:Dep) (x2:Dep):Ze4 x1 x2 = some (impl_Round_1 x1 x2):=by
 unfold Ze4 impl_Round_1
 first | rfl | simp only [Z7]
theorem ZKf (x1:Dep) (x2:Dep):Snd Tryz.prog ZZ1 [eDep x1,.ept (eDep x2) 0] (.bool (impl_Round_1 x1 x2)) []:=Zdc (ZWh x1 x2)
def Zn1:L :=
.seq (rE 4 (kI 0))
 (.seq (sR [mV 6 0,.ln 7 (.t 6),.mv 8 (kI 0)]
 (.blk 0 (.loop (.gw (sR [bI 9 .lss 8 7]
 (.seq (.cond (.t 9) .skip
 (.exit 0))
 (.seq (.blk 1 (sR [mV 10 8,mV 5 10]
 (sR [mV 11 1,mV 12 0,mV 13 5,iA 14 12 13 2,lD 15 14 2 true,.cc 16 (.t 11) [(.t 15)]]
 (.cond (.t 16) (sR [mV 17 5,mV 4 17]
 gR)
 .skip))))
 (.reg [.bi 18 .add (.t 8) (kI 1),mV 8 18]))))))))
 (.seq (rE 4 (kI (-1)))
 gR))
def Zd (c2:Dep) (x4:Dep) (i4:Nat) (_:Unit) (k4:Unit -> Option Int):Option Int :=
 bif (impl_Round_1 x4 c2) then (some (i4:Int)) else (k4 ())
def Zl (_:Unit):Option Int :=
 some (-1)
def Zg (s1:List Dep) (c2:Dep):Option Int :=
 rgl (Zd c2) Zl s1 0 ()
theorem Zm1 {s1:List Dep} {c2:Dep} {r:Int} (H:Zg s1 c2 = some r):Snd Tryz.prog Zf1 [.sl .rd 2 (s1.map eDep),.fn ZZ1 [.ept (eDep c2) 0]] (.int .i64 r) []:=by
 refine wS Zn1 [.t 4] ?_
 unfold Zg at H
 refine wG [.u 7 (.ln _ _ fun _=>lm s1 eDep)] fun q3=>?_
 refine wR (fun (i4:Nat) (v4:Unit)=>⟨[(0,.sl .rd 2 (s1.map eDep)),(1,.fn ZZ1 [.ept (eDep c2) 0]),(7,.int .i64 (s1.length:Int)),(8,.int .i64 (i4:Int))],[],[],[]⟩) H (fun i4 x4 v4 I m k4 hxv4 hiv4 H N20=>?_) (fun v4 I m H=>?_)
 .unfold Zd at H
  refine wP ?_
  refine wt (ltT hiv4) ?_
  refine wG [.u 14 (.ix _ _ _ fun _=>Z0 eDep (Z6 hxv4)),.u 16 (.clsr _ _ _ _ _ (AEs.refl _) (by kernel_rfl) (fun _=>ZKf x4 c2))] fun _=>?_
  refine Wh_iH H (fun H=>?_) fun H=>?_
  .refine wP ?_
   replace H:=sI H; subst H
   exact wE [(4,.d)]
  .refine wG [.w 18 (wi .i64 rfl hiv4 q3.1)] fun _=>?_
   exact wT (N20 () H)
 .unfold Zl at H
  refine wP ?_
  refine wf (ltF s1.length) ?_
  refine wP ?_
  replace H:=sI H; subst H
  exact wE [(4,.d)]
def Z91:L :=
.seq (rE 4 (cB false))
 (sR [mV 5 0,mV 6 1,cQ 7 Zf1 [5,6],.bi 8 .geq (.t 7) (kI 0),mV 4 8]
 gR)
def Z8 (s1:List Dep) (c2:Dep):Option Bool :=
 (Zg s1 c2).bind fun n3=>some (decide (0 <= n3))
theorem Z61 {s1:List Dep} {c2:Dep} {r:Bool} (H:Z8 s1 c2 = some r):Snd Tryz.prog ZT [.sl .rd 2 (s1.map eDep),.fn ZZ1 [.ept (eDep c2) 0]] (.bool r) []:=by
 refine wS Z91 [.t 4] ?_
 unfold Z8 at H
 obtain ⟨n3,h3,H⟩:=bB H
 refine wG [.c 7 (Zm1 h3)] fun _=>?_
 replace H:=sI H; subst H
 exact wE [(4,.d)]
def ZNj:L :=
.seq (rE 2 (cB false))
 (.seq (sR [mV 7 0,cQ 8 ZX7 [7],.un 9 (.t 8)]
 (.cond (.t 9) (.seq (rE 2 (cB false))
 gR)
 .skip))
 (sR [.bs 10 2 [] true,mV 11 0,.ap 12 (.t 10) (.t 11) 2 16,mV 3 12]
 (.blk 0 (.loop (.gw (.blk 1 (sR [.bs 13 2 [] true,mV 4 13]
 (.seq (sR [mV 14 3,.ln 15 (.t 14),.mv 16 (kI 0)]
 (.blk 2 (.loop (.gw (sR [bI 17 .lss 16 15]
 (.seq (.cond (.t 17) .skip
 (.exit 2))
 (.seq (.blk 3 (sR [iA 18 14 16 2,lD 19 18 2 true,.al 6 [.int .i64 0,.int .i64 0],.st (.t 6) (.t 19) 2]
 (sR [.fb 6,mV 20 3,.mf 21 ZZ1 [(.t 6)],cQ 22 ZT [20,21]]
 (.cond (.t 22) (.reg [mV 23 4,lD 24 6 2 true,.bs 25 2 [(.t 24)] false,.ap 26 (.t 23) (.t 25) 2 16,mV 4 26])
 .skip))))
 (.reg [.bi 27 .add (.t 16) (kI 1),mV 16 27]))))))))
 (.seq (sR [mV 28 4,.ln 29 (.t 28),mV 30 3,.ln 31 (.t 30),bI 32 .eql 29 31]
 (.cond (.t 32) (sR [mV 33 3,.ln 34 (.t 33),.bi 35 .gtr (.t 34) (kI 0),mV 2 35]
 gR)
 .skip))
 (.reg [mV 36 4,mV 3 36]))))))))))
def Zd4 (v4:(List Dep)) (x6:Dep) (_:Nat) (v6:(List Dep)) (k6:(List Dep) -> Option Bool):Option Bool :=
 (Z8 v4 x6).bind fun b7=>bif b7 then ((appL 16 v6 [x6]).bind fun xs8=>k6 xs8) else (k6 v6)
def ZN6 (v4:(List Dep)) (k4:(List Dep) -> Option Bool) (v6:(List Dep)):Option Bool :=
 bif ((v6.length:Int) == (v4.length:Int)) then (some (decide (0 < (v4.length:Int)))) else (k4 v6)
def ZO6 (v4:(List Dep)) (k4:(List Dep) -> Option Bool):Option Bool :=
 rgl (Zd4 v4) (ZN6 v4 k4) v4 0 []
def impl_Round (l1:List Dep):Option Bool :=
 (impl_DepsOk l1).bind fun b2=>bif (!b2) then (some false) else ((appL 16 ([]:List Dep) l1).bind fun xs3=>whl ZO6 9223372036854775807 xs3)
theorem Z6k {l1:List Dep} {r:Bool} (H:impl_Round l1 = some r):Snd Tryz.prog ZIc [.sl .rd 2 (l1.map eDep)] (.bool r) []:=by
 refine wS ZNj [.t 2] ?_
 unfold impl_Round at H
 obtain ⟨b2,h2,H⟩:=bB H
 refine wG [.c 8 (ZU9 h2)] fun _=>?_
 refine Wh_iH H (fun H=>?_) fun H=>?_
 .refine wP ?_
  replace H:=sI H; subst H
  exact wE [(2,.d)]
 .obtain ⟨xs3,h3,H⟩:=bB H
  refine wG [.u 12 (.ap _ _ _ _ fun _=>Zq eDep h3)] fun _=>?_
  refine wW (fun (v4:(List Dep))=>⟨[(3,.sref 10)],[],[],[(10,⟨2,v4.map eDep,false⟩)]⟩) H (fun v4 I m k4 H N42=>?_)
  unfold ZO6 at H
  refine wG [.u 15 (.ln _ _ fun _=>lm v4 eDep)] fun q5=>?_
  refine wR (fun (i6:Nat) (v6:(List Dep))=>⟨[(3,.sref 10),(4,.sref 13),(14,.sref 10),(15,.int .i64 (v4.length:Int)),(16,.int .i64 (i6:Int))],[],[],[(10,⟨2,v4.map eDep,false⟩),(13,⟨2,v6.map eDep,false⟩)]⟩) H (fun i6 x6 v6 I m k6 hxv6 hiv6 H N27=>?_) (fun v6 I m H=>?_)
  .unfold Zd4 at H
   refine wP ?_
   refine wt (ltT hiv6) ?_
   obtain ⟨b7,h7,H⟩:=bB H
   refine wG [.u 18 (.ix _ _ _ fun _=>Z0 eDep (Z6 hxv6)),.u 19 (.el _ _ _ fun _=>gm eDep (Zt1 (Z6 hxv6))),.c 22 (Z61 h7)] fun _=>?_
   refine Wh_iH H (fun H=>?_) fun H=>?_
   .obtain ⟨xs8,h8,H⟩:=bB H
    refine wG [.u 26 (.ap _ _ _ _ fun _=>Zq eDep h8),.w 27 (wi .i64 rfl hiv6 q5.1)] fun _=>?_
    exact wT (N27 _ H)
   .refine wG [.w 27 (wi .i64 rfl hiv6 q5.1)] fun _=>?_
    exact wT (N27 _ H)
  .unfold ZN6 at H
   refine wP ?_
   refine wf (ltF v4.length) ?_
   refine wG [.u 29 (.ln _ _ fun _=>lm v6 eDep),.u 31 (.ln _ _ fun _=>lm v4 eDep)] fun q9=>?_
   refine Wh_iH H (fun H=>?_) fun H=>?_
   .refine wG [.u 34 (.ln _ _ fun _=>lm v4 eDep)] fun q10=>?_
    replace H:=sI H; subst H
    exact wE [(2,.d)]
   .refine wP ?_
    exact Wh_to (N42 _ H) [] [] [(10,(some 13,0))] [] (by kernel_rfl) (by kernel_rfl)
def Zqd:L :=
.seq (rE 2 (cB false))
 (.seq (sR [mV 5 0,.ln 6 (.t 5),.bi 7 .gtr (.t 6) (kI 12)]
 (.cond (.t 7) (.seq (rE 2 (cB false))
 gR)
 .skip))
 (.seq (sR [mV 8 0,.ln 9 (.t 8),.mv 10 (kI 0)]
 (.blk 0 (.loop (.gw (sR [bI 11 .lss 10 9]
 (.seq (.cond (.t 11) .skip
 (.exit 0))
 (.seq (.blk 1 (sR [mV 12 10,iA 13 8 10 6,lD 14 13 6 true,.al 4 [.str [],.int .i64 0,.int .i64 0,.int .i64 0,.int .i64 0,.int .i64 0],mV 3 12,.st (.t 4) (.t 14) 6]
 (.seq (.rq 41 [fA 15 4 0,lD 16 15 1 false,cQ 17 Z95 [16],.un 18 (.t 17),mV 19 18,.g 19 false (mV 20 3),.g 19 false (.bi 21 .gtr (.t 20) (kI 0)),.g 19 false (mV 22 21),.g 22 true (mV 23 0),.g 22 true (mV 24 3),.g 22 true (.bi 25 .sub (.t 24) (kI 1)),.g 22 true (iA 26 23 25 6),.g 22 true (fA 27 26 0),.g 22 true (lD 28 27 1 false),.g 22 true (fA 29 4 0),.g 22 true (lD 30 29 1 false),.g 22 true (bI 31 .geq 28 30),.g 19 false (.pk 32 (.t 22) (.t 31) (cB false)),.pk 33 (.t 19) (cB true) (.t 32),mV 34 33,.g 34 false (fA 35 4 1),.g 34 false (lD 36 35 1 false),.g 34 false (.bi 37 .lss (.t 36) (kI 0)),.pk 38 (.t 34) (cB true) (.t 37),mV 39 38,.g 39 false (fA 40 4 1),.g 39 false (lD 41 40 1 false),.g 39 false (.bi 42 .gtr (.t 41) (kI 60)),.pk 43 (.t 39) (cB true) (.t 42),mV 44 43,.g 44 false (fA 45 4 2),.g 44 false (lD 46 45 1 false),.g 44 false (cQ 47 Zs2 [46]),.g 44 false (.un 48 (.t 47)),.pk 49 (.t 44) (cB true) (.t 48),mV 50 49,.g 50 false (fA 51 4 3),.g 50 false (lD 52 51 3 true),.g 50 false (cQ 53 Zr [52]),.g 50 false (.un 54 (.t 53)),.pk 55 (.t 50) (cB true) (.t 54)])
 (.cond (.t 55) (.seq (rE 2 (cB false))
 gR)
 .skip))))
 (.reg [.bi 56 .add (.t 10) (kI 1),mV 10 56]))))))))
 (.seq (rE 2 (cB true))
 gR)))
def ZM3 (l1:List Quota) (x4:Quota) (i4:Nat) (_:Unit) (k4:Unit -> Option Bool):Option Bool :=
 (spec_WordOk x4.name).bind fun b5=>(bif (!b5) then some default else (bif (decide (0 < (i4:Int))) then (idx l1 (w64 ((i4:Int) - 1))) else some default)).bind fun e6=>bif ((((((!b5) || ((decide (0 < (i4:Int))) && (!(Op.bytesLess e6.name x4.name)))) || (decide (x4.jobs < 0))) || (decide (60 < x4.jobs))) || (!(spec_l01Res x4.nodes))) || (!(spec_VecOk x4.res))) then (some false) else (k4 ())
def Zd7 (_:Unit):Option Bool :=
 some true
def spec_QuotasOk (l1:List Quota):Option Bool :=
 bif (decide (12 < (l1.length:Int))) then (some false) else (rgl (ZM3 l1) Zd7 l1 0 ())
theorem Z48 {l1:List Quota} {r:Bool} (H:spec_QuotasOk l1 = some r):Snd Tryz.prog ZH5 [.sl .rd 6 (l1.map Zj)] (.bool r) []:=by
 refine wS Zqd [.t 2] ?_
 unfold spec_QuotasOk at H
 refine wG [.u 6 (.ln _ _ fun _=>lm l1 Zj)] fun q2=>?_
 refine Wh_iH H (fun H=>?_) fun H=>?_
 .refine wP ?_
  replace H:=sI H; subst H
  exact wE [(2,.d)]
 .refine wG [.u 9 (.ln _ _ fun _=>lm l1 Zj)] fun q3=>?_
  refine wR (fun (i4:Nat) (v4:Unit)=>⟨[(0,.sl .rd 6 (l1.map Zj)),(8,.sl .rd 6 (l1.map Zj)),(9,.int .i64 (l1.length:Int)),(10,.int .i64 (i4:Int))],[],[],[]⟩) H (fun i4 x4 v4 I m k4 hxv4 hiv4 H N27=>?_) (fun v4 I m H=>?_)
  .unfold ZM3 at H
   refine wP ?_
   refine wt (ltT hiv4) ?_
   obtain ⟨b5,h5,H⟩:=bB H
   obtain ⟨e6,h6,H⟩:=bB H
   refine wG [.u 13 (.ix _ _ _ fun _=>Z0 Zj (Z6 hxv4)),.c 17 (Zu6 h5),.g 26 [(_,true),(_,false)] (.ix _ _ _ fun q=>Z0 Zj (bT q.1 (bF q.2.1 h6))),.g 47 [(((((!b5) || ((decide (0 < (i4:Int))) && (!(Op.bytesLess e6.name x4.name)))) || (decide (x4.jobs < 0))) || (decide (60 < x4.jobs))),false)] (.call _ _ _ _ _ (AEs.refl _) (fun _=>ZZ3 x4.nodes)),.g 53 [((((((!b5) || ((decide (0 < (i4:Int))) && (!(Op.bytesLess e6.name x4.name)))) || (decide (x4.jobs < 0))) || (decide (60 < x4.jobs))) || (!(spec_l01Res x4.nodes))),false)] (.call _ _ _ _ _ (AEs.refl _) (fun _=>Zs x4.res))] fun _=>?_
   refine Wh_iH H (fun H=>?_) fun H=>?_
   .refine wP ?_
    replace H:=sI H; subst H
    exact wE [(2,.d)]
   .refine wG [.w 56 (wi .i64 rfl hiv4 q2.1)] fun _=>?_
    exact wT (N27 () H)
  .unfold Zd7 at H
   refine wP ?_
   refine wf (ltF l1.length) ?_
   refine wP ?_
   replace H:=sI H; subst H
   exact wE [(2,.d)]
def Zff:L :=
.seq (rE 2 (cB false))
 (.seq (sR [mV 6 0,.ln 7 (.t 6),.bi 8 .gtr (.t 7) (kI 60)]
 (.cond (.t 8) (.seq (rE 2 (cB false))
 gR)
 .skip))
 (.seq (sR [mV 9 0,.ln 10 (.t 9),.mv 11 (kI 0)]
 (.blk 0 (.loop (.gw (sR [bI 12 .lss 11 10]
 (.seq (.cond (.t 12) .skip
 (.exit 0))
 (.seq (.blk 1 (sR [mV 13 11,iA 14 9 11 12,lD 15 14 12 true,.al 4 [.str [],.int .i64 0,.int .i64 0,.int .i64 0,.int .i64 0,.int .i64 0,.int .i64 0,.int .i64 0,.int .i64 0,.int .i64 0,.int .i64 0,.int .i64 0],mV 3 13,.st (.t 4) (.t 15) 12]
 (.seq (sR [fA 16 4 0,lD 17 16 1 false,cQ 18 Z95 [17],.un 19 (.t 18),mV 20 19,.g 20 false (fA 21 4 1),.g 20 false (lD 22 21 11 true),.g 20 false (cQ 23 Zp4 [22]),.g 20 false (.un 24 (.t 23)),.pk 25 (.t 20) (cB true) (.t 24)]
 (.cond (.t 25) (.seq (rE 2 (cB false))
 gR)
 .skip))
 (.seq (rE 5 (kI 0))
 (.blk 2 (.loop (.gw (.seq (sR [mV 26 5,mV 27 3,bI 28 .lss 26 27]
 (.cond (.t 28) .skip
 (.exit 2)))
 (.seq (.blk 3 (.seq (.rq 10 [mV 31 0,mV 32 5,iA 33 31 32 12,fA 34 33 1,fA 35 34 0,lD 36 35 1 false,fA 37 4 1,fA 38 37 0,lD 39 38 1 false,bI 40 .eql 36 39])
 (.cond (.t 40) (.seq (rE 2 (cB false))
 gR)
 .skip)))
 (.reg [mV 29 5,.bi 30 .add (.t 29) (kI 1),mV 5 30]))))))))))
 (.reg [.bi 41 .add (.t 11) (kI 1),mV 11 41]))))))))
 (.seq (rE 2 (cB true))
 gR)))
def ZK2 (l1:List Hold) (i4:Nat) (x4:Hold) (k4:Unit -> Option Bool) (v6:Int) (k6:Int -> Option Bool):Option Bool :=
 bif (decide (v6 < (i4:Int))) then ((idx l1 v6).bind fun e7=>bif (e7.job.id == x4.job.id) then (some false) else (k6 (w64 (v6 + 1)))) else (k4 ())
def ZJ2 (l1:List Hold) (x4:Hold) (i4:Nat) (_:Unit) (k4:Unit -> Option Bool):Option Bool :=
 (spec_WordOk x4.name).bind fun b5=>bif ((!b5) || (!(spec_JobOk x4.job))) then (some false) else (whl (ZK2 l1 i4 x4 k4) 9223372036854775807 0)
def ZB4 (_:Unit):Option Bool :=
 some true
def spec_HoldsOk (l1:List Hold):Option Bool :=
 bif (decide (60 < (l1.length:Int))) then (some false) else (rgl (ZJ2 l1) ZB4 l1 0 ())
theorem ZD8 {l1:List Hold} {r:Bool} (H:spec_HoldsOk l1 = some r):Snd Tryz.prog ZX6 [.sl .rd 12 (l1.map eHold)] (.bool r) []:=by
 refine wS Zff [.t 2] ?_
 unfold spec_HoldsOk at H
 refine wG [.u 7 (.ln _ _ fun _=>lm l1 eHold)] fun q2=>?_
 refine Wh_iH H (fun H=>?_) fun H=>?_
 .refine wP ?_
  replace H:=sI H; subst H
  exact wE [(2,.d)]
 .refine wG [.u 10 (.ln _ _ fun _=>lm l1 eHold)] fun q3=>?_
  refine wR (fun (i4:Nat) (v4:Unit)=>⟨[(0,.sl .rd 12 (l1.map eHold)),(9,.sl .rd 12 (l1.map eHold)),(10,.int .i64 (l1.length:Int)),(11,.int .i64 (i4:Int))],[],[],[]⟩) H (fun i4 x4 v4 I m k4 hxv4 hiv4 H N48=>?_) (fun v4 I m H=>?_)
  .unfold ZJ2 at H
   refine wP ?_
   refine wt (ltT hiv4) ?_
   obtain ⟨b5,h5,H⟩:=bB H
   refine wG [.u 14 (.ix _ _ _ fun _=>Z0 eHold (Z6 hxv4)),.c 18 (Zu6 h5),.g 23 [((!b5),false)] (.call _ _ _ _ _ (AEs.refl _) (fun _=>Zs7 x4.job))] fun _=>?_
   refine Wh_iH H (fun H=>?_) fun H=>?_
   .refine wP ?_
    replace H:=sI H; subst H
    exact wE [(2,.d)]
   .refine wP ?_
    refine wW (fun (v6:Int)=>⟨[(0,.sl .rd 12 (l1.map eHold)),(3,.int .i64 (i4:Int)),(4,.ptr 4 0),(5,.int .i64 v6),(9,.sl .rd 12 (l1.map eHold)),(10,.int .i64 (l1.length:Int)),(11,.int .i64 (i4:Int))],[],[(4,(eHold x4).cells)],[]⟩) H (fun v6 I m k6 H N38=>?_)
    unfold ZK2 at H
    refine wP ?_
    refine Wh_iH H (fun H=>?_) fun H=>?_
    .obtain ⟨e7,h7,H⟩:=bB H
     refine wG [.u 33 (.ix _ _ _ fun _=>Z0 eHold h7)] fun _=>?_
     refine Wh_iH H (fun H=>?_) fun H=>?_
     .refine wP ?_
      replace H:=sI H; subst H
      exact wE [(2,.d)]
     .refine wP ?_
      exact wT (N38 _ H)
    .refine wG [.w 41 (wi .i64 rfl hiv4 q2.1)] fun _=>?_
     exact wT (N48 () H)
  .unfold ZB4 at H
   refine wP ?_
   refine wf (ltF l1.length) ?_
   refine wP ?_
   replace H:=sI H; subst H
   exact wE [(2,.d)]
def Zrj:L :=
sR [.bx 2 (.t 0),.al 4 [.int .i64 0,.int .i64 0,.int .i64 0],.mv 5 (cB false)]
 (.seq (sR [lD 10 2 3 true,cQ 11 Zr [10],.un 12 (.t 11),mV 13 12,.g 13 false (mV 14 1),.g 13 false (.bi 15 .lss (.t 14) (kI 0)),.pk 16 (.t 13) (cB true) (.t 15)]
 (.cond (.t 16) (sR [.bd 17 [.int .i64 0,.int .i64 0,.int .i64 0] [],.st (.t 4) (.t 17) 3,.mv 5 (cB false)]
 gR)
 .skip))
 (.seq (sR [lD 18 2 3 true,.bd 19 [.int .i64 0,.int .i64 0,.int .i64 0] [],.es 20 false [0,0,0] (.t 18) (.t 19)]
 (.cond (.t 20) (sR [lD 21 2 3 true,.st (.t 4) (.t 21) 3,.mv 5 (cB true)]
 gR)
 .skip))
 (sR [.bd 22 [.int .i64 0,.int .i64 0,.int .i64 0] [],.al 6 [.int .i64 0,.int .i64 0,.int .i64 0],.st (.t 6) (.t 22) 3]
 (.seq (.seq (rE 7 (kI 0))
 (.blk 0 (.loop (.gw (.seq (sR [mV 23 7,mV 24 1,bI 25 .lss 23 24]
 (.cond (.t 25) .skip
 (.exit 0)))
 (.seq (.blk 1 (sR [lD 29 6 3 true,lD 30 2 3 true,cQ 31 ZA3 [29,30],mV 28 31,eX 32 28 0,eX 33 28 1,.al 8 [.int .i64 0,.int .i64 0,.int .i64 0],.st (.t 8) (.t 32) 3,mV 9 33]
 (.seq (sR [mV 34 9,.un 35 (.t 34)]
 (.cond (.t 35) (sR [.bd 36 [.int .i64 0,.int .i64 0,.int .i64 0] [],.st (.t 4) (.t 36) 3,.mv 5 (cB false)]
 gR)
 .skip))
 (.reg [lD 37 8 3 true,.st (.t 6) (.t 37) 3]))))
 (.reg [mV 26 7,.bi 27 .add (.t 26) (kI 1),mV 7 27])))))))
 (sR [lD 38 6 3 true,.st (.t 4) (.t 38) 3,.mv 5 (cB true)]
 gR)))))
def Zx6 (v1:Vec) (n2:Int) (v3:Vec × Int) (k3:(Vec × Int) -> Option (Vec × Bool)):Option (Vec × Bool) :=
 bif (decide (v3.2 < n2)) then (bif (!(spec_VecAdd v3.1 v1).2) then (some ((Vec.mk 0 0 0),false)) else (k3 (((spec_VecAdd v3.1 v1).1),(w64 (v3.2 + 1))))) else (some (v3.1,true))
def spec_Times (v1:Vec) (n2:Int):Option (Vec × Bool) :=
 bif ((!(spec_VecOk v1)) || (decide (n2 < 0))) then (some ((Vec.mk 0 0 0),false)) else (bif (v1.a == 0 && (v1.b == 0 && (v1.c == 0 && true))) then (some (v1,true)) else (whl (Zx6 v1 n2) 9223372036854775807 ((Vec.mk 0 0 0),0)))
theorem ZJi {v1:Vec} {n2:Int} {r:Vec × Bool} (H:spec_Times v1 n2 = some r):Snd Tryz.prog ZAc [eVec v1,.int .i64 n2] (.tup [eVec r.1,.bool r.2]) []:=by
 refine wS Zrj [.c 4 3 true,.t 5] ?_
 unfold spec_Times at H
 refine wG [.c 11 (Zs v1)] fun _=>?_
 refine Wh_iH H (fun H=>?_) fun H=>?_
 .refine wP ?_
  replace H:=sI H; subst H
  exact wN [(4,.d),(5,.d)] [(4,[])] [] [] [] []
 .refine wP ?_
  refine Wh_iH H (fun H=>?_) fun H=>?_
  .refine wP ?_
   replace H:=sI H; subst H
   exact wN [(4,.d),(5,.d)] [(4,[])] [] [] [] []
  .refine wP ?_
   refine wW (fun (v3:Vec × Int)=>⟨[(1,.int .i64 n2),(2,.ptr 2 0),(4,.ptr 4 0),(6,.ptr 6 0),(7,.int .i64 v3.2)],[],[(2,(eVec v1).cells),(4,(eVec (Vec.mk 0 0 0)).cells),(6,(eVec v3.1).cells)],[]⟩) H (fun v3 I m k3 H N37=>?_)
   unfold Zx6 at H
   refine wP ?_
   refine Wh_iH H (fun H=>?_) fun H=>?_
   .refine wG [.c 31 (Zv6 v3.1 v1)] fun _=>?_
    refine Wh_iH H (fun H=>?_) fun H=>?_
    .refine wP ?_
     replace H:=sI H; subst H
     exact wN [(4,.d),(5,.d)] [(4,[])] [] [] [] []
    .refine wP ?_
     exact wT (N37 _ H)
   .refine wP ?_
    replace H:=sI H; subst H
    exact wN [(4,.d),(5,.d)] [(4,[])] [] [] [] []
def Z8h:L :=
sR [.mv 4 (kI 0),.mv 5 (kI 0),.al 6 [.int .i64 0,.int .i64 0,.int .i64 0],.mv 7 (cB false)]
 (.seq (rE 8 (kI 0))
 (.seq (rE 9 (kI 0))
 (sR [.bd 17 [.int .i64 0,.int .i64 0,.int .i64 0] [],.al 10 [.int .i64 0,.int .i64 0,.int .i64 0],.st (.t 10) (.t 17) 3]
 (.seq (sR [mV 18 0,cQ 19 ZX6 [18],.un 20 (.t 19)]
 (.cond (.t 20) (.seq (.rq 3 [lD 21 10 3 true,.mv 4 (kI 0),.mv 5 (kI 0),.st (.t 6) (.t 21) 3,.mv 7 (cB false)])
 gR)
 .skip))
 (.seq (sR [mV 22 0,.ln 23 (.t 22),.mv 24 (kI 0)]
 (.blk 0 (.loop (.gw (sR [bI 25 .lss 24 23]
 (.seq (.cond (.t 25) .skip
 (.exit 0))
 (.seq (.blk 1 (sR [iA 26 22 24 12,lD 27 26 12 true,.al 12 [.str [],.int .i64 0,.int .i64 0,.int .i64 0,.int .i64 0,.int .i64 0,.int .i64 0,.int .i64 0,.int .i64 0,.int .i64 0,.int .i64 0,.int .i64 0],.st (.t 12) (.t 27) 12]
 (.seq (sR [fA 28 12 0,lD 29 28 1 false,mV 30 1,bI 31 .neq 29 30]
 (.cond (.t 31) (.exit 1)
 .skip))
 (sR [fA 33 12 1,fA 34 33 3,lD 35 34 3 true,fA 36 12 1,fA 37 36 2,lD 38 37 1 false,cQ 39 ZAc [35,38],mV 32 39,eX 40 32 0,eX 41 32 1,.al 13 [.int .i64 0,.int .i64 0,.int .i64 0],.st (.t 13) (.t 40) 3,mV 14 41]
 (sR [lD 43 10 3 true,lD 44 13 3 true,cQ 45 ZA3 [43,44],mV 42 45,eX 46 42 0,eX 47 42 1,.al 15 [.int .i64 0,.int .i64 0,.int .i64 0],.st (.t 15) (.t 46) 3,mV 16 47]
 (.seq (sR [mV 48 14,.un 49 (.t 48),mV 50 49,.g 50 false (mV 51 16),.g 50 false (.un 52 (.t 51)),.pk 53 (.t 50) (cB true) (.t 52)]
 (.cond (.t 53) (sR [.bd 54 [.int .i64 0,.int .i64 0,.int .i64 0] [],.mv 4 (kI 0),.mv 5 (kI 0),.st (.t 6) (.t 54) 3,.mv 7 (cB false)]
 gR)
 .skip))
 (sR [lD 55 15 3 true,.st (.t 10) (.t 55) 3]
 (sR [mV 56 8,.bi 57 .add (.t 56) (kI 1),mV 8 57]
 (.reg [mV 58 9,fA 59 12 1,fA 60 59 2,lD 61 60 1 false,bI 62 .add 58 61,mV 9 62])))))))))
 (.reg [.bi 63 .add (.t 24) (kI 1),mV 24 63]))))))))
 (.seq (.rq 5 [mV 64 8,mV 65 9,lD 66 10 3 true,mV 4 64,mV 5 65,.st (.t 6) (.t 66) 3,.mv 7 (cB true)])
 gR))))))
def Z93 (name2:Str) (x5:Hold) (_:Nat) (v5:Vec × Int × Int) (k5:(Vec × Int × Int) -> Option (Int × Int × Vec × Bool)):Option (Int × Int × Vec × Bool) :=
 bif (x5.name != name2) then (k5 (v5.1,v5.2.1,v5.2.2)) else ((spec_Times x5.job.need x5.job.nodes).bind fun y6=>bif ((!y6.2) || (!(spec_VecAdd v5.1 y6.1).2)) then (some (0,0,(Vec.mk 0 0 0),false)) else (k5 (((spec_VecAdd v5.1 y6.1).1),(w64 (v5.2.1 + 1)),(w64 (v5.2.2 + x5.job.nodes)))))
def ZE8 (v5:Vec × Int × Int):Option (Int × Int × Vec × Bool) :=
 some (v5.2.1,v5.2.2,v5.1,true)
def spec_HeldBy (l1:List Hold) (name2:Str):Option (Int × Int × Vec × Bool) :=
 (spec_HoldsOk l1).bind fun b3=>bif (!b3) then (some (0,0,(Vec.mk 0 0 0),false)) else (rgl (Z93 name2) ZE8 l1 0 ((Vec.mk 0 0 0),0,0))
theorem Zig {l1:List Hold} {name2:Str} {r:Int × Int × Vec × Bool} (H:spec_HeldBy l1 name2 = some r):Snd Tryz.prog Zdb [.sl .rd 12 (l1.map eHold),.str name2] (.tup [.int .i64 r.1,.int .i64 r.2.1,eVec r.2.2.1,.bool r.2.2.2]) []:=by
 refine wS Z8h [.t 4,.t 5,.c 6 3 true,.t 7] ?_
 unfold spec_HeldBy at H
 obtain ⟨b3,h3,H⟩:=bB H
 refine wG [.c 19 (ZD8 h3)] fun _=>?_
 refine Wh_iH H (fun H=>?_) fun H=>?_
 .refine wP ?_
  replace H:=sI H; subst H
  exact wN [(4,.d),(5,.d),(6,.d),(7,.d)] [(6,[])] [] [] [] []
 .refine wG [.u 23 (.ln _ _ fun _=>lm l1 eHold)] fun q4=>?_
  refine wR (fun (i5:Nat) (v5:Vec × Int × Int)=>⟨[(1,.str name2),(6,.ptr 6 0),(8,.int .i64 v5.2.1),(9,.int .i64 v5.2.2),(10,.ptr 10 0),(22,.sl .rd 12 (l1.map eHold)),(23,.int .i64 (l1.length:Int)),(24,.int .i64 (i5:Int))],[],[(6,(eVec (Vec.mk 0 0 0)).cells),(10,(eVec v5.1).cells)],[]⟩) H (fun i5 x5 v5 I m k5 hxv5 hiv5 H N46=>?_) (fun v5 I m H=>?_)
  .unfold Z93 at H
   refine wP ?_
   refine wt (ltT hiv5) ?_
   refine wG [.u 26 (.ix _ _ _ fun _=>Z0 eHold (Z6 hxv5))] fun _=>?_
   refine Wh_iH H (fun H=>?_) fun H=>?_
   .refine wG [.w 63 (wi .i64 rfl hiv5 q4.1)] fun _=>?_
    exact wT (N46 _ H)
   .obtain ⟨y6,h6,H⟩:=bB H
    refine wG [.c 39 (ZJi h6),.c 45 (Zv6 v5.1 y6.1)] fun _=>?_
    refine Wh_iH H (fun H=>?_) fun H=>?_
    .refine wP ?_
     replace H:=sI H; subst H
     exact wN [(4,.d),(5,.d),(6,.d),(7,.d)] [(6,[])] [] [] [] []
    .refine wG [.w 63 (wi .i64 rfl hiv5 q4.1)] fun _=>?_
     exact wT (N46 _ H)
  .unfold ZE8 at H
   refine wP ?_
   refine wf (ltF l1.length) ?_
   refine wP ?_
   replace H:=sI H; subst H
   exact wN [(4,.d),(5,.d),(6,.d),(7,.d)] [(6,[])] [] [] [] []
def ZZg:L :=
.seq (rE 4 (cB false))
 (.seq (sR [mV 11 0,cQ 12 ZH5 [11],.un 13 (.t 12),mV 14 13,.g 14 false (mV 15 1),.g 14 false (cQ 16 ZX6 [15]),.g 14 false (.un 17 (.t 16)),.pk 18 (.t 14) (cB true) (.t 17)]
 (.cond (.t 18) (.seq (rE 4 (cB false))
 gR)
 .skip))
 (.seq (sR [mV 19 0,.ln 20 (.t 19),.mv 21 (kI 0)]
 (.blk 0 (.loop (.gw (sR [bI 22 .lss 21 20]
 (.seq (.cond (.t 22) .skip
 (.exit 0))
 (.seq (.blk 1 (sR [iA 23 19 21 6,lD 24 23 6 true,.al 6 [.str [],.int .i64 0,.int .i64 0,.int .i64 0,.int .i64 0,.int .i64 0],.st (.t 6) (.t 24) 6]
 (sR [mV 26 1,fA 27 6 0,lD 28 27 1 false,cQ 29 Zdb [26,28],mV 25 29,eX 30 25 0,eX 31 25 1,eX 32 25 2,eX 33 25 3,.al 9 [.int .i64 0,.int .i64 0,.int .i64 0],mV 7 30,mV 8 31,.st (.t 9) (.t 32) 3,mV 10 33]
 (sR [mV 34 10,.un 35 (.t 34),mV 36 35,.g 36 false (mV 37 7),.g 36 false (fA 38 6 1),.g 36 false (lD 39 38 1 false),.g 36 false (bI 40 .gtr 37 39),.pk 41 (.t 36) (cB true) (.t 40),mV 42 41,.g 42 false (mV 43 8),.g 42 false (fA 44 6 2),.g 42 false (lD 45 44 1 false),.g 42 false (bI 46 .gtr 43 45),.pk 47 (.t 42) (cB true) (.t 46),mV 48 47,.g 48 false (lD 49 9 3 true),.g 48 false (fA 50 6 3),.g 48 false (lD 51 50 3 true),.g 48 false (cQ 52 Zj4 [49,51]),.g 48 false (.un 53 (.t 52)),.pk 54 (.t 48) (cB true) (.t 53)]
 (.cond (.t 54) (.seq (rE 4 (cB false))
 gR)
 .skip)))))
 (.reg [.bi 55 .add (.t 21) (kI 1),mV 21 55]))))))))
 (.seq (rE 4 (cB true))
 gR)))
def Zy1 (l2:List Hold) (x6:Quota) (_:Nat) (_:Unit) (k6:Unit -> Option Bool):Option Bool :=
 (spec_HeldBy l2 x6.name).bind fun y7=>bif ((((!y7.2.2.2) || (decide (x6.jobs < y7.1))) || (decide (x6.nodes < y7.2.1))) || (!(spec_VecFits y7.2.2.1 x6.res))) then (some false) else (k6 ())
def Z53 (_:Unit):Option Bool :=
 some true
def spec_Within (q1:List Quota) (l2:List Hold):Option Bool :=
 (spec_QuotasOk q1).bind fun b3=>(bif (!b3) then some default else (spec_HoldsOk l2)).bind fun b4=>bif ((!b3) || (!b4)) then (some false) else (rgl (Zy1 l2) Z53 q1 0 ())
theorem Z9g {q1:List Quota} {l2:List Hold} {r:Bool} (H:spec_Within q1 l2 = some r):Snd Tryz.prog Z9b [.sl .rd 6 (q1.map Zj),.sl .rd 12 (l2.map eHold)] (.bool r) []:=by
 refine wS ZZg [.t 4] ?_
 unfold spec_Within at H
 obtain ⟨b3,h3,H⟩:=bB H
 obtain ⟨b4,h4,H⟩:=bB H
 refine wG [.c 12 (Z48 h3),.g 16 [(_,false)] (.call _ _ _ _ _ (AEs.refl _) (fun q=>ZD8 (bF q.1 h4)))] fun _=>?_
 refine Wh_iH H (fun H=>?_) fun H=>?_
 .refine wP ?_
  replace H:=sI H; subst H
  exact wE [(4,.d)]
 .refine wG [.u 20 (.ln _ _ fun _=>lm q1 Zj)] fun q5=>?_
  refine wR (fun (i6:Nat) (v6:Unit)=>⟨[(1,.sl .rd 12 (l2.map eHold)),(19,.sl .rd 6 (q1.map Zj)),(20,.int .i64 (q1.length:Int)),(21,.int .i64 (i6:Int))],[],[],[]⟩) H (fun i6 x6 v6 I m k6 hxv6 hiv6 H N29=>?_) (fun v6 I m H=>?_)
  .unfold Zy1 at H
   refine wP ?_
   refine wt (ltT hiv6) ?_
   obtain ⟨y7,h7,H⟩:=bB H
   refine wG [.u 23 (.ix _ _ _ fun _=>Z0 Zj (Z6 hxv6)),.c 29 (Zig h7),.g 52 [((((!y7.2.2.2) || (decide (x6.jobs < y7.1))) || (decide (x6.nodes < y7.2.1))),false)] (.call _ _ _ _ _ (AEs.refl _) (fun _=>Zx8 y7.2.2.1 x6.res))] fun _=>?_
   refine Wh_iH H (fun H=>?_) fun H=>?_
   .refine wP ?_
    replace H:=sI H; subst H
    exact wE [(4,.d)]
   .refine wG [.w 55 (wi .i64 rfl hiv6 q5.1)] fun _=>?_
    exact wT (N29 () H)
  .unfold Z53 at H
   refine wP ?_
   refine wf (ltF q1.length) ?_
   refine wP ?_
   replace H:=sI H; subst H
   exact wE [(4,.d)]
def ZDd:L :=
.seq (rE 2 (cB false))
 (.seq (sR [mV 5 0,.ln 6 (.t 5),.mv 7 (kI 0)]
 (.blk 0 (.loop (.gw (sR [bI 8 .lss 7 6]
 (.seq (.cond (.t 8) .skip
 (.exit 0))
 (.seq (.blk 1 (sR [mV 9 7,iA 10 5 7 6,lD 11 10 6 true,.al 4 [.str [],.int .i64 0,.int .i64 0,.int .i64 0,.int .i64 0,.int .i64 0],mV 3 9,.st (.t 4) (.t 11) 6]
 (.seq (.rq 37 [fA 12 4 0,lD 13 12 1 false,cQ 14 Zd5 [13],.un 15 (.t 14),mV 16 15,.g 16 false (fA 17 4 1),.g 16 false (lD 18 17 1 false),.g 16 false (.cq 19 Z4 [(.t 18),(kI 0),(kI 60)]),.g 16 false (.un 20 (.t 19)),.pk 21 (.t 16) (cB true) (.t 20),mV 22 21,.g 22 false (fA 23 4 2),.g 22 false (lD 24 23 1 false),.g 22 false (.cq 25 Z4 [(.t 24),(kI 0),(kI 1000000)]),.g 22 false (.un 26 (.t 25)),.pk 27 (.t 22) (cB true) (.t 26),mV 28 27,.g 28 false (fA 29 4 3),.g 28 false (lD 30 29 3 true),.g 28 false (cQ 31 Zu [30]),.g 28 false (.un 32 (.t 31)),.pk 33 (.t 28) (cB true) (.t 32),mV 34 33,.g 34 false (mV 35 3),.g 34 false (.bi 36 .gtr (.t 35) (kI 0)),.g 34 false (mV 37 36),.g 37 true (mV 38 0),.g 37 true (mV 39 3),.g 37 true (.bi 40 .sub (.t 39) (kI 1)),.g 37 true (iA 41 38 40 6),.g 37 true (fA 42 41 0),.g 37 true (lD 43 42 1 false),.g 37 true (fA 44 4 0),.g 37 true (lD 45 44 1 false),.g 37 true (bI 46 .geq 43 45),.g 34 false (.pk 47 (.t 37) (.t 46) (cB false)),.pk 48 (.t 34) (cB true) (.t 47)])
 (.cond (.t 48) (.seq (rE 2 (cB false))
 gR)
 .skip))))
 (.reg [.bi 49 .add (.t 7) (kI 1),mV 7 49]))))))))
 (sR [mV 50 0,.ln 51 (.t 50),.bi 52 .leq (.t 51) (kI 12),mV 2 52]
 gR))
def ZS3 (l1:List Quota) (x3:Quota) (i3:Nat) (_:Unit) (k3:Unit -> Option Bool):Option Bool :=
 (impl_WordOk x3.name).bind fun b4=>(bif ((((!b4) || (!(impl_within x3.jobs 0 60))) || (!(impl_within x3.nodes 0 1000000))) || (!(impl_VecOk x3.res))) then some default else (bif (decide (0 < (i3:Int))) then (idx l1 (w64 ((i3:Int) - 1))) else some default)).bind fun e5=>bif (((((!b4) || (!(impl_within x3.jobs 0 60))) || (!(impl_within x3.nodes 0 1000000))) || (!(impl_VecOk x3.res))) || ((decide (0 < (i3:Int))) && (!(Op.bytesLess e5.name x3.name)))) then (some false) else (k3 ())
def Zj7 (l1:List Quota) (_:Unit):Option Bool :=
 some (decide ((l1.length:Int) <= 12))
def impl_QuotasOk (l1:List Quota):Option Bool :=
 rgl (ZS3 l1) (Zj7 l1) l1 0 ()
theorem Zg8 {l1:List Quota} {r:Bool} (H:impl_QuotasOk l1 = some r):Snd Tryz.prog ZN5 [.sl .rd 6 (l1.map Zj)] (.bool r) []:=by
 refine wS ZDd [.t 2] ?_
 unfold impl_QuotasOk at H
 refine wG [.u 6 (.ln _ _ fun _=>lm l1 Zj)] fun q2=>?_
 refine wR (fun (i3:Nat) (v3:Unit)=>⟨[(0,.sl .rd 6 (l1.map Zj)),(5,.sl .rd 6 (l1.map Zj)),(6,.int .i64 (l1.length:Int)),(7,.int .i64 (i3:Int))],[],[],[]⟩) H (fun i3 x3 v3 I m k3 hxv3 hiv3 H N20=>?_) (fun v3 I m H=>?_)
 .unfold ZS3 at H
  refine wP ?_
  refine wt (ltT hiv3) ?_
  obtain ⟨b4,h4,H⟩:=bB H
  obtain ⟨e5,h5,H⟩:=bB H
  refine wG [.u 10 (.ix _ _ _ fun _=>Z0 Zj (Z6 hxv3)),.c 14 (ZI6 h4),.g 19 [((!b4),false)] (.call _ _ _ _ _ (AEs.refl _) (fun _=>Z2 x3.jobs 0 60)),.g 25 [(((!b4) || (!(impl_within x3.jobs 0 60))),false)] (.call _ _ _ _ _ (AEs.refl _) (fun _=>Z2 x3.nodes 0 1000000)),.g 31 [((((!b4) || (!(impl_within x3.jobs 0 60))) || (!(impl_within x3.nodes 0 1000000))),false)] (.call _ _ _ _ _ (AEs.refl _) (fun _=>Zv x3.res)),.g 41 [(_,true),(_,false)] (.ix _ _ _ fun q=>Z0 Zj (bT q.1 (bF q.2.1 h5)))] fun _=>?_
  refine Wh_iH H (fun H=>?_) fun H=>?_
  .refine wP ?_
   replace H:=sI H; subst H
   exact wE [(2,.d)]
  .refine wG [.w 49 (wi .i64 rfl hiv3 q2.1)] fun _=>?_
   exact wT (N20 () H)
 .unfold Zj7 at H
  refine wP ?_
  refine wf (ltF l1.length) ?_
  refine wG [.u 51 (.ln _ _ fun _=>lm l1 Zj)] fun q6=>?_
  replace H:=sI H; subst H
  exact wE [(2,.d)]
def Zac:L :=
sR [.bx 2 (.t 0),.mv 3 (cB false)]
 (sR [fA 4 2 1,fA 5 4 0,lD 6 5 1 false,fA 7 1 1,fA 8 7 0,lD 9 8 1 false,bI 10 .eql 6 9,mV 3 10]
 gR)
def ZW2 (x1:Hold) (x2:Hold):Option Bool :=
 some (x1.job.id == x2.job.id)
theorem Zra {x1:Hold} {x2:Hold} {r:Bool} (H:ZW2 x1 x2 = some r):Snd Tryz.prog Zp1 [eHold x1,.ept (eHold x2) 0] (.bool r) []:=by
 refine wS Zac [.t 3] ?_
 unfold ZW2 at H
 refine wP ?_
 replace H:=sI H; subst H
 exact wE [(3,.d)]
def impl_HoldsOk_1 (x1:Hold) (x2:Hold):Bool :=
 (x1.job.id == x2.job.id)
theorem ZOd (x1:Hold) (x2:Hold):ZW2 x1 x2 = some (impl_HoldsOk_1 x1 x2):=by
 unfold ZW2 impl_HoldsOk_1
 first | rfl | simp only [Z7]
theorem Zic (x1:Hold) (x2:Hold):Snd Tryz.prog Zp1 [eHold x1,.ept (eHold x2) 0] (.bool (impl_HoldsOk_1 x1 x2)) []:=Zra (ZOd x1 x2)
def Z41:L :=
.seq (rE 4 (kI 0))
 (.seq (sR [mV 6 0,.ln 7 (.t 6),.mv 8 (kI 0)]
 (.blk 0 (.loop (.gw (sR [bI 9 .lss 8 7]
 (.seq (.cond (.t 9) .skip
 (.exit 0))
 (.seq (.blk 1 (sR [mV 10 8,mV 5 10]
 (sR [mV 11 1,mV 12 0,mV 13 5,iA 14 12 13 12,lD 15 14 12 true,.cc 16 (.t 11) [(.t 15)]]
 (.cond (.t 16) (sR [mV 17 5,mV 4 17]
 gR)
 .skip))))
 (.reg [.bi 18 .add (.t 8) (kI 1),mV 8 18]))))))))
 (.seq (rE 4 (kI (-1)))
 gR))
def Z9 (c2:Hold) (x4:Hold) (i4:Nat) (_:Unit) (k4:Unit -> Option Int):Option Int :=
 bif (impl_HoldsOk_1 x4 c2) then (some (i4:Int)) else (k4 ())
def Zi (_:Unit):Option Int :=
 some (-1)
def Zc (s1:List Hold) (c2:Hold):Option Int :=
 rgl (Z9 c2) Zi s1 0 ()
theorem Z31 {s1:List Hold} {c2:Hold} {r:Int} (H:Zc s1 c2 = some r):Snd Tryz.prog ZX [.sl .rd 12 (s1.map eHold),.fn Zp1 [.ept (eHold c2) 0]] (.int .i64 r) []:=by
 refine wS Z41 [.t 4] ?_
 unfold Zc at H
 refine wG [.u 7 (.ln _ _ fun _=>lm s1 eHold)] fun q3=>?_
 refine wR (fun (i4:Nat) (v4:Unit)=>⟨[(0,.sl .rd 12 (s1.map eHold)),(1,.fn Zp1 [.ept (eHold c2) 0]),(7,.int .i64 (s1.length:Int)),(8,.int .i64 (i4:Int))],[],[],[]⟩) H (fun i4 x4 v4 I m k4 hxv4 hiv4 H N20=>?_) (fun v4 I m H=>?_)
 .unfold Z9 at H
  refine wP ?_
  refine wt (ltT hiv4) ?_
  refine wG [.u 14 (.ix _ _ _ fun _=>Z0 eHold (Z6 hxv4)),.u 16 (.clsr _ _ _ _ _ (AEs.refl _) (by kernel_rfl) (fun _=>Zic x4 c2))] fun _=>?_
  refine Wh_iH H (fun H=>?_) fun H=>?_
  .refine wP ?_
   replace H:=sI H; subst H
   exact wE [(4,.d)]
  .refine wG [.w 18 (wi .i64 rfl hiv4 q3.1)] fun _=>?_
   exact wT (N20 () H)
 .unfold Zi at H
  refine wP ?_
  refine wf (ltF s1.length) ?_
  refine wP ?_
  replace H:=sI H; subst H
  exact wE [(4,.d)]
def ZQ:L :=
.seq (rE 4 (cB false))
 (sR [mV 5 0,mV 6 1,cQ 7 ZX [5,6],.bi 8 .geq (.t 7) (kI 0),mV 4 8]
 gR)
def Z3 (s1:List Hold) (c2:Hold):Option Bool :=
 (Zc s1 c2).bind fun n3=>some (decide (0 <= n3))
theorem ZO {s1:List Hold} {c2:Hold} {r:Bool} (H:Z3 s1 c2 = some r):Snd Tryz.prog ZK [.sl .rd 12 (s1.map eHold),.fn Zp1 [.ept (eHold c2) 0]] (.bool r) []:=by
 refine wS ZQ [.t 4] ?_
 unfold Z3 at H
 obtain ⟨n3,h3,H⟩:=bB H
 refine wG [.c 7 (Z31 h3)] fun _=>?_
 replace H:=sI H; subst H
 exact wE [(4,.d)]
def ZCf:L :=
.seq (rE 2 (cB false))
 (.seq (sR [mV 5 0,.ln 6 (.t 5),.mv 7 (kI 0)]
 (.blk 0 (.loop (.gw (sR [bI 8 .lss 7 6]
 (.seq (.cond (.t 8) .skip
 (.exit 0))
 (.seq (.blk 1 (sR [mV 9 7,iA 10 5 7 12,lD 11 10 12 true,.al 4 [.str [],.int .i64 0,.int .i64 0,.int .i64 0,.int .i64 0,.int .i64 0,.int .i64 0,.int .i64 0,.int .i64 0,.int .i64 0,.int .i64 0,.int .i64 0],mV 3 9,.st (.t 4) (.t 11) 12]
 (sR [.fb 4,fA 12 4 0,lD 13 12 1 false,cQ 14 Zd5 [13],.un 15 (.t 14),mV 16 15,.g 16 false (fA 17 4 1),.g 16 false (lD 18 17 11 true),.g 16 false (cQ 19 Z33 [18]),.g 16 false (.un 20 (.t 19)),.pk 21 (.t 16) (cB true) (.t 20),mV 22 21,.g 22 false (mV 23 0),.g 22 false (mV 24 3),.g 22 false (.sc 25 (.t 23) none (some (.t 24)) 12),.g 22 false (.mf 26 Zp1 [(.t 4)]),.g 22 false (cQ 27 ZK [25,26]),.pk 28 (.t 22) (cB true) (.t 27)]
 (.cond (.t 28) (.seq (rE 2 (cB false))
 gR)
 .skip))))
 (.reg [.bi 29 .add (.t 7) (kI 1),mV 7 29]))))))))
 (sR [mV 30 0,.ln 31 (.t 30),.bi 32 .leq (.t 31) (kI 60),mV 2 32]
 gR))
def ZV2 (l1:List Hold) (x3:Hold) (i3:Nat) (_:Unit) (k3:Unit -> Option Bool):Option Bool :=
 (impl_WordOk x3.name).bind fun b4=>(bif ((!b4) || (!(impl_JobOk x3.job))) then some default else (cutL l1 none (some (i3:Int)))).bind fun xs5=>(bif ((!b4) || (!(impl_JobOk x3.job))) then some default else (Z3 xs5 x3)).bind fun b6=>bif (((!b4) || (!(impl_JobOk x3.job))) || b6) then (some false) else (k3 ())
def ZK4 (l1:List Hold) (_:Unit):Option Bool :=
 some (decide ((l1.length:Int) <= 60))
def impl_HoldsOk (l1:List Hold):Option Bool :=
 rgl (ZV2 l1) (ZK4 l1) l1 0 ()
theorem ZW8 {l1:List Hold} {r:Bool} (H:impl_HoldsOk l1 = some r):Snd Tryz.prog Z87 [.sl .rd 12 (l1.map eHold)] (.bool r) []:=by
 refine wS ZCf [.t 2] ?_
 unfold impl_HoldsOk at H
 refine wG [.u 6 (.ln _ _ fun _=>lm l1 eHold)] fun q2=>?_
 refine wR (fun (i3:Nat) (v3:Unit)=>⟨[(0,.sl .rd 12 (l1.map eHold)),(5,.sl .rd 12 (l1.map eHold)),(6,.int .i64 (l1.length:Int)),(7,.int .i64 (i3:Int))],[],[],[]⟩) H (fun i3 x3 v3 I m k3 hxv3 hiv3 H N20=>?_) (fun v3 I m H=>?_)
 .unfold ZV2 at H
  refine wP ?_
  refine wt (ltT hiv3) ?_
  obtain ⟨b4,h4,H⟩:=bB H
  obtain ⟨xs5,h5,H⟩:=bB H
  obtain ⟨b6,h6,H⟩:=bB H
  refine wG [.u 10 (.ix _ _ _ fun _=>Z0 eHold (Z6 hxv3)),.c 14 (ZI6 h4),.g 19 [((!b4),false)] (.call _ _ _ _ _ (AEs.refl _) (fun _=>Z75 x3.job)),.g 25 [(_,false)] (.sc _ _ _ _ fun q=>Z2e eHold (bF q.1 h5)),.g 27 [(_,false)] (.call _ _ _ _ _ (AEs.refl _) (fun q=>ZO (bF q.1 h6)))] fun _=>?_
  refine Wh_iH H (fun H=>?_) fun H=>?_
  .refine wP ?_
   replace H:=sI H; subst H
   exact wE [(2,.d)]
  .refine wG [.w 29 (wi .i64 rfl hiv3 q2.1)] fun _=>?_
   exact wT (N20 () H)
 .unfold ZK4 at H
  refine wP ?_
  refine wf (ltF l1.length) ?_
  refine wG [.u 31 (.ln _ _ fun _=>lm l1 eHold)] fun q7=>?_
  replace H:=sI H; subst H
  exact wE [(2,.d)]
def ZMj:L :=
sR [.bx 2 (.t 0),.al 4 [.int .i64 0,.int .i64 0,.int .i64 0],.mv 5 (cB false)]
 (.seq (sR [lD 8 2 3 true,cQ 9 Zu [8],.un 10 (.t 9),mV 11 10,.g 11 false (mV 12 1),.g 11 false (.bi 13 .lss (.t 12) (kI 0)),.pk 14 (.t 11) (cB true) (.t 13)]
 (.cond (.t 14) (sR [.bd 15 [.int .i64 0,.int .i64 0,.int .i64 0] [],.st (.t 4) (.t 15) 3,.mv 5 (cB false)]
 gR)
 .skip))
 (.seq (sR [fA 16 2 0,lD 17 16 1 false,fA 18 2 1,lD 19 18 1 false,fA 20 2 2,lD 21 20 1 false,.bs 22 1 [(.t 17),(.t 19),(.t 21)] false,.ln 23 (.t 22),.mv 24 (kI 0)]
 (.blk 0 (.loop (.gw (sR [bI 25 .lss 24 23]
 (.seq (.cond (.t 25) .skip
 (.exit 0))
 (.seq (.blk 1 (sR [iA 26 22 24 1,lD 27 26 1 false,mV 7 27]
 (sR [mV 28 7,.bi 29 .gtr (.t 28) (kI 0),mV 30 29,.g 30 true (mV 31 1),.g 30 true (mV 32 7),.g 30 true (.bi 33 .quo (kI 1000000) (.t 32)),.g 30 true (bI 34 .gtr 31 33),.pk 35 (.t 30) (.t 34) (cB false)]
 (.cond (.t 35) (sR [.bd 36 [.int .i64 0,.int .i64 0,.int .i64 0] [],.st (.t 4) (.t 36) 3,.mv 5 (cB false)]
 gR)
 .skip))))
 (.reg [.bi 37 .add (.t 24) (kI 1),mV 24 37]))))))))
 (sR [fA 38 2 0,lD 39 38 1 false,mV 40 1,bI 41 .mul 39 40,fA 42 2 1,lD 43 42 1 false,mV 44 1,bI 45 .mul 43 44,fA 46 2 2,lD 47 46 1 false,mV 48 1,bI 49 .mul 47 48,.bd 50 [.int .i64 0,.int .i64 0,.int .i64 0] [(0,1,(.t 41)),(1,1,(.t 45)),(2,1,(.t 49))],.st (.t 4) (.t 50) 3,.mv 5 (cB true)]
 gR)))
def ZM6 (n2:Int) (x4:Int) (_:Nat) (_:Unit) (k4:Unit -> Option (Vec × Bool)):Option (Vec × Bool) :=
 (bif (decide (0 < x4)) then (quoI .i64 1000000 x4) else some default).bind fun n5=>bif ((decide (0 < x4)) && (decide (n5 < n2))) then (some ((Vec.mk 0 0 0),false)) else (k4 ())
def ZL6 (v1:Vec) (n2:Int) (_:Unit):Option (Vec × Bool) :=
 some ((Vec.mk (w64 (v1.a * n2)) (w64 (v1.b * n2)) (w64 (v1.c * n2))),true)
def impl_Times (v1:Vec) (n2:Int):Option (Vec × Bool) :=
 bif ((!(impl_VecOk v1)) || (decide (n2 < 0))) then (some ((Vec.mk 0 0 0),false)) else (rgl (ZM6 n2) (ZL6 v1 n2) [v1.a,v1.b,v1.c] 0 ())
theorem Z4k {v1:Vec} {n2:Int} {r:Vec × Bool} (H:impl_Times v1 n2 = some r):Snd Tryz.prog ZHc [eVec v1,.int .i64 n2] (.tup [eVec r.1,.bool r.2]) []:=by
 refine wS ZMj [.c 4 3 true,.t 5] ?_
 unfold impl_Times at H
 refine wG [.c 9 (Zv v1)] fun _=>?_
 refine Wh_iH H (fun H=>?_) fun H=>?_
 .refine wP ?_
  replace H:=sI H; subst H
  exact wN [(4,.d),(5,.d)] [(4,[])] [] [] [] []
 .refine wG [.u 23 (.ln _ _ fun _=>lm ([v1.a,v1.b,v1.c]:List Int) eI)] fun q3=>?_
  refine wR (fun (i4:Nat) (v4:Unit)=>⟨[(1,.int .i64 n2),(2,.ptr 2 0),(4,.ptr 4 0),(22,.sl .nw 1 (([v1.a,v1.b,v1.c]).map eI)),(23,.int .i64 (([v1.a,v1.b,v1.c]:List Int).length:Int)),(24,.int .i64 (i4:Int))],[],[(2,(eVec v1).cells),(4,(eVec (Vec.mk 0 0 0)).cells)],[]⟩) H (fun i4 x4 v4 I m k4 hxv4 hiv4 H N27=>?_) (fun v4 I m H=>?_)
  .unfold ZM6 at H
   refine wP ?_
   refine wt (ltT hiv4) ?_
   obtain ⟨n5,h5,H⟩:=bB H
   refine wG [.u 26 (.ix _ _ _ fun _=>Z0 eI (Z6 hxv4)),.g 33 [(_,true)] (.quo _ _ _ _ fun q=>(bT q.1 h5))] fun _=>?_
   refine Wh_iH H (fun H=>?_) fun H=>?_
   .refine wP ?_
    replace H:=sI H; subst H
    exact wN [(4,.d),(5,.d)] [(4,[])] [] [] [] []
   .refine wG [.w 37 (wi .i64 rfl hiv4 q3.1)] fun _=>?_
    exact wT (N27 () H)
  .unfold ZL6 at H
   refine wP ?_
   refine wf (ltF [v1.a,v1.b,v1.c].length) ?_
   refine wP ?_
   replace H:=sI H; subst H
   exact wN [(4,.d),(5,.d)] [(4,[])] [] [] [] []
def ZMh:L :=
sR [.mv 4 (kI 0),.mv 5 (kI 0),.al 6 [.int .i64 0,.int .i64 0,.int .i64 0],.mv 7 (cB false)]
 (.seq (sR [mV 17 0,cQ 18 Z87 [17],.un 19 (.t 18)]
 (.cond (.t 19) (sR [.bd 20 [.int .i64 0,.int .i64 0,.int .i64 0] [],.mv 4 (kI 0),.mv 5 (kI 0),.st (.t 6) (.t 20) 3,.mv 7 (cB false)]
 gR)
 .skip))
 (sR [.bd 21 [.int .i64 0,.int .i64 0,.int .i64 0] [],.al 10 [.int .i64 0,.int .i64 0,.int .i64 0],.mv 8 (kI 0),.mv 9 (kI 0),.st (.t 10) (.t 21) 3]
 (.seq (sR [mV 22 0,.ln 23 (.t 22),.mv 24 (kI 0)]
 (.blk 0 (.loop (.gw (sR [bI 25 .lss 24 23]
 (.seq (.cond (.t 25) .skip
 (.exit 0))
 (.seq (.blk 1 (sR [iA 26 22 24 12,lD 27 26 12 true,.al 12 [.str [],.int .i64 0,.int .i64 0,.int .i64 0,.int .i64 0,.int .i64 0,.int .i64 0,.int .i64 0,.int .i64 0,.int .i64 0,.int .i64 0,.int .i64 0],.st (.t 12) (.t 27) 12]
 (.seq (sR [fA 28 12 0,lD 29 28 1 false,mV 30 1,bI 31 .neq 29 30]
 (.cond (.t 31) (.exit 1)
 .skip))
 (sR [fA 33 12 1,fA 34 33 3,lD 35 34 3 true,fA 36 12 1,fA 37 36 2,lD 38 37 1 false,cQ 39 ZHc [35,38],mV 32 39,eX 40 32 0,eX 41 32 1,.al 13 [.int .i64 0,.int .i64 0,.int .i64 0],.st (.t 13) (.t 40) 3,mV 14 41]
 (sR [lD 43 10 3 true,lD 44 13 3 true,cQ 45 ZW7 [43,44],mV 42 45,eX 46 42 0,eX 47 42 1,.al 15 [.int .i64 0,.int .i64 0,.int .i64 0],.st (.t 15) (.t 46) 3,mV 16 47]
 (.seq (sR [mV 48 14,.un 49 (.t 48),mV 50 49,.g 50 false (mV 51 16),.g 50 false (.un 52 (.t 51)),.pk 53 (.t 50) (cB true) (.t 52)]
 (.cond (.t 53) (sR [.bd 54 [.int .i64 0,.int .i64 0,.int .i64 0] [],.mv 4 (kI 0),.mv 5 (kI 0),.st (.t 6) (.t 54) 3,.mv 7 (cB false)]
 gR)
 .skip))
 (sR [mV 55 8,.bi 56 .add (.t 55) (kI 1),mV 8 56]
 (sR [mV 57 9,fA 58 12 1,fA 59 58 2,lD 60 59 1 false,bI 61 .add 57 60,mV 9 61]
 (.reg [lD 62 15 3 true,.st (.t 10) (.t 62) 3])))))))))
 (.reg [.bi 63 .add (.t 24) (kI 1),mV 24 63]))))))))
 (.seq (.rq 5 [mV 64 8,mV 65 9,lD 66 10 3 true,mV 4 64,mV 5 65,.st (.t 6) (.t 66) 3,.mv 7 (cB true)])
 gR))))
def ZB5 (name2:Str) (x5:Hold) (_:Nat) (v5:Vec × Int × Int) (k5:(Vec × Int × Int) -> Option (Int × Int × Vec × Bool)):Option (Int × Int × Vec × Bool) :=
 bif (x5.name != name2) then (k5 (v5.1,v5.2.1,v5.2.2)) else ((impl_Times x5.job.need x5.job.nodes).bind fun y6=>bif ((!y6.2) || (!(impl_VecAdd v5.1 y6.1).2)) then (some (0,0,(Vec.mk 0 0 0),false)) else (k5 (((impl_VecAdd v5.1 y6.1).1),(w64 (v5.2.1 + 1)),(w64 (v5.2.2 + x5.job.nodes)))))
def ZX8 (v5:Vec × Int × Int):Option (Int × Int × Vec × Bool) :=
 some (v5.2.1,v5.2.2,v5.1,true)
def impl_HeldBy (l1:List Hold) (name2:Str):Option (Int × Int × Vec × Bool) :=
 (impl_HoldsOk l1).bind fun b3=>bif (!b3) then (some (0,0,(Vec.mk 0 0 0),false)) else (rgl (ZB5 name2) ZX8 l1 0 ((Vec.mk 0 0 0),0,0))
theorem Z3i {l1:List Hold} {name2:Str} {r:Int × Int × Vec × Bool} (H:impl_HeldBy l1 name2 = some r):Snd Tryz.prog Zxb [.sl .rd 12 (l1.map eHold),.str name2] (.tup [.int .i64 r.1,.int .i64 r.2.1,eVec r.2.2.1,.bool r.2.2.2]) []:=by
 refine wS ZMh [.t 4,.t 5,.c 6 3 true,.t 7] ?_
 unfold impl_HeldBy at H
 obtain ⟨b3,h3,H⟩:=bB H
 refine wG [.c 18 (ZW8 h3)] fun _=>?_
 refine Wh_iH H (fun H=>?_) fun H=>?_
 .refine wP ?_
  replace H:=sI H; subst H
  exact wN [(4,.d),(5,.d),(6,.d),(7,.d)] [(6,[])] [] [] [] []
 .refine wG [.u 23 (.ln _ _ fun _=>lm l1 eHold)] fun q4=>?_
  refine wR (fun (i5:Nat) (v5:Vec × Int × Int)=>⟨[(1,.str name2),(6,.ptr 6 0),(8,.int .i64 v5.2.1),(9,.int .i64 v5.2.2),(10,.ptr 10 0),(22,.sl .rd 12 (l1.map eHold)),(23,.int .i64 (l1.length:Int)),(24,.int .i64 (i5:Int))],[],[(6,(eVec (Vec.mk 0 0 0)).cells),(10,(eVec v5.1).cells)],[]⟩) H (fun i5 x5 v5 I m k5 hxv5 hiv5 H N44=>?_) (fun v5 I m H=>?_)
  .unfold ZB5 at H
   refine wP ?_
   refine wt (ltT hiv5) ?_
   refine wG [.u 26 (.ix _ _ _ fun _=>Z0 eHold (Z6 hxv5))] fun _=>?_
   refine Wh_iH H (fun H=>?_) fun H=>?_
   .refine wG [.w 63 (wi .i64 rfl hiv5 q4.1)] fun _=>?_
    exact wT (N44 _ H)
   .obtain ⟨y6,h6,H⟩:=bB H
    refine wG [.c 39 (Z4k h6),.c 45 (ZVh v5.1 y6.1)] fun _=>?_
    refine Wh_iH H (fun H=>?_) fun H=>?_
    .refine wP ?_
     replace H:=sI H; subst H
     exact wN [(4,.d),(5,.d),(6,.d),(7,.d)] [(6,[])] [] [] [] []
    .refine wG [.w 63 (wi .i64 rfl hiv5 q4.1)] fun _=>?_
     exact wT (N44 _ H)
  .unfold ZX8 at H
   refine wP ?_
   refine wf (ltF l1.length) ?_
   refine wP ?_
   replace H:=sI H; subst H
   exact wN [(4,.d),(5,.d),(6,.d),(7,.d)] [(6,[])] [] [] [] []
def ZEh:L :=
.seq (rE 4 (cB false))
 (.seq (sR [mV 11 0,cQ 12 ZN5 [11],.un 13 (.t 12),mV 14 13,.g 14 false (mV 15 1),.g 14 false (cQ 16 Z87 [15]),.g 14 false (.un 17 (.t 16)),.pk 18 (.t 14) (cB true) (.t 17)]
 (.cond (.t 18) (.seq (rE 4 (cB false))
 gR)
 .skip))
 (.seq (sR [mV 19 0,.ln 20 (.t 19),.mv 21 (kI 0)]
 (.blk 0 (.loop (.gw (sR [bI 22 .lss 21 20]
 (.seq (.cond (.t 22) .skip
 (.exit 0))
 (.seq (.blk 1 (sR [iA 23 19 21 6,lD 24 23 6 true,.al 6 [.str [],.int .i64 0,.int .i64 0,.int .i64 0,.int .i64 0,.int .i64 0],.st (.t 6) (.t 24) 6]
 (sR [mV 26 1,fA 27 6 0,lD 28 27 1 false,cQ 29 Zxb [26,28],mV 25 29,eX 30 25 0,eX 31 25 1,eX 32 25 2,eX 33 25 3,.al 9 [.int .i64 0,.int .i64 0,.int .i64 0],mV 7 30,mV 8 31,.st (.t 9) (.t 32) 3,mV 10 33]
 (sR [mV 34 10,.un 35 (.t 34),mV 36 35,.g 36 false (mV 37 7),.g 36 false (fA 38 6 1),.g 36 false (lD 39 38 1 false),.g 36 false (bI 40 .gtr 37 39),.pk 41 (.t 36) (cB true) (.t 40),mV 42 41,.g 42 false (mV 43 8),.g 42 false (fA 44 6 2),.g 42 false (lD 45 44 1 false),.g 42 false (bI 46 .gtr 43 45),.pk 47 (.t 42) (cB true) (.t 46),mV 48 47,.g 48 false (lD 49 9 3 true),.g 48 false (fA 50 6 3),.g 48 false (lD 51 50 3 true),.g 48 false (cQ 52 Z77 [49,51]),.g 48 false (.un 53 (.t 52)),.pk 54 (.t 48) (cB true) (.t 53)]
 (.cond (.t 54) (.seq (rE 4 (cB false))
 gR)
 .skip)))))
 (.reg [.bi 55 .add (.t 21) (kI 1),mV 21 55]))))))))
 (.seq (rE 4 (cB true))
 gR)))
def Zq3 (l2:List Hold) (x6:Quota) (_:Nat) (_:Unit) (k6:Unit -> Option Bool):Option Bool :=
 (impl_HeldBy l2 x6.name).bind fun y7=>bif ((((!y7.2.2.2) || (decide (x6.jobs < y7.1))) || (decide (x6.nodes < y7.2.1))) || (!(impl_VecFits y7.2.2.1 x6.res))) then (some false) else (k6 ())
def Zx5 (_:Unit):Option Bool :=
 some true
def impl_Within (q1:List Quota) (l2:List Hold):Option Bool :=
 (impl_QuotasOk q1).bind fun b3=>(bif (!b3) then some default else (impl_HoldsOk l2)).bind fun b4=>bif ((!b3) || (!b4)) then (some false) else (rgl (Zq3 l2) Zx5 q1 0 ())
theorem ZRh {q1:List Quota} {l2:List Hold} {r:Bool} (H:impl_Within q1 l2 = some r):Snd Tryz.prog Ztb [.sl .rd 6 (q1.map Zj),.sl .rd 12 (l2.map eHold)] (.bool r) []:=by
 refine wS ZEh [.t 4] ?_
 unfold impl_Within at H
 obtain ⟨b3,h3,H⟩:=bB H
 obtain ⟨b4,h4,H⟩:=bB H
 refine wG [.c 12 (Zg8 h3),.g 16 [(_,false)] (.call _ _ _ _ _ (AEs.refl _) (fun q=>ZW8 (bF q.1 h4)))] fun _=>?_
 refine Wh_iH H (fun H=>?_) fun H=>?_
 .refine wP ?_
  replace H:=sI H; subst H
  exact wE [(4,.d)]
 .refine wG [.u 20 (.ln _ _ fun _=>lm q1 Zj)] fun q5=>?_
  refine wR (fun (i6:Nat) (v6:Unit)=>⟨[(1,.sl .rd 12 (l2.map eHold)),(19,.sl .rd 6 (q1.map Zj)),(20,.int .i64 (q1.length:Int)),(21,.int .i64 (i6:Int))],[],[],[]⟩) H (fun i6 x6 v6 I m k6 hxv6 hiv6 H N29=>?_) (fun v6 I m H=>?_)
  .unfold Zq3 at H
   refine wP ?_
   refine wt (ltT hiv6) ?_
   obtain ⟨y7,h7,H⟩:=bB H
   refine wG [.u 23 (.ix _ _ _ fun _=>Z0 Zj (Z6 hxv6)),.c 29 (Z3i h7),.g 52 [((((!y7.2.2.2) || (decide (x6.jobs < y7.1))) || (decide (x6.nodes < y7.2.1))),false)] (.call _ _ _ _ _ (AEs.refl _) (fun _=>ZHf y7.2.2.1 x6.res))] fun _=>?_
   refine Wh_iH H (fun H=>?_) fun H=>?_
   .refine wP ?_
    replace H:=sI H; subst H
    exact wE [(4,.d)]
   .refine wG [.w 55 (wi .i64 rfl hiv6 q5.1)] fun _=>?_
    exact wT (N29 () H)
  .unfold Zx5 at H
   refine wP ?_
   refine wf (ltF q1.length) ?_
   refine wP ?_
   replace H:=sI H; subst H
   exact wE [(4,.d)]
def Zkd:L :=
sR [.mv 4 (.c (.str [])),.mv 5 (cB false)]
 (.seq (sR [mV 8 0,.ln 9 (.t 8),.mv 10 (kI 0)]
 (.blk 0 (.loop (.gw (sR [bI 11 .lss 10 9]
 (.seq (.cond (.t 11) .skip
 (.exit 0))
 (.seq (.blk 1 (sR [iA 12 8 10 2,lD 13 12 2 true,.al 7 [.int .i64 0,.str []],.st (.t 7) (.t 13) 2]
 (sR [fA 14 7 0,lD 15 14 1 false,mV 16 1,bI 17 .eql 15 16]
 (.cond (.t 17) (sR [fA 18 7 1,lD 19 18 1 false,mV 4 19,.mv 5 (cB true)]
 gR)
 .skip))))
 (.reg [.bi 20 .add (.t 10) (kI 1),mV 10 20]))))))))
 (sR [.mv 4 (.c (.str [])),.mv 5 (cB false)]
 gR))
def ZE3 (id2:Int) (x4:Owner) (_:Nat) (_:Unit) (k4:Unit -> Option (Str × Bool)):Option (Str × Bool) :=
 bif (x4.id == id2) then (some (x4.name,true)) else (k4 ())
def Za7 (_:Unit):Option (Str × Bool) :=
 some (([]:Str),false)
def spec_l17Owner (owners1:List Owner) (id2:Int):Option (Str × Bool) :=
 rgl (ZE3 id2) Za7 owners1 0 ()
theorem ZY7 {owners1:List Owner} {id2:Int} {r:Str × Bool} (H:spec_l17Owner owners1 id2 = some r):Snd Tryz.prog ZF5 [.sl .rd 2 (owners1.map Zp),.int .i64 id2] (.tup [.str r.1,.bool r.2]) []:=by
 refine wS Zkd [.t 4,.t 5] ?_
 unfold spec_l17Owner at H
 refine wG [.u 9 (.ln _ _ fun _=>lm owners1 Zp)] fun q3=>?_
 refine wR (fun (i4:Nat) (v4:Unit)=>⟨[(1,.int .i64 id2),(8,.sl .rd 2 (owners1.map Zp)),(9,.int .i64 (owners1.length:Int)),(10,.int .i64 (i4:Int))],[],[],[]⟩) H (fun i4 x4 v4 I m k4 hxv4 hiv4 H N20=>?_) (fun v4 I m H=>?_)
 .unfold ZE3 at H
  refine wP ?_
  refine wt (ltT hiv4) ?_
  refine wG [.u 12 (.ix _ _ _ fun _=>Z0 Zp (Z6 hxv4))] fun _=>?_
  refine Wh_iH H (fun H=>?_) fun H=>?_
  .refine wP ?_
   replace H:=sI H; subst H
   exact wE [(4,.d),(5,.d)]
  .refine wG [.w 20 (wi .i64 rfl hiv4 q3.1)] fun _=>?_
   exact wT (N20 () H)
 .unfold Za7 at H
  refine wP ?_
  refine wf (ltF owners1.length) ?_
  refine wP ?_
  replace H:=sI H; subst H
  exact wE [(4,.d),(5,.d)]
def Zwf:L :=
sR [.mv 4 (.c (.str [])),.mv 5 (cB false)]
 (.seq (sR [mV 8 0,.ln 9 (.t 8),.mv 10 (kI 0)]
 (.blk 0 (.loop (.gw (sR [bI 11 .lss 10 9]
 (.seq (.cond (.t 11) .skip
 (.exit 0))
 (.seq (.blk 1 (sR [iA 12 8 10 2,lD 13 12 2 true,.al 7 [.int .i64 0,.str []],.st (.t 7) (.t 13) 2]
 (sR [fA 14 7 0,lD 15 14 1 false,mV 16 1,bI 17 .eql 15 16]
 (.cond (.t 17) (sR [fA 18 7 1,lD 19 18 1 false,mV 4 19,.mv 5 (cB true)]
 gR)
 .skip))))
 (.reg [.bi 20 .add (.t 10) (kI 1),mV 10 20]))))))))
 (sR [.mv 4 (.c (.str [])),.mv 5 (cB false)]
 gR))
def Zb8 (id2:Int) (x4:Owner) (_:Nat) (_:Unit) (k4:Unit -> Option (Str × Bool)):Option (Str × Bool) :=
 bif (x4.id == id2) then (some (x4.name,true)) else (k4 ())
def Za8 (_:Unit):Option (Str × Bool) :=
 some (([]:Str),false)
def impl_ownerOf (owners1:List Owner) (id2:Int):Option (Str × Bool) :=
 rgl (Zb8 id2) Za8 owners1 0 ()
theorem ZO8 {owners1:List Owner} {id2:Int} {r:Str × Bool} (H:impl_ownerOf owners1 id2 = some r):Snd Tryz.prog Z67 [.sl .rd 2 (owners1.map Zp),.int .i64 id2] (.tup [.str r.1,.bool r.2]) []:=by
 refine wS Zwf [.t 4,.t 5] ?_
 unfold impl_ownerOf at H
 refine wG [.u 9 (.ln _ _ fun _=>lm owners1 Zp)] fun q3=>?_
 refine wR (fun (i4:Nat) (v4:Unit)=>⟨[(1,.int .i64 id2),(8,.sl .rd 2 (owners1.map Zp)),(9,.int .i64 (owners1.length:Int)),(10,.int .i64 (i4:Int))],[],[],[]⟩) H (fun i4 x4 v4 I m k4 hxv4 hiv4 H N20=>?_) (fun v4 I m H=>?_)
 .unfold Zb8 at H
  refine wP ?_
  refine wt (ltT hiv4) ?_
  refine wG [.u 12 (.ix _ _ _ fun _=>Z0 Zp (Z6 hxv4))] fun _=>?_
  refine Wh_iH H (fun H=>?_) fun H=>?_
  .refine wP ?_
   replace H:=sI H; subst H
   exact wE [(4,.d),(5,.d)]
  .refine wG [.w 20 (wi .i64 rfl hiv4 q3.1)] fun _=>?_
   exact wT (N20 () H)
 .unfold Za8 at H
  refine wP ?_
  refine wf (ltF owners1.length) ?_
  refine wP ?_
  replace H:=sI H; subst H
  exact wE [(4,.d),(5,.d)]
def Zgf:L :=
sR [.bx 1 (.t 0),.mv 2 (.c (.nl))]
 (sR [.bs 8 12 [] true,mV 3 8]
 (.seq (sR [fA 9 1 0,lD 10 9 11 true,cQ 11 Zi4 [10],.ln 12 (.t 11),.mv 13 (kI 0)]
 (.blk 0 (.loop (.gw (sR [bI 14 .lss 13 12]
 (.seq (.cond (.t 14) .skip
 (.exit 0))
 (.seq (.blk 1 (sR [iA 15 11 13 11,lD 16 15 11 true,.al 5 [.int .i64 0,.int .i64 0,.int .i64 0,.int .i64 0,.int .i64 0,.int .i64 0,.int .i64 0,.int .i64 0,.int .i64 0,.int .i64 0,.int .i64 0],.st (.t 5) (.t 16) 11]
 (sR [fA 18 1 14,lD 19 18 1 false,fA 20 5 0,lD 21 20 1 false,cQ 22 ZF5 [19,21],mV 17 22,eX 23 17 0,eX 24 17 1,mV 6 23,mV 7 24]
 (sR [mV 25 7]
 (.cond (.t 25) (.reg [mV 26 3,mV 27 6,lD 28 5 11 true,.bd 29 [.str [],.int .i64 0,.int .i64 0,.int .i64 0,.int .i64 0,.int .i64 0,.int .i64 0,.int .i64 0,.int .i64 0,.int .i64 0,.int .i64 0,.int .i64 0] [(0,1,(.t 27)),(1,11,(.t 28))],.bs 30 12 [(.t 29)] false,.ap 31 (.t 26) (.t 30) 12 104,mV 3 31])
 .skip)))))
 (.reg [.bi 32 .add (.t 13) (kI 1),mV 13 32]))))))))
 (sR [mV 33 3,mV 2 33]
 gR)))
def ZC4 (d1:Desk) (x4:Job) (_:Nat) (v4:(List Hold)) (k4:(List Hold) -> Option (List Hold)):Option (List Hold) :=
 (spec_l17Owner d1.owners x4.id).bind fun y5=>bif y5.2 then ((appL 104 v4 [(Hold.mk y5.1 x4)]).bind fun xs6=>k4 xs6) else (k4 v4)
def Z78 (v4:(List Hold)):Option (List Hold) :=
 some v4
def spec_HoldsOf (d1:Desk):Option (List Hold) :=
 (spec_l06Jobs d1.state).bind fun y2=>rgl (ZC4 d1) Z78 y2 0 []
theorem Zle {d1:Desk} {r:(List Hold)} (H:spec_HoldsOf d1 = some r):Snd Tryz.prog Z1a [Zx3 .rd d1] (.sl .nw 12 (r.map eHold)) []:=by
 refine wS Zgf [.t 2] ?_
 unfold spec_HoldsOf at H
 obtain ⟨y2,h2,H⟩:=bB H
 refine wG [.c 11 (Zi5 h2),.u 12 (.ln _ _ fun _=>lm y2 eJob)] fun q3=>?_
 refine wR (fun (i4:Nat) (v4:(List Hold))=>⟨[(1,.ptr 1 0),(3,.sref 8),(11,.sl .nw 11 (y2.map eJob)),(12,.int .i64 (y2.length:Int)),(13,.int .i64 (i4:Int))],[],[(1,(Zx3 .rd d1).cells)],[(8,⟨12,v4.map eHold,false⟩)]⟩) H (fun i4 x4 v4 I m k4 hxv4 hiv4 H N21=>?_) (fun v4 I m H=>?_)
 .unfold ZC4 at H
  refine wP ?_
  refine wt (ltT hiv4) ?_
  obtain ⟨y5,h5,H⟩:=bB H
  refine wG [.u 15 (.ix _ _ _ fun _=>Z0 eJob (Z6 hxv4)),.c 22 (ZY7 h5)] fun _=>?_
  refine Wh_iH H (fun H=>?_) fun H=>?_
  .obtain ⟨xs6,h6,H⟩:=bB H
   refine wG [.u 31 (.ap _ _ _ _ fun _=>Zq eHold h6),.w 32 (wi .i64 rfl hiv4 q3.1)] fun _=>?_
   exact wT (N21 _ H)
  .refine wG [.w 32 (wi .i64 rfl hiv4 q3.1)] fun _=>?_
   exact wT (N21 _ H)
 .unfold Z78 at H
  refine wP ?_
  refine wf (ltF y2.length) ?_
  refine wP ?_
  replace H:=sI H; subst H
  exact wN [(2,.f)] [] [] [8] [] [⟨_,Zln v4⟩]
def Z9h:L :=
sR [.bx 1 (.t 0),.mv 2 (cB false)]
 (.seq (sR [fA 7 1 0,lD 8 7 11 true,cQ 9 ZX9 [8],.un 10 (.t 9),mV 11 10,.g 11 false (fA 12 1 11),.g 11 false (lD 13 12 1 false),.g 11 false (cQ 14 ZU3 [13]),.g 11 false (.un 15 (.t 14)),.pk 16 (.t 11) (cB true) (.t 15),mV 17 16,.g 17 false (fA 18 1 12),.g 17 false (lD 19 18 1 false),.g 17 false (cQ 20 ZH5 [19]),.g 17 false (.un 21 (.t 20)),.pk 22 (.t 17) (cB true) (.t 21),mV 23 22,.g 23 false (fA 24 1 13),.g 23 false (lD 25 24 1 false),.g 23 false (cQ 26 ZK7 [25]),.g 23 false (.un 27 (.t 26)),.pk 28 (.t 23) (cB true) (.t 27),mV 29 28,.g 29 false (fA 30 1 13),.g 29 false (lD 31 30 1 false),.g 29 false (cQ 32 ZBc [31]),.pk 33 (.t 29) (cB true) (.t 32)]
 (.cond (.t 33) (.seq (rE 2 (cB false))
 gR)
 .skip))
 (.seq (sR [fA 34 1 0,lD 35 34 11 true,cQ 36 Zi4 [35],.ln 37 (.t 36),.mv 38 (kI 0)]
 (.blk 0 (.loop (.gw (sR [bI 39 .lss 38 37]
 (.seq (.cond (.t 39) .skip
 (.exit 0))
 (.seq (.blk 1 (sR [iA 40 36 38 11,lD 41 40 11 true,.al 4 [.int .i64 0,.int .i64 0,.int .i64 0,.int .i64 0,.int .i64 0,.int .i64 0,.int .i64 0,.int .i64 0,.int .i64 0,.int .i64 0,.int .i64 0],.st (.t 4) (.t 41) 11]
 (sR [fA 43 1 14,lD 44 43 1 false,fA 45 4 0,lD 46 45 1 false,cQ 47 ZF5 [44,46],mV 42 47,eX 48 42 0,eX 49 42 1,mV 5 48,mV 6 49]
 (sR [mV 50 6,.un 51 (.t 50),mV 52 51,.g 52 false (fA 53 1 11),.g 52 false (lD 54 53 1 false),.g 52 false (mV 55 5),.g 52 false (cQ 56 Zm8 [54,55]),.g 52 false (.bi 57 .lss (.t 56) (kI 0)),.pk 58 (.t 52) (cB true) (.t 57)]
 (.cond (.t 58) (.seq (rE 2 (cB false))
 gR)
 .skip)))))
 (.reg [.bi 59 .add (.t 38) (kI 1),mV 38 59]))))))))
 (.seq (.rq 6 [fA 60 1 12,lD 61 60 1 false,lD 62 1 15 true,cQ 63 Z1a [62],cQ 64 Z9b [61,63],mV 2 64])
 gR)))
def ZH (d1:Desk) (x9:Job) (_:Nat) (_:Unit) (k9:Unit -> Option Bool):Option Bool :=
 (spec_l17Owner d1.owners x9.id).bind fun y10=>(bif (!y10.2) then some default else (spec_AccountAt d1.accounts y10.1)).bind fun n11=>bif ((!y10.2) || (decide (n11 < 0))) then (some false) else (k9 ())
def Zi1 (d1:Desk) (_:Unit):Option Bool :=
 (spec_HoldsOf d1).bind fun y12=>(spec_Within d1.quotas y12).bind fun b13=>some b13
def spec_DeskOk (d1:Desk):Option Bool :=
 (spec_StateOk d1.state).bind fun b2=>(bif (!b2) then some default else (spec_AccountsOk d1.accounts)).bind fun b3=>(bif ((!b2) || (!b3)) then some default else (spec_QuotasOk d1.quotas)).bind fun b4=>(bif (((!b2) || (!b3)) || (!b4)) then some default else (spec_DepsOk d1.deps)).bind fun b5=>(bif ((((!b2) || (!b3)) || (!b4)) || (!b5)) then some default else (spec_Round d1.deps)).bind fun b6=>bif (((((!b2) || (!b3)) || (!b4)) || (!b5)) || b6) then (some false) else ((spec_l06Jobs d1.state).bind fun y7=>rgl (ZH d1) (Zi1 d1) y7 0 ())
theorem Zjg {d1:Desk} {r:Bool} (H:spec_DeskOk d1 = some r):Snd Tryz.prog Zeb [Zx3 .rd d1] (.bool r) []:=by
 refine wS Z9h [.t 2] ?_
 unfold spec_DeskOk at H
 obtain ⟨b2,h2,H⟩:=bB H
 obtain ⟨b3,h3,H⟩:=bB H
 obtain ⟨b4,h4,H⟩:=bB H
 obtain ⟨b5,h5,H⟩:=bB H
 obtain ⟨b6,h6,H⟩:=bB H
 refine wG [.c 9 (Zde h2),.g 14 [(_,false)] (.call _ _ _ _ _ (AEs.refl _) (fun q=>ZT5 (bF q.1 h3))),.g 20 [(_,false)] (.call _ _ _ _ _ (AEs.refl _) (fun q=>Z48 (bF q.1 h4))),.g 26 [(_,false)] (.call _ _ _ _ _ (AEs.refl _) (fun q=>ZJ9 (bF q.1 h5))),.g 32 [(_,false)] (.call _ _ _ _ _ (AEs.refl _) (fun q=>ZKi (bF q.1 h6)))] fun _=>?_
 refine Wh_iH H (fun H=>?_) fun H=>?_
 .refine wP ?_
  replace H:=sI H; subst H
  exact wE [(2,.d)]
 .obtain ⟨y7,h7,H⟩:=bB H
  refine wG [.c 36 (Zi5 h7),.u 37 (.ln _ _ fun _=>lm y7 eJob)] fun q8=>?_
  refine wR (fun (i9:Nat) (v9:Unit)=>⟨[(1,.ptr 1 0),(36,.sl .nw 11 (y7.map eJob)),(37,.int .i64 (y7.length:Int)),(38,.int .i64 (i9:Int))],[],[(1,(Zx3 .rd d1).cells)],[]⟩) H (fun i9 x9 v9 I m k9 hxv9 hiv9 H N29=>?_) (fun v9 I m H=>?_)
  .unfold ZH at H
   refine wP ?_
   refine wt (ltT hiv9) ?_
   obtain ⟨y10,h10,H⟩:=bB H
   obtain ⟨n11,h11,H⟩:=bB H
   refine wG [.u 40 (.ix _ _ _ fun _=>Z0 eJob (Z6 hxv9)),.c 47 (ZY7 h10),.g 56 [(_,false)] (.call _ _ _ _ _ (AEs.refl _) (fun q=>ZHb (bF q.1 h11)))] fun _=>?_
   refine Wh_iH H (fun H=>?_) fun H=>?_
   .refine wP ?_
    replace H:=sI H; subst H
    exact wE [(2,.d)]
   .refine wG [.w 59 (wi .i64 rfl hiv9 q8.1)] fun _=>?_
    exact wT (N29 () H)
  .unfold Zi1 at H
   refine wP ?_
   refine wf (ltF y7.length) ?_
   obtain ⟨y12,h12,H⟩:=bB H
   obtain ⟨b13,h13,H⟩:=bB H
   refine wG [.c 63 (Zle h12),.c 64 (Z9g h13)] fun _=>?_
   replace H:=sI H; subst H
   exact wE [(2,.d)]
def ZDf:L :=
sR [.bx 1 (.t 0),.mv 2 (.c (.nl))]
 (sR [.bs 8 12 [] true,mV 3 8]
 (.seq (sR [fA 9 1 0,lD 10 9 11 true,cQ 11 ZX2 [10],.ln 12 (.t 11),.mv 13 (kI 0)]
 (.blk 0 (.loop (.gw (sR [bI 14 .lss 13 12]
 (.seq (.cond (.t 14) .skip
 (.exit 0))
 (.seq (.blk 1 (sR [iA 15 11 13 11,lD 16 15 11 true,.al 5 [.int .i64 0,.int .i64 0,.int .i64 0,.int .i64 0,.int .i64 0,.int .i64 0,.int .i64 0,.int .i64 0,.int .i64 0,.int .i64 0,.int .i64 0],.st (.t 5) (.t 16) 11]
 (sR [fA 18 1 14,lD 19 18 1 false,fA 20 5 0,lD 21 20 1 false,cQ 22 Z67 [19,21],mV 17 22,eX 23 17 0,eX 24 17 1,mV 6 23,mV 7 24]
 (sR [mV 25 7]
 (.cond (.t 25) (.reg [mV 26 3,mV 27 6,lD 28 5 11 true,.bd 29 [.str [],.int .i64 0,.int .i64 0,.int .i64 0,.int .i64 0,.int .i64 0,.int .i64 0,.int .i64 0,.int .i64 0,.int .i64 0,.int .i64 0,.int .i64 0] [(0,1,(.t 27)),(1,11,(.t 28))],.bs 30 12 [(.t 29)] false,.ap 31 (.t 26) (.t 30) 12 104,mV 3 31])
 .skip)))))
 (.reg [.bi 32 .add (.t 13) (kI 1),mV 13 32]))))))))
 (sR [mV 33 3,mV 2 33]
 gR)))
def Zj8 (d1:Desk) (x4:Job) (_:Nat) (v4:(List Hold)) (k4:(List Hold) -> Option (List Hold)):Option (List Hold) :=
 (impl_ownerOf d1.owners x4.id).bind fun y5=>bif y5.2 then ((appL 104 v4 [(Hold.mk y5.1 x4)]).bind fun xs6=>k4 xs6) else (k4 v4)
def Zi8 (v4:(List Hold)):Option (List Hold) :=
 some v4
def impl_HoldsOf (d1:Desk):Option (List Hold) :=
 (impl_State_all d1.state).bind fun y2=>rgl (Zj8 d1) Zi8 y2 0 []
theorem ZPf {d1:Desk} {r:(List Hold)} (H:impl_HoldsOf d1 = some r):Snd Tryz.prog Zba [Zx3 .rd d1] (.sref 0) [⟨12,r.map eHold,false⟩]:=by
 refine wS ZDf [.t 2] ?_
 unfold impl_HoldsOf at H
 obtain ⟨y2,h2,H⟩:=bB H
 refine wG [.c 11 (ZR3 h2),.u 12 (.ln _ _ fun _=>lm y2 eJob)] fun q3=>?_
 refine wR (fun (i4:Nat) (v4:(List Hold))=>⟨[(1,.ptr 1 0),(3,.sref 8),(11,.sl .nw 11 (y2.map eJob)),(12,.int .i64 (y2.length:Int)),(13,.int .i64 (i4:Int))],[],[(1,(Zx3 .rd d1).cells)],[(8,⟨12,v4.map eHold,false⟩)]⟩) H (fun i4 x4 v4 I m k4 hxv4 hiv4 H N21=>?_) (fun v4 I m H=>?_)
 .unfold Zj8 at H
  refine wP ?_
  refine wt (ltT hiv4) ?_
  obtain ⟨y5,h5,H⟩:=bB H
  refine wG [.u 15 (.ix _ _ _ fun _=>Z0 eJob (Z6 hxv4)),.c 22 (ZO8 h5)] fun _=>?_
  refine Wh_iH H (fun H=>?_) fun H=>?_
  .obtain ⟨xs6,h6,H⟩:=bB H
   refine wG [.u 31 (.ap _ _ _ _ fun _=>Zq eHold h6),.w 32 (wi .i64 rfl hiv4 q3.1)] fun _=>?_
   exact wT (N21 _ H)
  .refine wG [.w 32 (wi .i64 rfl hiv4 q3.1)] fun _=>?_
   exact wT (N21 _ H)
 .unfold Zi8 at H
  refine wP ?_
  refine wf (ltF y2.length) ?_
  refine wP ?_
  replace H:=sI H; subst H
  exact wN [(2,.d)] [] [(8,some 8,0)] [] [some 8] [⟨_,Zln v4⟩]
def ZNh:L :=
sR [.bx 1 (.t 0),.mv 2 (cB false)]
 (.seq (sR [fA 7 1 0,lD 8 7 11 true,cQ 9 Z9a [8],.un 10 (.t 9),mV 11 10,.g 11 false (fA 12 1 11),.g 11 false (lD 13 12 1 false),.g 11 false (cQ 14 ZV3 [13]),.g 11 false (.un 15 (.t 14)),.pk 16 (.t 11) (cB true) (.t 15),mV 17 16,.g 17 false (fA 18 1 12),.g 17 false (lD 19 18 1 false),.g 17 false (cQ 20 ZN5 [19]),.g 17 false (.un 21 (.t 20)),.pk 22 (.t 17) (cB true) (.t 21),mV 23 22,.g 23 false (fA 24 1 13),.g 23 false (lD 25 24 1 false),.g 23 false (cQ 26 ZX7 [25]),.g 23 false (.un 27 (.t 26)),.pk 28 (.t 23) (cB true) (.t 27),mV 29 28,.g 29 false (fA 30 1 13),.g 29 false (lD 31 30 1 false),.g 29 false (cQ 32 ZIc [31]),.pk 33 (.t 29) (cB true) (.t 32)]
 (.cond (.t 33) (.seq (rE 2 (cB false))
 gR)
 .skip))
 (.seq (sR [fA 34 1 0,lD 35 34 11 true,cQ 36 ZX2 [35],.ln 37 (.t 36),.mv 38 (kI 0)]
 (.blk 0 (.loop (.gw (sR [bI 39 .lss 38 37]
 (.seq (.cond (.t 39) .skip
 (.exit 0))
 (.seq (.blk 1 (sR [iA 40 36 38 11,lD 41 40 11 true,.al 4 [.int .i64 0,.int .i64 0,.int .i64 0,.int .i64 0,.int .i64 0,.int .i64 0,.int .i64 0,.int .i64 0,.int .i64 0,.int .i64 0,.int .i64 0],.st (.t 4) (.t 41) 11]
 (sR [fA 43 1 14,lD 44 43 1 false,fA 45 4 0,lD 46 45 1 false,cQ 47 Z67 [44,46],mV 42 47,eX 48 42 0,eX 49 42 1,mV 5 48,mV 6 49]
 (sR [mV 50 6,.un 51 (.t 50),mV 52 51,.g 52 false (fA 53 1 11),.g 52 false (lD 54 53 1 false),.g 52 false (mV 55 5),.g 52 false (cQ 56 Zo8 [54,55]),.g 52 false (.bi 57 .lss (.t 56) (kI 0)),.pk 58 (.t 52) (cB true) (.t 57)]
 (.cond (.t 58) (.seq (rE 2 (cB false))
 gR)
 .skip)))))
 (.reg [.bi 59 .add (.t 38) (kI 1),mV 38 59]))))))))
 (.seq (.rq 6 [fA 60 1 12,lD 61 60 1 false,lD 62 1 15 true,cQ 63 Zba [62],cQ 64 Ztb [61,63],mV 2 64])
 gR)))
def ZL1 (d1:Desk) (x9:Job) (_:Nat) (_:Unit) (k9:Unit -> Option Bool):Option Bool :=
 (impl_ownerOf d1.owners x9.id).bind fun y10=>(bif (!y10.2) then some default else (impl_AccountAt d1.accounts y10.1)).bind fun n11=>bif ((!y10.2) || (decide (n11 < 0))) then (some false) else (k9 ())
def ZK1 (d1:Desk) (_:Unit):Option Bool :=
 (impl_HoldsOf d1).bind fun y12=>(impl_Within d1.quotas y12).bind fun b13=>some b13
def impl_DeskOk (d1:Desk):Option Bool :=
 (impl_StateOk d1.state).bind fun b2=>(bif (!b2) then some default else (impl_AccountsOk d1.accounts)).bind fun b3=>(bif ((!b2) || (!b3)) then some default else (impl_QuotasOk d1.quotas)).bind fun b4=>(bif (((!b2) || (!b3)) || (!b4)) then some default else (impl_DepsOk d1.deps)).bind fun b5=>(bif ((((!b2) || (!b3)) || (!b4)) || (!b5)) then some default else (impl_Round d1.deps)).bind fun b6=>bif (((((!b2) || (!b3)) || (!b4)) || (!b5)) || b6) then (some false) else ((impl_State_all d1.state).bind fun y7=>rgl (ZL1 d1) (ZK1 d1) y7 0 ())
theorem Z4i {d1:Desk} {r:Bool} (H:impl_DeskOk d1 = some r):Snd Tryz.prog Zyb [Zx3 .rd d1] (.bool r) []:=by
 refine wS ZNh [.t 2] ?_
 unfold impl_DeskOk at H
 obtain ⟨b2,h2,H⟩:=bB H
 obtain ⟨b3,h3,H⟩:=bB H
 obtain ⟨b4,h4,H⟩:=bB H
 obtain ⟨b5,h5,H⟩:=bB H
 obtain ⟨b6,h6,H⟩:=bB H
 refine wG [.c 9 (ZJf h2),.g 14 [(_,false)] (.call _ _ _ _ _ (AEs.refl _) (fun q=>Zg6 (bF q.1 h3))),.g 20 [(_,false)] (.call _ _ _ _ _ (AEs.refl _) (fun q=>Zg8 (bF q.1 h4))),.g 26 [(_,false)] (.call _ _ _ _ _ (AEs.refl _) (fun q=>ZU9 (bF q.1 h5))),.g 32 [(_,false)] (.call _ _ _ _ _ (AEs.refl _) (fun q=>Z6k (bF q.1 h6)))] fun _=>?_
 refine Wh_iH H (fun H=>?_) fun H=>?_
 .refine wP ?_
  replace H:=sI H; subst H
  exact wE [(2,.d)]
 .obtain ⟨y7,h7,H⟩:=bB H
  refine wG [.c 36 (ZR3 h7),.u 37 (.ln _ _ fun _=>lm y7 eJob)] fun q8=>?_
  refine wR (fun (i9:Nat) (v9:Unit)=>⟨[(1,.ptr 1 0),(36,.sl .nw 11 (y7.map eJob)),(37,.int .i64 (y7.length:Int)),(38,.int .i64 (i9:Int))],[],[(1,(Zx3 .rd d1).cells)],[]⟩) H (fun i9 x9 v9 I m k9 hxv9 hiv9 H N29=>?_) (fun v9 I m H=>?_)
  .unfold ZL1 at H
   refine wP ?_
   refine wt (ltT hiv9) ?_
   obtain ⟨y10,h10,H⟩:=bB H
   obtain ⟨n11,h11,H⟩:=bB H
   refine wG [.u 40 (.ix _ _ _ fun _=>Z0 eJob (Z6 hxv9)),.c 47 (ZO8 h10),.g 56 [(_,false)] (.call _ _ _ _ _ (AEs.refl _) (fun q=>Zjc (bF q.1 h11)))] fun _=>?_
   refine Wh_iH H (fun H=>?_) fun H=>?_
   .refine wP ?_
    replace H:=sI H; subst H
    exact wE [(2,.d)]
   .refine wG [.w 59 (wi .i64 rfl hiv9 q8.1)] fun _=>?_
    exact wT (N29 () H)
  .unfold ZK1 at H
   refine wP ?_
   refine wf (ltF y7.length) ?_
   obtain ⟨y12,h12,H⟩:=bB H
   obtain ⟨b13,h13,H⟩:=bB H
   refine wG [.c 63 (ZPf h12),.c 64 (ZRh h13)] fun _=>?_
   replace H:=sI H; subst H
   exact wE [(2,.d)]
def time (n:Int):Bool:=decide (0 <= n) && decide (n <= 1000000000)
theorem Zp9 {n:Int}:time n = true ↔ 0 <= n /\ n <= 1000000000:=by simp [time]
theorem Zq1 {v:Vec}:spec_VecOk v = true ↔ (0 <= v.a /\ v.a <= 1000000) /\ (0 <= v.b /\ v.b <= 1000000) /\ (0 <= v.c /\ v.c <= 1000000):=by
 simp [spec_VecOk,spec_l01Res,and_assoc]
theorem Zs1 (v:Vec):impl_VecOk v = spec_VecOk v:=rfl
theorem ZQ9 (n:Int):impl_isTime n = time n:=rfl
theorem Z42 (n:Int):spec_l01Time n = time n:=rfl
theorem ZTh {a b:Vec} (ha:spec_VecOk a = true):impl_VecSub a b = spec_VecSub a b:=by
 have h:=Zq1.1 ha
 unfold impl_VecSub impl_valid spec_VecSub spec_VecFits
 simp only [Zs1,ha]
 cases hb:spec_VecOk b with
 | false=>simp
 | true =>
  have h2:=Zq1.1 hb
  have w1:w64 (a.a - b.a) = a.a - b.a:=ZN (by omega)
  have w2:w64 (a.b - b.b) = a.b - b.b:=ZN (by omega)
  have w3:w64 (a.c - b.c) = a.c - b.c:=ZN (by omega)
  simp only [w1,w2,w3]
  cases hc:spec_VecOk (Vec.mk (a.a - b.a) (a.b - b.b) (a.c - b.c)) with
  | false =>
   have:¬ ((b.a <= a.a /\ b.b <= a.b) /\ b.c <= a.c):=fun q=>by
    rw [Zq1.2 (by simp only; omega)] at hc; cases hc
   by_cases q1:b.a <= a.a <;> by_cases q2:b.b <= a.b <;> by_cases q3:b.c <= a.c <;> simp [q1,q2,q3] at this ⊢
  | true =>
   have q:=Zq1.1 hc
   simp only at q
   have q1:b.a <= a.a:=by omega
   have q2:b.b <= a.b:=by omega
   have q3:b.c <= a.c:=by omega
   simp [q1,q2,q3]
structure TreeP (P:List Int):Prop where
 pos:0 < P.length
 le:P.length <= 24
 root:P[0]? = some 0
 par:∀ (i:Nat),1 <= i -> ∀ (p:Int),P[i]? = some p -> 0 <= p /\ p < i
def prt (P:List Int) (i:Nat):Nat:=(P.getD i 0).toNat
def dep (P:List Int) (s:Nat):Nat:=if h:0 < s /\ prt P s < s then dep P (prt P s) + 1 else 0
termination_by s
decreasing_by exact h.2
def ups (P:List Int) (s:Nat):List Nat:=if _:0 < s /\ prt P s < s then s :: ups P (prt P s) else [s]
termination_by s
decreasing_by exact (‹0 < s /\ prt P s < s›:0 < s /\ prt P s < s).2
def kids (P:List Int) (s:Int):List Nat:=(List.range' 1 (P.length - 1)).filter fun i=>P[i]? == some s
theorem Z9m {P:List Int} {s:Int} {c:Nat}:c ∈ kids P s ↔ 1 <= c /\ c < P.length /\ P[c]? = some s:=by
 simp only [kids,List.mem_filter,List.mem_range',beq_iff_eq]
 constructor
 .rintro ⟨⟨i,hi,rfl⟩,h⟩; exact ⟨by omega,by omega,h⟩
 .rintro ⟨h1,h2,h3⟩; exact ⟨⟨c - 1,by omega,by omega⟩,h3⟩
theorem TreeP.par_lt {P:List Int} (T:TreeP P) {i:Nat} (h1:1 <= i) (h:i < P.length):prt P i < i /\ P[i]? = some (prt P i:Int):=by
 have e:P[i]? = some P[i]:=yA h
 have:=T.par i h1 _ e
 have q:prt P i = P[i].toNat:=by simp [prt,h]
 rw [q]
 exact ⟨by omega,by rw [e]; congr 1; omega⟩
theorem dep_zero (P:List Int):dep P 0 = 0:=by rw [dep]; simp
theorem TreeP.dep_succ {P:List Int} (T:TreeP P) {i:Nat} (h1:1 <= i) (h:i < P.length):dep P i = dep P (prt P i) + 1:=by
 rw [dep,dif_pos ⟨by omega,(T.par_lt h1 h).1⟩]
theorem Zvi (P:List Int):ups P 0 = [0]:=by rw [ups]; simp
theorem TreeP.ups_succ {P:List Int} (T:TreeP P) {i:Nat} (h1:1 <= i) (h:i < P.length):ups P i = i :: ups P (prt P i):=by
 rw [ups,dif_pos ⟨by omega,(T.par_lt h1 h).1⟩]
theorem ZVn (P:List Int):∀ s,dep P s <= s:=by
 intro s
 induction s using Nat.strongRecOn with
 | _ s ih =>
  rw [dep]
  split
  .rename_i h; have:=ih _ h.2; omega
  .omega
theorem ZSd (P:List Int) (s:Nat):s ∈ ups P s:=by rw [ups]; split <;> simp
theorem TreeP.ups_mem {P:List Int} (T:TreeP P):∀ l,l < P.length -> ∀ s,s ∈ ups P l -> s <= l /\ ∀ x,x ∈ ups P s -> x ∈ ups P l:=by
 intro l
 induction l using Nat.strongRecOn with
 | _ l ih =>
  intro hl s hs
  by_cases h0:l = 0
  .subst h0; rw [Zvi] at hs; simp at hs; subst hs; exact ⟨Nat.le_refl _,fun x hx=>hx⟩
  .have hp:=T.par_lt (i:=l) (by omega) hl
   rw [T.ups_succ (by omega) hl] at hs ⊢
   rcases List.mem_cons.1 hs with rfl | hs
   .exact ⟨Nat.le_refl _,fun x hx=>by rwa [T.ups_succ (by omega) hl] at hx⟩
   .obtain ⟨q1,q2⟩:=ih _ hp.1 (by omega) s hs
    exact ⟨by omega,fun x hx=>List.mem_cons_of_mem _ (q2 x hx)⟩
theorem TreeP.kid_of {P:List Int} (T:TreeP P):∀ l,l < P.length -> ∀ s,s ∈ ups P l -> s ≠ l -> ∃ c,c ∈ kids P (s:Int) /\ c ∈ ups P l:=by
 intro l
 induction l using Nat.strongRecOn with
 | _ l ih =>
  intro hl s hs hne
  by_cases h0:l = 0
  .subst h0; rw [Zvi] at hs; simp at hs; exact absurd hs hne
  .have hp:=T.par_lt (i:=l) (by omega) hl
   rw [T.ups_succ (by omega) hl] at hs ⊢
   rcases List.mem_cons.1 hs with rfl | hs
   .exact absurd rfl hne
   .by_cases he:s = prt P l
    .subst he
     exact ⟨l,Z9m.2 ⟨by omega,hl,hp.2⟩,List.mem_cons_self ..⟩
    .obtain ⟨c,q1,q2⟩:=ih _ hp.1 (by omega) s hs he
     exact ⟨c,q1,List.mem_cons_of_mem _ q2⟩
theorem TreeP.kid_par {P:List Int} (T:TreeP P) {s c:Nat} (h:c ∈ kids P (s:Int)):1 <= c /\ c < P.length /\ prt P c = s /\ s < c:=by
 obtain ⟨h1,h2,h3⟩:=Z9m.1 h
 have hp:=T.par_lt h1 h2
 rw [hp.2] at h3
 have:prt P c = s:=by have:=Option.some.inj h3; omega
 exact ⟨h1,h2,this,by omega⟩
structure LeafP (P:List Int) (s l:Nat):Prop where
 lt:l < P.length
 leaf:kids P (l:Int) = []
 up:s ∈ ups P l
theorem TreeP.some_leaf {P:List Int} (T:TreeP P):∀ (n s:Nat),P.length - s = n -> s < P.length -> ∃ l,LeafP P s l:=by
 intro n
 induction n using Nat.strongRecOn with
 | _ n ih =>
  intro s hn hs
  cases hk:kids P (s:Int) with
  | nil=>exact ⟨s,hs,hk,ZSd P s⟩
  | cons c ks =>
   have hc:c ∈ kids P (s:Int):=by rw [hk]; exact List.mem_cons_self ..
   obtain ⟨q1,q2,q3,q4⟩:=T.kid_par hc
   obtain ⟨l,hl⟩:=ih (P.length - c) (by omega) c rfl q2
   refine ⟨l,hl.lt,hl.leaf,(T.ups_mem l hl.lt c hl.up).2 s ?_⟩
   rw [T.ups_succ q1 q2,q3]
   exact List.mem_cons_of_mem _ (ZSd P s)
theorem TreeP.leaf_kid {P:List Int} (T:TreeP P) {s c l:Nat} (hc:c ∈ kids P (s:Int)) (h:LeafP P c l):LeafP P s l:=by
 obtain ⟨q1,q2,q3,q4⟩:=T.kid_par hc
 refine ⟨h.lt,h.leaf,(T.ups_mem l h.lt c h.up).2 s ?_⟩
 rw [T.ups_succ q1 q2,q3]
 exact List.mem_cons_of_mem _ (ZSd P s)
theorem TreeP.leaf_cases {P:List Int} (T:TreeP P) {s l:Nat} (h:LeafP P s l):s = l \/ ∃ c,c ∈ kids P (s:Int) /\ LeafP P c l:=by
 by_cases e:s = l
 .exact .inl e
 .obtain ⟨c,q1,q2⟩:=T.kid_of l h.lt s h.up e
  exact .inr ⟨c,q1,h.lt,h.leaf,q2⟩
theorem TreeP.zero_up {P:List Int} (T:TreeP P):∀ l,l < P.length -> 0 ∈ ups P l:=by
 intro l
 induction l using Nat.strongRecOn with
 | _ l ih =>
  intro hl
  by_cases h0:l = 0
  .subst h0; exact ZSd P 0
  .rw [T.ups_succ (by omega) hl]
   exact List.mem_cons_of_mem _ (ih _ (T.par_lt (by omega) hl).1 (by have:=(T.par_lt (i:=l) (by omega) hl).1; omega))
theorem Zv8 (t:Topo) (s:Int) (hl:t.parents.length <= 1048576):spec_l02Kids t s = some ((kids t.parents s).map fun (i:Nat)=>(i:Int)):=by
 unfold spec_l02Kids
 have h:=Zda (bd:=ZX1 t s) (fun (i:Nat) (st:List Int)=>((i:Int),st)) (n:=t.parents.length)
  (B:=fun x _ st k=>bif t.parents[x]? == some s then (appL 8 st [(x:Int)]).bind k else k st) (kk:=some) (fun i st k hi=>by
   obtain ⟨e,he⟩:∃ e,t.parents[i]? = some e:=⟨_,yA hi⟩
   have hlt:(i:Int) < (t.parents.length:Int):=by omega
   simp only [ZX1,hlt,decide_true,cond_true,Za,he,bS,Zz (n:=i) (by omega)]
   rw [show (some e == some s) = (e == s) from rfl])
  (fun i st k hi=>by
   have hlt:¬ (i:Int) < (t.parents.length:Int):=by omega
   simp only [ZX1,hlt,decide_false,cond_false]) 9223372036854775807 1 [] (by omega)
 refine h.trans ?_
 rw [ZE1 (p:=fun (x:Nat)=>t.parents[x]? == some s) (f:=fun (x:Nat)=>(x:Int)) (fun x _ i b k=>rfl) (by simp; omega)]
 rfl
def LevP (P:List Int) (s:Nat) (v:Int):Prop :=
 (0 <= v /\ v <= P.length - s /\ ∀ l,LeafP P s l -> (dep P l:Int) = dep P s + v) \/ (v = -1 /\ ∃ l1 l2,LeafP P s l1 /\ LeafP P s l2 /\ dep P l1 ≠ dep P l2)
theorem ZAa {t:Topo} (T:TreeP t.parents):∀ (n s fuel:Nat),t.parents.length - s = n -> s < t.parents.length -> n <= fuel -> ∃ v,Zw1 fuel t (s:Int) = some v /\ LevP t.parents s v:=by
 intro n
 induction n using Nat.strongRecOn with
 | _ n ih =>
  intro s fuel hn hs hf
  obtain ⟨fuel,rfl⟩:∃ m,fuel = m + 1:=⟨fuel - 1,by omega⟩
  have hle:=T.le
  rw [Zw1,Zv8 t s (by omega),bS,Zbn]
  refine ZD1 (fun i (v:Int)=>(i = 0 -> v = -1) /\ (0 < i -> 0 <= v /\ v <= t.parents.length - s - 1 /\ ∀ j c,j < i -> (kids t.parents (s:Int))[j]? = some c -> ∀ l,LeafP t.parents c l -> (dep t.parents l:Int) = dep t.parents s + 1 + v)) (fun r=>∃ v,r = some v /\ LevP t.parents s v) ?_ ?_ ⟨fun _=>rfl,fun h=>by omega⟩
  .intro i c v k hi hI hk
   have hc:c ∈ kids t.parents (s:Int):=yE hi
   obtain ⟨q1,q2,q3,q4⟩:=T.kid_par hc
   have hd:dep t.parents c = dep t.parents s + 1:=by rw [T.dep_succ q1 q2,q3]
   obtain ⟨n6,hn6,hl6⟩:=ih (t.parents.length - c) (by omega) c fuel rfl q2 (by omega)
   rw [ZL3,hn6,bS]
   rcases hl6 with ⟨p1,p2,p3⟩ | ⟨rfl,l1,l2,h1,h2,hne⟩
   .have e1:decide (n6 < 0) = false:=by simpa using p1
    rw [e1,Bool.false_or]
    by_cases h0:i = 0
    .subst h0
     simp only [Int.natCast_zero,Int.lt_irrefl,decide_false,Bool.false_and,cond_false]
     refine hk n6 ⟨fun h=>by omega,fun _=>⟨p1,by omega,fun j c' hj hc' l hl=>?_⟩⟩
     have:j = 0:=by omega
     subst this
     rw [hi] at hc'; cases hc'
     rw [p3 l hl,hd]; omega
    .have e2:decide ((0:Int) < (i:Int)) = true:=by simp; omega
     obtain ⟨r1,r2,r3⟩:=hI.2 (by omega)
     rw [e2,Bool.true_and]
     by_cases hv:n6 = v
     .subst hv
      simp only [bne_self_eq_false,cond_false]
      refine hk n6 ⟨fun h=>by omega,fun _=>⟨p1,r2,fun j c' hj hc' l hl=>?_⟩⟩
      by_cases hji:j = i
      .subst hji
       rw [hi] at hc'; cases hc'
       rw [p3 l hl,hd]; omega
      .exact r3 j c' (by omega) hc' l hl
     .have e3:(n6 != v) = true:=by simpa using hv
      rw [e3,cond_true]
      refine ⟨-1,rfl,.inr ⟨rfl,?_⟩⟩
      obtain ⟨c0,hc0⟩:∃ c0,(kids t.parents (s:Int))[0]? = some c0:=⟨_,yA (by have:=(yB hi).1; omega)⟩
      have hm0:=yE hc0
      obtain ⟨w1,w2,w3,w4⟩:=T.kid_par hm0
      obtain ⟨la,hla⟩:=T.some_leaf _ c0 rfl w2
      obtain ⟨lb,hlb⟩:=T.some_leaf _ c rfl q2
      refine ⟨la,lb,T.leaf_kid hm0 hla,T.leaf_kid hc hlb,fun e=>hv ?_⟩
      have a1:=r3 0 c0 (by omega) hc0 la hla
      have a2:=p3 lb hlb
      omega
   .refine ⟨-1,by rfl,.inr ⟨rfl,l1,l2,T.leaf_kid hc h1,T.leaf_kid hc h2,hne⟩⟩
  .intro v hI
   rw [ZK3]
   by_cases h0:(kids t.parents (s:Int)).length = 0
   .rw [hI.1 h0]
    refine ⟨0,rfl,.inl ⟨by omega,by omega,fun l hl=>?_⟩⟩
    rcases T.leaf_cases hl with rfl | ⟨c,hc,_⟩
    .omega
    .rw [List.eq_nil_of_length_eq_zero h0] at hc; cases hc
   .obtain ⟨r1,r2,r3⟩:=hI.2 (by omega)
    rw [ZN (by omega)]
    refine ⟨v + 1,rfl,.inl ⟨by omega,by omega,fun l hl=>?_⟩⟩
    rcases T.leaf_cases hl with rfl | ⟨c,hc,hlc⟩
    .have:=hl.leaf
     rw [this] at h0; simp at h0
    .obtain ⟨j,hj⟩:=List.getElem?_of_mem hc
     rw [r3 j c (yB hj).1 hj l hlc]; omega
theorem Z18 {t:Topo} (T:TreeP t.parents) {s:Nat} (hs:s < t.parents.length):∃ v,spec_l02Level t (s:Int) = some v /\ LevP t.parents s v :=
 ZAa T _ s _ rfl hs (by have:=T.le; omega)
structure TopoP (t:Topo):Prop where
 tree:TreeP t.parents
 nodes:t.nodes.length <= 24
 node:∀ x ∈ t.nodes,0 <= x.leaf /\ x.leaf < t.parents.length /\ kids t.parents x.leaf = [] /\ spec_VecOk x.cap = true
 even:∀ l1 l2,l1 < t.parents.length -> l2 < t.parents.length -> kids t.parents (l1:Int) = [] -> kids t.parents (l2:Int) = [] -> dep t.parents l1 = dep t.parents l2
theorem Zm5 (t:Topo):∃ b,spec_TopoOk t = some b /\ (b = true ↔ TopoP t):=by
 unfold spec_TopoOk
 by_cases h1:t.parents.length < 1
 .exact ⟨false,by simp [show ((t.parents.length:Int) < 1) by omega],ZM1 fun h=>by have:=h.tree.pos; omega⟩
 by_cases h2:24 < t.parents.length
 .exact ⟨false,by simp [show ((24:Int) < t.parents.length) by omega],ZM1 fun h=>by have:=h.tree.le; omega⟩
 by_cases h3:24 < t.nodes.length
 .exact ⟨false,by simp [show ((24:Int) < t.nodes.length) by omega],ZM1 fun h=>by have:=h.nodes; omega⟩
 obtain ⟨p0,hp0⟩:∃ p0,t.parents[0]? = some p0:=⟨_,yA (by omega)⟩
 have e1:decide ((t.parents.length:Int) < 1) = false:=by simp; omega
 have e2:decide ((24:Int) < (t.parents.length:Int)) = false:=by simp; omega
 have e3:decide ((24:Int) < (t.nodes.length:Int)) = false:=by simp; omega
 rw [e1,e2,e3]
 simp only [Bool.or_self,cond_false,Bool.false_or,show idx t.parents 0 = some p0 from by rw [← hp0]; exact Za (i:=0),bS]
 by_cases h4:p0 = 0
 .subst h4
  simp only [bne_self_eq_false,cond_false]
  have h:=Zda (bd:=Z62 t) (fun (i:Nat) (_:Unit)=>(i:Int)) (n:=t.parents.length)
   (B:=fun x _ _ k=>bif (match t.parents[x]? with | some e=>decide (e < 0) || decide ((x:Int) <= e) | none=>true) then some false else k ())
   (kk:=fun _=>rgl (Z52 t) (Z63 t) t.nodes 0 ()) (fun i st k hi=>by
    obtain ⟨e,he⟩:∃ e,t.parents[i]? = some e:=⟨_,yA hi⟩
    have hlt:(i:Int) < (t.parents.length:Int):=by omega
    simp only [Z62,hlt,decide_true,cond_true,Za,he,bS,Zz (n:=i) (by omega)])
   (fun i st k hi=>by
    have hlt:¬ (i:Int) < (t.parents.length:Int):=by omega
    simp only [Z62,hlt,decide_false,cond_false]) 9223372036854775807 1 () (by omega)
  rw [show (1:Int) = ((1:Nat):Int) from rfl,h,ZS1 (p:=fun (x:Nat)=>match t.parents[x]? with | some e=>decide (e < 0) || decide ((x:Int) <= e) | none=>true) (fun x _ i k=>rfl)]
  cases hany:(List.range' 1 (t.parents.length - 1)).any (fun (x:Nat)=>match t.parents[x]? with | some e=>decide (e < 0) || decide ((x:Int) <= e) | none=>true) with
  | true =>
   refine ⟨false,rfl,ZM1 fun hT=>?_⟩
   obtain ⟨x,hx,hq⟩:=List.any_eq_true.1 hany
   obtain ⟨j,hj,rfl⟩:=List.mem_range'.1 hx
   obtain ⟨e,he⟩:∃ e,t.parents[1 + 1 * j]? = some e:=⟨_,yA (by omega)⟩
   have:=hT.tree.par _ (by omega) e he
   rw [he] at hq
   simp at hq
   omega
  | false =>
   have T:TreeP t.parents:=⟨by omega,by omega,hp0,fun i hi p hp=>by
    have hlt:i < t.parents.length:=(yB hp).1
    have:=List.any_eq_false.1 hany i (List.mem_range'.2 ⟨i - 1,by omega,by omega⟩)
    rw [hp] at this
    simp at this
    omega⟩
   rw [cond_false]
   have hb:∀ x ∈ t.nodes,∀ i k,Z52 t x i () k = bif (!(decide (0 <= x.leaf) && decide (x.leaf < t.parents.length) && (kids t.parents x.leaf).isEmpty && spec_VecOk x.cap)) then some false else k ():=by
    intro x _ i k
    unfold Z52
    by_cases q1:x.leaf < 0
    .simp [q1,show ¬ 0 <= x.leaf by omega]
    .by_cases q2:(t.parents.length:Int) <= x.leaf
     .simp [q1,q2,show ¬ x.leaf < t.parents.length by omega]
     .rw [show decide (x.leaf < 0) = false by simpa using q1,show decide ((t.parents.length:Int) <= x.leaf) = false by simpa using q2]
      simp only [Bool.or_self,cond_false,Bool.false_or,Zv8 t x.leaf (by omega),bS,List.length_map]
      rw [show decide (0 <= x.leaf) = true by simpa using q1,show decide (x.leaf < (t.parents.length:Int)) = true by simpa using q2]
      cases hk:kids t.parents x.leaf with
      | nil=>simp
      | cons a l=>simp
   rw [ZS1 hb]
   cases hany2:t.nodes.any (fun x=>!(decide (0 <= x.leaf) && decide (x.leaf < t.parents.length) && (kids t.parents x.leaf).isEmpty && spec_VecOk x.cap)) with
   | true =>
    refine ⟨false,rfl,ZM1 fun hT=>?_⟩
    obtain ⟨x,hx,hq⟩:=List.any_eq_true.1 hany2
    obtain ⟨a1,a2,a3,a4⟩:=hT.node x hx
    simp [a1,a2,a3,a4] at hq
   | false =>
    obtain ⟨v,hv,hl⟩:=Z18 T (s:=0) (by omega)
    rw [cond_false,Z63,show (0:Int) = ((0:Nat):Int) from rfl,hv,bS]
    have mem:∀ l,l < t.parents.length -> kids t.parents (l:Int) = [] -> LeafP t.parents 0 l:=fun l h1 h2=>⟨h1,h2,T.zero_up l h1⟩
    refine ⟨_,rfl,?_⟩
    rw [decide_eq_true_iff]
    constructor
    .intro h0
     refine ⟨T,by omega,fun x hx=>?_,fun l1 l2 a1 a2 a3 a4=>?_⟩
     .have:=List.any_eq_false.1 hany2 x hx
      simpa [and_assoc] using this
     .rcases hl with ⟨_,_,hl⟩ | ⟨rfl,_⟩
      .have:=hl l1 (mem l1 a1 a3)
       have:=hl l2 (mem l2 a2 a4)
       omega
      .simp at h0
    .intro hT
     rcases hl with ⟨h0,_⟩ | ⟨rfl,l1,l2,a1,a2,hne⟩
     .exact h0
     .exact absurd (hT.even l1 l2 a1.lt a2.lt a1.leaf a2.leaf) hne
 .refine ⟨false,by rw [show (p0 != 0) = true by simpa using h4]; rfl,ZM1 fun h=>h4 ?_⟩
  have:=h.tree.root
  rw [hp0] at this; exact Option.some.inj this
theorem ZS9 (P:List Int) (s:Int) (hl:P.length <= 1048576):impl_isLeaf P s = some (kids P s).isEmpty:=by
 unfold impl_isLeaf
 have h:=Zda (bd:=Z82 P s) (fun (i:Nat) (_:Unit)=>(i:Int)) (n:=P.length)
  (B:=fun x _ _ k=>bif P[x]? == some s then some false else k ()) (kk:=fun _=>some true) (fun i st k hi=>by
   obtain ⟨e,he⟩:∃ e,P[i]? = some e:=⟨_,yA hi⟩
   have hlt:(i:Int) < (P.length:Int):=by omega
   simp only [Z82,hlt,decide_true,cond_true,Za,he,bS,Zz (n:=i) (by omega)]
   rw [show (some e == some s) = (e == s) from rfl])
  (fun i st k hi=>by
   have hlt:¬ (i:Int) < (P.length:Int):=by omega
   simp only [Z82,hlt,decide_false,cond_false]) 9223372036854775807 1 () (by omega)
 refine h.trans ?_
 rw [ZS1 (p:=fun (x:Nat)=>P[x]? == some s) (fun x _ i k=>rfl)]
 unfold kids
 generalize List.range' 1 (P.length - 1) = l
 induction l with
 | nil=>rfl
 | cons x l ih =>
  rw [List.any_cons,List.filter_cons]
  cases h:(P[x]? == some s) with
  | true=>simp
  | false=>simpa using ih
theorem ZC7 {P:List Int} (T:TreeP P) {s:Nat} (hs:s < P.length):impl_depth P (s:Int) = some (dep P s:Int):=by
 unfold impl_depth
 refine Zq4 (fun _ r=>r = some (dep P s:Int)) (fun b=>b.1.toNat) (fun b=>∃ m:Nat,b.1 = (m:Int) /\ m < P.length /\ b.2 + (dep P m:Int) = (dep P s:Int) /\ 0 <= b.2) ?_ 9223372036854775807 _ ⟨s,rfl,hs,by simp,by simp⟩ (by have:=T.le; simp only; omega)
 rintro ⟨x,n⟩ k ⟨m,hm,h1,h2,h3⟩ hk
 simp only at hm h2 hk h3
 subst hm
 have hle:=T.le
 have hdl:=ZVn P s
 unfold ZH6
 by_cases h0:0 < m
 .have hp:=T.par_lt (i:=m) (by omega) h1
  have hlt:(0:Int) < (m:Int):=by omega
  simp only [hlt,decide_true,cond_true,Za,hp.2,bS]
  have hd:=T.dep_succ (i:=m) (by omega) h1
  rw [ZN (by omega)]
  refine hk _ ⟨_,rfl,by omega,by simp only; omega,by simp only; omega⟩ (by simp only; omega)
 .have:m = 0:=by omega
  subst this
  rw [dep_zero] at h2
  simp only [Int.natCast_zero,Int.lt_irrefl,decide_false,cond_false]
  congr 1
  omega
theorem ZIf (t:Topo):∃ b,impl_TopoOk t = some b /\ (b = true ↔ TopoP t):=by
 unfold impl_TopoOk
 cases hw:impl_within (t.parents.length:Int) 1 24 with
 | false =>
  refine ⟨false,by simp,ZM1 fun h=>?_⟩
  have:=h.tree.pos; have:=h.tree.le
  simp [impl_within] at hw
  omega
 | true =>
 have hw':1 <= t.parents.length /\ t.parents.length <= 24:=by simp [impl_within] at hw; omega
 obtain ⟨p0,hp0⟩:∃ p0,t.parents[0]? = some p0:=⟨_,yA (by omega)⟩
 simp only [Bool.not_true,cond_false,Bool.false_or,show idx t.parents 0 = some p0 from by rw [← hp0]; exact Za (i:=0),bS]
 by_cases h4:p0 = 0
 rotate_left
 .refine ⟨false,by rw [show (p0 != 0) = true by simpa using h4]; rfl,ZM1 fun h=>h4 ?_⟩
  have:=h.tree.root
  rw [hp0] at this; exact Option.some.inj this
 subst h4
 by_cases h3:24 < t.nodes.length
 .exact ⟨false,by simp [show ((24:Int) < t.nodes.length) by omega],ZM1 fun h=>by have:=h.nodes; omega⟩
 have e3:decide ((24:Int) < (t.nodes.length:Int)) = false:=by simp; omega
 rw [e3]
 simp only [bne_self_eq_false,Bool.or_self,cond_false]
 have h:=Zda (bd:=Z92 t) (fun (i:Nat) (_:Unit)=>(i:Int)) (n:=t.parents.length)
  (B:=fun x _ _ k=>bif (match t.parents[x]? with | some e=>!(impl_within e 0 (w64 ((x:Int) - 1))) | none=>true) then some false else k ())
  (kk:=fun _=>rgl (Zt3 t) (Zr3 t) t.parents 0 (-1)) (fun i st k hi=>by
   obtain ⟨e,he⟩:∃ e,t.parents[i]? = some e:=⟨_,yA hi⟩
   have hlt:(i:Int) < (t.parents.length:Int):=by omega
   simp only [Z92,hlt,decide_true,cond_true,Za,he,bS,Zz (n:=i) (by omega)])
  (fun i st k hi=>by
   have hlt:¬ (i:Int) < (t.parents.length:Int):=by omega
   simp only [Z92,hlt,decide_false,cond_false]) 9223372036854775807 1 () (by omega)
 rw [show (1:Int) = ((1:Nat):Int) from rfl,h,ZS1 (p:=fun (x:Nat)=>match t.parents[x]? with | some e=>!(impl_within e 0 (w64 ((x:Int) - 1))) | none=>true) (fun x _ i k=>rfl)]
 cases hany:(List.range' 1 (t.parents.length - 1)).any (fun (x:Nat)=>match t.parents[x]? with | some e=>!(impl_within e 0 (w64 ((x:Int) - 1))) | none=>true) with
 | true =>
  refine ⟨false,rfl,ZM1 fun hT=>?_⟩
  obtain ⟨x,hx,hq⟩:=List.any_eq_true.1 hany
  obtain ⟨j,hj,rfl⟩:=List.mem_range'.1 hx
  obtain ⟨e,he⟩:∃ e,t.parents[1 + 1 * j]? = some e:=⟨_,yA (by omega)⟩
  have:=hT.tree.par _ (by omega) e he
  rw [he] at hq
  simp only at hq
  rw [ZN (by omega)] at hq
  simp [impl_within] at hq
  omega
 | false =>
  have T:TreeP t.parents:=⟨by omega,by omega,hp0,fun i hi p hp=>by
   have hlt:i < t.parents.length:=(yB hp).1
   have:=List.any_eq_false.1 hany i (List.mem_range'.2 ⟨i - 1,by omega,by omega⟩)
   rw [hp] at this
   simp only at this
   rw [ZN (by omega)] at this
   simp [impl_within] at this
   omega⟩
  rw [cond_false]
  refine ZD1 (fun i (v:Int)=>(v = -1 /\ ∀ l,l < i -> kids t.parents (l:Int) ≠ []) \/ (0 <= v /\ (∃ l,l < i /\ kids t.parents (l:Int) = []) /\ ∀ l,l < i -> kids t.parents (l:Int) = [] -> (dep t.parents l:Int) = v))
   (fun r=>∃ b,r = some b /\ (b = true ↔ TopoP t)) ?_ ?_ (.inl ⟨rfl,fun l hl=>by omega⟩)
  .intro i x v k hi hI hk
   have hil:i < t.parents.length:=(yB hi).1
   rw [Zt3,ZS9 _ _ (by omega),bS]
   cases hkd:kids t.parents (i:Int) with
   | cons a l =>
    simp only [List.isEmpty_cons,Bool.not_false,cond_true]
    refine hk v ?_
    rcases hI with ⟨q1,q2⟩ | ⟨q1,⟨l0,q2,q3⟩,q4⟩
    .refine .inl ⟨q1,fun l hl=>?_⟩
     by_cases e:l = i
     .subst e; rw [hkd]; simp
     .exact q2 l (by omega)
    .refine .inr ⟨q1,⟨l0,by omega,q3⟩,fun l hl hl2=>?_⟩
     by_cases e:l = i
     .subst e; rw [hkd] at hl2; cases hl2
     .exact q4 l (by omega) hl2
   | nil =>
    simp only [List.isEmpty_nil,Bool.not_true,cond_false,ZC7 T hil,bS]
    have hnew:∀ v',(∀ l,l < i -> kids t.parents (l:Int) = [] -> (dep t.parents l:Int) = dep t.parents i) -> v' = (dep t.parents i:Int) -> (v' = -1 /\ ∀ l,l < i + 1 -> kids t.parents (l:Int) ≠ []) \/ (0 <= v' /\ (∃ l,l < i + 1 /\ kids t.parents (l:Int) = []) /\ ∀ l,l < i + 1 -> kids t.parents (l:Int) = [] -> (dep t.parents l:Int) = v'):=by
     intro v' hq e
     subst e
     refine .inr ⟨by omega,⟨i,by omega,hkd⟩,fun l hl hl2=>?_⟩
     by_cases e:l = i
     .subst e; rfl
     .exact hq l (by omega) hl2
    rcases hI with ⟨rfl,q2⟩ | ⟨q1,⟨l0,q2,q3⟩,q4⟩
    .simp only [show decide ((0:Int) <= -1) = false from rfl,Bool.false_and,cond_false]
     exact hk _ (hnew _ (fun l hl hl2=>absurd hl2 (q2 l hl)) rfl)
    .by_cases he:(dep t.parents i:Int) = v
     .rw [he]
      simp only [bne_self_eq_false,Bool.and_false,cond_false]
      exact hk _ (hnew _ (fun l hl hl2=>by rw [q4 l hl hl2,he]) he.symm)
     .have e1:((dep t.parents i:Int) != v) = true:=by simpa using he
      rw [e1,show decide (0 <= v) = true by simpa using q1]
      refine ⟨false,rfl,ZM1 fun hT=>he ?_⟩
      rw [← q4 l0 q2 q3]
      exact_mod_cast hT.even i l0 hil (by omega) hkd q3
  .intro v hI
   rw [Zr3]
   have hb:∀ x ∈ t.nodes,∀ i k,Zs3 t x i () k = bif (!(decide (0 <= x.leaf) && decide (x.leaf < t.parents.length) && (kids t.parents x.leaf).isEmpty && spec_VecOk x.cap)) then some false else k ():=by
    intro x _ i k
    unfold Zs3
    rw [ZN (by omega)]
    by_cases q1:x.leaf < 0
    .simp [impl_within,show ¬ 0 <= x.leaf by omega]
    .by_cases q2:(t.parents.length:Int) <= x.leaf
     .simp [impl_within,show ¬ x.leaf < t.parents.length by omega,show ¬ x.leaf <= (t.parents.length:Int) - 1 by omega]
     .have e:impl_within x.leaf 0 ((t.parents.length:Int) - 1) = true:=by simp [impl_within]; omega
      rw [e]
      simp only [Bool.not_true,cond_false,Bool.false_or,ZS9 t.parents x.leaf (by omega),bS,Zs1]
      rw [show decide (0 <= x.leaf) = true by simpa using q1,show decide (x.leaf < (t.parents.length:Int)) = true by simpa using q2]
      cases (kids t.parents x.leaf).isEmpty <;> cases spec_VecOk x.cap <;> rfl
   rw [ZS1 hb]
   cases hany2:t.nodes.any (fun x=>!(decide (0 <= x.leaf) && decide (x.leaf < t.parents.length) && (kids t.parents x.leaf).isEmpty && spec_VecOk x.cap)) with
   | true =>
    refine ⟨false,rfl,ZM1 fun hT=>?_⟩
    obtain ⟨x,hx,hq⟩:=List.any_eq_true.1 hany2
    obtain ⟨a1,a2,a3,a4⟩:=hT.node x hx
    simp [a1,a2,a3,a4] at hq
   | false =>
    refine ⟨true,rfl,⟨fun _=>⟨T,by omega,fun x hx=>?_,fun l1 l2 a1 a2 a3 a4=>?_⟩,fun _=>rfl⟩⟩
    .have:=List.any_eq_false.1 hany2 x hx
     simpa [and_assoc] using this
    .rcases hI with ⟨_,q2⟩ | ⟨q1,_,q4⟩
     .exact absurd a3 (q2 l1 a1)
     .have:=q4 l1 a1 a3
      have:=q4 l2 a2 a4
      omega
theorem ZK6 (t:Topo):impl_TopoOk t = spec_TopoOk t:=by
 obtain ⟨a,h1,h2⟩:=ZIf t
 obtain ⟨b,h3,h4⟩:=Zm5 t
 rw [h1,h3]
 congr 1
 exact Bool.eq_iff_iff.2 (h2.trans h4.symm)
noncomputable def topoOk (t:Topo):Bool:=(spec_TopoOk t).getD false
theorem ZB2 (t:Topo):spec_TopoOk t = some (topoOk t):=by
 obtain ⟨b,h3,_⟩:=Zm5 t
 rw [topoOk,h3]; rfl
theorem Z97 {t:Topo}:topoOk t = true ↔ TopoP t:=by
 obtain ⟨b,h3,h4⟩:=Zm5 t
 rw [topoOk,h3]; exact h4
theorem TopoP.last {t:Topo} (h:TopoP t):kids t.parents ((t.parents.length - 1:Nat):Int) = []:=by
 cases hk:kids t.parents ((t.parents.length - 1:Nat):Int) with
 | nil=>rfl
 | cons c l =>
  obtain ⟨q1,q2,q3,q4⟩:=h.tree.kid_par (s:=t.parents.length - 1) (c:=c) (by rw [hk]; exact List.mem_cons_self ..)
  omega
def lev (t:Topo) (s:Nat):Int:=(dep t.parents (t.parents.length - 1):Int) - dep t.parents s
theorem Z43 {t:Topo} (h:TopoP t) {s:Nat} (hs:s < t.parents.length):spec_l02Level t (s:Int) = some (lev t s):=by
 obtain ⟨v,h1,h2⟩:=Z18 h.tree hs
 rw [h1]
 have hp:=h.tree.pos
 obtain ⟨l,hl⟩:=h.tree.some_leaf _ s rfl hs
 rcases h2 with ⟨_,_,h2⟩ | ⟨_,l1,l2,a1,a2,hne⟩
 .have e1:=h2 l hl
  have e2:=h.even l (t.parents.length - 1) hl.lt (by omega) hl.leaf h.last
  unfold lev
  congr 1
  omega
 .exact absurd (h.even l1 l2 a1.lt a2.lt a1.leaf a2.leaf) hne
theorem Zw5 {t:Topo} (h:TopoP t) {s:Nat} (hs:s < t.parents.length):impl_level t (s:Int) = some (lev t s):=by
 have hp:=h.tree.pos
 have hle:=h.tree.le
 unfold impl_level impl_height
 rw [ZN (by omega),show ((t.parents.length:Int) - 1) = ((t.parents.length - 1:Nat):Int) by omega,ZC7 h.tree (by omega),bS,bS,ZC7 h.tree hs,bS]
 have:=ZVn t.parents (t.parents.length - 1)
 have:=ZVn t.parents s
 rw [ZN (by omega)]; rfl
theorem ZDi {t:Topo} (T:TreeP t.parents) {s:Nat} (hs:s < t.parents.length):spec_l02Up t (s:Int) = some ((ups t.parents s).map fun (i:Nat)=>(i:Int)):=by
 unfold spec_l02Up
 refine Zq4 (fun _ r=>r = some ((ups t.parents s).map fun (i:Nat)=>(i:Int))) (fun b=>b.1.toNat) (fun b=>∃ m:Nat,b.1 = (m:Int) /\ m < t.parents.length /\ b.2.length + m <= 1000 /\ ∃ l,b.2 = l ++ [(m:Int)] /\ (ups t.parents s).map (fun (i:Nat)=>(i:Int)) = l ++ (ups t.parents m).map fun (i:Nat)=>(i:Int)) ?_ 9223372036854775807 _ ⟨s,rfl,hs,by have:=T.le; simp; omega,[],by simp⟩ (by have:=T.le; simp only; omega)
 rintro ⟨x,n⟩ k ⟨m,hm,h1,h2,l,h3,h4⟩ hk
 simp only at hm h2 hk h3
 subst hm
 have hle:=T.le
 unfold Zs6
 by_cases h0:0 < m
 .have hp:=T.par_lt (i:=m) (by omega) h1
  have hlt:(0:Int) < (m:Int):=by omega
  simp only [hlt,decide_true,cond_true,Za,hp.2,bS]
  rw [Zt (by simp; omega),bS]
  refine hk _ ⟨_,rfl,by omega,by simp; omega,n,rfl,?_⟩ (by simp only; omega)
  rw [h4,h3,T.ups_succ (by omega) h1]
  simp
 .have:m = 0:=by omega
  subst this
  simp only [Int.natCast_zero,Int.lt_irrefl,decide_false,cond_false]
  rw [h4,h3,Zvi]; rfl
theorem Z1k (t:Topo) (s:Int):impl_above t s = spec_l02Up t s:=rfl
theorem ZA2 (l:List Int) (n:Int):spec_l02Has l n = some (l.contains n):=by
 unfold spec_l02Has
 rw [ZS1 (p:=fun x=>x == n) (fun x _ i k=>rfl)]
 unfold Zk5
 rw [show l.contains n = l.any (fun x=>x == n) from by rw [List.contains_eq_any_beq]; congr 1; funext x; exact Bool.beq_comm]
 cases l.any fun x=>x == n <;> rfl
theorem Zne (l:List Int) (n:Int):∃ r:Int,slices_Index_int_int l n = some r /\ decide (0 <= r) = l.contains n:=by
 unfold slices_Index_int_int
 refine ZD1 (fun i (_:Unit)=>∀ j x,j < i -> l[j]? = some x -> x ≠ n) (fun r=>∃ m:Int,r = some m /\ decide (0 <= m) = l.contains n) ?_ ?_ (fun j x h=>by omega)
 .intro i x b k hi hI hk
  unfold ZB1
  by_cases h:n = x
  .subst h
   simp only [beq_self_eq_true,cond_true]
   refine ⟨i,rfl,?_⟩
   have:l.contains n = true:=List.contains_iff_mem.2 (yE hi)
   rw [this]; simp
  .rw [show (n == x) = false by simpa using h,cond_false]
   refine hk () fun j y hj hy=>?_
   by_cases e:j = i
   .subst e; rw [hi] at hy; cases hy; exact fun e=>h e.symm
   .exact hI j y (by omega) hy
 .intro b hI
  refine ⟨-1,rfl,?_⟩
  have:l.contains n = false:=by
   rw [Bool.eq_false_iff]
   intro h
   obtain ⟨j,hj⟩:=List.getElem?_of_mem (List.contains_iff_mem.1 h)
   exact hI j n (yB hj).1 hj rfl
  rw [this]; rfl
theorem ZV5 (l:List Int) (n:Int):slices_Contains_int_int l n = some (l.contains n):=by
 obtain ⟨r,h1,h2⟩:=Zne l n
 unfold slices_Contains_int_int
 rw [h1,bS,h2]
noncomputable def ZF1 (t:Topo) (l:List Int):Bool:=l.all (fun n=>decide (0 <= n) && decide (n < t.nodes.length)) && topoOk t
theorem ZN3 {t:Topo} {l:List Int}:ZF1 t l = true ↔ TopoP t /\ ∀ n ∈ l,0 <= n /\ n < t.nodes.length:=by
 simp [ZF1,Z97,and_comm]
theorem Zv4 (t:Topo) (l:List Int):spec_l02Nodes t l = some (ZF1 t l):=by
 unfold spec_l02Nodes ZF1
 rw [ZS1 (r:=some false) (p:=fun (x:Int)=>!(decide (0 <= x) && decide (x < t.nodes.length))) (fun x _ i k=>by
  unfold Zk2
  by_cases h1:x < 0
  .simp [h1,show ¬ 0 <= x by omega]
  .by_cases h2:(t.nodes.length:Int) <= x
   .simp [h1,h2,show 0 <= x by omega,show ¬ x < t.nodes.length by omega]
   .simp [h1,h2,show 0 <= x by omega,show x < t.nodes.length by omega])]
 unfold Zj2
 rw [ZB2,← List.not_all_eq_any_not]
 cases l.all fun n=>decide (0 <= n) && decide (n < t.nodes.length) <;> rfl
theorem Zf8 (t:Topo) (l:List Int) (hl:t.nodes.length <= 1048576):impl_areNodes t l = some (ZF1 t l):=by
 rw [← Zv4]
 unfold impl_areNodes spec_l02Nodes
 refine Ze7 (fun i x b k _=>?_) fun b=>?_
 .unfold ZQ3 Zk2
  rw [ZN (by omega)]
  by_cases h1:x < 0
  .simp [impl_within,h1,show ¬ 0 <= x by omega]
  .by_cases h2:(t.nodes.length:Int) <= x
   .simp [impl_within,h1,h2,show 0 <= x by omega,show ¬ x <= (t.nodes.length:Int) - 1 by omega]
   .simp [impl_within,h1,h2,show 0 <= x by omega,show x <= (t.nodes.length:Int) - 1 by omega]
 .unfold ZP3 Zj2
  rw [ZK6]
def hasUp (t:Topo) (n:Int) (s:Nat):Bool:=match idx t.nodes n with
 | some e=>((ups t.parents e.leaf.toNat).map fun (i:Nat)=>(i:Int)).contains (s:Int)
 | none=>false
theorem Zuc {t:Topo} {l:List Int} (h:ZF1 t l = true) {n:Int} (hn:n ∈ l):∃ (e:Node) (m:Nat),idx t.nodes n = some e /\ e.leaf = m /\ m < t.parents.length:=by
 obtain ⟨h1,h2⟩:=ZN3.1 h
 obtain ⟨e,q1,q2⟩:=Z8k (l:=t.nodes) (i:=n) (h2 n hn).1 (h2 n hn).2
 obtain ⟨a1,a2,_,_⟩:=h1.node e (yE q2)
 exact ⟨e,e.leaf.toNat,q1,by omega,by omega⟩
theorem Zgm {t:Topo} {l:List Int} (h:ZF1 t l = true) {n:Int} (hn:n ∈ l) (s:Nat) {γ:Type} (f:Bool -> Option γ) :
  ((idx t.nodes n).bind fun e=>(spec_l02Up t e.leaf).bind fun y=>(spec_l02Has y (s:Int)).bind f) = f (hasUp t n s):=by
 obtain ⟨e,m,q1,q2,q3⟩:=Zuc h hn
 have T:=(ZN3.1 h).1.tree
 unfold hasUp
 rw [q1,bS,q2,ZDi T q3,bS,ZA2,bS]
 simp [q2]
theorem ZNm {t:Topo} {l:List Int} (h:ZF1 t l = true) {n:Int} (hn:n ∈ l):hasUp t n 0 = true:=by
 obtain ⟨e,m,q1,q2,q3⟩:=Zuc h hn
 have T:=(ZN3.1 h).1.tree
 unfold hasUp
 rw [q1]
 simp only [List.contains_iff_mem,q2]
 exact List.mem_map.2 ⟨0,T.zero_up _ (by simpa using q3),rfl⟩
theorem Zik (p:Int -> Bool):∀ (l:List Int) (v:Bool),l.foldl (fun v x=>v && p x) v = (v && l.all p)
 | [],v=>by simp
 | x :: l,v=>by rw [List.foldl_cons,Zik p l,List.all_cons,Bool.and_assoc]
theorem Z8o {t:Topo} {l:List Int} (h:ZF1 t l = true) (s:Nat) (v5:Int) (k:Int -> Option Int) :
  rgl (Z72 t s) (Zz1 t v5 s k) l 0 true = Zz1 t v5 s k (l.all fun n=>hasUp t n s) /\
  rgl (Za2 t s) (ZJ1 t v5 s k) l 0 true = ZJ1 t v5 s k (l.all fun n=>hasUp t n s):=by
 constructor
 .rw [ZG8 (f:=fun v x=>v && hasUp t x s) (fun x hx i b k=>by
   unfold Z72
   rw [Zgm h hx s (fun b10=>bif (!b10) then k false else k b)]
   cases hasUp t x s <;> simp),Zik,Bool.true_and]
 .rw [ZG8 (f:=fun v x=>v && hasUp t x s) (fun x hx i b k=>by
   unfold Za2
   cases b with
   | false=>simp only [cond_false,Bool.false_and]; rfl
   | true =>
    simp only [cond_true,Bool.true_and]
    rw [← Zgm h hx s k]
    congr 1; funext e; rw [Z1k]; congr 1; funext y; rw [ZV5,ZA2]),Zik,Bool.true_and]
theorem ZFl {t:Topo} {l:List Int} (h:ZF1 t l = true) (hne:l ≠ []):∃ s:Nat,s < t.parents.length /\ spec_Lowest t l = some (s:Int) /\ impl_Lowest t l = some (s:Int):=by
 have hT:=(ZN3.1 h).1
 have hnl:=hT.nodes
 have hpos:=hT.tree.pos
 have e1:((l.length:Int) == 0) = false:=by
  cases l with
  | nil=>exact absurd rfl hne
  | cons a l=>simp; omega
 -- both loops: one more switch
 have step:∀ (i:Nat) (b:Int) (k:Int -> Option Int),i < t.parents.length -> (b = -1 \/ ∃ s:Nat,b = s /\ s < t.parents.length) ->
   rgl (Z72 t i) (Zz1 t b i k) l 0 true = k (bif (l.all fun n=>hasUp t n i) && (decide (b < 0) || decide (lev t i <= lev t b.toNat)) then (i:Int) else b) /\
   rgl (Za2 t i) (ZJ1 t b i k) l 0 true = k (bif (l.all fun n=>hasUp t n i) && (decide (b < 0) || decide (lev t i <= lev t b.toNat)) then (i:Int) else b):=by
  intro i b k hi hb
  obtain ⟨q1,q2⟩:=Z8o h i b k
  rw [q1,q2]
  unfold Zz1 ZJ1
  cases hall:l.all fun n=>hasUp t n i with
  | false=>exact ⟨rfl,rfl⟩
  | true =>
   rcases hb with rfl | ⟨s,rfl,hs⟩
   .exact ⟨rfl,rfl⟩
   .have hn:decide ((s:Int) < 0) = false:=by simp
    simp only [hn,cond_true,cond_false,Bool.true_and,Bool.false_or,Z43 hT hi,Z43 hT hs,Zw5 hT hi,Zw5 hT hs,bS,Int.toNat_natCast]
    cases decide (lev t i <= lev t s) <;> exact ⟨rfl,rfl⟩
 have fin:∀ (bd:Int -> Nat -> Int -> (Int -> Option Int) -> Option Int) (kk:Int -> Option Int),kk = some -> (∀ (x:Int) (i:Nat) (b:Int) (k:Int -> Option Int),i < t.parents.length -> (b = -1 \/ ∃ s:Nat,b = s /\ s < t.parents.length) -> bd x i b k = k (bif (l.all fun n=>hasUp t n i) && (decide (b < 0) || decide (lev t i <= lev t b.toNat)) then (i:Int) else b)) ->
   ∃ s:Nat,s < t.parents.length /\ rgl bd kk t.parents 0 (-1) = some (s:Int):=by
  intro bd kk hkk hbd
  refine ZD1 (fun i (b:Int)=>(i = 0 /\ b = -1) \/ (0 < i /\ ∃ s:Nat,b = s /\ s < t.parents.length)) (fun r=>∃ s:Nat,s < t.parents.length /\ r = some (s:Int)) ?_ ?_ (.inl ⟨rfl,rfl⟩)
  .intro i x b k hi hI hk
   have hil:=(yB hi).1
   rw [hbd x i b k hil (by rcases hI with h | h; exact .inl h.2; exact .inr h.2)]
   refine hk _ (.inr ⟨by omega,?_⟩)
   rcases hI with ⟨rfl,rfl⟩ | ⟨_,s,rfl,hs⟩
   .rw [show (l.all fun n=>hasUp t n 0) = true from List.all_eq_true.2 fun n hn=>ZNm h hn]
    exact ⟨0,rfl,hpos⟩
   .cases ((l.all fun n=>hasUp t n i) && (decide ((s:Int) < 0) || decide (lev t i <= lev t (s:Int).toNat))) with
    | true=>exact ⟨i,rfl,hil⟩
    | false=>exact ⟨s,rfl,hs⟩
  .intro b hI
   rcases hI with ⟨h0,_⟩ | ⟨_,s,rfl,hs⟩
   .omega
   .exact ⟨s,hs,by rw [hkk]⟩
 have eq:rgl (Zv3 t l) ZA5 t.parents 0 (-1) = rgl (ZA1 t l) Z83 t.parents 0 (-1):=by
  refine ZSi (fun i (b c:Int)=>b = c /\ (b = -1 \/ ∃ s:Nat,b = s /\ s < t.parents.length)) rfl (fun i x y b c k k2 hx hy hr hk=>?_) (fun b c hr=>by rw [hr.1]; rfl) ⟨rfl,.inl rfl⟩
  obtain ⟨rfl,hb⟩:=hr
  have hil:=(yB hx).1
  unfold Zv3 ZA1
  rw [(step i b k hil hb).2,(step i b k2 hil hb).1]
  refine hk _ _ ⟨rfl,?_⟩
  cases ((l.all fun n=>hasUp t n i) && (decide (b < 0) || decide (lev t i <= lev t b.toNat))) with
  | true=>exact .inr ⟨i,rfl,hil⟩
  | false=>exact hb
 obtain ⟨s,h1,h2⟩:=fin (ZA1 t l) Z83 rfl fun x i b k hi hb=>by unfold ZA1; exact (step i b k hi hb).1
 refine ⟨s,h1,?_,?_⟩
 .unfold spec_Lowest
  rw [Zv4,h,bS,e1]
  exact h2
 .unfold impl_Lowest
  rw [Zf8 t l (by omega),h,bS,e1]
  exact eq.trans h2
structure ProfP (p:List Pt):Prop where
 pos:0 < p.length
 le:p.length <= 200
 zero:∀ x,p[0]? = some x -> x.t = 0
 ok:∀ x ∈ p,time x.t = true /\ spec_VecOk x.free = true
 asc:∀ (i:Nat) (x y:Pt),p[i]? = some x -> p[i + 1]? = some y -> x.t < y.t /\ x.free ≠ y.free
theorem ZQ6 (p:List Pt):impl_ProfOk p = spec_ProfOk p:=by
 have e:(!impl_within (p.length:Int) 1 200) = (decide ((p.length:Int) < 1) || decide (200 < (p.length:Int))):=by
  unfold impl_within
  rw [Bool.eq_iff_iff]; simp
 unfold impl_ProfOk spec_ProfOk
 rw [e]
 rfl
theorem ZWm (a b:Vec):(a.a == b.a && (a.b == b.b && (a.c == b.c && true))) = decide (a = b):=by
 cases a; cases b
 simp only [Vec.mk.injEq,Bool.and_true]
 rw [Bool.eq_iff_iff]
 simp
theorem ZB8 (p:List Pt):∃ b,spec_ProfOk p = some b /\ (b = true ↔ ProfP p):=by
 unfold spec_ProfOk
 by_cases h1:p.length < 1
 .exact ⟨false,by simp [show ((p.length:Int) < 1) by omega],ZM1 fun h=>by have:=h.pos; omega⟩
 by_cases h2:200 < p.length
 .exact ⟨false,by simp [show ((200:Int) < p.length) by omega],ZM1 fun h=>by have:=h.le; omega⟩
 obtain ⟨p0,hp0⟩:∃ p0,p[0]? = some p0:=⟨_,yA (by omega)⟩
 have e1:decide ((p.length:Int) < 1) = false:=by simp; omega
 have e2:decide ((200:Int) < (p.length:Int)) = false:=by simp; omega
 rw [e1,e2]
 simp only [Bool.or_self,cond_false,Bool.false_or,show idx p 0 = some p0 from by rw [← hp0]; exact Za (i:=0),bS]
 by_cases h4:p0.t = 0
 rotate_left
 .refine ⟨false,by rw [show (p0.t != 0) = true by simpa using h4]; rfl,ZM1 fun h=>h4 (h.zero _ hp0)⟩
 rw [h4]
 simp only [bne_self_eq_false,cond_false]
 refine ZD1 (fun i (_:Unit)=>(∀ j x,j < i -> p[j]? = some x -> time x.t = true /\ spec_VecOk x.free = true) /\ ∀ j x y,j + 1 < i -> p[j]? = some x -> p[j + 1]? = some y -> x.t < y.t /\ x.free ≠ y.free)
  (fun r=>∃ b,r = some b /\ (b = true ↔ ProfP p)) ?_ ?_ ⟨fun j x h=>by omega,fun j x y h=>by omega⟩
 .intro i x _ k hi hI hk
  have hil:=(yB hi).1
  unfold Zo5
  rw [Z42]
  cases ht:time x.t with
  | false=>exact ⟨false,rfl,ZM1 fun h=>by have:=(h.ok x (yE hi)).1; rw [ht] at this; cases this⟩
  | true =>
  cases hv:spec_VecOk x.free with
  | false=>exact ⟨false,rfl,ZM1 fun h=>by have:=(h.ok x (yE hi)).2; rw [hv] at this; cases this⟩
  | true =>
  simp only [Bool.not_true,Bool.or_self,cond_false,Bool.false_or,ZWm]
  have new1:∀ j y,j < i + 1 -> p[j]? = some y -> time y.t = true /\ spec_VecOk y.free = true:=by
   intro j y hj hy
   by_cases e:j = i
   .subst e; rw [hi] at hy; cases hy; exact ⟨ht,hv⟩
   .exact hI.1 j y (by omega) hy
  by_cases h0:i = 0
  .subst h0
   simp only [Int.natCast_zero,Int.lt_irrefl,decide_false,cond_false,Bool.false_and]
   exact hk () ⟨new1,fun j x y h=>by omega⟩
  .have hgt:decide ((0:Int) < (i:Int)) = true:=by simp; omega
   obtain ⟨q,hq⟩:∃ q,p[i - 1]? = some q:=⟨_,yA (by omega)⟩
   rw [hgt,ZRd (by omega) (by omega)]
   simp only [cond_true,Bool.true_and,Za,hq,bS]
   by_cases h5:x.t <= q.t
   .simp only [h5,decide_true,cond_true,Bool.true_or]
    refine ⟨false,rfl,ZM1 fun h=>?_⟩
    have:=(h.asc (i - 1) q x hq (by rw [show i - 1 + 1 = i by omega]; exact hi)).1
    omega
   .simp only [h5,decide_false,cond_false,Bool.false_or,bS]
    by_cases h6:q.free = x.free
    .simp only [h6,decide_true,cond_true]
     refine ⟨false,rfl,ZM1 fun h=>?_⟩
     exact (h.asc (i - 1) q x hq (by rw [show i - 1 + 1 = i by omega]; exact hi)).2 h6
    .simp only [h6,decide_false,cond_false]
     refine hk () ⟨new1,fun j a b hj ha hb=>?_⟩
     by_cases e:j + 1 = i
     .have:j = i - 1:=by omega
      subst this
      rw [hq] at ha; cases ha
      rw [show i - 1 + 1 = i by omega,hi] at hb; cases hb
      exact ⟨by omega,h6⟩
     .exact hI.2 j a b (by omega) ha hb
 .intro _ hI
  refine ⟨true,rfl,fun _=>⟨by omega,by omega,fun x hx=>by rw [hp0] at hx; cases hx; exact h4,fun x hx=>?_,fun i x y hx hy=>?_⟩,fun _=>rfl⟩
  .obtain ⟨j,hj⟩:=List.getElem?_of_mem hx
   exact hI.1 j x (yB hj).1 hj
  .exact hI.2 i x y (yB hy).1 hx hy
noncomputable def profOk (p:List Pt):Bool:=(spec_ProfOk p).getD false
theorem Zc1 (p:List Pt):spec_ProfOk p = some (profOk p):=by
 obtain ⟨b,h3,_⟩:=ZB8 p
 rw [profOk,h3]; rfl
theorem Zv9 {p:List Pt}:profOk p = true ↔ ProfP p:=by
 obtain ⟨b,h3,h4⟩:=ZB8 p
 rw [profOk,h3]; exact h4
theorem ProfP.lt {p:List Pt} (h:ProfP p):∀ (j i:Nat) (x y:Pt),i < j -> p[i]? = some x -> p[j]? = some y -> x.t < y.t:=by
 intro j
 induction j with
 | zero=>intro i x y hij; omega
 | succ j ih =>
  intro i x y hij hx hy
  obtain ⟨z,hz⟩:∃ z,p[j]? = some z:=⟨_,yA (by have:=(yB hy).1; omega)⟩
  have h1:=(h.asc j z y hz hy).1
  by_cases e:i = j
  .subst e; rw [hz] at hx; cases hx; exact h1
  .have:=ih i x z (by omega) hx hz
   omega
theorem ProfP.asc_times {p:List Pt} (h:ProfP p):(p.map Pt.t).Pairwise (· < ·):=by
 rw [List.pairwise_iff_getElem]
 intro i j hi hj hij
 simp only [List.length_map] at hi hj
 simp only [List.getElem_map]
 exact h.lt j i _ _ hij (yA hi) (yA hj)
def atV (p:List Pt) (t:Int):Vec:=p.foldl (fun v x=>bif decide (x.t <= t) then x.free else v) ⟨0,0,0⟩
theorem Zr7 (p:List Pt) (t:Int):spec_l03At p t = some (atV p t):=by
 unfold spec_l03At
 rw [ZG8 (f:=fun v (x:Pt)=>bif decide (x.t <= t) then x.free else v) (fun x _ i b k=>by unfold Zr6; cases decide (x.t <= t) <;> rfl)]
 rfl
theorem ZVk (p:List Pt) (t:Int):impl_Prof_free p t = some (atV p t):=Zr7 p t
theorem fold_ok {p:List Pt} (t:Int) (h:∀ x ∈ p,spec_VecOk x.free = true):∀ v,spec_VecOk v = true -> spec_VecOk (p.foldl (fun v x=>bif decide (x.t <= t) then x.free else v) v) = true:=by
 induction p with
 | nil=>intro v hv; exact hv
 | cons x l ih =>
  intro v hv
  rw [List.foldl_cons]
  refine ih (fun y hy=>h y (List.mem_cons_of_mem _ hy)) _ ?_
  cases decide (x.t <= t) with
  | true=>exact h x (List.mem_cons_self ..)
  | false=>exact hv
theorem Zel {p:List Pt} (h:ProfP p) (t:Int):spec_VecOk (atV p t) = true:=fold_ok t (fun x hx=>(h.ok x hx).2) _ (by decide)
def minV (p:List Pt) (from_ to_:Int):Vec:=p.foldl (fun v x=>bif decide (from_ <= x.t) && decide (x.t < to_) then spec_VecMin v x.free else v) (atV p from_)
theorem Zje (p:List Pt) (from_ to_:Int):spec_ProfMin p from_ to_ = some (if profOk p = true /\ time from_ = true /\ time to_ = true /\ from_ < to_ then (minV p from_ to_,true) else (⟨0,0,0⟩,false)):=by
 unfold spec_ProfMin
 rw [Zc1,bS]
 simp only [Z42]
 cases profOk p <;> cases time from_ <;> cases time to_ <;> try simp
 by_cases h:to_ <= from_
 .simp [h,show ¬ from_ < to_ by omega]
 .simp only [h,decide_false,cond_false,show from_ < to_ by omega,if_true,Zr7,bS]
  rw [ZG8 (f:=fun v (x:Pt)=>bif decide (from_ <= x.t) && decide (x.t < to_) then spec_VecMin v x.free else v) (fun x _ i b k=>by unfold ZA4; cases (decide (from_ <= x.t) && decide (x.t < to_)) <;> rfl)]
  rfl
theorem Z7i:∀ {l m:List Int},l.Pairwise (· < ·) -> m.Pairwise (· < ·) -> (∀ x,x ∈ l ↔ x ∈ m) -> l = m
 | [],[],_,_,_=>rfl
 | [],b :: m,_,_,h=>by have:=(h b).2 (List.mem_cons_self ..); cases this
 | a :: l,[],_,_,h=>by have:=(h a).1 (List.mem_cons_self ..); cases this
 | a :: l,b :: m,h1,h2,h=>by
  rw [List.pairwise_cons] at h1 h2
  have e:a = b:=by
   rcases List.mem_cons.1 ((h a).1 (List.mem_cons_self ..)) with q | q
   .exact q
   .rcases List.mem_cons.1 ((h b).2 (List.mem_cons_self ..)) with q2 | q2
    .exact q2.symm
    .have:=h1.1 b q2; have:=h2.1 a q; omega
  subst e
  congr 1
  refine Z7i h1.2 h2.2 fun x=>⟨fun hx=>?_,fun hx=>?_⟩
  .rcases List.mem_cons.1 ((h x).1 (List.mem_cons_of_mem _ hx)) with q | q
   .have:=h1.1 x hx; omega
   .exact q
  .rcases List.mem_cons.1 ((h x).2 (List.mem_cons_of_mem _ hx)) with q | q
   .have:=h2.1 x hx; omega
   .exact q
def insT (t:Int) (l:List Int):List Int:=(l.filter fun x=>decide (x < t)) ++ t :: l.filter fun x=>decide (t < x)
theorem ZYd {t x:Int} {l:List Int}:x ∈ insT t l ↔ x = t \/ x ∈ l:=by
 simp only [insT,List.mem_append,List.mem_filter,List.mem_cons,decide_eq_true_eq]
 constructor
 .rintro (⟨h,_⟩ | h | ⟨h,_⟩)
  .exact .inr h
  .exact .inl h
  .exact .inr h
 .rintro (h | h)
  .exact .inr (.inl h)
  .by_cases h1:x < t
   .exact .inl ⟨h,h1⟩
   .by_cases h2:t < x
    .exact .inr (.inr ⟨h,h2⟩)
    .exact .inr (.inl (by omega))
theorem Zu5 {t:Int} {l:List Int} (h:l.Pairwise (· < ·)):(insT t l).Pairwise (· < ·):=by
 unfold insT
 rw [List.pairwise_append,List.pairwise_cons]
 refine ⟨h.filter _,⟨fun x hx=>by simpa using (List.mem_filter.1 hx).2,h.filter _⟩,fun x hx y hy=>?_⟩
 have hx':x < t:=by simpa using (List.mem_filter.1 hx).2
 rcases List.mem_cons.1 hy with rfl | hy
 .exact hx'
 .have:t < y:=by simpa using (List.mem_filter.1 hy).2
  omega
theorem ZQj (t:Int) (l:List Int):(insT t l).length <= l.length + 1:=by
 have:∀ m:List Int,(m.filter fun x=>decide (x < t)).length + (m.filter fun x=>decide (t < x)).length <= m.length:=by
  intro m
  induction m with
  | nil=>simp
  | cons a m ih =>
   simp only [List.filter_cons,List.length_cons]
   by_cases h1:a < t
   .simp only [h1,decide_true,if_true,show ¬ t < a by omega,decide_false,Bool.false_eq_true,if_false,List.length_cons]; omega
   .by_cases h2:t < a
    .simp only [h1,h2,decide_true,if_true,decide_false,Bool.false_eq_true,if_false,List.length_cons]; omega
    .simp only [h1,h2,decide_false,Bool.false_eq_true,if_false]; omega
 have:=this l
 simp only [insT,List.length_append,List.length_cons]; omega
theorem Zcm {γ:Type} (t:Int) (k:List Int -> Option γ) (bd:Int -> Nat -> Bool × List Int -> ((Bool × List Int) -> Option γ) -> Option γ) (kk:Bool × List Int -> Option γ)
  (hb:∀ x i d acc kc,acc.length <= 1000 -> bd x i (d,acc) kc = bif (!d) && decide (t <= x) then (bif x != t then kc (true,acc ++ [t] ++ [x]) else kc (true,acc ++ [t])) else (bif x != t then kc (d,acc ++ [x]) else kc (d,acc)))
  (hk:∀ d acc,acc.length <= 1000 -> kk (d,acc) = bif !d then k (acc ++ [t]) else k acc):∀ (l:List Int) (i:Nat),l.Pairwise (· < ·) -> l.length <= 500 ->
  (∀ acc:List Int,acc.length <= 500 - l.length -> rgl bd kk l i (false,acc) = k (acc ++ insT t l)) /\ ∀ acc:List Int,acc.length <= 501 - l.length -> (∀ x ∈ l,t < x) -> rgl bd kk l i (true,acc) = k (acc ++ l)
 | [],i,_,_=>⟨fun acc h=>by rw [rgl,hk _ _ (by omega)]; simp [insT],fun acc h _=>by rw [rgl,hk _ _ (by omega)]; simp⟩
 | x :: l,i,hp,hl=>by
  rw [List.pairwise_cons] at hp
  simp only [List.length_cons] at hl
  obtain ⟨q1,q2⟩:=Zcm t k bd kk hb hk l (i + 1) hp.2 (by omega)
  refine ⟨fun acc ha=>?_,fun acc ha hx=>?_⟩
  .simp only [List.length_cons] at ha
   rw [rgl,hb _ _ _ _ _ (by omega)]
   by_cases h1:t <= x
   .have hall:∀ y ∈ l,t < y:=fun y hy=>by have:=hp.1 y hy; omega
    have f1:(l.filter fun y=>decide (y < t)) = []:=List.filter_eq_nil_iff.2 fun y hy=>by have:=hall y hy; simp; omega
    have f2:(l.filter fun y=>decide (t < y)) = l:=List.filter_eq_self.2 fun y hy=>by simpa using hall y hy
    simp only [Bool.not_false,Bool.true_and,h1,decide_true,cond_true]
    by_cases h2:x = t
    .subst h2
     simp only [bne_self_eq_false,cond_false]
     rw [q2 _ (by simp; omega) hall]
     simp [insT,f1,f2]
    .rw [show (x != t) = true by simpa using h2,cond_true,q2 _ (by simp; omega) hall]
     simp [insT,f1,f2,show ¬ x < t by omega,show t < x by omega]
   .simp only [Bool.not_false,Bool.true_and,h1,decide_false,cond_false]
    rw [show (x != t) = true by simp; omega,cond_true,q1 _ (by simp; omega)]
    simp [insT,show x < t by omega,show ¬ t < x by omega]
  .simp only [List.length_cons] at ha
   have hx1:=hx x (List.mem_cons_self ..)
   rw [rgl,hb _ _ _ _ _ (by omega)]
   simp only [Bool.not_true,Bool.false_and,cond_false]
   rw [show (x != t) = true by simp; omega,cond_true,q2 _ (by simp; omega) fun y hy=>hx y (List.mem_cons_of_mem _ hy)]
   simp
def ZP1 (p:List Pt) (from_ to_:Int):List Int:=insT to_ (insT from_ (p.map Pt.t))
theorem ZNc {p:List Pt} (h:ProfP p) (from_ to_:Int):spec_l03Times p from_ to_ = some (ZP1 p from_ to_):=by
 have hle:=h.le
 unfold spec_l03Times
 rw [ZE1 (bd:=ZJ3) (bs:=8) (p:=fun _=>true) (f:=Pt.t) (fun x _ i b k=>rfl) (by simp; omega)]
 have one:∀ (t:Int) (i:Nat) (v:List Int) (k:List Int -> Option (List Int)),v.Pairwise (· < ·) -> v.length <= 300 -> Zh2 t i v k = k (insT t v):=by
  intro t i v k hv hl
  unfold Zh2
  have:=(Zcm t k (Zi2 t) (Zg2 t k) (fun x i d acc kc ha=>by
   unfold Zi2 Zv1
   cases ((!d) && decide (t <= x)) with
   | true =>
    simp only [cond_true]
    rw [Zt (by simp; omega),bS]
    cases (x != t) with
    | true=>simp only [cond_true]; rw [Zt (by simp; omega),bS]
    | false=>rfl
   | false =>
    simp only [cond_false]
    cases (x != t) with
    | true=>simp only [cond_true]; rw [Zt (by simp; omega),bS]
    | false=>rfl) (fun d acc ha=>by
   unfold Zg2
   cases d with
   | true=>rfl
   | false=>simp only [Bool.not_false,cond_true]; rw [Zt (by simp; omega),bS]) v 0 hv (by omega)).1 [] (by simp)
  simpa using this
 have hp:=h.asc_times
 have hl1:=ZQj from_ (p.map Pt.t)
 simp only [List.length_map] at hl1
 unfold ZI3
 simp only [List.nil_append,show (p.filter fun _=>true) = p from List.filter_eq_self.2 fun _ _=>rfl]
 rw [rgl,one _ _ _ _ hp (by simp; omega),rgl,one _ _ _ _ (Zu5 hp) (by omega)]
 rfl
theorem Z8l {l:List Int} (h:l.Pairwise (· <= ·)):(ZW l).Pairwise (· < ·) /\ ∀ x,x ∈ ZW l ↔ x ∈ l:=by
 have hsz:l.toArray.size = l.length:=by simp
 have get:∀ j,j < l.length -> l.toArray[j]! = l[j]!:=by intro j hj; simp
 have mono:∀ i j,i <= j -> j < l.length -> l.toArray[i]! <= l.toArray[j]!:=by
  intro i j hij hj
  by_cases e:i = j
  .subst e; exact Int.le_refl _
  .have:=List.pairwise_iff_getElem.1 h i j (by omega) hj (by omega)
   simpa [show i < l.length by omega,hj] using this
 unfold ZW Lib.compact Lib.compactUpTo
 constructor
 .rw [List.pairwise_map]
  have hr:((List.range l.length).filter (Lib.keeps l.toArray)).Pairwise (· < ·):=List.Pairwise.filter _ List.pairwise_lt_range
  refine List.Pairwise.imp_of_mem (fun {a b} ha hb hab=>?_) hr
  have hb1:=List.mem_filter.1 hb
  have hbl:b < l.length:=List.mem_range.1 hb1.1
  have hk:b = 0 \/ l.toArray[b]! ≠ l.toArray[b - 1]!:=by simpa [Lib.keeps] using hb1.2
  rcases hk with rfl | hk
  .omega
  .have:=mono a (b - 1) (by omega) (by omega)
   have:=mono (b - 1) b (by omega) hbl
   omega
 .intro x
  simp only [List.mem_map,List.mem_filter,List.mem_range]
  constructor
  .rintro ⟨j,⟨hj,_⟩,rfl⟩
   rw [get j hj]
   simp [hj]
  .intro hx
   -- the first place of x
   have:∀ n,(∃ j,j < n /\ j < l.length /\ l.toArray[j]! = x) -> ∃ j,(j < l.length /\ Lib.keeps l.toArray j = true) /\ l.toArray[j]! = x:=by
    intro n
    induction n with
    | zero=>rintro ⟨j,hj,_⟩; omega
    | succ n ih =>
     rintro ⟨j,hj,hjl,he⟩
     cases hk:Lib.keeps l.toArray j with
     | true=>exact ⟨j,⟨hjl,hk⟩,he⟩
     | false =>
      have hk':¬ (j = 0 \/ l.toArray[j]! ≠ l.toArray[j - 1]!):=by simpa [Lib.keeps] using hk
      have h0:j ≠ 0:=fun e=>hk' (.inl e)
      have h1:l.toArray[j]! = l.toArray[j - 1]!:=Classical.byContradiction fun q=>hk' (.inr q)
      exact ih ⟨j - 1,by omega,by omega,by rw [← h1]; exact he⟩
   obtain ⟨j,hj⟩:=List.getElem?_of_mem hx
   obtain ⟨hjl,hje⟩:=yB hj
   exact this l.length ⟨j,hjl,hjl,by rw [get j hjl]; simp [hjl,hje]⟩
theorem ZGm (l:List Int):(sortI l).Pairwise (· <= ·) /\ ∀ x,x ∈ sortI l ↔ x ∈ l:=by
 refine ⟨?_,fun x=>(List.mergeSort_perm l _).mem_iff⟩
 have:=List.pairwise_mergeSort (le:=fun (x y:Int)=>decide (x <= y)) (fun a b c h1 h2=>by simp at *; omega) (fun a b=>by simp; omega) l
 exact this.imp fun h=>by simpa using h
theorem Z9l {p:List Pt} (h:ProfP p) (from_ to_:Int):ZW (sortI ([from_,to_] ++ p.map Pt.t)) = ZP1 p from_ to_:=by
 obtain ⟨s1,s2⟩:=ZGm ([from_,to_] ++ p.map Pt.t)
 obtain ⟨c1,c2⟩:=Z8l s1
 refine Z7i c1 (Zu5 (Zu5 h.asc_times)) fun x=>?_
 rw [c2,s2,ZP1,ZYd,ZYd]
 simp only [List.cons_append,List.nil_append,List.mem_cons]
 constructor
 .rintro (h | h | h)
  .exact .inr (.inl h)
  .exact .inl h
  .exact .inr (.inr h)
 .rintro (h | h | h)
  .exact .inr (.inl h)
  .exact .inl h
  .exact .inr (.inr h)
end Go.Proofs.YtpljbgcghpamjaaGreat
