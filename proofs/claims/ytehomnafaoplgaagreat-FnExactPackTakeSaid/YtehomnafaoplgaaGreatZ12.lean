/-
  Lemmas, part 12.
-/
import Derived.Test.YtehomnafaoplgaaGreatZ11
namespace Go.Proofs.YtehomnafaoplgaaGreat
open Go Go.RowKit Eng
def OQ(x4:Node)(_:Nat)(v4:(List tP))(k4:(List tP)->Option (Room×Bool)):Option (Room×Bool) :=
 (appL 24 v4 [(Xa x4.cap).1]).bind λxs5=>k4 xs5
def WQ(s1:State)(v4:(List tP)):Option (Room×Bool) :=
 (ZJ (Room.mk s1.topo s1.up v4 ((Xa s1.lic).1))).bind λy6=>some (y6,true)
def Vs(s1:State):Option (Room×Bool) :=
 (Lf s1.topo).bind λb2=>bif ((!b2)||((s1.up.length:Int)!=(s1.topo.nodes.length:Int)))||(!(U0 s1.lic))then(some ((Room.mk (Topo.mk [] []) [] [] []),false))else(rgl OQ (WQ s1) s1.topo.nodes 0 [])
theorem Z0m{s1:State}{r:Room×Bool}(H:Vs s1=some r):SP J0x [J1 .rd s1] (.tup [.agg [zfa r.1.topo.parents,zfe r.1.topo.nodes,.sref 0,zfj r.1.profs,zfi r.1.lics],.bool r.2]) [zwd r.1.up]:=by
 refine wd [(64,1)] [.c 2 5 true,.t 3] ?_
 obtain⟨b2,h2,H⟩:=bB H
 refine wH [.c 16 (QD h2),.g 21 [((!b2),false)] (.ln _ _ λ_=>lm s1.up eBo),.g 25 [((!b2),false)] (.ln _ _ λ_=>lm s1.topo.nodes Q1),.d 31 [(((!b2)||((s1.up.length:Int)!=(s1.topo.nodes.length:Int))),false)] λ_=>X6 s1.lic] ?_
 refine X0 H (λH=>sI H▸wY [(2,[.n 1,.n 4,.d,.n 1,.n 4])] [] [] [none] [zna [],zne [],znj ([]:List tP),zni []]) λH=>?_
 refine wG [.l 38 s1.topo.nodes Q1] λq3=>?_
 refine M01 (λ(i4:Nat) (v4:(List tP))=>⟨[pB 1,pB 2,pB 4,(37,zre s1.topo.nodes)]++zl 38 s1.topo.nodes i4,[],[(1,(J1 .rd s1).cells),(2,z4),(4,[zra s1.topo.parents,zre s1.topo.nodes,zrd s1.up,.sref 524000,.nl])],[(524000,zwj v4)]⟩) [] [(4,[.d,.d,.d,.z 524000,.d])] [(524000,(none,1))] [] (by kernel_rfl) (by kernel_rfl) H (λi4 x4 v4 I m k4 A4 B4 H N24=>?_) (λv4 I m H=>?_)
 .refine wP (wt (ltT B4) ?_)
  obtain⟨xs5,h5,H⟩:=bB H
  exact wH [.y 41 Q1 A4,.c 46 (U0t x4.cap),.p 53 (O2 .nw) h5,.i 55 B4 q3.1] (wT (N24 _ H))
 .refine wP (wf (ltF s1.topo.nodes.length) ?_)
  obtain⟨y6,h6,H⟩:=bB H
  refine wH [.c 59 (U0t s1.lic),.f 64 [.agg [zra s1.topo.parents,zre s1.topo.nodes,zrd s1.up,zrj v4,zri ((Xa s1.lic).1)]] (Q0s h6)] ?_
  exact sI H▸wO [(2,[.d,.d,.d,.f,.d])] [(65000,some 65000,0)] [65001] [some 65000] [zna y6.topo.parents,zne y6.topo.nodes,znj y6.profs,zni y6.lics,znd y6.up]
def XM(s1:State)(x4:Run)(_:Nat)(v4:Room)(k4:Room->Option (Room×Bool)):Option (Room×Bool) :=
 (JI v4 x4.job x4.nodes).bind λb5=>bif ((((!b5)||(!(Q3 x4.t)))||decide (s1.now<x4.t))||decide ((w64 (x4.t+x4.job.wall))<=s1.now))||decide (1000000000<(w64 (x4.t+x4.job.wall)))then(some ((Room.mk (Topo.mk [] []) [] [] []),false))else((Qr v4 (Job.mk x4.job.id x4.job.prio x4.job.nodes x4.job.need x4.job.lic (w64 ((w64 (x4.t+x4.job.wall))-s1.now)) x4.job.level) s1.now x4.nodes).bind λy6=>bif !y6.2 then(some ((Room.mk (Topo.mk [] []) [] [] []),false))else(k4 y6.1))
def Z0t(v4:Room):Option (Room×Bool) :=
 some (v4,true)
def Yg(s1:State):Option (Room×Bool) :=
 (Vs s1).bind λy2=>bif (!y2.2)||(!(Q3 s1.now))then(some ((Room.mk (Topo.mk [] []) [] [] []),false))else(rgl (XM s1) Z0t s1.runs 0 y2.1)
theorem XV{s1:State}{r:Room×Bool}(H:Yg s1=some r):SQ Q0R [J1 .rd s1] (.tup [Wd .nw r.1,.bool r.2]):=by
 refine wa [.c 2 5 true,.t 3] ?_
 obtain⟨y2,h2,H⟩:=bB H
 refine wH [.c 14 (Z0m h2),.d 22 [((!y2.2),false)] λ_=>X9 s1.now] ?_
 refine X0 H (λH=>sI H▸wQ [(2,z3)] [zna [],zne [],znd [],znj ([]:List tP),zni []]) λH=>?_
 refine wG [.l 28 s1.runs (X1 .rd)] λq3=>?_
 refine wL (λ(i4:Nat) (v4:Room)=>⟨[pB 1,pB 2,pB 4,(27,zqg s1.runs)]++zl 28 s1.runs i4,[],[(1,(J1 .rd s1).cells),(2,z4),(4,(Wd .nw v4).cells)],[]⟩) H (λi4 x4 v4 I m k4 A4 B4 H N46=>?_) (λv4 I m H=>?_)
 .obtain⟨b5,h5,H⟩:=bB H
  refine wH [.y 31 (X1 .rd) A4,.f 44 [zR v4,eJob x4.job,zra x4.nodes] (V0s h5),.d 49 [((!b5),false)] λ_=>X9 x4.t] ?_
  refine X0 H (λH=>sI H▸wQ [(2,z3)] [zna [],zne [],znd [],znj ([]:List tP),zni []]) λH=>?_
  obtain⟨y6,h6,H⟩:=bB H
  refine wH [.f 84 [zR v4,.agg [iV x4.job.id,iV x4.job.prio,iV x4.job.nodes,iV x4.job.need.a,iV x4.job.need.b,iV x4.job.need.c,iV x4.job.lic.a,iV x4.job.lic.b,iV x4.job.lic.c,iV (w64 ((w64 (x4.t+x4.job.wall))-s1.now)),iV x4.job.level],iV s1.now,zra x4.nodes] (Y0t h6)] ?_
  refine X0 H (λH=>sI H▸wQ [(2,z3)] [zna [],zne [],znd [],znj ([]:List tP),zni []]) λH=>?_
  exact wH [.i 91 B4 q3.1] (wT (N46 _ H))
 .exact sI H▸wQ [(2,[])] [zna v4.topo.parents,zne v4.topo.nodes,znd v4.up,znj v4.profs,zni v4.lics]
def UY(x4:Run)(_:Nat)(v4:tJ)(k4:tJ->Option tJ):Option tJ :=
 (appL 88 v4 [x4.job]).bind λxs5=>k4 xs5
def VY(v4:tJ):Option tJ :=
 some v4
def Vr(s1:State):Option tJ :=
 (appL 88 ([]:tJ) s1.queue).bind λxs2=>rgl UY VY s1.runs 0 xs2
theorem W04{s1:State}{r:tJ}(H:Vr s1=some r):SQ J0E [J1 .rd s1] (zff r):=by
 refine wb [6] [.t 2] (bC H λxs2 h2 H=>wG [.p 9 eJob h2,.l 12 s1.runs (X1 .rd)] λq3=>wL (λ(i4:Nat) (v4:tJ)=>⟨[(3,.sref 6),(11,zqg s1.runs)]++zl 12 s1.runs i4,[],[],[(6,zwf v4)]⟩) H (λi4 x4 v4 I m k4 A4 B4 H N15=>?_) (λv4 I m H=>?_))
 .exact bC H λxs5 h5 H=>wH [.y 15 (X1 .rd) A4,.p 21 eJob h5,.i 22 B4 q3.1] (wT (N15 _ H))
 .exact sI H▸wP (wN [(2,.f)] [] [] [6] [] [znf v4])
def VG(s1:State)(x6:Run)(x8:Int)(i8:Nat)(_:Unit)(k8:Unit->Option Bool):Option Bool :=
 (idx s1.up x8).bind λe9=>(bif !e9 then some default else(bif decide (0<(i8:Int))then(idx x6.nodes (w64 ((i8:Int)-1)))else some default)).bind λe10=>bif (!e9)||(decide (0<(i8:Int))&&decide (x8<=e10))then(some false)else(k8 ())
def Zg(s1:State)(x6:Run)(k6:Unit->Option Bool)(_:Unit):Option Bool :=
 (QH s1.topo x6.nodes).bind λn11=>(Ld s1.topo n11).bind λn12=>bif decide (x6.job.level<n12)then(some false)else(k6 ())
def YG(s1:State)(x14:End)(_:Nat)(_:Unit)(k14:Unit->Option Bool):Option Bool :=
 bif ((((decide (x14.id<1)||decide (999<x14.id))||decide (x14.t<0))||decide (s1.now<x14.t))||decide (x14.why<1))||decide (4<x14.why)then(some false)else(k14 ())
def JY(_:Unit):Option Bool :=
 some true
def XG(s1:State)(x6:Run)(_:Nat)(_:Unit)(k6:Unit->Option Bool):Option Bool :=
 rgl (VG s1 x6) (Zg s1 x6 k6) x6.nodes 0 ()
def ZZ(s1:State)(_:Unit):Option Bool :=
 rgl (YG s1) JY s1.ends 0 ()
def Lc(s1:State):Option Bool :=
 (Yg s1).bind λy2=>(bif ((!y2.2)||decide (s1.depth<0))||decide (60<s1.depth)then some default else(Vr s1)).bind λy3=>(bif ((!y2.2)||decide (s1.depth<0))||decide (60<s1.depth)then some default else(Yx y3)).bind λb4=>bif ((((!y2.2)||decide (s1.depth<0))||decide (60<s1.depth))||(!b4))||decide (300<(s1.ends.length:Int))then(some false)else(rgl (XG s1) (ZZ s1) s1.runs 0 ())
theorem Xe{s1:State}{r:Bool}(H:Lc s1=some r):SQ X0G [J1 .rd s1] (.bool r):=by
 refine wc [(13,12)] [.t 2] (bC3 H λy2 h2 y3 h3 b4 h4 H=>wH [.c 13 (XV h2),.d 30 [(_,false)] λq=>W04 (bF q.1 h3),.d 31 [(_,false)] λq=>M05 (bF q.1 h4),.g 37 [(((((!y2.2)||decide (s1.depth<0))||decide (60<s1.depth))||(!b4)),false)] (.ln _ _ λ_=>lm s1.ends eEnd)] (X0 H (λH=>sI H▸wV) λH=>wG [.l 42 s1.runs (X1 .rd)] λq5=>wL (λ(i6:Nat) (v6:Unit)=>⟨[pB 1,(41,zqg s1.runs)]++zl 42 s1.runs i6,[],[(1,(J1 .rd s1).cells)],[]⟩) H (λi6 x6 v6 I m k6 A6 B6 H N51=>?_) (λv6 I m H=>?_)))
 .refine wG [.y 45 (X1 .rd) A6,.l 49 x6.nodes eI] λq7=>wL (λ(i8:Nat) (v8:Unit)=>⟨[pB 1,pB 6,(41,zqg s1.runs),(42,iV (s1.runs.length:Int)),(43,iV (i6:Int)),(48,zra x6.nodes)]++zl 49 x6.nodes i8,[],[(1,(J1 .rd s1).cells),(6,(X1 .rd x6).cells)],[]⟩) H (λi8 x8 v8 I m k8 A8 B8 H N34=>?_) (λv8 I m H=>?_)
  .exact bC2 H λe9 h9 e10 h10 H=>wH [.y 53 eI A8,.x 58 eBo h9,.g 69 [(_,true),(_,false)] (.ix _ _ _ λq=>Y0 eI (bT q.1 (bF q.2.1 h10)))] (X0 H (λH=>sI H▸wV) λH=>wH [.i 75 B8 q7.1] (wT (N34 () H)))
  .exact bC2 H λn11 h11 n12 h12 H=>wH [.c 82 (Q1o h11),.c 83 (Mf h12)] (X0 H (λH=>sI H▸wV) λH=>wH [.i 88 B6 q5.1] (wT (N51 () H)))
 .refine wG [.l 91 s1.ends eEnd] λq13=>wL (λ(i14:Nat) (v14:Unit)=>⟨[pB 1,(90,zrh s1.ends)]++zl 91 s1.ends i14,[],[(1,(J1 .rd s1).cells)],[]⟩) H (λi14 x14 v14 I m k14 A14 B14 H N73=>?_) (λv14 I m H=>?_)
  .exact wH [.y 94 eEnd A14] (X0 H (λH=>sI H▸wV) λH=>wH [.i 126 B14 q13.1] (wT (N73 () H)))
  .exact sI H▸wV
noncomputable def O1f:L :=
 lf Tryz.prog Z0F [18,23,28,36,48] [(6,0),(10,0),(11,0),(15,0)] [] [] [(1,12)] [] [64819]
def QF(x7:Run)(_:Nat)(v7:tR)(k7:tR->Option State):Option State :=
 (appL 8 ([]:tI) x7.nodes).bind λxs8=>(appL 120 v7 [(Run.mk x7.job x7.t xs8)]).bind λxs9=>k7 xs9
def QY(s1:State)(xs2:tI)(xs3:List Node)(xs4:tB)(xs5:tJ)(v7:tR):Option State :=
 (appL 24 ([]:tE) s1.ends).bind λxs10=>some (State.mk (Topo.mk xs2 xs3) xs4 s1.lic s1.depth s1.now xs5 v7 xs10)
def Vi(s1:State):Option State :=
 (appL 8 ([]:tI) s1.topo.parents).bind λxs2=>(appL 32 ([]:List Node) s1.topo.nodes).bind λxs3=>(appL 1 ([]:tB) s1.up).bind λxs4=>(appL 88 ([]:tJ) s1.queue).bind λxs5=>rgl QF (QY s1 xs2 xs3 xs4 xs5) s1.runs 0 []
theorem Wo{s1 r:State}(H:Vi s1=some r):SP Z0F [J1 .rd s1] (.agg (zs r (.sref 0) (.sref 1) (.sref 2) (.sref 3))) [zwd r.up,zwf r.queue,zwg r.runs,zwh r.ends]:=by
 refine wS O1f [.c 2 11 true] (bC3 H λxs2 h2 xs3 h3 xs4 h4 H=>bC H λxs5 h5 H=>wG [.p 10 eI h2,.p 15 Q1 h3,.p 21 eBo h4,.p 26 eJob h5,.l 31 s1.runs (X1 .rd)] λq6=>wL (λ(i7:Nat) (v7:tR)=>⟨[pB 1,pB 2,(3,.sref 28),(30,zqg s1.runs)]++zl 31 s1.runs i7,[],[(1,[zfa xs2,zfe xs3,.sref 18,iV s1.lic.a,iV s1.lic.b,iV s1.lic.c,iV s1.depth,iV s1.now,.sref 23,zqg s1.runs,zrh s1.ends]),(2,z2)],[(18,zwd xs4),(23,zwf xs5),(28,zwg v7)]⟩) H (λi7 x7 v7 I m k7 A7 B7 H N20=>?_) (λv7 I m H=>?_))
 .exact bC H λxs8 h8 H=>wH [.y 34 (X1 .rd) A7,.p 39 eI h8] (Z2w [(39,.f)] [(5,za)] [36] (by kernel_rfl) (bC H λxs9 h9 H=>wH [.p 44 (X1 .nw) h9,.i 45 B7 q6.1] (wT (N20 _ H))))
 .exact bC H λxs10 h10 H=>wH [.p 51 eEnd h10] (sI H▸wO [(2,[])] [(18,some 18,0),(23,some 23,0),(28,some 28,0),(48,some 48,0)] [] [some 18,some 23,some 28,some 48] [zna xs2,zne xs3,znd xs4,znf xs5,zng v7,znh xs10])
noncomputable def J0N:L :=
 lf Tryz.prog V09 [41,42] [] [] [] [] [] []
def Q0M:List Rv:=[.t 8,.t 9,.t 10]
theorem X0Q:YQ Tryz.prog V09 4 J0N Q0M=true:=by kernel_rfl
def Zk(now2 depth4:Int)(x11:Job)(_:Nat)(v11:Room×tH×tH)(k11:(Room×tH×tH)->Option (tH×tH×Bool)):Option (tH×tH×Bool) :=
 (Vm v11.1 x11 now2).bind λy12=>bif (!y12.2.2)||(decide (now2<y12.1)&&decide (depth4<=(v11.2.2.length:Int)))then(k11 (v11.1,v11.2.1,v11.2.2))else((Qr v11.1 x11 y12.1 y12.2.1).bind λy13=>bif !y13.2 then(k11 (v11.1,v11.2.1,v11.2.2))else(bif y12.1==now2 then((appL 40 v11.2.1 [(Held.mk x11.id y12.1 y12.2.1)]).bind λxs14=>k11 (y13.1,xs14,v11.2.2))else((appL 40 v11.2.2 [(Held.mk x11.id y12.1 y12.2.1)]).bind λxs15=>k11 (y13.1,v11.2.1,xs15))))
def UH(v11:Room×tH×tH):Option (tH×tH×Bool) :=
 some (v11.2.1,v11.2.2,true)
def Jb(r1:Room)(now2:Int)(l3:tJ)(depth4:Int):Option (tH×tH×Bool) :=
 (Zx r1).bind λb5=>(bif !b5 then some default else(Yx l3)).bind λb6=>bif ((((!b5)||(!b6))||(!(Q3 now2)))||decide (depth4<0))||decide (60<depth4)then(some ([],[],false))else((O0f l3).bind λy9=>rgl (Zk now2 depth4) UH y9 0 (r1,[],[]))
set_option maxRecDepth 20000 in
theorem Y0a{r1:Room}{now2:Int}{l3:tJ}{depth4:Int}{r:tH×tH×Bool}(H:Jb r1 now2 l3 depth4=some r):ConD Tryz.prog V09 [Wd .nw r1,iV now2,zrf l3,iV depth4] [] [] (.tup [.sref 0,.sref 1,.bool r.2.2]) [] [] [(3,r.1.map (Zs .nw)),(3,r.2.1.map (Zs .nw))]:=by
 refine M0C [] X0Q rfl (by kernel_rfl) ?_
 unfold Jb at H
 obtain⟨b5,h5,b6,h6,H⟩:=bB2 H
 refine wH [.f 21 [zR r1] (YV h5),.d 25 [(_,false)] λq=>M05 (bF q.1 h6),.d 30 [(((!b5)||(!b6)),false)] λ_=>X9 now2] ?_
 refine X0 H ?_ ?_<;>intro H
 .refine wP ?_
  replace H:=sI H;subst H
  exact Jk [(8,.z 700000007),(9,.z 700000008),(10,.d)] [] [(700000007,none,3),(700000008,none,3)] [] [700000007,700000008] (by kernel_rfl)
 .obtain⟨y9,h9,H⟩:=bB H
  refine wG [.c 44 (O1A h9),.l 45 y9 eJob] λq10=>?_
  refine wR (λ(i11:Nat) (v11:Room×tH×tH)=>⟨[(1,iV now2),(3,iV depth4),pB 4,(11,.sref 41),(12,.sref 42),(44,zff y9)]++zl 45 y9 i11,[],[(4,(Wd .nw v11.1).cells)],[(41,⟨3,v11.2.1.map (Zs .nw),false⟩),(42,⟨3,v11.2.2.map (Zs .nw),false⟩)]⟩) H (λi11 x11 v11 I m k11 A11 B11 H N45=>?_) (λv11 I m H=>?_)
  .unfold Zk at H
   refine wP (wt (ltT B11) ?_)
   obtain⟨y12,h12,H⟩:=bB H
   refine wH [.y 48 eJob A11,.f 54 [zR v11.1,eJob x11,iV now2] (Y0n h12),.g 66 [((decide (now2<y12.1)),true),((!y12.2.2),false)] (.ln _ _ λ_=>lm v11.2.2 (Zs .nw))] ?_
   refine X0 H ?_ ?_<;>intro H
   .exact wH [.i 101 B11 q10.1] (wT (N45 _ H))
   .obtain⟨y13,h13,H⟩:=bB H
    refine wH [.f 76 [zR v11.1,eJob x11,iV y12.1,zra y12.2.1] (Y0t h13)] ?_
    refine X0 H ?_ ?_<;>intro H
    .exact wH [.i 101 B11 q10.1] (wT (N45 _ H))
    .refine wP ?_
     refine X0 H ?_ ?_<;>intro H
     .obtain⟨xs14,h14,H⟩:=bB H
      exact wH [.p 92 (Zs .nw) h14,.i 101 B11 q10.1] (wT (N45 _ H))
     .obtain⟨xs15,h15,H⟩:=bB H
      exact wH [.p 100 (Zs .nw) h15,.i 101 B11 q10.1] (wT (N45 _ H))
  .unfold UH at H
   refine wP (wf (ltF y9.length) ?_)
   refine wP ?_
   replace H:=sI H;subst H
   exact Jk [(8,.d),(9,.d),(10,.d)] [] [(41,some 41,0),(42,some 42,0)] [] [41,42] (by kernel_rfl)
def Q04(id2:Int)(x4:Job)(_:Nat)(v4:tJ)(k4:tJ->Option tJ):Option tJ :=
 bif x4.id != id2 then((appL 88 v4 [x4]).bind λxs5=>k4 xs5)else(k4 v4)
def U04(v4:tJ):Option tJ :=
 some v4
def Vw(l1:tJ)(id2:Int):Option tJ :=
 rgl (Q04 id2) U04 l1 0 []
theorem Y0c{l1:tJ}{id2:Int}{r:tJ}(H:Vw l1 id2=some r):SQ J0Q [zrf l1,iV id2] (zff r):=by
 refine wb [8] [.t 4] (wG [.l 10 l1 eJob] λq3=>wL (λ(i4:Nat) (v4:tJ)=>⟨[(1,iV id2),(5,.sref 8),(9,zrf l1)]++zl 10 l1 i4,[],[],[(8,zwf v4)]⟩) H (λi4 x4 v4 I m k4 A4 B4 H N19=>?_) (λv4 I m H=>?_))
 .refine wH [.y 13 eJob A4] (X0 H (λH=>?_) λH=>wH [.i 23 B4 q3.1] (wT (N19 _ H)))
  exact bC H λxs5 h5 H=>wH [.p 22 eJob h5,.i 23 B4 q3.1] (wT (N19 _ H))
 .exact sI H▸wP (wN [(4,.f)] [] [] [8] [] [znf v4])
def XY(x3:Run)(_:Nat)(v3:Int)(k3:Int->Option Int):Option Int :=
 bif decide (v3<0)||decide ((w64 (x3.t+x3.job.wall))<v3)then(k3 (w64 (x3.t+x3.job.wall)))else(k3 v3)
def J0l(v3:Int):Option Int :=
 some v3
def OI(s1:State):Option Int :=
 rgl XY J0l s1.runs 0 (-1)
theorem Z0s{s1:State}{r:Int}(H:OI s1=some r):SQ L0E [J1 .rd s1] (iV r):=by
 refine wa [.t 2] (wG [.l 8 s1.runs (X1 .rd)] λq2=>wL (λ(i3:Nat) (v3:Int)=>⟨[(3,iV v3),(7,zqg s1.runs)]++zl 8 s1.runs i3,[],[],[]⟩) H (λi3 x3 v3 I m k3 A3 B3 H N19=>?_) (λv3 I m H=>?_))
 .exact wH [.y 11 (X1 .rd) A3] (X0 H (λH=>wH [.i 31 B3 q2.1] (wT (N19 _ H))) λH=>wH [.i 31 B3 q2.1] (wT (N19 _ H)))
 .exact sI H▸wV
noncomputable def J0i:L :=
 lf Tryz.prog Y8 [] [(25,2)] [] [] [] [] [14]
def Z0i:List Rv:=[.c 2 11 true]
theorem Y0k:YQ Tryz.prog Y8 1 J0i Z0i=true:=by kernel_rfl
def Je(s1:State)(x5:Held)(_:Nat)(v5:tJ×tR)(k5:(tJ×tR)->Option State):Option State :=
 (Ui v5.1 x5.id).bind λy6=>(Vw v5.1 x5.id).bind λy7=>(appL 120 v5.2 [(Run.mk y6.1 s1.now x5.nodes)]).bind λxs8=>k5 (y7,xs8)
def UI(s1:State)(v5:tJ×tR):Option State :=
 some (State.mk s1.topo s1.up s1.lic s1.depth s1.now v5.1 v5.2 s1.ends)
def Z4(s1:State):Option State :=
 (Yg s1).bind λy2=>(Jb y2.1 s1.now s1.queue s1.depth).bind λy3=>rgl (Je s1) (UI s1) y3.1 0 (s1.queue,s1.runs)
set_option maxRecDepth 20000 in
theorem Oh{s1 r:State}(H:Z4 s1=some r):ConD Tryz.prog Y8 [.agg (zs s1 (.sref 0) (.sref 1) (.sref 2) (.sref 3))] [] [(1,s1.up.map eBo),(11,s1.queue.map eJob),(13,s1.runs.map (X1 .nw)),(3,s1.ends.map eEnd)] (.agg (zs r (.sref 4) (zff r.queue) (.sref 5) (.sref 6))) [] [none,none,none,none] [(1,r.up.map eBo),(13,r.runs.map (X1 .nw)),(3,r.ends.map eEnd)]:=by
 refine M0C [false,false,false,false] Y0k rfl (by kernel_rfl) ?_
 unfold Z4 at H
 obtain⟨y2,h2,H⟩:=bB H
 refine wH [.f 14 [zX s1] (XV h2)] ?_
 refine Z2w [(0,.l z6),(13,.l z6)] [(1,z6)] [500000001] (by kernel_rfl) ?_
 obtain⟨y3,h3,H⟩:=bB H
 refine wG [.u 25 (.cw V09 [] [] [] [] [Wd .nw y2.1,iV s1.now,zff s1.queue,iV s1.depth] _ _ _ _ _ (GEs.of [true,false,false,false] (by simp)) (by simp) (by simp) (by simp) (λ_=>Y0a h3)),.l 30 y3.1 (Zs .nw)] λq4=>?_
 refine wR (λ(i5:Nat) (v5:tJ×tR)=>⟨[pB 1,pB 2,(29,.sref 26000)]++zl 30 y3.1 i5,[],[(1,(zs s1 (.sref 500000000) (zff v5.1) (.sref 500000002) (.sref 500000003))),(2,z2)],[(500000000,zwd s1.up),(500000002,zwg v5.2),(500000003,zwh s1.ends),(26000,⟨3,y3.1.map (Zs .nw),false⟩)]⟩) H (λi5 x5 v5 I m k5 A5 B5 H N20=>?_) (λv5 I m H=>?_)
 .unfold Je at H
  refine wP (wt (ltT B5) ?_)
  obtain⟨y6,h6,y7,h7,xs8,h8,H⟩:=bB3 H
  exact wH [.y 33 (Zs .nw) A5,.u 34 (.el _ _ _ λ_=>gm (Zs .nw) (V4 (O0 A5))),.c 40 (Uw h6),.c 47 (Y0c h7),.p 58 (X1 .nw) h8,.i 60 B5 q4.1] (wT (N20 _ H))
 .unfold UI at H
  refine wP (wf (ltF y3.1.length) ?_)
  refine wP ?_
  replace H:=sI H;subst H
  exact Jk [(2,.d)] [(2,[])] [(500000000,some 500000000,0),(500000002,some 500000002,0),(500000003,some 500000003,0)] [] [500000000,500000002,500000003] (by kernel_rfl)
noncomputable def Z0j:L :=
 lf Tryz.prog Y8 [] [(25,2)] [] [] [] [] []
def Y0i:List Rv:=[.c 2 11 true]
theorem X0k:YQ Tryz.prog Y8 1 Z0j Y0i=true:=by kernel_rfl
def WI(s1:State)(x9:Held)(_:Nat)(v9:tJ×tR)(k9:(tJ×tR)->Option State):Option State :=
 (Ui v9.1 x9.id).bind λy10=>(Vw v9.1 x9.id).bind λy11=>(appL 120 v9.2 [(Run.mk y10.1 s1.now x9.nodes)]).bind λxs12=>k9 (y11,xs12)
def QI(s1:State)(v9:tJ×tR):Option State :=
 some (State.mk s1.topo s1.up s1.lic s1.depth s1.now v9.1 v9.2 s1.ends)
def Oc(s1:State):Option State :=
 (Yg s1).bind λy2=>(Jb y2.1 s1.now s1.queue s1.depth).bind λy3=>rgl (WI s1) (QI s1) y3.1 0 (s1.queue,s1.runs)
set_option maxRecDepth 20000 in
theorem OK{s1 r:State}(H:Oc s1=some r):ConD Tryz.prog Y8 [.agg (zs s1 (.sref 0) (zff s1.queue) (.sref 1) (.sref 2))] [] [(1,s1.up.map eBo),(13,s1.runs.map (X1 .nw)),(3,s1.ends.map eEnd)] (.agg (zs r (.sref 3) (zff r.queue) (.sref 4) (.sref 5))) [] [none,none,none] [(1,r.up.map eBo),(13,r.runs.map (X1 .nw)),(3,r.ends.map eEnd)]:=by
 refine M0C [false,false,false] X0k rfl (by kernel_rfl) ?_
 unfold Oc at H
 obtain⟨y2,h2,y3,h3,H⟩:=bB2 H
 refine wG [.f 14 [zX s1] (XV h2),.u 25 (.cw V09 [] [] [] [] [Wd .nw y2.1,iV s1.now,zff s1.queue,iV s1.depth] _ _ _ _ _ (GEs.of [true,false,false,false] (by simp)) (by simp) (by simp) (by simp) (λ_=>Y0a h3)),.l 30 y3.1 (Zs .nw)] λq4=>?_
 refine wR (λ(i9:Nat) (v9:tJ×tR)=>⟨[pB 1,pB 2,(29,.sref 26000)]++zl 30 y3.1 i9,[],[(1,(zs s1 (.sref 500000000) (zff v9.1) (.sref 500000001) (.sref 500000002))),(2,z2)],[(500000000,zwd s1.up),(500000001,zwg v9.2),(500000002,zwh s1.ends),(26000,⟨3,y3.1.map (Zs .nw),false⟩)]⟩) H (λi9 x9 v9 I m k9 A9 B9 H N20=>?_) (λv9 I m H=>?_)
 .unfold WI at H
  refine wP (wt (ltT B9) ?_)
  obtain⟨y10,h10,y11,h11,xs12,h12,H⟩:=bB3 H
  exact wH [.y 33 (Zs .nw) A9,.u 34 (.el _ _ _ λ_=>gm (Zs .nw) (V4 (O0 A9))),.c 40 (Uw h10),.c 47 (Y0c h11),.p 58 (X1 .nw) h12,.i 60 B9 q4.1] (wT (N20 _ H))
 .unfold QI at H
  refine wP (wf (ltF y3.1.length) ?_)
  refine wP ?_
  replace H:=sI H;subst H
  exact Jk [(2,.d)] [(2,[])] [(500000000,some 500000000,0),(500000001,some 500000001,0),(500000002,some 500000002,0)] [] [500000000,500000001,500000002] (by kernel_rfl)
noncomputable def L1E:L :=
 lf Tryz.prog O11 [40] [(26,1),(79,2)] [] [] [] [] []
def ZV(v14:State×Int)(x16:Run)(_:Nat)(v16:tE×tR)(k16:(tE×tR)->Option (State×Bool)):Option (State×Bool) :=
 bif (w64 (x16.t+x16.job.wall))==v14.2 then((appL 24 v16.1 [(End.mk x16.job.id v14.2 1)]).bind λxs17=>k16 (xs17,v16.2))else((appL 120 v16.2 [x16]).bind λxs18=>k16 (v16.1,xs18))
def O0c(v14:State×Int)(k14:(State×Int)->Option (State×Bool))(v16:tE×tR):Option (State×Bool) :=
 bif decide (300<(v16.1.length:Int))then(some ((State.mk (Topo.mk [] []) [] (Vec.mk 0 0 0) 0 0 [] [] []),false))else((Oc (State.mk v14.1.topo v14.1.up v14.1.lic v14.1.depth v14.2 v14.1.queue v16.2 v16.1)).bind λy20=>(OI y20).bind λn21=>k14 (y20,n21))
def UD(t2:Int)(v14:State×Int)(k14:(State×Int)->Option (State×Bool)):Option (State×Bool) :=
 bif decide (0<=v14.2)&&decide (v14.2<=t2)then(rgl (ZV v14) (O0c v14 k14) v14.1.runs 0 (v14.1.ends,[]))else(some ((State.mk v14.1.topo v14.1.up v14.1.lic v14.1.depth t2 v14.1.queue v14.1.runs v14.1.ends),true))
def Q0f(s1:State)(t2:Int):Option (State×Bool) :=
 (Lc s1).bind λb3=>bif ((!b3)||(!(Q3 t2)))||decide (t2<s1.now)then(some ((State.mk (Topo.mk [] []) [] (Vec.mk 0 0 0) 0 0 [] [] []),false))else((Vi s1).bind λy4=>(OI y4).bind λn5=>whl (UD t2) 9223372036854775807 (y4,n5))
theorem W1A{s1:State}{t2:Int}{r:State×Bool}(H:Q0f s1 t2=some r):SQ O11 [J1 .rd s1,iV t2] (.tup [J1 .nw r.1,.bool r.2]):=by
 refine wS L1E [.c 4 11 true,.t 5] (bC H λb3 h3 H=>wH [.c 11 (Xe h3),.d 15 [((!b3),false)] λ_=>X9 t2] ?_)
 refine X0 H (λH=>sI H▸wQ [(4,z0)] z1) λH=>bC2 H λy4 h4 n5 h5 H=>wH [.c 26 (Wo h4),.f 28 [zX y4] (Z0s h5)] (Z1z (λ(v14:State×Int)=>⟨[(1,iV t2),pB 2,pB 4,(6,iV v14.2)],[],[(2,(zs v14.1 (.sref 27000) (zff v14.1.queue) (.sref 27002) (.sref 27003))),(4,z2)],[(27000,zwd v14.1.up),(27002,zwg v14.1.runs),(27003,zwh v14.1.ends)]⟩) [] [(2,z6)] [] [27001] (by kernel_rfl) (by kernel_rfl) H (λv14 I m k14 H N55=>?_))
 refine wP (X0 H (λH=>?_) λH=>sI H▸wY [(4,z5)] [] [27000,27002,27003] [] [zna v14.1.topo.parents,zne v14.1.topo.nodes,znd v14.1.up,znf v14.1.queue,zng v14.1.runs,znh v14.1.ends])
 refine wG [.l 43 v14.1.runs (X1 .nw)] λq15=>wL (λ(i16:Nat) (v16:tE×tR)=>⟨[(1,iV t2),pB 2,pB 4,(6,iV v14.2),(7,.sref 40),(42,.sref 27002)]++zl 43 v14.1.runs i16,[],[(2,[zfa v14.1.topo.parents,zfe v14.1.topo.nodes,.sref 27000,iV v14.1.lic.a,iV v14.1.lic.b,iV v14.1.lic.c,iV v14.1.depth,iV v14.2,zff v14.1.queue,.sref 27002,.sref 27003]),(4,z2)],[(27000,zwd v14.1.up),(27002,zwg v14.1.runs),(27003,zwh v16.1),(40,zwg v16.2)]⟩) H (λi16 x16 v16 I m k16 A16 B16 H N34=>?_) (λv16 I m H=>?_)
 .refine wH [.y 46 (X1 .nw) A16,.u 47 (.el _ _ _ λ_=>gm (X1 .nw) (V4 (O0 A16)))] ?_
  refine X0 H ?_ ?_<;>intro H
  .exact bC H λxs17 h17 H=>wH [.p 64 eEnd h17,.i 70 B16 q15.1] (wT (N34 _ H))
  .exact bC H λxs18 h18 H=>wH [.p 69 (X1 .nw) h18,.i 70 B16 q15.1] (wT (N34 _ H))
 .exact wG [.l 75 v16.1 eEnd] λq19=>X0 H (λH=>sI H▸wQ [(4,z0)] z1) λH=>bC2 H λy20 h20 n21 h21 H=>wH [.u 79 (.cw Y8 [] [27000,40,27003] [] [(1,v14.1.up.map eBo),(13,v16.2.map (X1 .nw)),(3,v16.1.map eEnd)] [.agg [zfa v14.1.topo.parents,zfe v14.1.topo.nodes,.sref 0,iV v14.1.lic.a,iV v14.1.lic.b,iV v14.1.lic.c,iV v14.1.depth,iV v14.2,zff v14.1.queue,.sref 1,.sref 2]] _ _ _ _ _ (GEs.of [true] (by simp)) (by simp) (by simp) (by simp) (λ_=>have k:=OK h20;k)),.f 37 [zX y20] (Z0s h21)] (wU (N55 _ H) [] [] [(27000,(some 80000,0)),(27002,(some 80001,0)),(27003,(some 80002,0))] [])
def LQ(_:Bool)(i5:Nat)(v5:tB)(k5:tB->Option Bool):Option Bool :=
 (idx v5 (i5:Int)).bind λ_=>k5 (v5.set (i5:Int).toNat true)
def MQ(j2:Job)(y3:Room×Bool)(v5:tB):Option Bool :=
 (Vm (Room.mk y3.1.topo v5 y3.1.profs y3.1.lics) j2 0).bind λy7=>some (y3.2&&y7.2.2)
def JK(s1:State)(j2:Job):Option Bool :=
 (Vs s1).bind λy3=>rgl LQ (MQ j2 y3) y3.1.up 0 y3.1.up
theorem V13{s1:State}{j2:Job}{r:Bool}(H:JK s1 j2=some r):SQ Z0y [J1 .rd s1,eJob j2] (.bool r):=by
 refine wd [(13,1)] [.t 4] ?_
 obtain⟨y3,h3,H⟩:=bB H
 refine wG [.c 13 (Z0m h3),.l 18 y3.1.up eBo] λq4=>?_
 refine wL (λ(i5:Nat) (v5:tB)=>⟨[pB 3,pB 5,(6,.bool y3.2)]++zl 18 y3.1.up i5,[],[(3,(eJob j2).cells),(5,[zfa y3.1.topo.parents,zfe y3.1.topo.nodes,.sref 14000,zfj y3.1.profs,zfi y3.1.lics])],[(14000,zwd v5)]⟩) H (λi5 x5 v5 I m k5 A5 B5 H N15=>?_) (λv5 I m H=>?_)
 .obtain⟨e6,h6,H⟩:=bB H
  exact wH [.x 25 eBo h6,.u 1000000 (.sto _ _ _ (eBo true) _ (λ_=>gm eBo (V4 h6)) (λ_=>YS ..)),.i 26 B5 q4.1] (wT (N15 _ H))
 .obtain⟨y7,h7,H⟩:=bB H
  refine wH [.f 30 [.agg [zra y3.1.topo.parents,zre y3.1.topo.nodes,zrd v5,zrj y3.1.profs,zri y3.1.lics],eJob j2,iV 0] (Y0n h7)] ?_
  exact sI H▸wD
def X05(s1:State)(j2:Job):Option (State×Int) :=
 (Lc s1).bind λb3=>bif (!b3)||(!(Y1 j2))then(some ((State.mk (Topo.mk [] []) [] (Vec.mk 0 0 0) 0 0 [] [] []),1))else((Vr s1).bind λy4=>(Ui y4 j2.id).bind λy5=>bif y5.2 then(some ((State.mk (Topo.mk [] []) [] (Vec.mk 0 0 0) 0 0 [] [] []),2))else(bif decide (60<=(y4.length:Int))then(some ((State.mk (Topo.mk [] []) [] (Vec.mk 0 0 0) 0 0 [] [] []),3))else((JK s1 j2).bind λb7=>bif !b7 then(some ((State.mk (Topo.mk [] []) [] (Vec.mk 0 0 0) 0 0 [] [] []),4))else((Vi s1).bind λy8=>(appL 88 y8.queue [j2]).bind λxs9=>(Z4 (State.mk y8.topo y8.up y8.lic y8.depth y8.now xs9 y8.runs y8.ends)).bind λy10=>some (y10,0)))))
theorem Z1o{s1:State}{j2:Job}{r:State×Int}(H:X05 s1 j2=some r):SQ V0R [J1 .rd s1,eJob j2] (.tup [J1 .nw r.1,iV r.2]):=by
 refine wd [(39,1),(47,2)] [.c 4 11 true,.t 5] ?_
 obtain⟨b3,h3,H⟩:=bB H
 refine wH [.c 10 (Xe h3),.d 14 [((!b3),false)] λ_=>OM j2] ?_
 refine X0 H (λH=>sI H▸wQ [(4,z0)] z1) λH=>?_
 obtain⟨y4,h4,y5,h5,H⟩:=bB2 H
 refine wH [.c 19 (W04 h4),.c 24 (Uw h5)] ?_
 refine X0 H (λH=>sI H▸wQ [(4,z0)] z1) λH=>?_
 refine wG [.l 30 y4 eJob] λq6=>?_
 refine X0 H (λH=>sI H▸wQ [(4,z0)] z1) λH=>?_
 obtain⟨b7,h7,H⟩:=bB H
 refine wH [.c 35 (V13 h7)] ?_
 refine X0 H (λH=>sI H▸wQ [(4,z0)] z1) λH=>?_
 obtain⟨y8,h8,xs9,h9,y10,h10,H⟩:=bB3 H
 refine wH [.c 39 (Wo h8),.p 44 eJob h9,.u 47 (.cw Y8 [] [40000,40001,40002,40003] [] [(1,y8.up.map eBo),(11,xs9.map eJob),(13,y8.runs.map (X1 .nw)),(3,y8.ends.map eEnd)] [.agg (zs y8 (.sref 0) (.sref 1) (.sref 2) (.sref 3))] _ _ _ _ _ (GEs.of [true] (by simp)) (by simp) (by simp) (by simp) (λ_=>have k:=Oh h10;k))] ?_
 exact sI H▸wO [(4,z5)] [] [48000,48001,48002] [] [zna y10.topo.parents,zne y10.topo.nodes,znd y10.up,znf y10.queue,zng y10.runs,znh y10.ends]
noncomputable def Z0r:L :=
 lf Tryz.prog Qj [12] [] [] [] [] [] []
def U0q:List Rv:=[.c 8 11 true]
theorem Q0r:YQ Tryz.prog Qj 4 Z0r U0q=true:=by kernel_rfl
def LK(s1:State)(why2 id3 node4:Int)(x10:Run)(_:Nat)(v10:tE×tR)(k10:(tE×tR)->Option State):Option State :=
 (bif x10.job.id==id3 then some default else(Xd x10.nodes node4)).bind λb11=>bif (x10.job.id==id3)||b11 then((appL 24 v10.1 [(End.mk x10.job.id s1.now why2)]).bind λxs12=>k10 (xs12,v10.2))else((appL 120 v10.2 [x10]).bind λxs13=>k10 (v10.1,xs13))
def MK(s1:State)(v10:tE×tR):Option State :=
 some (State.mk s1.topo s1.up s1.lic s1.depth s1.now s1.queue v10.2 v10.1)
def Jj(s1:State)(why2 id3 node4:Int):Option State :=
 rgl (LK s1 why2 id3 node4) (MK s1) s1.runs 0 (s1.ends,[])
set_option maxRecDepth 20000 in
theorem Z0q{s1:State}{why2 id3 node4:Int}{r:State}(H:Jj s1 why2 id3 node4=some r):ConD Tryz.prog Qj [.agg (zs s1 (.sref 0) (zff s1.queue) (.sref 1) (.sref 2)),iV why2,iV id3,iV node4] [] [(1,s1.up.map eBo),(13,s1.runs.map (X1 .nw)),(3,s1.ends.map eEnd)] (.agg (zs r (.sref 3) (zff r.queue) (.sref 4) (.sref 5))) [] [none,none,none] [(1,r.up.map eBo),(13,r.runs.map (X1 .nw)),(3,r.ends.map eEnd)]:=by
 refine M0C [false,false,false] Q0r rfl (by kernel_rfl) ?_
 unfold Jj at H
 refine wG [.l 15 s1.runs (X1 .nw)] λq5=>?_
 refine wR (λ(i10:Nat) (v10:tE×tR)=>⟨[(1,iV why2),(2,iV id3),(3,iV node4),pB 4,pB 8,(9,.sref 12),(14,.sref 500000001)]++zl 15 s1.runs i10,[],[(4,(zs s1 (.sref 500000000) (zff s1.queue) (.sref 500000001) (.sref 500000002))),(8,z2)],[(500000000,zwd s1.up),(500000001,zwg s1.runs),(500000002,zwh v10.1),(12,zwg v10.2)]⟩) H (λi10 x10 v10 I m k10 A10 B10 H N19=>?_) (λv10 I m H=>?_)
 .unfold LK at H
  refine wP (wt (ltT B10) ?_)
  obtain⟨b11,h11,H⟩:=bB H
  refine wH [.y 18 (X1 .nw) A10,.u 19 (.el _ _ _ λ_=>gm (X1 .nw) (V4 (O0 A10))),.d 29 [(_,false)] λq=>Qi (bF q.1 h11)] ?_
  refine X0 H ?_ ?_<;>intro H
  .obtain⟨xs12,h12,H⟩:=bB H
   exact wH [.p 41 eEnd h12,.i 47 B10 q5.1] (wT (N19 _ H))
  .obtain⟨xs13,h13,H⟩:=bB H
   exact wH [.p 46 (X1 .nw) h13,.i 47 B10 q5.1] (wT (N19 _ H))
 .unfold MK at H
  refine wP (wf (ltF s1.runs.length) ?_)
  refine wP ?_
  replace H:=sI H;subst H
  exact Jk [(8,.d)] [(8,[])] [(500000000,some 500000000,0),(12,some 12,0),(500000002,some 500000002,0)] [] [500000000,12,500000002] (by kernel_rfl)
noncomputable def X1r:L :=
 lf Tryz.prog Z0S [] [(54,1),(74,2),(76,2)] [] [] [] [] [511]
def Up(id2 why3:Int)(y9:State)(v12:tJ×tE):Option (State×Int) :=
 (Jj (State.mk y9.topo y9.up y9.lic y9.depth y9.now v12.1 y9.runs v12.2) why3 id2 (-1)).bind λy13=>(Oc y13).bind λy14=>some (y14,0)
def LR(s1:State)(id2 why3:Int):Option (State×Int) :=
 (Lc s1).bind λb4=>bif (!b4)||((why3 != 2)&&(why3 != 3))then(some ((State.mk (Topo.mk [] []) [] (Vec.mk 0 0 0) 0 0 [] [] []),1))else((Ui s1.queue id2).bind λy5=>(Vr s1).bind λy6=>(Ui y6 id2).bind λy7=>bif (!y7.2)||(y5.2&&(why3==2))then(some ((State.mk (Topo.mk [] []) [] (Vec.mk 0 0 0) 0 0 [] [] []),5))else(bif decide (300<=(s1.ends.length:Int))then(some ((State.mk (Topo.mk [] []) [] (Vec.mk 0 0 0) 0 0 [] [] []),6))else((Vi s1).bind λy9=>bif y5.2 then((Vw y9.queue id2).bind λy10=>(appL 24 y9.ends [(End.mk id2 y9.now why3)]).bind λxs11=>(Up id2 why3 y9) (y10,xs11))else((Up id2 why3 y9) (y9.queue,y9.ends)))))
theorem X0D{s1:State}{id2 why3:Int}{r:State×Int}(H:LR s1 id2 why3=some r):SQ Z0S [J1 .rd s1,iV id2,iV why3] (.tup [J1 .nw r.1,iV r.2]):=by
 refine wS X1r [.c 6 11 true,.t 7] ?_
 obtain⟨b4,h4,H⟩:=bB H
 refine wH [.c 13 (Xe h4)] ?_
 refine X0 H (λH=>sI H▸wQ [(6,z0)] z1) λH=>?_
 obtain⟨y5,h5,y6,h6,y7,h7,H⟩:=bB3 H
 refine wH [.c 28 (Uw h5),.c 33 (W04 h6),.c 35 (Uw h7)] ?_
 refine X0 H (λH=>sI H▸wQ [(6,z0)] z1) λH=>?_
 refine wG [.l 50 s1.ends eEnd] λq8=>?_
 refine X0 H (λH=>sI H▸wQ [(6,z0)] z1) λH=>?_
 obtain⟨y9,h9,H⟩:=bB H
 refine wH [.c 54 (Wo h9)] ?_
 refine Xi (r:=r) (Up id2 why3 y9) 0 (λv12:tJ×tE=>⟨[(1,.int .i64 id2),(2,.int .i64 why3),pB 3,pB 6],[],[(3,[.sl .nw 1 (y9.topo.parents.map eI),.sl .nw 4 (y9.topo.nodes.map Q1),.sref 55000,.int .i64 y9.lic.a,.int .i64 y9.lic.b,.int .i64 y9.lic.c,.int .i64 y9.depth,.int .i64 y9.now,.sl .nw 11 (v12.1.map eJob),.sref 55002,.sref 55003]),(6,z8)],[(55000,zwd y9.up),(55002,zwg y9.runs),(55003,zwh v12.2)]⟩) (by kernel_rfl) (λv12 H=>?_) (λJ36=>?_)
 .obtain⟨y13,h13,y14,h14,H⟩:=bB2 H
  refine wH [.u 74 (.cw Qj [] [55000,55002,55003] [] [(1,y9.up.map eBo),(13,y9.runs.map (X1 .nw)),(3,v12.2.map eEnd)] [.agg (zs y9 (.sref 0) (zff v12.1) (.sref 1) (.sref 2)),iV why3,iV id2,iV (-1)] _ _ _ _ _ (GEs.of [true,false,false,false] (by simp)) (by simp) (by simp) (by simp) (λ_=>have k:=Z0q h13;k)),.u 76 (.cw Y8 [] [75000,75001,75002] [] [(1,y13.up.map eBo),(13,y13.runs.map (X1 .nw)),(3,y13.ends.map eEnd)] [.agg (zs y13 (.sref 0) (zff y13.queue) (.sref 1) (.sref 2))] _ _ _ _ _ (GEs.of [true] (by simp)) (by simp) (by simp) (by simp) (λ_=>OK h14))] ?_
  exact sI H▸wO [(6,z5)] [] [77000,77001,77002] [] [zna y14.topo.parents,zne y14.topo.nodes,znd y14.up,znf y14.queue,zng y14.runs,znh y14.ends]
 .refine X0 H ?_ ?_<;>intro H
  .obtain⟨y10,h10,xs11,h11,H⟩:=bB2 H
   exact wH [.c 59 (Y0c h10),.p 69 eEnd h11] (wT (J36 _ H))
  .refine wP ?_
   exact wU (J36 _ H) [] [(3,z6)] [] [55001]
def OU(s1:State)(n2:Int):Option Bool :=
 some (decide (0<=n2)&&decide (n2<(s1.topo.nodes.length:Int)))
theorem V0U{s1:State}{n2:Int}{r:Bool}(H:OU s1 n2=some r):SQ V0e [J1 .rd s1,iV n2] (.bool r):=by
 exact wa [.t 4] (wH [.g 12 [((decide (0<=n2)),true)] (.ln _ _ λ_=>lm s1.topo.nodes Q1)] (sI H▸wD))
def Ye(s1:State)(n2:Int):Bool :=
 (decide (0<=n2)&&decide (n2<(s1.topo.nodes.length:Int)))
theorem U1n(s1:State)(n2:Int):OU s1 n2=some (Ye s1 n2):=by
 unfold OU Ye
 first|rfl|simp only[U4]
theorem J0r(s1:State)(n2:Int):Snd Tryz.prog V0e [J1 .rd s1,iV n2] (.bool (Ye s1 n2)) []:=V0U (U1n s1 n2)
noncomputable def J0q:L :=
 lf Tryz.prog Qj [12] [] [] [] [] [] []
def V0q:List Rv:=[.c 8 11 true]
theorem U0r:YQ Tryz.prog Qj 4 J0q V0q=true:=by kernel_rfl
def Qs(s1:State)(why2 id3 node4:Int)(x6:Run)(_:Nat)(v6:tE×tR)(k6:(tE×tR)->Option State):Option State :=
 (bif x6.job.id==id3 then some default else(Xd x6.nodes node4)).bind λb7=>bif (x6.job.id==id3)||b7 then((appL 24 v6.1 [(End.mk x6.job.id s1.now why2)]).bind λxs8=>k6 (xs8,v6.2))else((appL 120 v6.2 [x6]).bind λxs9=>k6 (v6.1,xs9))
def Us(s1:State)(v6:tE×tR):Option State :=
 some (State.mk s1.topo s1.up s1.lic s1.depth s1.now s1.queue v6.2 v6.1)
def Oa(s1:State)(why2 id3 node4:Int):Option State :=
 rgl (Qs s1 why2 id3 node4) (Us s1) s1.runs 0 (s1.ends,[])
set_option maxRecDepth 20000 in
theorem J0p{s1:State}{why2 id3 node4:Int}{r:State}(H:Oa s1 why2 id3 node4=some r):ConD Tryz.prog Qj [.agg (zs s1 (.sref 0) (.sref 1) (.sref 2) (.sref 3)),iV why2,iV id3,iV node4] [] [(1,s1.up.map eBo),(11,s1.queue.map eJob),(13,s1.runs.map (X1 .nw)),(3,s1.ends.map eEnd)] (.agg (zs r (.sref 4) (.sref 5) (.sref 6) (.sref 7))) [] [none,none,none,none] [(1,r.up.map eBo),(11,r.queue.map eJob),(13,r.runs.map (X1 .nw)),(3,r.ends.map eEnd)]:=by
 refine M0C [false,false,false,false] U0r rfl (by kernel_rfl) ?_
 unfold Oa at H
 refine wG [.l 15 s1.runs (X1 .nw)] λq5=>?_
 refine wR (λ(i6:Nat) (v6:tE×tR)=>⟨[(1,iV why2),(2,iV id3),(3,iV node4),pB 4,pB 8,(9,.sref 12),(14,.sref 500000002)]++zl 15 s1.runs i6,[],[(4,(zs s1 (.sref 500000000) (.sref 500000001) (.sref 500000002) (.sref 500000003))),(8,z2)],[(500000000,zwd s1.up),(500000001,zwf s1.queue),(500000002,zwg s1.runs),(500000003,zwh v6.1),(12,zwg v6.2)]⟩) H (λi6 x6 v6 I m k6 A6 B6 H N19=>?_) (λv6 I m H=>?_)
 .unfold Qs at H
  refine wP (wt (ltT B6) ?_)
  obtain⟨b7,h7,H⟩:=bB H
  refine wH [.y 18 (X1 .nw) A6,.u 19 (.el _ _ _ λ_=>gm (X1 .nw) (V4 (O0 A6))),.d 29 [(_,false)] λq=>Qi (bF q.1 h7)] ?_
  refine X0 H ?_ ?_<;>intro H
  .obtain⟨xs8,h8,H⟩:=bB H
   exact wH [.p 41 eEnd h8,.i 47 B6 q5.1] (wT (N19 _ H))
  .obtain⟨xs9,h9,H⟩:=bB H
   exact wH [.p 46 (X1 .nw) h9,.i 47 B6 q5.1] (wT (N19 _ H))
 .unfold Us at H
  refine wP (wf (ltF s1.runs.length) ?_)
  refine wP ?_
  replace H:=sI H;subst H
  exact Jk [(8,.d)] [(8,[])] [(500000000,some 500000000,0),(500000001,some 500000001,0),(12,some 12,0),(500000003,some 500000003,0)] [] [500000000,500000001,12,500000003] (by kernel_rfl)
def O02(n2:Int)(x7:Run)(_:Nat)(v7:tJ)(k7:tJ->Option (State×Int)):Option (State×Int) :=
 (Xd x7.nodes n2).bind λb8=>bif b8 then((appL 88 v7 [x7.job]).bind λxs9=>k7 xs9)else(k7 v7)
def L0h(n2:Int)(y5:State)(v7:tJ):Option (State×Int) :=
 (Oa (State.mk y5.topo y5.up y5.lic y5.depth y5.now v7 y5.runs y5.ends) 4 0 n2).bind λy10=>bif decide (300<(y10.ends.length:Int))then(some ((State.mk (Topo.mk [] []) [] (Vec.mk 0 0 0) 0 0 [] [] []),6))else((idx y10.up n2).bind λ_=>(Z4 (State.mk y10.topo (y10.up.set n2.toNat false) y10.lic y10.depth y10.now y10.queue y10.runs y10.ends)).bind λy13=>some (y13,0))
def O0t(s1:State)(n2:Int):Option (State×Int) :=
 (Lc s1).bind λb3=>bif !b3 then(some ((State.mk (Topo.mk [] []) [] (Vec.mk 0 0 0) 0 0 [] [] []),1))else((bif !(Ye s1 n2)then some default else(idx s1.up n2)).bind λe4=>bif (!(Ye s1 n2))||(!e4)then(some ((State.mk (Topo.mk [] []) [] (Vec.mk 0 0 0) 0 0 [] [] []),7))else((Vi s1).bind λy5=>rgl (O02 n2) (L0h n2 y5) y5.runs 0 y5.queue))
theorem O1K{s1:State}{n2:Int}{r:State×Int}(H:O0t s1 n2=some r):SQ L1m [J1 .rd s1,iV n2] (.tup [J1 .nw r.1,iV r.2]):=by
 refine wd [(26,1),(48,2),(59,2)] [.c 4 11 true,.t 5] ?_
 obtain⟨b3,h3,H⟩:=bB H
 refine wH [.c 9 (Xe h3)] ?_
 refine X0 H (λH=>sI H▸wQ [(4,z0)] z1) λH=>?_
 obtain⟨e4,h4,H⟩:=bB H
 refine wH [.c 14 (J0r s1 n2),.g 20 [(_,false)] (.ix _ _ _ λq=>Y0 eBo (bF q.1 h4))] ?_
 refine X0 H (λH=>sI H▸wQ [(4,z0)] z1) λH=>?_
 obtain⟨y5,h5,H⟩:=bB H
 refine wG [.c 26 (Wo h5),.l 29 y5.runs (X1 .nw)] λq6=>?_
 refine wL (λ(i7:Nat) (v7:tJ)=>⟨[(1,iV n2),pB 2,pB 4,(28,.sref 27002)]++zl 29 y5.runs i7,[],[(2,(zs y5 (.sref 27000) (.sref 27001) (.sref 27002) (.sref 27003))),(4,z2)],[(27000,zwd y5.up),(27001,zwf v7),(27002,zwg y5.runs),(27003,zwh y5.ends)]⟩) H (λi7 x7 v7 I m k7 A7 B7 H N33=>?_) (λv7 I m H=>?_)
 .obtain⟨b8,h8,H⟩:=bB H
  refine wH [.y 32 (X1 .nw) A7,.u 33 (.el _ _ _ λ_=>gm (X1 .nw) (V4 (O0 A7))),.c 37 (Qi h8)] ?_
  refine X0 H (λH=>?_) λH=>wH [.i 45 B7 q6.1] (wT (N33 _ H))
  obtain⟨xs9,h9,H⟩:=bB H
  exact wH [.p 43 eJob h9,.i 45 B7 q6.1] (wT (N33 _ H))
 .obtain⟨y10,h10,H⟩:=bB H
  refine wG [.u 48 (.cw Qj [] [27000,27001,27002,27003] [] [(1,y5.up.map eBo),(11,v7.map eJob),(13,y5.runs.map (X1 .nw)),(3,y5.ends.map eEnd)] [.agg (zs y5 (.sref 0) (.sref 1) (.sref 2) (.sref 3)),iV 4,iV 0,iV n2] _ _ _ _ _ (GEs.of [true,false,false,false] (by simp)) (by simp) (by simp) (by simp) (λ_=>have k:=J0p h10;k)),.l 51 y10.ends eEnd] λq11=>?_
  refine X0 H (λH=>sI H▸wQ [(4,z0)] z1) λH=>?_
  obtain⟨e12,h12,y13,h13,H⟩:=bB2 H
  refine wH [.x 57 eBo h12,.u 1000000 (.sto _ _ _ (eBo false) _ (λ_=>gm eBo (V4 h12)) (λ_=>YS ..)),.u 59 (.cw Y8 [] [49000,49001,49002,49003] [] [(1,(y10.up.set n2.toNat false).map eBo),(11,y10.queue.map eJob),(13,y10.runs.map (X1 .nw)),(3,y10.ends.map eEnd)] [.agg (zs y10 (.sref 0) (.sref 1) (.sref 2) (.sref 3))] _ _ _ _ _ (GEs.of [true] (by simp)) (by simp) (by simp[-List.map_set]) (by simp) (λ_=>have k:=Oh h13;k))] ?_
  exact sI H▸wO [(4,z5)] [] [60000,60001,60002] [] [zna y13.topo.parents,zne y13.topo.nodes,znd y13.up,znf y13.queue,zng y13.runs,znh y13.ends]
def U05(s1:State)(n2:Int):Option (State×Int) :=
 (Lc s1).bind λb3=>bif !b3 then(some ((State.mk (Topo.mk [] []) [] (Vec.mk 0 0 0) 0 0 [] [] []),1))else((bif !(Ye s1 n2)then some default else(idx s1.up n2)).bind λe4=>bif (!(Ye s1 n2))||e4 then(some ((State.mk (Topo.mk [] []) [] (Vec.mk 0 0 0) 0 0 [] [] []),8))else((Vi s1).bind λy5=>(idx y5.up n2).bind λ_=>(Z4 (State.mk y5.topo (y5.up.set n2.toNat true) y5.lic y5.depth y5.now y5.queue y5.runs y5.ends)).bind λy7=>some (y7,0)))
theorem Y1o{s1:State}{n2:Int}{r:State×Int}(H:U05 s1 n2=some r):SQ W0R [J1 .rd s1,iV n2] (.tup [J1 .nw r.1,iV r.2]):=by
 refine wd [(23,1),(29,2)] [.c 4 11 true,.t 5] ?_
 obtain⟨b3,h3,H⟩:=bB H
 refine wH [.c 7 (Xe h3)] ?_
 refine X0 H (λH=>sI H▸wQ [(4,z0)] z1) λH=>?_
 obtain⟨e4,h4,H⟩:=bB H
 refine wH [.c 12 (J0r s1 n2),.g 18 [(_,false)] (.ix _ _ _ λq=>Y0 eBo (bF q.1 h4))] ?_
 refine X0 H (λH=>sI H▸wQ [(4,z0)] z1) λH=>?_
 obtain⟨y5,h5,e6,h6,y7,h7,H⟩:=bB3 H
 refine wH [.c 23 (Wo h5),.x 27 eBo h6,.u 1000000 (.sto _ _ _ (eBo true) _ (λ_=>gm eBo (V4 h6)) (λ_=>YS ..)),.u 29 (.cw Y8 [] [24000,24001,24002,24003] [] [(1,(y5.up.set n2.toNat true).map eBo),(11,y5.queue.map eJob),(13,y5.runs.map (X1 .nw)),(3,y5.ends.map eEnd)] [.agg (zs y5 (.sref 0) (.sref 1) (.sref 2) (.sref 3))] _ _ _ _ _ (GEs.of [true] (by simp)) (by simp) (by simp[-List.map_set]) (by simp) (λ_=>have k:=Oh h7;k))] ?_
 exact sI H▸wO [(4,z5)] [] [30000,30001,30002] [] [zna y7.topo.parents,zne y7.topo.nodes,znd y7.up,znf y7.queue,zng y7.runs,znh y7.ends]
def Q05(s1:State)(lic2:Vec):Option (State×Int) :=
 (Lc s1).bind λb3=>bif (!b3)||(!(U0 lic2))then(some ((State.mk (Topo.mk [] []) [] (Vec.mk 0 0 0) 0 0 [] [] []),1))else((Vi s1).bind λy4=>(Yg (State.mk y4.topo y4.up lic2 y4.depth y4.now y4.queue y4.runs y4.ends)).bind λy5=>bif !y5.2 then(some ((State.mk (Topo.mk [] []) [] (Vec.mk 0 0 0) 0 0 [] [] []),9))else((Z4 (State.mk y4.topo y4.up lic2 y4.depth y4.now y4.queue y4.runs y4.ends)).bind λy6=>some (y6,0)))
theorem X1o{s1:State}{lic2:Vec}{r:State×Int}(H:Q05 s1 lic2=some r):SQ O0R [J1 .rd s1,eVec lic2] (.tup [J1 .nw r.1,iV r.2]):=by
 refine wd [(18,1),(30,2)] [.c 4 11 true,.t 5] ?_
 obtain⟨b3,h3,H⟩:=bB H
 refine wH [.c 9 (Xe h3),.d 13 [((!b3),false)] λ_=>X6 lic2] ?_
 refine X0 H (λH=>sI H▸wQ [(4,z0)] z1) λH=>?_
 obtain⟨y4,h4,y5,h5,H⟩:=bB2 H
 refine wH [.c 18 (Wo h4),.f 23 [.agg [zra y4.topo.parents,zre y4.topo.nodes,zrd y4.up,iV lic2.a,iV lic2.b,iV lic2.c,iV y4.depth,iV y4.now,zrf y4.queue,zrg y4.runs,zrh y4.ends]] (XV h5)] ?_
 refine X0 H (λH=>sI H▸wQ [(4,z0)] z1) λH=>?_
 obtain⟨y6,h6,H⟩:=bB H
 refine wH [.u 30 (.cw Y8 [] [19000,19001,19002,19003] [] [(1,y4.up.map eBo),(11,y4.queue.map eJob),(13,y4.runs.map (X1 .nw)),(3,y4.ends.map eEnd)] [.agg [zfa y4.topo.parents,zfe y4.topo.nodes,.sref 0,iV lic2.a,iV lic2.b,iV lic2.c,iV y4.depth,iV y4.now,.sref 1,.sref 2,.sref 3]] _ _ _ _ _ (GEs.of [true] (by simp)) (by simp) (by simp) (by simp) (λ_=>have k:=Oh h6;k))] ?_
 exact sI H▸wO [(4,z5)] [] [31000,31001,31002] [] [zna y6.topo.parents,zne y6.topo.nodes,znd y6.up,znf y6.queue,zng y6.runs,znh y6.ends]
def Wv(x6:Run)(_:Nat)(v6:tR)(k6:tR->Option State):Option State :=
 (Lm x6.nodes).bind λy7=>(appL 120 v6 [(Run.mk x6.job x6.t y7)]).bind λxs8=>k6 xs8
def JN(s1:State)(y2:Topo)(xs3:tB)(xs4:tJ)(v6:tR):Option State :=
 (appL 24 ([]:tE) s1.ends).bind λxs9=>some (State.mk y2 xs3 s1.lic s1.depth s1.now xs4 v6 xs9)
def X8(s1:State):Option State :=
 (Mm s1.topo).bind λy2=>(appL 1 ([]:tB) s1.up).bind λxs3=>(appL 88 ([]:tJ) s1.queue).bind λxs4=>rgl Wv (JN s1 y2 xs3 xs4) s1.runs 0 []
theorem Ja{s1 r:State}(H:X8 s1=some r):SP Y0p [J1 .rd s1] (.agg (zs r (.sref 0) (.sref 1) (.sref 2) (.sref 3))) [zwd r.up,zwf r.queue,zwg r.runs,zwh r.ends]:=by
 refine wa [.c 2 11 true] (bC3 H λy2 h2 xs3 h3 xs4 h4 H=>wG [.c 8 (Z00 h2),.p 12 eBo h3,.p 16 eJob h4,.l 20 s1.runs (X1 .rd)] λq5=>M01 (λ(i6:Nat) (v6:tR)=>⟨[pB 1,pB 2,(3,.sref 515002),(19,zqg s1.runs)]++zl 20 s1.runs i6,[],[(1,[zfa y2.parents,zfe y2.nodes,.sref 12,iV s1.lic.a,iV s1.lic.b,iV s1.lic.c,iV s1.depth,iV s1.now,.sref 16,zqg s1.runs,zrh s1.ends]),(2,z2)],[(12,zwd xs3),(16,zwf xs4),(515002,zwg v6)]⟩) [(3,.z 515002)] [] [(515002,(none,13))] [] (by kernel_rfl) (by kernel_rfl) H (λi6 x6 v6 I m k6 A6 B6 H N20=>?_) (λv6 I m H=>?_))
 .refine wP (wt (ltT B6) ?_)
  exact bC2 H λy7 h7 xs8 h8 H=>wH [.y 23 (X1 .rd) A6,.c 27 (W0n h7),.p 32 (X1 .nw) h8,.i 33 B6 q5.1] (wT (N20 _ H))
 .refine wP (wf (ltF s1.runs.length) ?_)
  exact bC H λxs9 h9 H=>wH [.p 38 eEnd h9] (sI H▸wO [(2,[])] [(12,some 12,0),(16,some 16,0),(515002,some 515002,0),(38,some 38,0)] [] [some 12,some 16,some 515002,some 38] [zna y2.parents,zne y2.nodes,znd xs3,znf xs4,zng v6,znh xs9])
def U0d(x7:Node)(_:Nat)(v7:(List tP))(k7:(List tP)->Option Room):Option Room :=
 (appL 24 v7 [(Jr x7.cap).1]).bind λxs8=>k7 xs8
def V0d(lic3:Vec)(y4:Topo)(xs5:tB)(v7:(List tP)):Option Room :=
 some (Room.mk y4 xs5 v7 ((Jr lic3).1))
def WS(t1:Topo)(up2:tB)(lic3:Vec):Option Room :=
 (Mm t1).bind λy4=>(appL 1 ([]:tB) up2).bind λxs5=>rgl U0d (V0d lic3 y4 xs5) t1.nodes 0 []
theorem L0O{t1:Topo}{up2:tB}{lic3:Vec}{r:Room}(H:WS t1 up2 lic3=some r):SQ O12 [Y7 .rd t1,zrd up2,eVec lic3] (Wd .nw r):=by
 refine wa [.c 6 5 true] (bC2 H λy4 h4 xs5 h5 H=>wG [.c 13 (Z00 h4),.p 15 eBo h5,.l 19 t1.nodes Q1] λq6=>M01 (λ(i7:Nat) (v7:(List tP))=>⟨[pB 5,pB 6,pB 7,(18,zre t1.nodes)]++zl 19 t1.nodes i7,[],[(5,(eVec lic3).cells),(6,z4),(7,[zfa y4.parents,zfe y4.nodes,.sref 15,.sref 190001,.nl])],[(15,zwd xs5),(190001,zwj v7)]⟩) [] [(7,[.d,.d,.d,.z 190001,.d])] [(190001,(none,1))] [] (by kernel_rfl) (by kernel_rfl) H (λi7 x7 v7 I m k7 A7 B7 H N17=>?_) (λv7 I m H=>?_))
 .refine wP (wt (ltT B7) ?_)
  exact bC H λxs8 h8 H=>wH [.y 22 Q1 A7,.c 27 (V0w x7.cap),.p 34 (O2 .nw) h8,.i 36 B7 q6.1] (wT (N17 _ H))
 .refine wP (wf (ltF t1.nodes.length) ?_)
  exact wH [.c 39 (V0w lic3)] (sI H▸wO [(6,[.d,.d,.f,.f,.d])] [] [15,190001] [] [zna y4.parents,zne y4.nodes,znd xs5,znj v7,zni ((Jr lic3).1)])
def VP(s1:State)(x5:Run)(_:Nat)(v5:Room)(k5:Room->Option (Room×Bool)):Option (Room×Bool) :=
 bif ((!(Yb x5.job))||(!(Z0 x5.t 0 s1.now)))||(!(Z0 (w64 (x5.t+x5.job.wall)) (w64 (s1.now+1)) 1000000000))then(some ((Room.mk (Topo.mk [] []) [] [] []),false))else((Z9 v5 x5.job s1.now (w64 (x5.t+x5.job.wall)) x5.nodes).bind λy6=>bif !y6.2 then(some ((Room.mk (Topo.mk [] []) [] [] []),false))else(k5 y6.1))
def L0v(v5:Room):Option (Room×Bool) :=
 some (v5,true)
def MH(s1:State):Option (Room×Bool) :=
 (Jn s1.topo).bind λb2=>bif (((!b2)||((s1.up.length:Int)!=(s1.topo.nodes.length:Int)))||(!(Z2 s1.lic)))||(!(J6 s1.now))then(some ((Room.mk (Topo.mk [] []) [] [] []),false))else((WS s1.topo s1.up s1.lic).bind λy3=>rgl (VP s1) L0v s1.runs 0 y3)
theorem M0d{s1:State}{r:Room×Bool}(H:MH s1=some r):SQ Y0T [J1 .rd s1] (.tup [Wd .nw r.1,.bool r.2]):=by
 refine wa [.c 2 5 true,.t 3] ?_
 obtain⟨b2,h2,H⟩:=bB H
 refine wH [.c 11 (UE h2),.g 16 [((!b2),false)] (.ln _ _ λ_=>lm s1.up eBo),.g 20 [((!b2),false)] (.ln _ _ λ_=>lm s1.topo.nodes Q1),.d 26 [(((!b2)||((s1.up.length:Int)!=(s1.topo.nodes.length:Int))),false)] λ_=>V6 s1.lic,.d 32 [((((!b2)||((s1.up.length:Int)!=(s1.topo.nodes.length:Int)))||(!(Z2 s1.lic))),false)] λ_=>Ze s1.now] ?_
 refine X0 H (λH=>sI H▸wQ [(2,z3)] [zna [],zne [],znd [],znj ([]:List tP),zni []]) λH=>?_
 obtain⟨y3,h3,H⟩:=bB H
 refine wG [.c 42 (L0O h3),.l 45 s1.runs (X1 .rd)] λq4=>?_
 refine wL (λ(i5:Nat) (v5:Room)=>⟨[pB 1,pB 2,pB 4,(44,zqg s1.runs)]++zl 45 s1.runs i5,[],[(1,(J1 .rd s1).cells),(2,z4),(4,(Wd .nw v5).cells)],[]⟩) H (λi5 x5 v5 I m k5 A5 B5 H N40=>?_) (λv5 I m H=>?_)
 .refine wH [.y 48 (X1 .rd) A5,.c 52 (VC x5.job),.d 59 [((!(Yb x5.job)),false)] λ_=>V1 x5.t 0 s1.now,.d 72 [(((!(Yb x5.job))||(!(Z0 x5.t 0 s1.now))),false)] λ_=>V1 (w64 (x5.t+x5.job.wall)) (w64 (s1.now+1)) 1000000000] ?_
  refine X0 H (λH=>sI H▸wQ [(2,z3)] [zna [],zne [],znd [],znj ([]:List tP),zni []]) λH=>?_
  obtain⟨y6,h6,H⟩:=bB H
  refine wH [.f 90 [zR v5,eJob x5.job,iV s1.now,iV (w64 (x5.t+x5.job.wall)),zra x5.nodes,.fn Qz []] (Vy h6)] ?_
  refine X0 H (λH=>sI H▸wQ [(2,z3)] [zna [],zne [],znd [],znj ([]:List tP),zni []]) λH=>?_
  exact wH [.i 97 B5 q4.1] (wT (N40 _ H))
 .exact sI H▸wQ [(2,[])] [zna v5.topo.parents,zne v5.topo.nodes,znd v5.up,znj v5.profs,zni v5.lics]
def J0a(x4:Run)(_:Nat)(v4:tJ)(k4:tJ->Option tJ):Option tJ :=
 (appL 88 v4 [x4.job]).bind λxs5=>k4 xs5
def L0a(v4:tJ):Option tJ :=
 some v4
def QE(s1:State):Option tJ :=
 (appL 88 ([]:tJ) s1.queue).bind λxs2=>rgl J0a L0a s1.runs 0 xs2
theorem O0g{s1:State}{r:tJ}(H:QE s1=some r):SQ V0p [J1 .rd s1] (zff r):=by
 refine wb [6] [.t 2] (bC H λxs2 h2 H=>wG [.p 9 eJob h2,.l 12 s1.runs (X1 .rd)] λq3=>wL (λ(i4:Nat) (v4:tJ)=>⟨[(3,.sref 6),(11,zqg s1.runs)]++zl 12 s1.runs i4,[],[],[(6,zwf v4)]⟩) H (λi4 x4 v4 I m k4 A4 B4 H N15=>?_) (λv4 I m H=>?_))
 .exact bC H λxs5 h5 H=>wH [.y 15 (X1 .rd) A4,.p 21 eJob h5,.i 22 B4 q3.1] (wT (N15 _ H))
 .exact sI H▸wP (wN [(2,.f)] [] [] [6] [] [znf v4])
def M00(s1:State)(x8:Int)(_:Nat)(_:Unit)(k8:Unit->Option Bool):Option Bool :=
 (idx s1.up x8).bind λe9=>bif !e9 then(some false)else(k8 ())
def O00(s1:State)(x6:Run)(k6:Unit->Option Bool)(_:Unit):Option Bool :=
 (Zq x6.nodes).bind λb10=>(bif !b10 then some default else(LT s1.topo x6.nodes)).bind λn11=>(bif !b10 then some default else(QJ s1.topo n11)).bind λn12=>bif (!b10)||decide (x6.job.level<n12)then(some false)else(k6 ())
def ZH(s1:State)(x14:End)(_:Nat)(_:Unit)(k14:Unit->Option Bool):Option Bool :=
 bif ((!(Z0 x14.id 1 999))||(!(Z0 x14.t 0 s1.now)))||(!(Z0 x14.why 1 4))then(some false)else(k14 ())
def Q00(_:Unit):Option Bool :=
 some true
def YH(s1:State)(x6:Run)(_:Nat)(_:Unit)(k6:Unit->Option Bool):Option Bool :=
 rgl (M00 s1) (O00 s1 x6 k6) x6.nodes 0 ()
def W00(s1:State)(_:Unit):Option Bool :=
 rgl (ZH s1) Q00 s1.ends 0 ()
def Zb(s1:State):Option Bool :=
 (MH s1).bind λy2=>(bif (!y2.2)||(!(Z0 s1.depth 0 60))then some default else(QE s1)).bind λy3=>(bif (!y2.2)||(!(Z0 s1.depth 0 60))then some default else(MJ y3)).bind λb4=>bif (((!y2.2)||(!(Z0 s1.depth 0 60)))||(!b4))||decide (300<(s1.ends.length:Int))then(some false)else(rgl (YH s1) (W00 s1) s1.runs 0 ())
theorem Qc{s1:State}{r:Bool}(H:Zb s1=some r):SQ J0H [J1 .rd s1] (.bool r):=by
 refine wc [(13,18)] [.t 2] (bC3 H λy2 h2 y3 h3 b4 h4 H=>wH [.c 13 (M0d h2),.d 21 [((!y2.2),false)] λ_=>V1 s1.depth 0 60,.d 26 [(_,false)] λq=>O0g (bF q.1 h3),.d 27 [(_,false)] λq=>J0v (bF q.1 h4),.g 33 [((((!y2.2)||(!(Z0 s1.depth 0 60)))||(!b4)),false)] (.ln _ _ λ_=>lm s1.ends eEnd)] (X0 H (λH=>sI H▸wV) λH=>wG [.l 38 s1.runs (X1 .rd)] λq5=>wL (λ(i6:Nat) (v6:Unit)=>⟨[pB 1,(37,zqg s1.runs)]++zl 38 s1.runs i6,[],[(1,(J1 .rd s1).cells)],[]⟩) H (λi6 x6 v6 I m k6 A6 B6 H N52=>?_) (λv6 I m H=>?_)))
 .refine wG [.y 41 (X1 .rd) A6,.l 45 x6.nodes eI] λq7=>wL (λ(i8:Nat) (v8:Unit)=>⟨[pB 1,pB 6,(37,zqg s1.runs),(38,iV (s1.runs.length:Int)),(39,iV (i6:Int)),(44,zra x6.nodes)]++zl 45 x6.nodes i8,[],[(1,(J1 .rd s1).cells),(6,(X1 .rd x6).cells)],[]⟩) H (λi8 x8 v8 I m k8 A8 B8 H N35=>?_) (λv8 I m H=>?_)
  .exact bC H λe9 h9 H=>wH [.y 48 eI A8,.x 53 eBo h9] (X0 H (λH=>sI H▸wV) λH=>wH [.i 56 B8 q7.1] (wT (N35 () H)))
  .exact bC3 H λb10 h10 n11 h11 n12 h12 H=>wH [.c 59 (U0C h10),.d 68 [(_,false)] λq=>Y1v (bF q.1 h11),.d 69 [(_,false)] λq=>Z03 (bF q.1 h12)] (X0 H (λH=>sI H▸wV) λH=>wH [.i 75 B6 q5.1] (wT (N52 () H)))
 .refine wG [.l 78 s1.ends eEnd] λq13=>wL (λ(i14:Nat) (v14:Unit)=>⟨[pB 1,(77,zrh s1.ends)]++zl 78 s1.ends i14,[],[(1,(J1 .rd s1).cells)],[]⟩) H (λi14 x14 v14 I m k14 A14 B14 H N74=>?_) (λv14 I m H=>?_)
  .exact wH [.y 81 eEnd A14,.c 85 (V1 x14.id 1 999),.d 92 [((!(Z0 x14.id 1 999)),false)] λ_=>V1 x14.t 0 s1.now,.d 98 [(((!(Z0 x14.id 1 999))||(!(Z0 x14.t 0 s1.now))),false)] λ_=>V1 x14.why 1 4] (X0 H (λH=>sI H▸wV) λH=>wH [.i 101 B14 q13.1] (wT (N74 () H)))
  .exact sI H▸wV
noncomputable def V0O:L :=
 lf Tryz.prog O0l [39,40] [] [] [] [] [] []
def O0M:List Rv:=[.t 8,.t 9,.t 10]
theorem U0Q:YQ Tryz.prog O0l 4 V0O O0M=true:=by kernel_rfl
def YI(now2 depth4:Int)(x11:Job)(_:Nat)(v11:Room×tH×tH)(k11:(Room×tH×tH)->Option (tH×tH×Bool)):Option (tH×tH×Bool) :=
 (Xn v11.1 x11 now2).bind λy12=>bif (!y12.2.2)||(decide (now2<y12.1)&&decide (depth4<=(v11.2.2.length:Int)))then(k11 (v11.1,v11.2.1,v11.2.2))else((LX v11.1 x11 y12.1 y12.2.1).bind λy13=>bif !y13.2 then(k11 (v11.1,v11.2.1,v11.2.2))else(bif y12.1==now2 then((appL 40 v11.2.1 [(Held.mk x11.id y12.1 y12.2.1)]).bind λxs14=>k11 (y13.1,xs14,v11.2.2))else((appL 40 v11.2.2 [(Held.mk x11.id y12.1 y12.2.1)]).bind λxs15=>k11 (y13.1,v11.2.1,xs15))))
def O08(v11:Room×tH×tH):Option (tH×tH×Bool) :=
 some (v11.2.1,v11.2.2,true)
def Xq(r1:Room)(now2:Int)(l3:tJ)(depth4:Int):Option (tH×tH×Bool) :=
 (OH r1).bind λb5=>(bif !b5 then some default else(MJ l3)).bind λb6=>bif (((!b5)||(!b6))||(!(J6 now2)))||(!(Z0 depth4 0 60))then(some ([],[],false))else((X0g l3).bind λy9=>rgl (YI now2 depth4) O08 y9 0 (r1,[],[]))
set_option maxRecDepth 20000 in
theorem V0P{r1:Room}{now2:Int}{l3:tJ}{depth4:Int}{r:tH×tH×Bool}(H:Xq r1 now2 l3 depth4=some r):ConD Tryz.prog O0l [Wd .nw r1,iV now2,zrf l3,iV depth4] [] [] (.tup [.sref 0,.sref 1,.bool r.2.2]) [] [] [(3,r.1.map (Zs .nw)),(3,r.2.1.map (Zs .nw))]:=by
 refine M0C [] U0Q rfl (by kernel_rfl) ?_
 unfold Xq at H
 obtain⟨b5,h5,b6,h6,H⟩:=bB2 H
 refine wH [.f 22 [zR r1] (W0d h5),.d 26 [(_,false)] λq=>J0v (bF q.1 h6),.d 31 [(((!b5)||(!b6)),false)] λ_=>Ze now2,.d 36 [((((!b5)||(!b6))||(!(J6 now2))),false)] λ_=>V1 depth4 0 60] ?_
 refine X0 H ?_ ?_<;>intro H
 .refine wP ?_
  replace H:=sI H;subst H
  exact Jk [(8,.z 700000007),(9,.z 700000008),(10,.d)] [] [(700000007,none,3),(700000008,none,3)] [] [700000007,700000008] (by kernel_rfl)
 .obtain⟨y9,h9,H⟩:=bB H
  refine wG [.c 42 (Y1H h9),.l 43 y9 eJob] λq10=>?_
  refine wR (λ(i11:Nat) (v11:Room×tH×tH)=>⟨[(1,iV now2),(3,iV depth4),pB 4,(11,.sref 39),(12,.sref 40),(42,zff y9)]++zl 43 y9 i11,[],[(4,(Wd .nw v11.1).cells)],[(39,⟨3,v11.2.1.map (Zs .nw),false⟩),(40,⟨3,v11.2.2.map (Zs .nw),false⟩)]⟩) H (λi11 x11 v11 I m k11 A11 B11 H N46=>?_) (λv11 I m H=>?_)
  .unfold YI at H
   refine wP (wt (ltT B11) ?_)
   obtain⟨y12,h12,H⟩:=bB H
   refine wH [.y 46 eJob A11,.f 52 [zR v11.1,eJob x11,iV now2] (Z0o h12),.g 64 [((decide (now2<y12.1)),true),((!y12.2.2),false)] (.ln _ _ λ_=>lm v11.2.2 (Zs .nw))] ?_
   refine X0 H ?_ ?_<;>intro H
   .exact wH [.i 96 B11 q10.1] (wT (N46 _ H))
   .obtain⟨y13,h13,H⟩:=bB H
    refine wH [.f 74 [zR v11.1,eJob x11,iV y12.1,zra y12.2.1] (W1k h13)] ?_
    refine X0 H ?_ ?_<;>intro H
    .exact wH [.i 96 B11 q10.1] (wT (N46 _ H))
    .refine wP ?_
     refine X0 H ?_ ?_<;>intro H
     .obtain⟨xs14,h14,H⟩:=bB H
      exact wH [.p 91 (Zs .nw) h14,.i 96 B11 q10.1] (wT (N46 _ H))
     .obtain⟨xs15,h15,H⟩:=bB H
      exact wH [.p 95 (Zs .nw) h15,.i 96 B11 q10.1] (wT (N46 _ H))
  .unfold O08 at H
   refine wP (wf (ltF y9.length) ?_)
   refine wP ?_
   replace H:=sI H;subst H
   exact Jk [(8,.d),(9,.d),(10,.d)] [] [(39,some 39,0),(40,some 40,0)] [] [39,40] (by kernel_rfl)
noncomputable def X1i:L :=
 lf Tryz.prog Y0H [] [(25,2),(30,1),(62,2)] [] [] [(8,13)] [] []
def MG(s1:State)(x6:Held)(_:Nat)(v6:tJ×tR)(k6:(tJ×tR)->Option State):Option State :=
 (Ou v6.1 x6.id).bind λn7=>(idx v6.1 n7).bind λe8=>(appL 120 v6.2 [(Run.mk e8 s1.now x6.nodes)]).bind λxs9=>(O0K v6.1 n7 (w64 (n7+1))).bind λxs10=>k6 (xs10,xs9)
def V0n(y4:State)(v6:tJ×tR):Option State :=
 some (State.mk y4.topo y4.up y4.lic y4.depth y4.now v6.1 v6.2 y4.ends)
def Jc(s1:State):Option State :=
 (MH s1).bind λy2=>(Xq y2.1 s1.now s1.queue s1.depth).bind λy3=>(X8 s1).bind λy4=>rgl (MG s1) (V0n y4) y3.1 0 (y4.queue,y4.runs)
theorem Lp{s1 r:State}(H:Jc s1=some r):SP Y0H [J1 .rd s1] (.agg (zs r (zfd r.up) (zff r.queue) (zfg r.runs) (.sref 0))) [zwh r.ends]:=by
 refine wS X1i [.c 2 11 true] (bC3 H λy2 h2 y3 h3 y4 h4 H=>wG [.c 14 (M0d h2),.u 25 (.cw O0l [] [] [] [] [Wd .nw y2.1,iV s1.now,zrf s1.queue,iV s1.depth] _ _ _ _ _ (GEs.of [true,false,false,false] (by simp)) (by simp) (by simp) (by simp) (λ_=>V0P h3)),.c 30 (Ja h4),.l 32 y3.1 (Zs .nw)] λq5=>wL (λ(i6:Nat) (v6:tJ×tR)=>⟨[pB 1,pB 2,pB 8,(31,.sref 26000)]++zl 32 y3.1 i6,[],[(1,(J1 .rd s1).cells),(2,z2),(8,(zs y4 (.sref 31000) (.sref 31001) (.sref 31002) (.sref 31003)))],[(31000,zwd y4.up),(31001,zwf v6.1),(31002,zwg v6.2),(31003,zwh y4.ends),(26000,⟨3,y3.1.map (Zs .nw),false⟩)]⟩) H (λi6 x6 v6 I m k6 A6 B6 H N21=>?_) (λv6 I m H=>?_))
 .exact bC3 H λn7 h7 e8 h8 xs9 h9 H=>bC H λxs10 h10 H=>wH [.y 35 (Zs .nw) A6,.u 36 (.el _ _ _ λ_=>gm (Zs .nw) (V4 (O0 A6))),.c 41 (U0j h7),.x 47 eJob h8,.u 48 (.el _ _ _ λ_=>gm eJob (V4 h8)),.p 55 (X1 .nw) h9,.u 62 (.cr Wc 11 _ [iV n7,iV (w64 (n7+1))] _ true _ (λ_=>by simp) (λ_=>by simp) (λ_=>rfl) (λ_=>Q1y h10)),.i 64 B6 q5.1] (wU (N21 _ H) [] [] [(31001,(some 63000,0))] [])
 .exact sI H▸wY [(2,zb)] [(31003,some 31003,0)] [31000,31001,31002] [some 31003] [zna y4.topo.parents,zne y4.topo.nodes,znd y4.up,znf v6.1,zng v6.2,znh y4.ends]
def JZ(x3:Run)(_:Nat)(v3:Int)(k3:Int->Option Int):Option Int :=
 bif decide (v3<0)||decide ((w64 (x3.t+x3.job.wall))<v3)then(k3 (w64 (x3.t+x3.job.wall)))else(k3 v3)
def U0n(v3:Int):Option Int :=
 some v3
def OX(s1:State):Option Int :=
 rgl JZ U0n s1.runs 0 (-1)
theorem Z1k{s1:State}{r:Int}(H:OX s1=some r):SQ V0H [J1 .rd s1] (iV r):=by
 refine wa [.t 2] (wG [.l 9 s1.runs (X1 .rd)] λq2=>wL (λ(i3:Nat) (v3:Int)=>⟨[(3,iV v3),(8,zqg s1.runs)]++zl 9 s1.runs i3,[],[],[]⟩) H (λi3 x3 v3 I m k3 A3 B3 H N21=>?_) (λv3 I m H=>?_))
 .exact wH [.y 12 (X1 .rd) A3] (X0 H (λH=>wH [.i 28 B3 q2.1] (wT (N21 _ H))) λH=>wH [.i 28 B3 q2.1] (wT (N21 _ H)))
 .exact sI H▸wV
def OW(x1:Run)(x2:Int):Option Bool :=
 some ((w64 (x1.t+x1.job.wall))==x2)
theorem L0Y{x1:Run}{x2:Int}{r:Bool}(H:OW x1 x2=some r):SQ Yv [X1 .rd x1,.ept (.agg [iV x2]) 0] (.bool r):=by
 exact wa [.t 3] (sI H▸wV)
def MX(x1:Run)(x2:Int):Bool :=
 ((w64 (x1.t+x1.job.wall))==x2)
theorem W1u(x1:Run)(x2:Int):OW x1 x2=some (MX x1 x2):=by
 unfold OW MX
 first|rfl|simp only[U4]
theorem V1k(x1:Run)(x2:Int):Snd Tryz.prog Yv [X1 .rd x1,.ept (.agg [iV x2]) 0] (.bool (MX x1 x2)) []:=L0Y (W1u x1 x2)
noncomputable def Xy:L :=
 lf Tryz.prog Q5 [11] [] [] [] [] [(9,[],[],[0,2,4,6,10,12,14,16,18,20,22,24,26,28,9,31],16)] []
def Wx:List Rv:=[.t 6]
theorem Vz:YQ Tryz.prog Q5 3 Xy Wx=true:=by kernel_rfl
def J3(s1:State)(why2 c3:Int)(x5:Run)(_:Nat)(v5:tE×tJ×tR)(k5:(tE×tJ×tR)->Option (tJ×State)):Option (tJ×State) :=
 bif !(MX x5 c3)then((appL 120 v5.2.2 [x5]).bind λxs6=>k5 (v5.1,v5.2.1,xs6))else((appL 88 v5.2.1 [x5.job]).bind λxs7=>(appL 24 v5.1 [(End.mk x5.job.id s1.now why2)]).bind λxs8=>k5 (xs8,xs7,v5.2.2))
def L5(s1:State)(v5:tE×tJ×tR):Option (tJ×State) :=
 some (v5.2.1,(State.mk s1.topo s1.up s1.lic s1.depth s1.now s1.queue v5.2.2 v5.1))
def X7(s1:State)(why2 c3:Int):Option (tJ×State) :=
 rgl (J3 s1 why2 c3) (L5 s1) s1.runs 0 (s1.ends,[],[])
set_option maxRecDepth 20000 in
theorem Zz{s1:State}{why2 c3:Int}{r:tJ×State}(H:X7 s1 why2 c3=some r):ConD Tryz.prog Q5 [.ptr 0 0,iV why2,.fn Yv [.ept (.agg [iV c3]) 0]] [(zs s1 (zfd s1.up) (zff s1.queue) (zfg s1.runs) (.sref 0))] [(3,s1.ends.map eEnd)] (.sref 1) [(zs r.2 (zfd r.2.up) (zff r.2.queue) (.sref 2) (.sref 3))] [none] [(11,r.1.map eJob),(13,r.2.runs.map (X1 .nw)),(3,r.2.ends.map eEnd)]:=by
 refine M0C [false] Vz rfl (by kernel_rfl) ?_
 unfold X7 at H
 refine wG [.l 16 s1.runs (X1 .nw)] λq4=>?_
 refine M01 (λ(i5:Nat) (v5:tE×tJ×tR)=>⟨[(0,.ptr 2000000000 0),(1,iV why2),(2,.fn Yv [.ept (.agg [iV c3]) 0]),(7,.sref 11),(8,.sref 228002),(15,zfg s1.runs)]++zl 16 s1.runs i5,[],[(2000000000,(zs s1 (zfd s1.up) (zff s1.queue) (zfg s1.runs) (.sref 500000000)))],[(500000000,zwh v5.1),(11,zwf v5.2.1),(228002,zwg v5.2.2)]⟩) [(8,.z 228002)] [] [(228002,(none,13))] [] (by kernel_rfl) (by kernel_rfl) H (λi5 x5 v5 I m k5 A5 B5 H N26=>?_) (λv5 I m H=>?_)
 .unfold J3 at H
  refine wP (wt (ltT B5) ?_)
  refine wH [.y 19 (X1 .nw) A5,.u 23 (.clsr _ _ _ _ _ (AEs.refl _) (by kernel_rfl) (λ_=>V1k x5 c3))] ?_
  refine X0 H ?_ ?_<;>intro H
  .obtain⟨xs6,h6,H⟩:=bB H
   exact wH [.p 28 (X1 .nw) h6,.i 52 B5 q4.1] (wT (N26 _ H))
  .obtain⟨xs7,h7,xs8,h8,H⟩:=bB2 H
   exact wH [.p 33 eJob h7,.p 49 eEnd h8,.i 52 B5 q4.1] (wT (N26 _ H))
 .unfold L5 at H
  refine wP (wf (ltF s1.runs.length) ?_)
  refine wP ?_
  replace H:=sI H;subst H
  exact Jk [(6,.d)] [(2000000000,[])] [(11,some 11,0),(228002,some 228002,0),(500000000,some 500000000,0)] [] [11,228002,500000000] (by kernel_rfl)
def Mu(t2:Int)(v10:State)(k10:State->Option (State×Bool)):Option (State×Bool) :=
 (OX v10).bind λn11=>bif decide (n11<0)||decide (t2<n11)then(some ((State.mk v10.topo v10.up v10.lic v10.depth t2 v10.queue v10.runs v10.ends),true))else((X7 (State.mk v10.topo v10.up v10.lic v10.depth n11 v10.queue v10.runs v10.ends) 1 n11).bind λy12=>bif decide (300<(y12.2.ends.length:Int))then(some ((State.mk (Topo.mk [] []) [] (Vec.mk 0 0 0) 0 0 [] [] []),false))else((Jc y12.2).bind λy14=>k10 y14))
def UT(s1:State)(t2:Int):Option (State×Bool) :=
 (Zb s1).bind λb3=>bif (!b3)||(!(Z0 t2 s1.now 1000000000))then(some ((State.mk (Topo.mk [] []) [] (Vec.mk 0 0 0) 0 0 [] [] []),false))else((X8 s1).bind λy4=>whl (Mu t2) 9223372036854775807 y4)
theorem O1H{s1:State}{t2:Int}{r:State×Bool}(H:UT s1 t2=some r):SQ J12 [J1 .rd s1,iV t2] (.tup [J1 .nw r.1,.bool r.2]):=by
 refine wd [(19,1),(32,2),(39,1)] [.c 4 11 true,.t 5] ?_
 obtain⟨b3,h3,H⟩:=bB H
 refine wH [.c 8 (Qc h3),.d 14 [((!b3),false)] λ_=>V1 t2 s1.now 1000000000] ?_
 refine X0 H (λH=>sI H▸wQ [(4,z0)] z1) λH=>?_
 obtain⟨y4,h4,H⟩:=bB H
 refine wH [.c 19 (Ja h4)] ?_
 refine Z1z (λ(v10:State)=>⟨[(1,iV t2),pB 2,pB 4],[],[(2,(zs v10 (zfd v10.up) (zff v10.queue) (zfg v10.runs) (.sref 20003))),(4,z2)],[(20003,zwh v10.ends)]⟩) [] [(2,zb)] [] [20000,20001,20002] (by kernel_rfl) (by kernel_rfl) H (λv10 I m k10 H N31=>?_)
 obtain⟨n11,h11,H⟩:=bB H
 refine wH [.f 21 [zX v10] (Z1k h11)] ?_
 refine X0 H (λH=>sI H▸wY [(4,[.d,.d,.d,.d,.d,.d,.d,.d,.d,.d,.f])] [] [20003] [] [zna v10.topo.parents,zne v10.topo.nodes,znd v10.up,znf v10.queue,zng v10.runs,znh v10.ends]) λH=>?_
 obtain⟨y12,h12,H⟩:=bB H
 refine wG [.u 32 (.cw Q5 [2] [20003] [[zfa v10.topo.parents,zfe v10.topo.nodes,zfd v10.up,iV v10.lic.a,iV v10.lic.b,iV v10.lic.c,iV v10.depth,iV n11,zff v10.queue,zfg v10.runs,.sref 0]] [(3,v10.ends.map eEnd)] [.ptr 0 0,iV 1,.fn Yv [.ept (.agg [iV n11]) 0]] _ _ _ _ _ (GEs.of [true,false,false] (by simp)) (by simp) (by simp) (by simp) (λ_=>have k:=Zz h12;k)),.l 35 y12.2.ends eEnd] λq13=>?_
 refine X0 H (λH=>sI H▸wQ [(4,z0)] z1) λH=>?_
 obtain⟨y14,h14,H⟩:=bB H
 refine wH [.f 39 [zX y12.2] (Lp h14)] ?_
 exact wU (N31 _ H) [] [] [(20003,(some 40000,0))] []
noncomputable def O1s:L :=
 lf Tryz.prog J0S [32] [(59,1)] [] [] [(13,15)] [] []
def QO(_:Node)(_:Nat)(v8:tB)(k8:tB->Option (State×Int)):Option (State×Int) :=
 (appL 1 v8 [true]).bind λxs9=>k8 xs9
def J07(s1:State)(j2:Job)(v8:tB):Option (State×Int) :=
 (WS s1.topo v8 s1.lic).bind λy10=>(Xn y10 j2 0).bind λy11=>bif !y11.2.2 then(some ((State.mk (Topo.mk [] []) [] (Vec.mk 0 0 0) 0 0 [] [] []),4))else((X8 s1).bind λy12=>(appL 88 y12.queue [j2]).bind λxs13=>(Jc (State.mk y12.topo y12.up y12.lic y12.depth y12.now xs13 y12.runs y12.ends)).bind λy14=>some (y14,0))
def Z08(s1:State)(j2:Job):Option (State×Int) :=
 (Zb s1).bind λb3=>bif (!b3)||(!(Yb j2))then(some ((State.mk (Topo.mk [] []) [] (Vec.mk 0 0 0) 0 0 [] [] []),1))else((QE s1).bind λy4=>(Ou y4 j2.id).bind λn5=>bif decide (0<=n5)then(some ((State.mk (Topo.mk [] []) [] (Vec.mk 0 0 0) 0 0 [] [] []),2))else(bif decide (60<=(y4.length:Int))then(some ((State.mk (Topo.mk [] []) [] (Vec.mk 0 0 0) 0 0 [] [] []),3))else(rgl QO (J07 s1 j2) s1.topo.nodes 0 [])))
theorem O1u{s1:State}{j2:Job}{r:State×Int}(H:Z08 s1 j2=some r):SQ J0S [J1 .rd s1,eJob j2] (.tup [J1 .nw r.1,iV r.2]):=by
 refine wS O1s [.c 4 11 true,.t 5] ?_
 obtain⟨b3,h3,H⟩:=bB H
 refine wH [.c 12 (Qc h3),.d 16 [((!b3),false)] λ_=>VC j2] ?_
 refine X0 H (λH=>sI H▸wQ [(4,z0)] z1) λH=>?_
 obtain⟨y4,h4,n5,h5,H⟩:=bB2 H
 refine wH [.c 21 (O0g h4),.c 25 (U0j h5)] ?_
 refine X0 H (λH=>sI H▸wQ [(4,z0)] z1) λH=>?_
 refine wG [.l 29 y4 eJob] λq6=>?_
 refine X0 H (λH=>sI H▸wQ [(4,z0)] z1) λH=>?_
 refine wG [.l 36 s1.topo.nodes Q1] λq7=>?_
 refine wL (λ(i8:Nat) (v8:tB)=>⟨[pB 2,pB 3,pB 4,(7,.sref 32)]++zl 36 s1.topo.nodes i8,[],[(2,(J1 .rd s1).cells),(3,(eJob j2).cells),(4,z2)],[(32,zwd v8)]⟩) H (λi8 x8 v8 I m k8 A8 B8 H N35=>?_) (λv8 I m H=>?_)
 .obtain⟨xs9,h9,H⟩:=bB H
  exact wH [.p 41 eBo h9,.i 42 B8 q7.1] (wT (N35 _ H))
 .obtain⟨y10,h10,y11,h11,H⟩:=bB2 H
  refine wH [.c 49 (L0O h10),.f 51 [zR y10,eJob j2,iV 0] (Z0o h11)] ?_
  refine X0 H (λH=>sI H▸wQ [(4,z0)] z1) λH=>?_
  obtain⟨y12,h12,xs13,h13,y14,h14,H⟩:=bB3 H
  refine wH [.c 59 (Ja h12),.p 64 eJob h13,.f 67 [.agg [zra y12.topo.parents,zre y12.topo.nodes,zrd y12.up,iV y12.lic.a,iV y12.lic.b,iV y12.lic.c,iV y12.depth,iV y12.now,zrf xs13,zrg y12.runs,zrh y12.ends]] (Lp h14)] ?_
  exact sI H▸wM [(4,[])] [zna y14.topo.parents,zne y14.topo.nodes,znd y14.up,znf y14.queue,zng y14.runs,znh y14.ends]
def OP(x1:Run)(x2:Int):Option Bool :=
 some (x1.job.id==x2)
theorem Q0P{x1:Run}{x2:Int}{r:Bool}(H:OP x1 x2=some r):SQ Lq [X1 .rd x1,.ept (.agg [iV x2]) 0] (.bool r):=by
 exact wa [.t 3] (sI H▸wV)
def Q03(x1:Run)(x2:Int):Bool :=
 (x1.job.id==x2)
theorem J1k(x1:Run)(x2:Int):OP x1 x2=some (Q03 x1 x2):=by
 unfold OP Q03
 first|rfl|simp only[U4]
theorem M18(x1:Run)(x2:Int):Snd Tryz.prog Lq [X1 .rd x1,.ept (.agg [iV x2]) 0] (.bool (Q03 x1 x2)) []:=Q0P (J1k x1 x2)
def J8(c2:Int)(x4:Run)(i4:Nat)(_:Unit)(k4:Unit->Option Int):Option Int :=
 bif Q03 x4 c2 then(some (i4:Int))else(k4 ())
def L8(_:Unit):Option Int :=
 some (-1)
def M3(s1:tR)(c2:Int):Option Int :=
 rgl (J8 c2) L8 s1 0 ()
theorem Yk{s1:tR}{c2 r:Int}(H:M3 s1 c2=some r):SQ Wj [zqg s1,.fn Lq [.ept (.agg [iV c2]) 0]] (iV r):=by
 refine wa [.t 4] (wG [.l 7 s1 (X1 .rd)] λq3=>wL (λ(i4:Nat) (v4:Unit)=>⟨[(0,zqg s1),(1,.fn Lq [.ept (.agg [iV c2]) 0])]++zl 7 s1 i4,[],[],[]⟩) H (λi4 x4 v4 I m k4 A4 B4 H N20=>?_) (λv4 I m H=>?_))
 .refine wH [.y 14 (X1 .rd) A4,.u 16 (.clsr _ _ _ _ _ (AEs.refl _) (by kernel_rfl) (λ_=>M18 x4 c2))] ?_
  refine X0 H (λH=>?_) λH=>wH [.i 18 B4 q3.1] (wT (N20 () H))
  refine wP ?_
  replace H:=sI H;subst H
  exact wD
 .exact sI H▸wV
def V2(s1:tR)(c2:Int):Option Bool :=
 (M3 s1 c2).bind λn3=>some (decide (0<=n3))
theorem Lg{s1:tR}{c2:Int}{r:Bool}(H:V2 s1 c2=some r):SQ Oe [zqg s1,.fn Lq [.ept (.agg [iV c2]) 0]] (.bool r):=by
 exact wa [.t 4] (bC H λn3 h3 H=>wH [.c 7 (Yk h3)] (sI H▸wD))
def QP(x1:Run)(x2:Int):Option Bool :=
 some (x1.job.id==x2)
theorem U0P{x1:Run}{x2:Int}{r:Bool}(H:QP x1 x2=some r):SQ Mq [X1 .rd x1,.ept (.agg [iV x2]) 0] (.bool r):=by
 exact wa [.t 3] (sI H▸wV)
def WP(x1:Run)(x2:Int):Bool :=
 (x1.job.id==x2)
theorem L1k(x1:Run)(x2:Int):QP x1 x2=some (WP x1 x2):=by
 unfold QP WP
 first|rfl|simp only[U4]
theorem O18(x1:Run)(x2:Int):Snd Tryz.prog Mq [X1 .rd x1,.ept (.agg [iV x2]) 0] (.bool (WP x1 x2)) []:=U0P (L1k x1 x2)
noncomputable def Jv:L :=
 lf Tryz.prog Q5 [11] [] [] [] [] [(9,[],[],[0,2,4,6,10,12,14,16,18,20,22,24,26,28,9,31],16)] []
def Lv:List Rv:=[.t 6]
theorem Yw:YQ Tryz.prog Q5 3 Jv Lv=true:=by kernel_rfl
def W8(s1:State)(why2 c3:Int)(x9:Run)(_:Nat)(v9:tE×tJ×tR)(k9:(tE×tJ×tR)->Option (tJ×State)):Option (tJ×State) :=
 bif !(WP x9 c3)then((appL 120 v9.2.2 [x9]).bind λxs10=>k9 (v9.1,v9.2.1,xs10))else((appL 88 v9.2.1 [x9.job]).bind λxs11=>(appL 24 v9.1 [(End.mk x9.job.id s1.now why2)]).bind λxs12=>k9 (xs12,xs11,v9.2.2))
def Q8(s1:State)(v9:tE×tJ×tR):Option (tJ×State) :=
 some (v9.2.1,(State.mk s1.topo s1.up s1.lic s1.depth s1.now s1.queue v9.2.2 v9.1))
def W4(s1:State)(why2 c3:Int):Option (tJ×State) :=
 rgl (W8 s1 why2 c3) (Q8 s1) s1.runs 0 (s1.ends,[],[])
set_option maxRecDepth 20000 in
theorem Zw{s1:State}{why2 c3:Int}{r:tJ×State}(H:W4 s1 why2 c3=some r):ConD Tryz.prog Q5 [.ptr 0 0,iV why2,.fn Mq [.ept (.agg [iV c3]) 0]] [(zs s1 (.sref 0) (.sref 1) (.sref 2) (.sref 3))] [(1,s1.up.map eBo),(11,s1.queue.map eJob),(13,s1.runs.map (X1 .nw)),(3,s1.ends.map eEnd)] (.sref 4) [(zs r.2 (.sref 5) (.sref 6) (.sref 7) (.sref 8))] [none,none,none,none] [(11,r.1.map eJob),(1,r.2.up.map eBo),(11,r.2.queue.map eJob),(13,r.2.runs.map (X1 .nw)),(3,r.2.ends.map eEnd)]:=by
 refine M0C [false,false,false,false] Yw rfl (by kernel_rfl) ?_
 unfold W4 at H
 refine wG [.l 16 s1.runs (X1 .nw)] λq4=>?_
 refine M01 (λ(i9:Nat) (v9:tE×tJ×tR)=>⟨[(0,.ptr 2000000000 0),(1,iV why2),(2,.fn Mq [.ept (.agg [iV c3]) 0]),(7,.sref 11),(8,.sref 228005),(15,.sref 500000002)]++zl 16 s1.runs i9,[],[(2000000000,(zs s1 (.sref 500000000) (.sref 500000001) (.sref 500000002) (.sref 500000003)))],[(500000000,zwd s1.up),(500000001,zwf s1.queue),(500000002,zwg s1.runs),(500000003,zwh v9.1),(11,zwf v9.2.1),(228005,zwg v9.2.2)]⟩) [(8,.z 228005)] [] [(228005,(none,13))] [] (by kernel_rfl) (by kernel_rfl) H (λi9 x9 v9 I m k9 A9 B9 H N26=>?_) (λv9 I m H=>?_)
 .unfold W8 at H
  refine wP (wt (ltT B9) ?_)
  refine wH [.y 19 (X1 .nw) A9,.u 20 (.el _ _ _ λ_=>gm (X1 .nw) (V4 (O0 A9))),.u 23 (.clsr _ _ _ _ _ (AEs.refl _) (by kernel_rfl) (λ_=>O18 x9 c3))] ?_
  refine X0 H ?_ ?_<;>intro H
  .obtain⟨xs10,h10,H⟩:=bB H
   exact wH [.p 28 (X1 .nw) h10,.i 52 B9 q4.1] (wT (N26 _ H))
  .obtain⟨xs11,h11,xs12,h12,H⟩:=bB2 H
   exact wH [.p 33 eJob h11,.p 49 eEnd h12,.i 52 B9 q4.1] (wT (N26 _ H))
 .unfold Q8 at H
  refine wP (wf (ltF s1.runs.length) ?_)
  refine wP ?_
  replace H:=sI H;subst H
  exact Jk [(6,.d)] [(2000000000,[])] [(11,some 11,0),(500000000,some 500000000,0),(500000001,some 500000001,0),(228005,some 228005,0),(500000003,some 500000003,0)] [] [11,500000000,500000001,228005,500000003] (by kernel_rfl)
noncomputable def U1t:L :=
 lf Tryz.prog O0T [] [(47,1),(51,2),(57,2)] [] [] [] [] [511]
def Uq(v12:State):Option (State×Int) :=
 (Jc v12).bind λy13=>some (y13,0)
def JT(s1:State)(id2 why3:Int):Option (State×Int) :=
 (Zb s1).bind λb4=>bif (!b4)||((why3 != 2)&&(why3 != 3))then(some ((State.mk (Topo.mk [] []) [] (Vec.mk 0 0 0) 0 0 [] [] []),1))else((V2 s1.runs id2).bind λb5=>(Ou s1.queue id2).bind λn6=>bif (!b5)&&((why3==2)||decide (n6<0))then(some ((State.mk (Topo.mk [] []) [] (Vec.mk 0 0 0) 0 0 [] [] []),5))else(bif decide (300<=(s1.ends.length:Int))then(some ((State.mk (Topo.mk [] []) [] (Vec.mk 0 0 0) 0 0 [] [] []),6))else((X8 s1).bind λy8=>bif b5 then((W4 y8 why3 id2).bind λy9=>Uq y9.2)else((O0K y8.queue n6 (w64 (n6+1))).bind λxs10=>(appL 24 y8.ends [(End.mk id2 y8.now why3)]).bind λxs11=>Uq (State.mk y8.topo y8.up y8.lic y8.depth y8.now xs10 y8.runs xs11)))))
theorem Y0E{s1:State}{id2 why3:Int}{r:State×Int}(H:JT s1 id2 why3=some r):SQ O0T [J1 .rd s1,iV id2,iV why3] (.tup [J1 .nw r.1,iV r.2]):=by
 refine wS U1t [.c 6 11 true,.t 7] ?_
 obtain⟨b4,h4,H⟩:=bB H
 refine wH [.c 11 (Qc h4)] ?_
 refine X0 H (λH=>sI H▸wQ [(6,z0)] z1) λH=>?_
 obtain⟨b5,h5,n6,h6,H⟩:=bB2 H
 refine wH [.c 25 (Lg h5),.c 29 (U0j h6)] ?_
 refine X0 H (λH=>sI H▸wQ [(6,z0)] z1) λH=>?_
 refine wG [.l 43 s1.ends eEnd] λq7=>?_
 refine X0 H (λH=>sI H▸wQ [(6,z0)] z1) λH=>?_
 obtain⟨y8,h8,H⟩:=bB H
 refine wH [.c 47 (Ja h8)] ?_
 refine Xi (r:=r) Uq 0 (λv12:State=>⟨[pB 3,pB 6],[],[(3,[.sl .nw 1 (v12.topo.parents.map eI),.sl .nw 4 (v12.topo.nodes.map Q1),.sref 52001,.int .i64 v12.lic.a,.int .i64 v12.lic.b,.int .i64 v12.lic.c,.int .i64 v12.depth,.int .i64 v12.now,.sref 52002,.sref 52003,.sref 52004]),(6,z8)],[(52001,zwd v12.up),(52002,zwf v12.queue),(52003,zwg v12.runs),(52004,zwh v12.ends)]⟩) (by kernel_rfl) (λv12 H=>?_) (λJ34=>?_)
 .obtain⟨y13,h13,H⟩:=bB H
  refine wH [.f 70 [zX v12] (Lp h13)] ?_
  exact sI H▸wM [(6,[])] [zna y13.topo.parents,zne y13.topo.nodes,znd y13.up,znf y13.queue,zng y13.runs,znh y13.ends]
 .refine X0 H ?_ ?_<;>intro H
  .obtain⟨y9,h9,H⟩:=bB H
   exact wH [.u 51 (.cw Q5 [3] [48000,48001,48002,48003] [(zs y8 (.sref 0) (.sref 1) (.sref 2) (.sref 3))] [(1,y8.up.map eBo),(11,y8.queue.map eJob),(13,y8.runs.map (X1 .nw)),(3,y8.ends.map eEnd)] [.ptr 0 0,iV why3,.fn Mq [.ept (.agg [iV id2]) 0]] _ _ _ _ _ (GEs.of [true,false,false] (by simp)) (by simp) (by simp) (by simp) (λ_=>Zw h9))] (wT (J34 _ H))
  .obtain⟨xs10,h10,xs11,h11,H⟩:=bB2 H
   refine wH [.u 57 (.cr Wc 11 _ [iV n6,iV (w64 (n6+1))] _ true _ (λ_=>by simp) (λ_=>by simp) (λ_=>rfl) (λ_=>Q1y h10)),.p 67 eEnd h11] ?_
   exact wU (J34 _ H) [] [] [(52001,(some 48000,0)),(52002,(some 58000,0)),(52003,(some 48002,0)),(52004,(some 48003,0))] []
def M0j(x1:Run)(x2:Int):Option Bool :=
 (Z5 x1.nodes x2).bind λb3=>some b3
theorem X1v{x1:Run}{x2:Int}{r:Bool}(H:M0j x1 x2=some r):SQ ZQ [X1 .rd x1,.ept (.agg [iV x2]) 0] (.bool r):=by
 exact wa [.t 3] (bC H λb3 h3 H=>wH [.c 7 (O9 h3)] (sI H▸wD))
noncomputable def QB:L :=
 lf Tryz.prog Q5 [11] [] [] [] [] [(9,[],[],[0,2,4,6,10,12,14,16,18,20,22,24,26,28,9,31],16)] []
def VB:List Rv:=[.t 6]
theorem MC:YQ Tryz.prog Q5 3 QB VB=true:=by kernel_rfl
def W9(s1:State)(why2 c3:Int)(x5:Run)(_:Nat)(v5:tE×tJ×tR)(k5:(tE×tJ×tR)->Option (tJ×State)):Option (tJ×State) :=
 (M0j x5 c3).bind λb6=>bif !b6 then((appL 120 v5.2.2 [x5]).bind λxs7=>k5 (v5.1,v5.2.1,xs7))else((appL 88 v5.2.1 [x5.job]).bind λxs8=>(appL 24 v5.1 [(End.mk x5.job.id s1.now why2)]).bind λxs9=>k5 (xs9,xs8,v5.2.2))
def Q9(s1:State)(v5:tE×tJ×tR):Option (tJ×State) :=
 some (v5.2.1,(State.mk s1.topo s1.up s1.lic s1.depth s1.now s1.queue v5.2.2 v5.1))
def M5(s1:State)(why2 c3:Int):Option (tJ×State) :=
 rgl (W9 s1 why2 c3) (Q9 s1) s1.runs 0 (s1.ends,[],[])
set_option maxRecDepth 20000 in
theorem JB{s1:State}{why2 c3:Int}{r:tJ×State}(H:M5 s1 why2 c3=some r):ConD Tryz.prog Q5 [.ptr 0 0,iV why2,.fn ZQ [.ept (.agg [iV c3]) 0]] [(zs s1 (.sref 0) (.sref 1) (.sref 2) (.sref 3))] [(1,s1.up.map eBo),(11,s1.queue.map eJob),(13,s1.runs.map (X1 .nw)),(3,s1.ends.map eEnd)] (.sref 4) [(zs r.2 (.sref 5) (.sref 6) (.sref 7) (.sref 8))] [none,none,none,none] [(11,r.1.map eJob),(1,r.2.up.map eBo),(11,r.2.queue.map eJob),(13,r.2.runs.map (X1 .nw)),(3,r.2.ends.map eEnd)]:=by
 refine M0C [false,false,false,false] MC rfl (by kernel_rfl) ?_
 unfold M5 at H
 refine wG [.l 16 s1.runs (X1 .nw)] λq4=>?_
 refine M01 (λ(i5:Nat) (v5:tE×tJ×tR)=>⟨[(0,.ptr 2000000000 0),(1,iV why2),(2,.fn ZQ [.ept (.agg [iV c3]) 0]),(7,.sref 11),(8,.sref 228005),(15,.sref 500000002)]++zl 16 s1.runs i5,[],[(2000000000,(zs s1 (.sref 500000000) (.sref 500000001) (.sref 500000002) (.sref 500000003)))],[(500000000,zwd s1.up),(500000001,zwf s1.queue),(500000002,zwg s1.runs),(500000003,zwh v5.1),(11,zwf v5.2.1),(228005,zwg v5.2.2)]⟩) [(8,.z 228005)] [] [(228005,(none,13))] [] (by kernel_rfl) (by kernel_rfl) H (λi5 x5 v5 I m k5 A5 B5 H N26=>?_) (λv5 I m H=>?_)
 .unfold W9 at H
  refine wP (wt (ltT B5) ?_)
  obtain⟨b6,h6,H⟩:=bB H
  refine wH [.y 19 (X1 .nw) A5,.u 20 (.el _ _ _ λ_=>gm (X1 .nw) (V4 (O0 A5))),.u 23 (.clsr _ _ _ _ _ (AEs.refl _) (by kernel_rfl) (λ_=>X1v h6))] ?_
  refine X0 H ?_ ?_<;>intro H
  .obtain⟨xs7,h7,H⟩:=bB H
   exact wH [.p 28 (X1 .nw) h7,.i 52 B5 q4.1] (wT (N26 _ H))
  .obtain⟨xs8,h8,xs9,h9,H⟩:=bB2 H
   exact wH [.p 33 eJob h8,.p 49 eEnd h9,.i 52 B5 q4.1] (wT (N26 _ H))
 .unfold Q9 at H
  refine wP (wf (ltF s1.runs.length) ?_)
  refine wP ?_
  replace H:=sI H;subst H
  exact Jk [(6,.d)] [(2000000000,[])] [(11,some 11,0),(500000000,some 500000000,0),(500000001,some 500000001,0),(228005,some 228005,0),(500000003,some 500000003,0)] [] [11,500000000,500000001,228005,500000003] (by kernel_rfl)
def Q0w(s1:State)(n2:Int):Option (State×Int) :=
 (Zb s1).bind λb3=>bif !b3 then(some ((State.mk (Topo.mk [] []) [] (Vec.mk 0 0 0) 0 0 [] [] []),1))else((bif !(Z0 n2 0 (w64 ((s1.up.length:Int)-1)))then some default else(idx s1.up n2)).bind λe4=>bif (!(Z0 n2 0 (w64 ((s1.up.length:Int)-1))))||(!e4)then(some ((State.mk (Topo.mk [] []) [] (Vec.mk 0 0 0) 0 0 [] [] []),7))else((X8 s1).bind λy6=>(idx y6.up n2).bind λ_=>(M5 (State.mk y6.topo (y6.up.set n2.toNat false) y6.lic y6.depth y6.now y6.queue y6.runs y6.ends) 4 n2).bind λy8=>bif decide (300<(y8.2.ends.length:Int))then(some ((State.mk (Topo.mk [] []) [] (Vec.mk 0 0 0) 0 0 [] [] []),6))else((appL 88 y8.2.queue y8.1).bind λxs10=>(Jc (State.mk y8.2.topo y8.2.up y8.2.lic y8.2.depth y8.2.now xs10 y8.2.runs y8.2.ends)).bind λy11=>some (y11,0))))
theorem M1O{s1:State}{n2:Int}{r:State×Int}(H:Q0w s1 n2=some r):SQ J1m [J1 .rd s1,iV n2] (.tup [J1 .nw r.1,iV r.2]):=by
 refine wd [(28,1),(34,2)] [.c 4 11 true,.t 5] ?_
 obtain⟨b3,h3,H⟩:=bB H
 refine wH [.c 8 (Qc h3)] ?_
 refine X0 H (λH=>sI H▸wQ [(4,z0)] z1) λH=>?_
 obtain⟨e4,h4,H⟩:=bB H
 refine wG [.l 14 s1.up eBo,.u 16 (.call _ _ _ _ _ (AEs.refl _) (λ_=>V1 n2 0 (w64 ((s1.up.length:Int)-1)))),.g 22 [(_,false)] (.ix _ _ _ λq=>Y0 eBo (bF q.1 h4))] λq5=>?_
 refine X0 H (λH=>sI H▸wQ [(4,z0)] z1) λH=>?_
 obtain⟨y6,h6,e7,h7,y8,h8,H⟩:=bB3 H
 refine wG [.c 28 (Ja h6),.x 32 eBo h7,.u 1000000 (.sto _ _ _ (eBo false) _ (λ_=>gm eBo (V4 h7)) (λ_=>YS ..)),.u 34 (.cw Q5 [2] [29000,29001,29002,29003] [(zs y6 (.sref 0) (.sref 1) (.sref 2) (.sref 3))] [(1,(y6.up.set n2.toNat false).map eBo),(11,y6.queue.map eJob),(13,y6.runs.map (X1 .nw)),(3,y6.ends.map eEnd)] [.ptr 0 0,iV 4,.fn ZQ [.ept (.agg [iV n2]) 0]] _ _ _ _ _ (GEs.of [true,false,false] (by simp)) (by simp) (by simp[-List.map_set]) (by simp) (λ_=>have k:=JB h8;k)),.l 37 y8.2.ends eEnd] λq9=>?_
 refine X0 H (λH=>sI H▸wQ [(4,z0)] z1) λH=>?_
 obtain⟨xs10,h10,y11,h11,H⟩:=bB2 H
 refine wH [.p 43 eJob h10,.f 46 [.agg [zra y8.2.topo.parents,zre y8.2.topo.nodes,zrd y8.2.up,iV y8.2.lic.a,iV y8.2.lic.b,iV y8.2.lic.c,iV y8.2.depth,iV y8.2.now,zrf xs10,zrg y8.2.runs,zrh y8.2.ends]] (Lp h11)] ?_
 exact sI H▸wM [(4,[])] [zna y11.topo.parents,zne y11.topo.nodes,znd y11.up,znf y11.queue,zng y11.runs,znh y11.ends]
def V08(s1:State)(n2:Int):Option (State×Int) :=
 (Zb s1).bind λb3=>bif !b3 then(some ((State.mk (Topo.mk [] []) [] (Vec.mk 0 0 0) 0 0 [] [] []),1))else((bif !(Z0 n2 0 (w64 ((s1.up.length:Int)-1)))then some default else(idx s1.up n2)).bind λe4=>bif (!(Z0 n2 0 (w64 ((s1.up.length:Int)-1))))||e4 then(some ((State.mk (Topo.mk [] []) [] (Vec.mk 0 0 0) 0 0 [] [] []),8))else((X8 s1).bind λy6=>(idx y6.up n2).bind λ_=>(Jc (State.mk y6.topo (y6.up.set n2.toNat true) y6.lic y6.depth y6.now y6.queue y6.runs y6.ends)).bind λy8=>some (y8,0)))
theorem M1u{s1:State}{n2:Int}{r:State×Int}(H:V08 s1 n2=some r):SQ X0T [J1 .rd s1,iV n2] (.tup [J1 .nw r.1,iV r.2]):=by
 refine wd [(26,1)] [.c 4 11 true,.t 5] ?_
 obtain⟨b3,h3,H⟩:=bB H
 refine wH [.c 7 (Qc h3)] ?_
 refine X0 H (λH=>sI H▸wQ [(4,z0)] z1) λH=>?_
 obtain⟨e4,h4,H⟩:=bB H
 refine wG [.l 13 s1.up eBo,.u 15 (.call _ _ _ _ _ (AEs.refl _) (λ_=>V1 n2 0 (w64 ((s1.up.length:Int)-1)))),.g 21 [(_,false)] (.ix _ _ _ λq=>Y0 eBo (bF q.1 h4))] λq5=>?_
 refine X0 H (λH=>sI H▸wQ [(4,z0)] z1) λH=>?_
 obtain⟨y6,h6,e7,h7,y8,h8,H⟩:=bB3 H
 refine wH [.c 26 (Ja h6),.x 30 eBo h7,.u 1000000 (.sto _ _ _ (eBo true) _ (λ_=>gm eBo (V4 h7)) (λ_=>YS ..)),.f 32 [.agg [zra y6.topo.parents,zre y6.topo.nodes,zrd (y6.up.set n2.toNat true),iV y6.lic.a,iV y6.lic.b,iV y6.lic.c,iV y6.depth,iV y6.now,zrf y6.queue,zrg y6.runs,zrh y6.ends]] (Lp h8)] ?_
 exact sI H▸wM [(4,[])] [zna y8.topo.parents,zne y8.topo.nodes,znd y8.up,znf y8.queue,zng y8.runs,znh y8.ends]
def U08(s1:State)(lic2:Vec):Option (State×Int) :=
 (Zb s1).bind λb3=>bif (!b3)||(!(Z2 lic2))then(some ((State.mk (Topo.mk [] []) [] (Vec.mk 0 0 0) 0 0 [] [] []),1))else((X8 s1).bind λy4=>(MH (State.mk y4.topo y4.up lic2 y4.depth y4.now y4.queue y4.runs y4.ends)).bind λy5=>bif !y5.2 then(some ((State.mk (Topo.mk [] []) [] (Vec.mk 0 0 0) 0 0 [] [] []),9))else((Jc (State.mk y4.topo y4.up lic2 y4.depth y4.now y4.queue y4.runs y4.ends)).bind λy6=>some (y6,0)))
theorem L1u{s1:State}{lic2:Vec}{r:State×Int}(H:U08 s1 lic2=some r):SQ V0T [J1 .rd s1,eVec lic2] (.tup [J1 .nw r.1,iV r.2]):=by
 refine wa [.c 4 11 true,.t 5] ?_
 obtain⟨b3,h3,H⟩:=bB H
 refine wH [.c 9 (Qc h3),.d 13 [((!b3),false)] λ_=>V6 lic2] ?_
 refine X0 H (λH=>sI H▸wQ [(4,z0)] z1) λH=>?_
 obtain⟨y4,h4,y5,h5,H⟩:=bB2 H
 refine wH [.c 18 (Ja h4),.f 23 [.agg [zra y4.topo.parents,zre y4.topo.nodes,zrd y4.up,iV lic2.a,iV lic2.b,iV lic2.c,iV y4.depth,iV y4.now,zrf y4.queue,zrg y4.runs,zrh y4.ends]] (M0d h5)] ?_
 refine X0 H (λH=>sI H▸wQ [(4,z0)] z1) λH=>?_
 obtain⟨y6,h6,H⟩:=bB H
 refine wH [.f 30 [.agg [zra y4.topo.parents,zre y4.topo.nodes,zrd y4.up,iV lic2.a,iV lic2.b,iV lic2.c,iV y4.depth,iV y4.now,zrf y4.queue,zrg y4.runs,zrh y4.ends]] (Lp h6)] ?_
 exact sI H▸wM [(4,[])] [zna y6.topo.parents,zne y6.topo.nodes,znd y6.up,znf y6.queue,zng y6.runs,znh y6.ends]
theorem O0O(r:Room)(j:Job)(from_ to_:Int)(nodes:tI):Z9 r j from_ to_ nodes=bif diffOk r j nodes then takeRoom r j.need j.lic from_ to_ nodes else some noRoom:=by
 unfold Z9 diffOk
 rw[O0d,bS,UC]
 cases hr:roomOk r with
 |false=>rfl
 |true =>
  have hR:=Y04.1 hr
  rw[X0K hR.small.nodes]
  cases Y1 j with
  |false=>rfl
  |true =>
   simp only[yL,Bool.or_self,yM,Bool.true_and,bS]
   cases(decide ((nodes.length:Int)=j.nodes)&&J7 r.topo nodes&&decide nodes.Nodup)with
   |false=>rfl
   |true =>
    simp only[yL,Bool.or_self,yM,yN]
    rw[Y18 hR.small,bS]
    unfold takeRoom Zi Jh
    simp only[λp f t v=>(Z0L p f t v).1]
    rfl
def idsOk(l:tJ):Bool:=decide (l.map Job.id).Nodup
noncomputable def queueOk(l:tJ):Bool:=decide (l.length<=60)&&l.all Y1&&idsOk l
theorem O1Z{l:tJ}{i:Nat}{x:Job}(hx:l[i]?=some x):((l.take (i+1)).map Job.id).Nodup↔((l.take i).map Job.id).Nodup/\∀y∈l.take i,y.id≠x.id:=by
 obtain⟨hi,rfl⟩:=yB hx
 rw[List.take_succ_eq_append_getElem hi,List.map_append,List.nodup_append]
 constructor
 .intro h;exact⟨h.1,λy hy e=>h.2.2 _ (List.mem_map_of_mem hy) _ (List.mem_singleton.2 rfl) e⟩
 .intro h;exact⟨h.1,by simp,λa ha b hb e=>by
   obtain⟨y,hy,rfl⟩:=yY ha
   rw[show b=l[i].id by simpa using hb]at e
   exact h.2 y hy e⟩
theorem M1w{γ:Type}{bd:Job->Nat->Unit->(Unit->Option γ)->Option γ}{kk:Unit->Option γ}{r:Option γ}{l:tJ}
  (hb:∀i x k,l[i]?=some x->bd x i () k=bif (!Y1 x)||(l.take i).any (λy=>y.id==x.id)then r else k ()):rgl bd kk l 0 ()=bif l.all Y1&&idsOk l then kk ()else r:=by
 refine Lh (λi (_:Unit)=>(∀y∈l.take i,Y1 y=true)/\((l.take i).map Job.id).Nodup) (λo=>o=bif l.all Y1&&idsOk l then kk ()else r) (λi x b k hx hI hk=>?_) (λb hI=>?_) (by simp)
 .have hil:=(yB hx).1
  rw[hb i x k hx]
  cases hj:Y1 x with
  |false =>
   have:l.all Y1=false:=List.all_eq_false.2 ⟨x,yE hx,by rw[hj];simp⟩
   rw[this];rfl
  |true =>
   cases hc:(l.take i).any (λy=>y.id==x.id)with
   |true =>
    obtain⟨y,hy,he⟩:=List.any_eq_true.1 hc
    have:idsOk l=false:=by
     unfold idsOk
     rw[decide_eq_false_iff_not]
     intro q
     have q2:((l.take (i+1)).map Job.id).Nodup:=q.sublist ((List.take_sublist _ _).map _)
     exact((O1Z hx).1 q2).2 y hy (by simpa using he)
    rw[this,Bool.and_false];rfl
   |false =>
    refine hk () ⟨λy hy=>?_,(O1Z hx).2 ⟨hI.2,λy hy e=>?_⟩⟩
    .obtain⟨hi,rfl⟩:=yB hx
     rw[List.take_succ_eq_append_getElem hi]at hy
     rcases List.mem_append.1 hy with hy|hy
     .exact hI.1 y hy
     .rw[List.mem_singleton.1 hy];exact hj
    .have:=List.any_eq_false.1 hc y hy
     simp[e]at this
 .rw[List.take_of_length_le (yV _)]at hI
  rw[List.all_eq_true.2 hI.1]
  unfold idsOk
  rw[decide_eq_true hI.2];rfl
theorem UM(l:tJ):Yx l=some (queueOk l):=by
 unfold Yx queueOk
 by_cases h:60<l.length
 .simp[show(60:Int)<l.length by omega,show ¬ l.length<=60 by omega]
 .rw[show decide ((60:Int)<(l.length:Int))=false by simp;omega,show decide (l.length<=60)=true by simp;omega]
  simp only[yM,Bool.true_and]
  rw[M1w (r:=some false) (λi x k hx=>?_)]
  .unfold YZ
   cases(l.all Y1&&idsOk l)<;>rfl
  .have hil:=(yB hx).1
   unfold XZ
   cases Y1 x with
   |false=>rfl
   |true =>
    simp only[yL,yM,Bool.false_or]
    have h:=W0r (bd:=Lt l i x k) (λ(i:Nat) (_:Unit)=>(i:Int)) (n:=i)
     (B:=λm _ _ k=>bif match l[m]? with|some e=>e.id==x.id|none=>false then some false else k ()) (kk:=λ_=>k ()) (λm st k hm=>by
      obtain⟨e,he⟩:∃e,l[m]?=some e:=⟨_,yA (by omega)⟩
      have hlt:(m:Int)<(i:Int):=by omega
      simp only[Lt,hlt,decide_true,yN,X3,he,bS,Wn (n:=m) (by omega)])
     (λm st k hm=>by
      have hlt:¬ (m:Int)<(i:Int):=by omega
      simp only[Lt,hlt,decide_false,yM]) 9223372036854775807 0 () (by omega)
    refine h.trans ?_
    rw[Ox (r:=some false) (p:=λ(m:Nat)=>match l[m]? with|some e=>e.id==x.id|none=>false) (λm _ i k=>rfl)]
    have e:(List.range' 0 (i-0)).any (λ(m:Nat)=>match l[m]? with|some e=>e.id==x.id|none=>false)=(l.take i).any (λy=>y.id==x.id):=by
     rw[Bool.eq_iff_iff,List.any_eq_true,List.any_eq_true]
     constructor
     .rintro⟨m,hm,hq⟩
      obtain⟨j,hj,rfl⟩:=List.mem_range'.1 hm
      have hlt:0+1*j<l.length:=by omega
      rw[yA hlt]at hq
      exact⟨_,List.mem_take_iff_getElem.2 ⟨0+1*j,by omega,rfl⟩,hq⟩
     .rintro⟨y,hy,hq⟩
      obtain⟨m,hm,rfl⟩:=List.mem_take_iff_getElem.1 hy
      exact⟨m,List.mem_range'.2 ⟨m,by omega,by omega⟩,by rw[yA (by omega)];exact hq⟩
    rw[e]
theorem V1U(l:tJ)(c:Job):X2 l c=some (l.any λy=>y.id==c.id):=by
 unfold X2 O3
 have:∃r:Int,rgl (Y3 c) J4 l 0 ()=some r/\decide (0<=r)=l.any λy=>y.id==c.id:=by
  refine Lh (λi (_:Unit)=>∀y∈l.take i,(y.id==c.id)=false) (λo=>∃r:Int,o=some r/\decide (0<=r)=l.any λy=>y.id==c.id) (λi x b k hx hI hk=>?_) (λb hI=>?_) (by simp)
  .unfold Y3 WE
   cases h:(x.id==c.id)with
   |true=>exact⟨i,rfl,by rw[List.any_eq_true.2 ⟨x,yE hx,h⟩];simp⟩
   |false =>
    refine hk () λy hy=>?_
    obtain⟨hi,rfl⟩:=yB hx
    rw[List.take_succ_eq_append_getElem hi]at hy
    rcases List.mem_append.1 hy with hy|hy
    .exact hI y hy
    .rw[List.mem_singleton.1 hy];exact h
  .rw[List.take_of_length_le (yV _)]at hI
   exact⟨-1,rfl,by rw[List.any_eq_false.2 λy hy=>by rw[hI y hy];simp];rfl⟩
 obtain⟨r,h1,h2⟩:=this
 rw[h1,bS,h2]
theorem Z0w(l:tJ):MJ l=some (queueOk l):=by
 unfold MJ queueOk
 rw[M1w (r:=some false) (λi x k hx=>?_)]
 .unfold L00
  have e:decide ((l.length:Int)<=60)=decide (l.length<=60):=by rw[Bool.eq_iff_iff];simp;omega
  rw[e]
  cases l.all Y1<;>cases idsOk l<;>cases decide (l.length<=60)<;>rfl
 .have hil:=(yB hx).1
  unfold J00
  rw[UC,U1a (by omega)]
  cases Y1 x with
  |false=>rfl
  |true =>
   simp only[yL,yM,bS,V1U,Bool.false_or]
theorem O1k(v:Vec):Jr v=Xa v:=rfl
def Qk(t:Topo)(up:tB)(lic:Vec):Room:=⟨t,up,t.nodes.map λx=>(Xa x.cap).1,(Xa lic).1⟩
theorem Y1z{v:Vec}(h:U0 v=true):ProfP (Xa v).1:=by
 unfold Xa
 rw[h]
 simp only[yL,yM]
 exact⟨by simp,by simp,λx hx=>by simp at hx;rw[← hx],λx hx=>by simp at hx;subst hx;exact⟨rfl,h⟩,λi x y hx hy=>by simp at hy⟩
theorem J0w{t:Topo}(h:TopoP t){up:tB}(hu:up.length=t.nodes.length){lic:Vec}(hl:U0 lic=true):RoomP (Qk t up lic) :=
  ⟨h,hu,by simp[Qk],λp hp=>by
    obtain⟨x,hx,rfl⟩:=yY hp
    exact Y1z (h.node x hx).2.2.2,Y1z hl⟩
theorem J0O{t:Topo}(h:TopoP t){up:tB}(hu:up.length=t.nodes.length)(lic:Vec):WS t up lic=some (Qk t up lic):=by
 have:=h.tree.le;have:=h.nodes
 unfold WS Mm Lm
 rw[Q0 (by simp;omega),bS,bS,Q0 (by simp;omega),bS,bS,Q0 (by simp;omega),bS]
 rw[Q7 (bd:=U0d) (bs:=24) (p:=λ_=>true) (f:=λx=>(Xa x.cap).1) (λx hx i b k=>rfl) (by simp;omega)]
 unfold V0d Qk
 simp[List.filter_eq_self.2,O1k]
theorem Y0m(s:State):Vs s=some (bif topoOk s.topo&&decide (s.up.length=s.topo.nodes.length)&&U0 s.lic then(Qk s.topo s.up s.lic,true)else noRoom):=by
 unfold Vs
 rw[Qb,bS,X1D]
 cases ht:topoOk s.topo with
 |false=>rfl
 |true =>
 cases hu:decide (s.up.length=s.topo.nodes.length)with
 |false=>rfl
 |true =>
 cases hl:U0 s.lic with
 |false=>rfl
 |true =>
  have h:=Ma.1 ht
  have hu:=of_decide_eq_true hu
  have:=h.nodes
  simp only[yL,Bool.or_self,yM,Bool.and_self,yN]
  rw[Q7 (bd:=OQ) (bs:=24) (p:=λ_=>true) (f:=λx=>(Xa x.cap).1) (λx hx i b k=>rfl) (by simp;omega)]
  unfold WQ
  rw[show(s.topo.nodes.filter λ_=>true)=s.topo.nodes from List.filter_eq_self.2 λ_ _=>rfl,List.nil_append]
  have hR:=J0w h hu hl
  unfold Qk at hR
  rw[W0s hR.small,bS]
  rfl
def U1B(s:State)(x:Run):Bool:=time x.t&&decide (x.t<=s.now)&&decide (s.now<x.t+x.job.wall)&&decide (x.t+x.job.wall<=1000000000)
noncomputable def Y0B(s:State)(x:Run)(v:Room):Option (Room×Bool):=bif diffOk v x.job x.nodes&&U1B s x then takeRoom v x.job.need x.job.lic s.now (x.t+x.job.wall) x.nodes else some noRoom
theorem J1z{s:State}(hs:time s.now=true)(x:Run)(i:Nat)(v:Room)(k:Room->Option (Room×Bool)):XM s x i v k=(Y0B s x v).bind λy=>bif !y.2 then some noRoom else k y.1:=by
 have hn:=Ob.1 hs
 unfold XM Y0B
 rw[U0s,bS,Mb]
 cases hd:diffOk v x.job x.nodes with
 |false=>rfl
 |true =>
  have hj:Y1 x.job=true:=by unfold diffOk at hd;simp only[yD]at hd;exact hd.1.1.1.2
  have hj':=Xk.1 hj
  unfold U1B
  by_cases ht:time x.t=true/\x.t<=s.now
  .have ht1:=Ob.1 ht.1
   rw[ht.1,Y5 (n:=x.t+x.job.wall) (by omega),show decide (s.now<x.t)=false by simp;omega,show decide (x.t<=s.now)=true by simpa using ht.2]
   by_cases h3:s.now<x.t+x.job.wall
   .rw[show decide (x.t+x.job.wall<=s.now)=false by simp;omega,show decide (s.now<x.t+x.job.wall)=true by simpa using h3]
    by_cases h4:x.t+x.job.wall<=1000000000
    .rw[show decide (1000000000<x.t+x.job.wall)=false by simp;omega,show decide (x.t+x.job.wall<=1000000000)=true by simpa using h4]
     simp only[yL,Bool.or_self,yM,Bool.and_self,yN]
     rw[Y5 (n:=x.t+x.job.wall-s.now) (by omega),W05]
     have e:diffOk v ⟨x.job.id,x.job.prio,x.job.nodes,x.job.need,x.job.lic,x.t+x.job.wall-s.now,x.job.level⟩ x.nodes=true:=by
      have hj2:Y1 ⟨x.job.id,x.job.prio,x.job.nodes,x.job.need,x.job.lic,x.t+x.job.wall-s.now,x.job.level⟩=true:=by
       rw[Xk];simp only;refine⟨hj'.1,hj'.2.1,hj'.2.2.1,hj'.2.2.2.1,hj'.2.2.2.2.1,by omega,hj'.2.2.2.2.2.2⟩
      unfold diffOk at hd ⊢
      rw[hj]at hd
      rw[hj2];exact hd
     rw[e,hs]
     simp only[Bool.and_self,yN]
     rw[show s.now+(x.t+x.job.wall-s.now)=x.t+x.job.wall by omega,Y5 (by omega)]
     rfl
    .rw[show decide (1000000000<x.t+x.job.wall)=true by simp;omega,show decide (x.t+x.job.wall<=1000000000)=false by simpa using h4]
     simp[noRoom]
   .rw[show decide (x.t+x.job.wall<=s.now)=true by simp;omega,show decide (s.now<x.t+x.job.wall)=false by simpa using h3]
    simp[noRoom]
  .have:(time x.t&&decide (x.t<=s.now))=false:=by
    rw[Bool.eq_false_iff];intro q;simp only[yD,yO]at q;exact ht q
   rw[this]
   have h2:(!(time x.t)||decide (s.now<x.t))=true:=by
    cases hx:time x.t with
    |false=>rfl
    |true =>
     have:¬ x.t<=s.now:=λq=>ht ⟨hx,q⟩
     simp;omega
   simp only[yL,Bool.false_or,h2,Bool.true_or,yN,Bool.false_and,Bool.and_false,yM,bS]
   rfl
theorem Z1H{s:State}(hs:time s.now=true)(x:Run)(i:Nat)(v:Room)(k:Room->Option (Room×Bool)):VP s x i v k=(Y0B s x v).bind λy=>bif !y.2 then some noRoom else k y.1:=by
 have hn:=Ob.1 hs
 unfold VP Y0B
 rw[UC,O0O]
 cases hj:Y1 x.job with
 |false =>
  have hd:diffOk v x.job x.nodes=false:=by unfold diffOk;rw[hj];simp
  rw[hd];rfl
 |true =>
  have hj':=Xk.1 hj
  by_cases h1:0<=x.t/\x.t<=s.now
  .rw[Y5 (n:=x.t+x.job.wall) (by omega),Y5 (n:=s.now+1) (by omega)]
   have e1:Z0 x.t 0 s.now=true:=by simp[Z0];exact h1
   have e2:Z0 (x.t+x.job.wall) (s.now+1) 1000000000=(decide (s.now<x.t+x.job.wall)&&decide (x.t+x.job.wall<=1000000000)):=by
    unfold Z0;congr 1
   have e3:time x.t=true:=by rw[Ob];omega
   unfold U1B
   rw[e1,e2,e3,show decide (x.t<=s.now)=true by simpa using h1.2]
   simp only[yL,Bool.false_or,Bool.and_self,Bool.true_and]
   cases(decide (s.now<x.t+x.job.wall)&&decide (x.t+x.job.wall<=1000000000))<;>cases diffOk v x.job x.nodes<;>rfl
  .have e1:Z0 x.t 0 s.now=false:=by
    unfold Z0;rw[Bool.eq_false_iff];intro q;simp only[yD,yO]at q;exact h1 q
   have e2:U1B s x=false:=by
    unfold U1B;rw[Bool.eq_false_iff];intro q;simp only[yD,yO,Ob]at q;exact h1 ⟨q.1.1.1.1,q.1.1.2⟩
   rw[e1,e2]
   simp[noRoom]
noncomputable def L0M(s:State):Option (Room×Bool):=rgl (λx _ v k=>(Y0B s x v).bind λy=>bif !y.2 then some noRoom else k y.1) (λv=>some (v,true)) s.runs 0 (Qk s.topo s.up s.lic)
noncomputable def O09(s:State):Bool:=topoOk s.topo&&decide (s.up.length=s.topo.nodes.length)&&U0 s.lic&&time s.now
theorem Z0D(s:State):Yg s=bif O09 s then L0M s else some noRoom:=by
 unfold Yg O09
 rw[Y0m,bS,Mb]
 cases(topoOk s.topo&&decide (s.up.length=s.topo.nodes.length)&&U0 s.lic)with
 |false=>rfl
 |true =>
  cases hs:time s.now with
  |false=>rfl
  |true =>
   simp only[yN,yL,Bool.or_self,yM,Bool.and_self]
   unfold L0M
   exact V0u (λi x b k _=>J1z hs x i b k) λb=>rfl
theorem L0d(s:State):MH s=Yg s:=by
 rw[Z0D]
 unfold MH O09
 rw[Lu,Qb,bS,X1D,Uc,On]
 cases ht:topoOk s.topo with
 |false=>rfl
 |true =>
 cases hu:decide (s.up.length=s.topo.nodes.length)with
 |false=>rfl
 |true =>
 cases hl:U0 s.lic with
 |false=>rfl
 |true =>
 cases hs:time s.now with
 |false=>rfl
 |true =>
  simp only[yL,Bool.or_self,yM,Bool.and_self,yN]
  rw[J0O (Ma.1 ht) (of_decide_eq_true hu),bS]
  unfold L0M
  exact V0u (λi x b k _=>Z1H hs x i b k) λb=>rfl
structure RunsP(s:State):Prop where
 job:∀x∈s.runs,Y1 x.job=true/\(x.nodes.length:Int)=x.job.nodes/\J7 s.topo x.nodes=true/\x.nodes.Nodup/\U1B s x=true
theorem W1B{s:State}(h:O09 s=true):∃q,L0M s=some q/\(q.2=true->RoomP q.1/\q.1.topo=s.topo/\q.1.up=s.up/\RunsP s):=by
 unfold O09 at h
 simp only[yD,yO,Ma]at h
 unfold L0M
 refine Lh (λi (v:Room)=>RoomP v/\v.topo=s.topo/\v.up=s.up/\∀x∈s.runs.take i,Y1 x.job=true/\(x.nodes.length:Int)=x.job.nodes/\J7 s.topo x.nodes=true/\x.nodes.Nodup/\U1B s x=true) (λo=>∃q:Room×Bool,o=some q/\(q.2=true->RoomP q.1/\q.1.topo=s.topo/\q.1.up=s.up/\RunsP s)) (λi x v k hx hI hk=>?_) (λv hI=>?_) ⟨J0w h.1.1.1 h.1.1.2 h.1.2,rfl,rfl,by simp⟩
 .obtain⟨h1,h2,h3,h4⟩:=hI
  unfold Y0B
  cases hd:(diffOk v x.job x.nodes&&U1B s x)with
  |false=>exact⟨noRoom,rfl,λh=>by cases h⟩
  |true =>
   simp only[yD]at hd
   have hd1:=hd.1
   unfold diffOk at hd1
   simp only[yD,yO]at hd1
   obtain⟨q,q1,q2⟩:=V0L h1 x.job.need x.job.lic s.now (x.t+x.job.wall) hd1.1.2
   simp only[yN]
   rw[q1,bS]
   cases hq:q.2 with
   |false=>exact⟨noRoom,rfl,λh=>by cases h⟩
   |true =>
    obtain⟨a1,a2,a3⟩:=q2 hq
    refine hk q.1 ⟨a1,a2.trans h2,a3.trans h3,λy hy=>?_⟩
    obtain⟨hi,rfl⟩:=yB hx
    rw[List.take_succ_eq_append_getElem hi]at hy
    rcases List.mem_append.1 hy with hy|hy
    .exact h4 y hy
    .rw[List.mem_singleton.1 hy]
     exact⟨hd1.1.1.1.2,hd1.1.1.2,by rw[← h2];exact hd1.1.2,hd1.2,hd.2⟩
 .obtain⟨h1,h2,h3,h4⟩:=hI
  rw[List.take_of_length_le (yV _)]at h4
  exact⟨_,rfl,λ_=>⟨h1,h2,h3,⟨h4⟩⟩⟩
theorem UG(s:State):∃q,Yg s=some q/\(q.2=true->O09 s=true/\RoomP q.1/\q.1.topo=s.topo/\q.1.up=s.up/\RunsP s):=by
 rw[Z0D]
 cases h:O09 s with
 |false=>exact⟨noRoom,rfl,λh=>by cases h⟩
 |true =>
  obtain⟨q,h1,h2⟩:=W1B h
  exact⟨q,h1,λh=>⟨rfl,h2 h⟩⟩
def allJobs(s:State):tJ:=s.queue++s.runs.map Run.job
theorem O04{s:State}(h:s.queue.length+s.runs.length<=1048576):Vr s=some (allJobs s):=by
 unfold Vr
 rw[Q0 (by simp;omega),bS,Q7 (bd:=UY) (bs:=88) (p:=λ_=>true) (f:=Run.job) (λx hx i b k=>rfl) (by simp;omega)]
 unfold VY allJobs
 simp[List.filter_eq_self.2]
theorem M0g(s:State):QE s=Vr s:=rfl
def AscP(l:tI):Prop:=∀(i:Nat) (x y:Int),l[i]?=some x->l[i+1]?=some y->x<y
open Classical in
noncomputable def ascB(l:tI):Bool:=decide (AscP l)
theorem W1a{l:tI}:ascB l=true↔AscP l:=by unfold ascB;simp
theorem Q0C{l:tI}(hl:l.length<=1048576):Zq l=some (ascB l):=by
 unfold Zq
 have h:=W0r (bd:=We l) (λ(i:Nat) (_:Unit)=>((i+1:Nat):Int)) (n:=l.length-1)
  (B:=λx _ _ k=>bif match l[x]?,l[x+1]? with|some a,some b=>decide (b<=a)|_,_=>true then some false else k ()) (kk:=λ_=>some true) (λi st k hi=>by
   obtain⟨a,ha⟩:∃e,l[i]?=some e:=⟨_,yA (by omega)⟩
   obtain⟨b,hb⟩:∃e,l[i+1]?=some e:=⟨_,yA (by omega)⟩
   have hlt:((i+1:Nat):Int)<(l.length:Int):=by omega
   simp only[We,hlt,decide_true,yN,X19 (n:=i+1) (by omega) (by omega),Nat.add_sub_cancel,X3,ha,hb,bS,Wn (n:=i+1) (by omega)])
  (λi st k hi=>by
   have hlt:¬ ((i+1:Nat):Int)<(l.length:Int):=by omega
   simp only[We,hlt,decide_false,yM]) 9223372036854775807 0 () (by omega)
 refine h.trans ?_
 rw[Ox (r:=some false) (p:=λ(x:Nat)=>match l[x]?,l[x+1]? with|some a,some b=>decide (b<=a)|_,_=>true) (λx _ i k=>rfl)]
 cases hany:(List.range' 0 (l.length-1-0)).any (λ(x:Nat)=>match l[x]?,l[x+1]? with|some a,some b=>decide (b<=a)|_,_=>true)with
 |true =>
  obtain⟨x,hx,hq⟩:=List.any_eq_true.1 hany
  obtain⟨j,hj,rfl⟩:=List.mem_range'.1 hx
  obtain⟨a,ha⟩:∃e,l[0+1*j]?=some e:=⟨_,yA (by omega)⟩
  obtain⟨b,hb⟩:∃e,l[0+1*j+1]?=some e:=⟨_,yA (by omega)⟩
  rw[ha,hb]at hq
  have:ascB l=false:=by
   rw[Bool.eq_false_iff]
   intro q
   have:=W1a.1 q _ a b ha hb
   simp at hq;omega
  rw[this];rfl
 |false =>
  have:ascB l=true:=W1a.2 λi x y hx hy=>by
   have hlt:=(yB hy).1
   have:=List.any_eq_false.1 hany i (List.mem_range'.2 ⟨i,by omega,by omega⟩)
   rw[hx,hy]at this
   simpa using this
  rw[this];rfl
noncomputable def lowN(t:Topo)(l:tI):Nat:=((QH t l).getD 0).toNat
theorem M2a{t:Topo}{l:tI}(h:J7 t l=true)(hne:l≠[]):lowN t l<t.parents.length/\QH t l=some (lowN t l:Int)/\LT t l=some (lowN t l:Int):=by
 obtain⟨s,h1,h2,h3⟩:=V1V h hne
 have:lowN t l=s:=by unfold lowN;rw[h2];simp
 rw[this];exact⟨h1,h2,h3⟩
def isUp(s:State)(n:Int):Bool:=(idx s.up n).getD false
noncomputable def runFit(s:State)(x:Run):Bool:=x.nodes.all (isUp s)&&ascB x.nodes&&decide (lev s.topo (lowN s.topo x.nodes)<=x.job.level)
def endOk(s:State)(e:End):Bool:=(decide (1<=e.id)&&decide (e.id<=999))&&(decide (0<=e.t)&&decide (e.t<=s.now))&&(decide (1<=e.why)&&decide (e.why<=4))
noncomputable def stateOk(s:State):Bool:=((Yg s).getD noRoom).2&&(decide (0<=s.depth)&&decide (s.depth<=60))&&queueOk (allJobs s)&&decide (s.ends.length<=300)&&s.runs.all (runFit s)&&s.ends.all (endOk s)
theorem W1N{a b:Int}:decide (b<a) = !decide (a<=b):=by rw[Bool.eq_iff_iff];simp
theorem U1L{s:State}(_:TopoP s.topo)(hu:s.up.length=s.topo.nodes.length)(hR:RunsP s){x:Run}(hx:x∈s.runs) :
  x.nodes≠[]/\J7 s.topo x.nodes=true/\x.nodes.length<=24/\∀n∈x.nodes,∃b,idx s.up n=some b:=by
 obtain⟨h1,h2,h3,_,_⟩:=hR.job x hx
 have hj:=(Xk.1 h1).2.2.1
 refine⟨λe=>by rw[e]at h2;simp at h2;omega,h3,by omega,λn hn=>?_⟩
 have:=(O5.1 h3).2 n hn
 obtain⟨b,q,_⟩:=L0j (l:=s.up) (i:=n) this.1 (by rw[hu];exact this.2)
 exact⟨b,q⟩
theorem L1z{s:State}(hT:TopoP s.topo)(hu:s.up.length=s.topo.nodes.length)(hR:RunsP s){x:Run}(hx:x∈s.runs)(k:Unit->Option Bool)(i:Nat):XG s x i () k=bif !runFit s x then some false else k ():=by
 obtain⟨h1,h2,h3,h4⟩:=U1L hT hu hR hx
 obtain⟨l1,l2,l3⟩:=M2a h2 h1
 unfold XG
 have hk:Zg s x k ()=bif decide (lev s.topo (lowN s.topo x.nodes)<=x.job.level)then k ()else some false:=by
  unfold Zg
  rw[l2,bS,Ym hT l1,bS,W1N]
  cases decide (lev s.topo (lowN s.topo x.nodes)<=x.job.level)<;>rfl
 have:rgl (VG s x) (Zg s x k) x.nodes 0 ()=bif x.nodes.all (isUp s)&&ascB x.nodes then Zg s x k ()else some false:=by
  refine Lh (λi (_:Unit)=>(∀j n,j<i->x.nodes[j]?=some n->isUp s n=true)/\∀j a b,j+1<i->x.nodes[j]?=some a->x.nodes[j+1]?=some b->a<b) (λo=>o=bif x.nodes.all (isUp s)&&ascB x.nodes then Zg s x k ()else some false) (λi n b kc hi hI hkc=>?_) (λb hI=>?_) ⟨λj n h=>by omega,λj a b h=>by omega⟩
  .have hil:=(yB hi).1
   obtain⟨u,hu'⟩:=h4 n (yE hi)
   have hup:isUp s n=u:=by unfold isUp;rw[hu'];rfl
   unfold VG
   rw[hu',bS]
   cases u with
   |false =>
    have:x.nodes.all (isUp s)=false:=List.all_eq_false.2 ⟨n,yE hi,by rw[hup];simp⟩
    rw[this];rfl
   |true =>
    have new:∀j m,j<i+1->x.nodes[j]?=some m->isUp s m=true:=by
     intro j m hj hm
     by_cases e:j=i
     .subst e;rw[hi]at hm;cases hm;exact hup
     .exact hI.1 j m (by omega) hm
    by_cases h0:i=0
    .subst h0
     exact hkc () ⟨new,λj a b hj=>by omega⟩
    .have hgt:decide ((0:Int)<(i:Int))=true:=by simp;omega
     obtain⟨q,hq⟩:∃q,x.nodes[i-1]?=some q:=⟨_,yA (by omega)⟩
     rw[hgt,X19 (by omega) (by omega)]
     simp only[yL,yM,yN,Bool.false_or,Bool.true_and,X3,hq,bS]
     by_cases h5:n<=q
     .have:ascB x.nodes=false:=by
       rw[Bool.eq_false_iff]
       intro w
       have:=W1a.1 w (i-1) q n hq (by rw[show i-1+1=i by omega];exact hi)
       omega
      rw[this,Bool.and_false];simp[h5]
     .simp only[h5,decide_false,yM]
      refine hkc () ⟨new,λj a b hj ha hb=>?_⟩
      by_cases e:j+1=i
      .have:j=i-1:=by omega
       subst this
       rw[hq]at ha;cases ha
       rw[show i-1+1=i by omega,hi]at hb;cases hb
       omega
      .exact hI.2 j a b (by omega) ha hb
  .have e1:x.nodes.all (isUp s)=true:=List.all_eq_true.2 λn hn=>by
    obtain⟨j,hj⟩:=List.getElem?_of_mem hn
    exact hI.1 j n (yB hj).1 hj
   have e2:ascB x.nodes=true:=W1a.2 λj a b ha hb=>hI.2 j a b (yB hb).1 ha hb
   rw[e1,e2];rfl
 rw[this,hk]
 unfold runFit
 cases x.nodes.all (isUp s)<;>cases ascB x.nodes<;>cases decide (lev s.topo (lowN s.topo x.nodes)<=x.job.level)<;>rfl
theorem V2j{s:State}(hT:TopoP s.topo)(hu:s.up.length=s.topo.nodes.length)(hR:RunsP s){x:Run}(hx:x∈s.runs)(k:Unit->Option Bool)(i:Nat):YH s x i () k=bif !runFit s x then some false else k ():=by
 obtain⟨h1,h2,h3,h4⟩:=U1L hT hu hR hx
 obtain⟨l1,l2,l3⟩:=M2a h2 h1
 unfold YH
 rw[Ox (r:=some false) (p:=λn=>!isUp s n) (λn hn i k=>by
  obtain⟨u,hu'⟩:=h4 n hn
  unfold M00 isUp
  rw[hu',bS];rfl),← List.not_all_eq_any_not]
 unfold O00
 rw[Q0C (by omega),bS]
 unfold runFit
 cases x.nodes.all (isUp s)with
 |false=>rfl
 |true =>
 cases ascB x.nodes with
 |false=>rfl
 |true =>
  simp only[yL,yM,l3,bS,ON hT l1,Bool.false_or,Bool.true_and,W1N]
theorem Xb{s:State}(hs:s.queue.length+s.runs.length<=1048576):Lc s=some (stateOk s)/\Zb s=some (stateOk s):=by
 obtain⟨q,h1,h2⟩:=UG s
 unfold Lc Zb stateOk
 rw[L0d,h1,bS,bS,M0g,O04 hs,Option.getD_some]
 have e1:(decide (s.depth<0)||decide (60<s.depth)) = !(decide (0<=s.depth)&&decide (s.depth<=60)):=by rw[Bool.eq_iff_iff];simp
 have e2:Z0 s.depth 0 60=(decide (0<=s.depth)&&decide (s.depth<=60)):=rfl
 have e3:decide ((300:Int)<(s.ends.length:Int)) = !decide (s.ends.length<=300):=by rw[Bool.eq_iff_iff];simp;omega
 rw[Bool.or_assoc,e1,e2,e3]
 cases hq:q.2 with
 |false=>exact⟨rfl,rfl⟩
 |true =>
 obtain⟨a1,a2,a3,a4,a5⟩:=h2 hq
 have hT:TopoP s.topo:=by rw[← a3];exact a2.topo
 have hu:s.up.length=s.topo.nodes.length:=by rw[← a3,← a4];exact a2.up
 cases(decide (0<=s.depth)&&decide (s.depth<=60))with
 |false=>exact⟨rfl,rfl⟩
 |true =>
 simp only[yL,Bool.or_self,yM,bS,UM,Z0w,Bool.false_or,Bool.true_and]
 cases queueOk (allJobs s)with
 |false=>exact⟨rfl,rfl⟩
 |true =>
 cases decide (s.ends.length<=300)with
 |false=>exact⟨rfl,rfl⟩
 |true =>
 simp only[yL,Bool.or_self,yM,Bool.true_and]
 rw[Ox (r:=some false) (p:=λx=>!runFit s x) (λx hx i k=>L1z hT hu a5 hx k i),Ox (r:=some false) (p:=λx=>!runFit s x) (λx hx i k=>V2j hT hu a5 hx k i),← List.not_all_eq_any_not]
 unfold ZZ W00
 have f1:∀e:End,(((((decide (e.id<1)||decide (999<e.id))||decide (e.t<0))||decide (s.now<e.t))||decide (e.why<1))||decide (4<e.why)) = !endOk s e:=by
  intro e;unfold endOk;rw[Bool.eq_iff_iff];simp;omega
 have f2:∀e:End,(((!(Z0 e.id 1 999))||(!(Z0 e.t 0 s.now)))||(!(Z0 e.why 1 4))) = !endOk s e:=by
  intro e;unfold endOk Z0
  cases(decide (1<=e.id)&&decide (e.id<=999))<;>cases(decide (0<=e.t)&&decide (e.t<=s.now))<;>cases(decide (1<=e.why)&&decide (e.why<=4))<;>rfl
 rw[Ox (bd:=YG s) (r:=some false) (p:=λe=>!endOk s e) (λe he i k=>by unfold YG;rw[f1]),Ox (bd:=ZH s) (r:=some false) (p:=λe=>!endOk s e) (λe he i k=>by unfold ZH;rw[f2]),← List.not_all_eq_any_not]
 unfold JY Q00
 cases s.runs.all (runFit s)<;>cases s.ends.all (endOk s)<;>exact⟨rfl,rfl⟩
structure StateP(s:State):Prop where
 topo:TopoP s.topo
 up:s.up.length=s.topo.nodes.length
 lic:U0 s.lic=true
 now:time s.now=true
 room:∃r,Yg s=some (r,true)/\RoomP r/\r.topo=s.topo/\r.up=s.up
 runs:RunsP s
 depth:0<=s.depth/\s.depth<=60
 queue:queueOk (allJobs s)=true
 ends:s.ends.length<=300
 fit:∀x∈s.runs,runFit s x=true
 fin:∀e∈s.ends,endOk s e=true
theorem Uo{s:State}(h:stateOk s=true):StateP s:=by
 obtain⟨q,h1,h2⟩:=UG s
 unfold stateOk at h
 rw[h1,Option.getD_some]at h
 simp only[yD,yO,List.all_eq_true]at h
 obtain⟨⟨⟨⟨⟨a1,a2⟩,a3⟩,a4⟩,a5⟩,a6⟩:=h
 obtain⟨b1,b2,b3,b4,b5⟩:=h2 a1
 unfold O09 at b1
 simp only[yD,yO,Ma]at b1
 exact⟨b1.1.1.1,b1.1.1.2,b1.1.2,b1.2,⟨q.1,by rw[h1,← a1],b2,b3,b4⟩,b5,a2,a3,a4,a5,a6⟩
def insJ(x:Job):tJ->tJ
 |[]=>[x]
 |y::l=>if Ub x y then x::y::l else y::insJ x l
theorem U0O(x:Job):∀l:tJ,(insJ x l).Perm (x::l)
 |[]=>.refl _
 |y::l=>by
  unfold insJ
  split
  .exact .refl _
  .exact((U0O x l).cons y).trans (.swap x y l)
theorem X2j(x:Job)(l:tJ):(insJ x l).length=l.length+1:=(U0O x l).length_eq
theorem O1N{x y:Job}(h:Ub x y=true):MZ x y=true:=by
 unfold Ub at h;unfold MZ
 simp at h ⊢;omega
theorem W1D{x y:Job}(h:¬ Ub x y=true):MZ y x=true:=by
 unfold Ub at h;unfold MZ
 simp at h ⊢;omega
theorem Z1f{x y z:Job}(h1:MZ x y=true)(h2:MZ y z=true):MZ x z=true:=by
 unfold MZ at *
 simp at h1 h2 ⊢;omega
theorem W1T(x y:Job):(MZ x y||MZ y x)=true:=by
 unfold MZ
 simp;omega
theorem L1j(x:Job):∀{l:tJ},l.Pairwise (λa b=>MZ a b=true)->(insJ x l).Pairwise (λa b=>MZ a b=true)
 |[],_=>by simp[insJ]
 |y::l,h=>by
  unfold insJ
  obtain⟨h1,h2⟩:=List.pairwise_cons.1 h
  split
  .rename_i hb
   refine List.pairwise_cons.2 ⟨λz hz=>?_,h⟩
   rcases yX hz with rfl|hz
   .exact O1N hb
   .exact Z1f (O1N hb) (h1 z hz)
  .rename_i hb
   refine List.pairwise_cons.2 ⟨λz hz=>?_,L1j x h2⟩
   rcases yX ((U0O x l).mem_iff.1 hz)with rfl|hz
   .exact W1D hb
   .exact h1 z hz
def ordF(l:tJ):tJ:=l.foldl (λv x=>insJ x v) []
theorem Y1C:∀(l v:tJ),(l.foldl (λv x=>insJ x v) v).Perm (l++v)/\(v.Pairwise (λa b=>MZ a b=true)->(l.foldl (λv x=>insJ x v) v).Pairwise (λa b=>MZ a b=true))
 |[],v=>⟨.refl _,id⟩
 |x::l,v=>by
  obtain⟨h1,h2⟩:=Y1C l (insJ x v)
  exact⟨h1.trans (((U0O x v).append_left l).trans List.perm_middle),λh=>h2 (L1j x h)⟩
theorem Q0u(l:tJ):(ordF l).Perm l:=by unfold ordF;simpa using(Y1C l []).1
theorem M1S(l:tJ):(ordF l).Pairwise (λa b=>MZ a b=true):=(Y1C l []).2 .nil
theorem L2s(x:Job)(k:tJ->Option tJ)(l:tJ):∀(i:Nat) (acc:tJ),acc.length+l.length<=1000002->rgl (Qu x) (Uu x k) l i (true,acc)=k (acc++l):=by
 induction l with
 |nil=>intro i acc h;simp[rgl,Uu]
 |cons y l ih =>
  intro i acc h
  simp only[yT]at h
  rw[rgl,Qu]
  simp only[yL,Bool.false_and,yM,Li]
  rw[Q0 (by simp;omega),bS,ih (i+1) (acc++[y]) (by simp;omega)]
  simp
theorem W2B(x:Job)(k:tJ->Option tJ)(l:tJ):∀(i:Nat) (p:Bool) (acc:tJ),acc.length+l.length<=1000000->rgl (Qu x) (Uu x k) l i (p,acc)=k (acc++if p then l else insJ x l):=by
 induction l with
 |nil =>
  intro i p acc h
  simp only[rgl,Uu]
  cases p with
  |true=>simp
  |false =>
   simp only[Bool.not_false,yN,insJ]
   rw[Q0 (by simp at h ⊢;omega),bS];simp
 |cons y l ih =>
  intro i p acc h
  simp only[yT]at h
  rw[rgl,Qu]
  cases p with
  |true =>
   simp only[yL,Bool.false_and,yM,Li,yb]
   rw[Q0 (by simp;omega),bS,ih (i+1) true (acc++[y]) (by simp;omega)]
   simp
  |false =>
   simp only[Bool.not_false,Bool.true_and,insJ]
   cases hb:Ub x y with
   |true =>
    simp only[yN,yb,Li]
    rw[Q0 (by simp;omega),bS,Q0 (by simp;omega),bS]
    rw[L2s x k l (i+1) _ (by simp;omega)]
    simp
   |false =>
    simp only[yM,Li]
    rw[Q0 (by simp;omega),bS,ih (i+1) false (acc++[y]) (by simp;omega)]
    simp
theorem Y2i(l:tJ):∀(i:Nat) (v:tJ),v.length+l.length<=1000000->rgl QV M0c l i v=some (l.foldl (λv x=>insJ x v) v):=by
 induction l with
 |nil=>intro i v _;rfl
 |cons x l ih =>
  intro i v h
  simp only[yT]at h
  rw[rgl,QV,W2B x _ v 0 false [] (by simp;omega)]
  simp only[List.nil_append,yG,yc]
  rw[ih (i+1) (insJ x v) (by rw[X2j];omega)]
  rfl
theorem Ms{l:tJ}(h:queueOk l=true):l.length<=60/\(∀x∈l,Y1 x=true)/\(l.map Job.id).Nodup:=by
 unfold queueOk idsOk at h
 simp only[yD,yO,List.all_eq_true]at h
 exact⟨h.1.1,h.1.2,h.2⟩
theorem Y0M{l:tJ}(h:queueOk l=true):O0f l=some (ordF l):=by
 unfold O0f
 rw[UM,bS,h]
 simp only[yL,yM]
 have:=(Ms h).1
 exact Y2i l 0 [] (by simp;omega)
theorem M2n:∀{l:tJ},(l.map Job.id).Nodup->∀{a b:Job},a∈l->b∈l->a.id=b.id->a=b
 |[],_,a,b,ha,_,_=>by simp at ha
 |x::l,h,a,b,ha,hb,e=>by
  rw[List.map_cons,List.nodup_cons]at h
  rcases yX ha with ha'|ha'<;>rcases yX hb with hb'|hb'
  .rw[ha',hb']
  .rw[ha']at e;exact absurd (e ▸ List.mem_map_of_mem hb') h.1
  .rw[hb']at e;exact absurd (e ▸ List.mem_map_of_mem ha') h.1
  .exact M2n h.2 ha' hb' e
theorem X1H{l:tJ}(h:queueOk l=true):X0g l=some (ordF l):=by
 obtain⟨h1,h2,h3⟩:=Ms h
 unfold X0g
 rw[Q0 (by simp;omega),bS,List.nil_append]
 have hj:U0J l:=⟨h3,λj hj=>by have:=Xk.1 (h2 j hj);omega,by omega⟩
 unfold Q19
 rw[yd hj,bS]
 congr 1
 have hs:(l.mergeSort MZ).Pairwise (λa b=>MZ a b=true):=List.pairwise_mergeSort (le:=MZ) (λa b c=>Z1f) W1T l
 refine List.Perm.eq_of_pairwise (le:=λa b=>MZ a b=true) (λa b ha hb q1 q2=>?_) hs (M1S l) ((List.mergeSort_perm l _).trans (Q0u l).symm)
 refine M2n h3 ((List.mergeSort_perm l MZ).mem_iff.1 ha) ((Q0u l).mem_iff.1 hb) ?_
 unfold MZ at q1 q2
 simp at q1 q2;omega
theorem Y25(r:Room)(j:Job)(t:Int)(nodes:tI):LX r j t nodes=Qr r j t nodes:=by
 rw[W05]
 unfold LX
 rw[O0O,On]
 cases time t<;>cases diffOk r j nodes<;>simp only[noRoom,yL,Bool.not_false,yN,yM,Bool.and_true,Bool.and_false,bS]
 cases takeRoom r j.need j.lic t (w64 (t+j.wall)) nodes<;>rfl
theorem J0U(r:Room)(j:Job)(t:Int)(nodes:tI):∃q,Qr r j t nodes=some q/\(q.2=true->nodes.length<=24):=by
 rw[W05]
 cases hd:(diffOk r j nodes&&time t)with
 |false=>exact⟨noRoom,rfl,λh=>by cases h⟩
 |true =>
  simp only[yD]at hd
  have hd1:=hd.1
  unfold diffOk at hd1
  simp only[yD,yO]at hd1
  obtain⟨q,q1,_⟩:=V0L (Y04.1 hd1.1.1.1.1) j.need j.lic t (w64 (t+j.wall)) hd1.1.2
  exact⟨q,q1,λ_=>by have:=Xk.1 hd1.1.1.1.2;omega⟩
structure HeldsOk(L:tJ)(hs:tH):Prop where
 sub:(hs.map Held.id).Sublist (L.map Job.id)
 nodes:∀h∈hs,h.nodes.length<=24
theorem Q28{r:Room}{now d:Int}{L:tJ}(hL:L.length<=60):∃p,rgl (Zk now d) UH L 0 (r,[],[])=some p/\HeldsOk L p.1:=by
 refine Lh (λi (v:Room×tH×tH)=>HeldsOk (L.take i) v.2.1/\v.2.1.length<=i/\v.2.2.length<=i) (λo=>∃p:tH×tH×Bool,o=some p/\HeldsOk L p.1) (λi x v k hx hI hk=>?_) (λv hI=>?_) ⟨⟨by simp,by simp⟩,by simp,by simp⟩
 .obtain⟨hi,rfl⟩:=yB hx
  obtain⟨hI,l1,l2⟩:=hI
  have grow:∀{hs},HeldsOk (L.take i) hs->HeldsOk (L.take (i+1)) hs:=λh=>⟨h.sub.trans ((List.take_sublist_take_left (by omega)).map _),h.nodes⟩
  unfold Zk
  rw[UZ,bS]
  generalize (bif roomOk v.1&&Y1 L[i]&&time now then U2k v.1 L[i] now else(0,[],false))=y
  cases hc:((!y.2.2)||(decide (now<y.1)&&decide (d<=(v.2.2.length:Int))))with
  |true=>exact hk _ ⟨grow hI,by simp only;omega,by simp only;omega⟩
  |false =>
   obtain⟨q,q1,q2⟩:=J0U v.1 L[i] y.1 y.2.1
   simp only[yM,q1,bS]
   cases hq:q.2 with
   |false=>exact hk _ ⟨grow hI,by simp only;omega,by simp only;omega⟩
   |true =>
    have hn:=q2 hq
    simp only[yL,yM]
    cases y.1==now with
    |true =>
     simp only[yN]
     rw[Q0 (by simp;omega),bS]
     refine hk _ ⟨⟨?_,λh hh=>?_⟩,by simp;omega,by simp only;omega⟩
     .rw[List.take_succ_eq_append_getElem hi,List.map_append,List.map_append]
      exact hI.sub.append (.refl _)
     .rcases List.mem_append.1 hh with hh|hh
      .exact hI.nodes h hh
      .rw[List.mem_singleton.1 hh];exact hn
    |false =>
     simp only[yM]
     rw[Q0 (by simp;omega),bS]
     exact hk _ ⟨grow hI,by simp only;omega,by simp;omega⟩
 .rw[List.take_of_length_le (yV _)]at hI
  exact⟨_,rfl,hI.1⟩
theorem U2w(r:Room)(now:Int)(l:tJ)(d:Int):∃p,Jb r now l d=some p/\Xq r now l d=some p/\(p.1=[]\/(queueOk l=true/\HeldsOk (ordF l) p.1)):=by
 have e0:Xq r now l d=Jb r now l d:=by
  unfold Xq Jb
  rw[WD,O0d,UM,Z0w,bS,bS]
  cases hr:roomOk r with
  |false=>rfl
  |true =>
   simp only[yL,yM,bS,Bool.false_or]
   cases hq:queueOk l with
   |false=>rfl
   |true =>
    simp only[yL,Bool.false_or,On,Y0M hq,X1H hq,bS]
    have e1:(((!Q3 now)||decide (d<0))||decide (60<d))=((!time now)||!(Z0 d 0 60)):=by
     have e2:Z0 d 0 60=((!decide (d<0))&&(!decide (60<d))):=by
      unfold Z0
      rw[Bool.eq_iff_iff]
      simp
     rw[e2,Bool.not_and,Bool.not_not,Bool.not_not,← Bool.or_assoc]
     rfl
    rw[e1]
    congr 1
    refine V0u (λi x b k hx=>?_) λb=>rfl
    unfold YI Zk
    simp only[Z1n,Y25]
 rw[e0]
 suffices h:∃p,Jb r now l d=some p/\(p.1=[]\/(queueOk l=true/\HeldsOk (ordF l) p.1)) by
  obtain⟨p,h1,h2⟩:=h
  exact⟨p,h1,h1,h2⟩
 unfold Jb
 rw[WD,UM,bS]
 cases hr:roomOk r with
 |false=>exact⟨_,rfl,.inl rfl⟩
 |true =>
  simp only[yL,yM,bS,Bool.false_or]
  cases hq:queueOk l with
  |false=>exact⟨_,rfl,.inl rfl⟩
  |true =>
   simp only[yL,Bool.false_or]
   cases(((!Q3 now)||decide (d<0))||decide (60<d))with
   |true=>exact⟨_,rfl,.inl rfl⟩
   |false =>
    simp only[yM,Y0M hq,bS]
    obtain⟨p,h1,h2⟩:=Q28 (r:=r) (now:=now) (d:=d) (L:=ordF l) (by rw[(Q0u l).length_eq];exact(Ms hq).1)
    exact⟨p,h1,.inr ⟨by simp,h2⟩⟩
structure SmallS(s:State):Prop where
 up:s.up.length<=1048576
 par:s.topo.parents.length<=1048576
 nodes:s.topo.nodes.length<=1048576
 jobs:s.queue.length+s.runs.length<=1048576
 ends:s.ends.length<=1048576
 run:∀x∈s.runs,x.nodes.length<=1048576
theorem StateP.small{s:State}(h:StateP s):SmallS s:=by
 have hq:=(Ms h.queue).1
 unfold allJobs at hq
 simp only[yU,List.length_map]at hq
 exact⟨by have:=h.up;have:=h.topo.nodes;omega,by have:=h.topo.tree.le;omega,by have:=h.topo.nodes;omega,by omega,by have:=h.ends;omega,λx hx=>by
  obtain⟨h1,h2,_⟩:=h.runs.job x hx
  have:=Xk.1 h1;omega⟩
theorem Ow{s:State}(h:SmallS s):Vi s=some s:=by
 unfold Vi
 have:=h.up;have:=h.par;have:=h.nodes;have:=h.jobs;have:=h.ends
 rw[Q0 (by simp;omega),bS,Q0 (by simp;omega),bS,Q0 (by simp;omega),bS,Q0 (by simp;omega),bS]
 rw[Q7 (bd:=QF) (bs:=120) (p:=λ_=>true) (f:=id) (λx hx i b k=>by
  have:=h.run x hx
  unfold QF
  rw[Q0 (by simp;omega),bS];simp) (by simp;omega)]
 unfold QY
 rw[Q0 (by simp;omega),bS]
 simp[List.filter_eq_self.2]
theorem Ue{s:State}(h:SmallS s):X8 s=some s:=by
 unfold X8 Mm Lm
 have:=h.up;have:=h.par;have:=h.nodes;have:=h.jobs;have:=h.ends
 rw[Q0 (by simp;omega),bS,bS,Q0 (by simp;omega),bS,bS,Q0 (by simp;omega),bS,Q0 (by simp;omega),bS]
 rw[Q7 (bd:=Wv) (bs:=120) (p:=λ_=>true) (f:=id) (λx hx i b k=>by
  have:=h.run x hx
  unfold Wv Lm
  rw[Q0 (by simp;omega),bS,bS];simp) (by simp;omega)]
 unfold JN
 rw[Q0 (by simp;omega),bS]
 simp[List.filter_eq_self.2]
theorem M2d(j:Job)(b:tJ)(id:Int)(hj:j.id=id):∀(a:tJ) (i:Nat),(∀x∈a,x.id≠id)->rgl (Xl id) WY (a++j::b) i ()=some (j,true)
 |[],i,_=>by simp[rgl,Xl,hj]
 |x::a,i,h=>by
  have hx:(x.id==id)=false:=by simpa using h x (yJ ..)
  rw[List.cons_append,rgl,Xl,hx,yM]
  exact M2d j b id hj a (i+1) λy hy=>h y (yH _ hy)
theorem V1E(j:Job)(b:tJ)(id:Int)(hj:j.id=id):∀(a:tJ) (i:Nat),(∀x∈a,x.id≠id)->rgl (Z1 id) V3 (a++j::b) i ()=some ((i+a.length:Nat):Int)
 |[],i,_=>by simp[rgl,Z1,Lr,hj]
 |x::a,i,h=>by
  have hx:Lr x id=false:=by unfold Lr;simpa using h x (yJ ..)
  rw[List.cons_append,rgl,Z1,hx,yM,V1E j b id hj a (i+1) λy hy=>h y (yH _ hy)]
  congr 2
  simp;omega
theorem L2m{j:Job}{a b:tJ}{id:Int}(hl:a.length+b.length<=1048576)(hj:j.id=id)(ha:∀x∈a,x.id≠id)(hb:∀x∈b,x.id≠id):Vw (a++j::b) id=some (a++b):=by
 unfold Vw
 rw[Q7 (bd:=Q04 id) (bs:=88) (p:=λx=>x.id != id) (f:=λx=>x) (λx _ i b k=>rfl) (by simp;omega)]
 unfold U04
 have e1:a.filter (λx=>x.id != id)=a:=List.filter_eq_self.2 λx hx=>by simpa using ha x hx
 have e2:b.filter (λx=>x.id != id)=b:=List.filter_eq_self.2 λx hx=>by simpa using hb x hx
 rw[List.filter_append,List.filter_cons,e1,e2]
 simp[hj]
theorem M2o{j:Job}{a b:tJ}(hl:a.length+b.length<=1048576):O0K (a++j::b) (a.length:Int) (w64 ((a.length:Int)+1))=some (a++b):=by
 rw[Wn (by omega)]
 unfold O0K
 rw[yd ⟨by omega,by omega,by simp;omega⟩]
 simp
theorem Q21(s:State)(hs:tH):∀(i:Nat) (q:tJ) (rs:tR),(hs.map Held.id).Nodup->(∀h∈hs,∃j∈q,j.id=h.id)->(q.map Job.id).Nodup->q.length+rs.length<=1048576 ->
  ∃q' new,(∀k,rgl (Je s) k hs i (q,rs)=k (q',rs++new))/\(∀k,rgl (MG s) k hs i (q,rs)=k (q',rs++new)) /\
   (∀x∈new,x.t=s.now/\∃h∈hs,x.nodes=h.nodes)/\(q'++new.map Run.job).Perm q:=by
 induction hs with
 |nil=>intro i q rs _ _ _ _;exact⟨q,[],λk=>by simp[rgl],λk=>by simp[rgl],by simp,by simp⟩
 |cons h hs ih =>
  intro i q rs hn hm hq hl
  obtain⟨j,hj,hid⟩:=hm h (yJ ..)
  obtain⟨a,b,rfl⟩:=List.append_of_mem hj
  have hq2:(j.id::((a++b).map Job.id)).Nodup:=by
   have:((a++j::b).map Job.id).Perm ((j::(a++b)).map Job.id):=List.perm_middle.map _
   exact(this.nodup_iff.1 hq)
  rw[List.nodup_cons]at hq2
  have hab:∀x∈a++b,x.id≠h.id:=λx hx e=>hq2.1 (by rw[hid,← e];exact List.mem_map_of_mem hx)
  have ha:∀x∈a,x.id≠h.id:=λx hx=>hab x (List.mem_append_left _ hx)
  have hb:∀x∈b,x.id≠h.id:=λx hx=>hab x (List.mem_append_right _ hx)
  simp only[yU,yT]at hl
  rw[List.map_cons,List.nodup_cons]at hn
  obtain⟨q',new,h1,h2,h3,h4⟩:=ih (i+1) (a++b) (rs++[Run.mk j s.now h.nodes]) hn.2 (λh' hh'=>by
   obtain⟨j',hj',hid'⟩:=hm h' (yH _ hh')
   have hne:j'.id≠j.id:=λe=>hn.1 (by rw[← hid,← e,hid'];exact List.mem_map_of_mem hh')
   rcases List.mem_append.1 hj' with q|q
   .exact⟨j',List.mem_append_left _ q,hid'⟩
   .rcases yX q with q|q
    .exact absurd (by rw[q]) hne
    .exact⟨j',List.mem_append_right _ q,hid'⟩) hq2.2 (by simp;omega)
  refine⟨q',Run.mk j s.now h.nodes::new,λk=>?_,λk=>?_,λx hx=>?_,?_⟩
  .rw[rgl,Je]
   unfold Ui
   simp only
   rw[M2d j b h.id hid a 0 ha,bS,L2m (by omega) hid ha hb,bS,Q0 (by simp;omega),bS,h1 k]
   simp
  .rw[rgl,MG]
   unfold Ou M1
   simp only
   rw[V1E j b h.id hid a 0 ha,bS,bS,Nat.zero_add,X3,yS (yV _),Nat.sub_self,List.getElem?_cons_zero,bS,Q0 (by simp;omega),bS,M2o (by omega),bS,h2 k]
   simp
  .rcases yX hx with rfl|hx
   .exact⟨rfl,h,yJ ..,rfl⟩
   .obtain⟨e1,h',hh',e2⟩:=h3 x hx
    exact⟨e1,h',yH _ hh',e2⟩
  .rw[List.map_cons]
   refine List.perm_middle.trans ?_
   exact(h4.cons j).trans List.perm_middle.symm
structure StartP(s s':State)(new:tR):Prop where
 topo:s'.topo=s.topo
 up:s'.up=s.up
 lic:s'.lic=s.lic
 depth:s'.depth=s.depth
 now:s'.now=s.now
 ends:s'.ends=s.ends
 runs:s'.runs=s.runs++new
 fresh:∀x∈new,x.t=s.now/\x.nodes.length<=24
 perm:(s'.queue++new.map Run.job).Perm s.queue
theorem StartP.len{s s':State}{new:tR}(h:StartP s s' new):s'.queue.length+s'.runs.length=s.queue.length+s.runs.length:=by
 have:=h.perm.length_eq
 rw[h.runs]
 simp at this ⊢;omega
theorem StartP.small{s s':State}{new:tR}(h:StartP s s' new)(hs:SmallS s):SmallS s' :=
  ⟨by rw[h.up];exact hs.up,by rw[h.topo];exact hs.par,by rw[h.topo];exact hs.nodes,by rw[h.len];exact hs.jobs,by rw[h.ends];exact hs.ends,λx hx=>by
    rw[h.runs]at hx
    rcases List.mem_append.1 hx with hx|hx
    · exact hs.run x hx
    · have:=(h.fresh x hx).2;omega⟩
theorem M1z{s:State}(hs:SmallS s):∃s' new,Z4 s=some s'/\Jc s=some s'/\StartP s s' new:=by
 obtain⟨r,hr,_⟩:=UG s
 obtain⟨p,p1,p2,p3⟩:=U2w r.1 s.now s.queue s.depth
 unfold Z4 Jc
 rw[L0d,hr,bS,bS,p1,p2,bS,bS,Ue hs,bS]
 have key:(p.1.map Held.id).Nodup/\(∀h∈p.1,∃j∈s.queue,j.id=h.id)/\(∀h∈p.1,h.nodes.length<=24)/\(p.1=[]\/(s.queue.map Job.id).Nodup):=by
  rcases p3 with p3|⟨p3,p4⟩
  .rw[p3];exact⟨by simp,by simp,by simp,.inl rfl⟩
  .have hn:=(Ms p3).2.2
   have ho:((ordF s.queue).map Job.id).Nodup:=((Q0u s.queue).map _).nodup_iff.2 hn
   refine⟨ho.sublist p4.sub,λh hh=>?_,p4.nodes,.inr hn⟩
   have:h.id∈(ordF s.queue).map Job.id:=p4.sub.subset (List.mem_map_of_mem hh)
   obtain⟨j,hj,e⟩:=yY this
   exact⟨j,(Q0u s.queue).mem_iff.1 hj,e⟩
 obtain⟨k1,k2,k3,k4⟩:=key
 rcases k4 with k4|k4
 .rw[k4]
  exact⟨s,[],rfl,rfl,rfl,rfl,rfl,rfl,rfl,rfl,by simp,by simp,by simp⟩
 .obtain⟨q',new,h1,h2,h3,h4⟩:=Q21 s p.1 0 s.queue s.runs k1 k2 k4 hs.jobs
  rw[h1,h2]
  exact⟨_,new,rfl,rfl,rfl,rfl,rfl,rfl,rfl,rfl,rfl,λx hx=>by
   obtain⟨e1,h,hh,e2⟩:=h3 x hx
   exact⟨e1,by rw[e2];exact k3 h hh⟩,h4⟩
def endOf(x:Run):Int:=w64 (x.t+x.job.wall)
def nextStep(v:Int)(x:Run):Int:=bif decide (v<0)||decide (endOf x<v)then endOf x else v
def nextF(s:State):Int:=s.runs.foldl nextStep (-1)
theorem M10(s:State):OI s=some (nextF s):=by
 unfold OI nextF
 rw[JM (f:=nextStep) (λx _ i b k=>by
  unfold XY nextStep endOf
  cases(decide (b<0)||decide (w64 (x.t+x.job.wall)<b))<;>rfl)]
 rfl
theorem U1O(s:State):OX s=some (nextF s):=by
 unfold OX nextF
 rw[JM (f:=nextStep) (λx _ i b k=>by
  unfold JZ nextStep endOf
  cases(decide (b<0)||decide (w64 (x.t+x.job.wall)<b))<;>rfl)]
 rfl
theorem W1Y:∀(l:tR) (v:Int),l.foldl nextStep v=v\/∃x∈l,endOf x=l.foldl nextStep v
 |[],v=>.inl rfl
 |x::l,v=>by
  rw[List.foldl_cons]
  have step:nextStep v x=v\/nextStep v x=endOf x:=by
   unfold nextStep
   cases(decide (v<0)||decide (endOf x<v))with
   |true=>exact .inr rfl
   |false=>exact .inl rfl
  rcases W1Y l (nextStep v x)with h|⟨y,hy,h⟩
  .rw[h]
   rcases step with e|e
   .exact .inl e
   .exact .inr ⟨x,yJ ..,e.symm⟩
  .exact .inr ⟨y,yH _ hy,h⟩
theorem W1M{s:State}(h:0<=nextF s):∃x∈s.runs,endOf x=nextF s:=by
 rcases W1Y s.runs (-1)with e|e
 .unfold nextF at h;omega
 .exact e
def keepF(n:Int)(l:tR):tR:=l.filter λx=>!(endOf x==n)
def doneF(n:Int)(l:tR):tE:=(l.filter λx=>endOf x==n).map λx=>End.mk x.job.id n 1
def endF(s:State)(n:Int):State:=State.mk s.topo s.up s.lic s.depth n s.queue (keepF n s.runs) (s.ends++doneF n s.runs)
theorem J26(v:State×Int)(k:tE×tR->Option (State×Bool))(l:tR):∀(i:Nat) (es:tE) (rs:tR),es.length+l.length<=3000000->rs.length+l.length<=3000000 ->
  rgl (ZV v) k l i (es,rs)=k (es++doneF v.2 l,rs++keepF v.2 l):=by
 induction l with
 |nil=>intro i es rs _ _;simp[rgl,doneF,keepF]
 |cons x l ih =>
  intro i es rs h1 h2
  simp only[yT]at h1 h2
  rw[rgl,ZV]
  have e0:w64 (x.t+x.job.wall)=endOf x:=rfl
  simp only[e0]
  cases hx:(endOf x==v.2)with
  |true =>
   rw[yN,Q0 (by simp;omega),bS,ih (i+1) _ _ (by simp;omega) (by omega)]
   simp[doneF,keepF,hx]
  |false =>
   rw[yM,Q0 (by simp;omega),bS,ih (i+1) _ _ (by omega) (by simp;omega)]
   simp[doneF,keepF,hx]
theorem V2c(s:State)(n:Int)(hn:s.now=n)(k:tE×tJ×tR->Option (tJ×State))(l:tR):∀(i:Nat) (es:tE) (js:tJ) (rs:tR),es.length+l.length<=3000000->js.length+l.length<=3000000->rs.length+l.length<=3000000 ->
  ∃js',rgl (J3 s 1 n) k l i (es,js,rs)=k (es++doneF n l,js',rs++keepF n l):=by
 induction l with
 |nil=>intro i es js rs _ _ _;exact⟨js,by simp[rgl,doneF,keepF]⟩
 |cons x l ih =>
  intro i es js rs h1 h2 h3
  simp only[yT]at h1 h2 h3
  have e0:MX x n=(endOf x==n):=rfl
  cases hx:(endOf x==n)with
  |true =>
   obtain⟨js',hj⟩:=ih (i+1) (es++[End.mk x.job.id n 1]) (js++[x.job]) rs (by simp;omega) (by simp;omega) (by omega)
   refine⟨js',?_⟩
   rw[rgl,J3,e0,hx]
   simp only[yL,yM]
   rw[Q0 (by simp;omega),bS,Q0 (by simp;omega),bS,hn,hj]
   simp[doneF,keepF,hx]
  |false =>
   obtain⟨js',hj⟩:=ih (i+1) es js (rs++[x]) (by omega) (by omega) (by simp;omega)
   refine⟨js',?_⟩
   rw[rgl,J3,e0,hx]
   simp only[Bool.not_false,yN]
   rw[Q0 (by simp;omega),bS,hj]
   simp[doneF,keepF,hx]
theorem M2i{n:Int}{l:tR}{x:Run}(hx:x∈l)(he:endOf x=n):(keepF n l).length<l.length:=by
 unfold keepF
 refine Nat.lt_of_le_of_ne (List.length_filter_le ..) λe=>?_
 have:=List.length_filter_eq_length_iff.1 e x hx
 simp[he]at this
theorem U1y{s:State}(h:SmallS s)(n:Int)(he:(endF s n).ends.length<=1048576):SmallS (endF s n) :=
  ⟨h.up,h.par,h.nodes,by
    have:=h.jobs
    have:(keepF n s.runs).length<=s.runs.length:=List.length_filter_le ..
    simp only[endF];omega,he,λx hx=>h.run x ((List.mem_filter.1 hx).1)⟩
def badS:State×Bool:=(State.mk (Topo.mk [] []) [] (Vec.mk 0 0 0) 0 0 [] [] [],false)
def atT(s:State)(t:Int):State:=State.mk s.topo s.up s.lic s.depth t s.queue s.runs s.ends
theorem U1w(t:Int){s:State}(h:SmallS s)(k:State×Int->Option (State×Bool)):UD t (s,nextF s) k=bif decide (0<=nextF s)&&decide (nextF s<=t)then(bif decide (300<((endF s (nextF s)).ends.length:Int))then some badS else(Z4 (endF s (nextF s))).bind λy=>k (y,nextF y))else some (atT s t,true):=by
 have h1:=h.jobs
 have h2:=h.ends
 unfold UD
 simp only
 rw[J26 (s,nextF s) _ s.runs 0 s.ends [] (by omega) (by simp;omega)]
 unfold O0c
 simp only[M10,bS]
 rfl
theorem W0Y(t:Int){s:State}(h:SmallS s)(k:State->Option (State×Bool)):Mu t s k=bif decide (0<=nextF s)&&decide (nextF s<=t)then(bif decide (300<((endF s (nextF s)).ends.length:Int))then some badS else(Jc (endF s (nextF s))).bind λy=>k y)else some (atT s t,true):=by
 have h1:=h.jobs
 have h2:=h.ends
 unfold Mu X7
 simp only[U1O,bS]
 obtain⟨js',hj⟩:=V2c (State.mk s.topo s.up s.lic s.depth (nextF s) s.queue s.runs s.ends) (nextF s) rfl (L5 (State.mk s.topo s.up s.lic s.depth (nextF s) s.queue s.runs s.ends)) s.runs 0 s.ends [] [] (by omega) (by simp;omega) (by simp;omega)
 rw[hj]
 unfold L5
 simp only[bS]
 have e:(decide (nextF s<0)||decide (t<nextF s)) = !(decide (0<=nextF s)&&decide (nextF s<=t)):=by
  rw[Bool.eq_iff_iff];simp
 rw[e]
 cases(decide (0<=nextF s)&&decide (nextF s<=t))<;>rfl
theorem Y1S(t:Int):∀(m:Nat) (s:State) (f1 f2:Nat),SmallS s->s.queue.length+s.runs.length<=m->m<f1->m<f2->∃r,whl (UD t) f1 (s,nextF s)=some r/\whl (Mu t) f2 s=some r:=by
 intro m
 induction m with
 |zero =>
  intro s f1 f2 hs hm h1 h2
  obtain⟨f1,rfl⟩:∃f,f1=f+1:=⟨f1-1,by omega⟩
  obtain⟨f2,rfl⟩:∃f,f2=f+1:=⟨f2-1,by omega⟩
  rw[whl,whl,U1w t hs,W0Y t hs]
  cases hc:(decide (0<=nextF s)&&decide (nextF s<=t))with
  |false=>exact⟨_,rfl,rfl⟩
  |true =>
   simp only[yD,yO]at hc
   obtain⟨x,hx,_⟩:=W1M hc.1
   have:=List.length_pos_of_mem hx
   omega
 |succ m ih =>
  intro s f1 f2 hs hm h1 h2
  obtain⟨f1,rfl⟩:∃f,f1=f+1:=⟨f1-1,by omega⟩
  obtain⟨f2,rfl⟩:∃f,f2=f+1:=⟨f2-1,by omega⟩
  rw[whl,whl,U1w t hs,W0Y t hs]
  cases hc:(decide (0<=nextF s)&&decide (nextF s<=t))with
  |false=>exact⟨_,rfl,rfl⟩
  |true =>
   simp only[yD,yO]at hc
   obtain⟨x,hx,he⟩:=W1M hc.1
   have hk:=M2i hx he
   simp only[yN]
   by_cases h3:300<((endF s (nextF s)).ends.length:Int)
   .rw[decide_eq_true h3];exact⟨_,rfl,rfl⟩
   .rw[decide_eq_false h3]
    simp only[yM]
    have hsm:=U1y hs (nextF s) (by omega)
    obtain⟨s',new,e1,e2,hS⟩:=M1z hsm
    rw[e1,e2,bS,bS]
    have hl:=hS.len
    have:(endF s (nextF s)).queue.length+(endF s (nextF s)).runs.length=s.queue.length+(keepF (nextF s) s.runs).length:=rfl
    exact ih s' f1 f2 (hS.small hsm) (by omega) (by omega) (by omega)
theorem Z2l{s:State}(hs:SmallS s)(t:Int):∃r,Q0f s t=some r/\UT s t=some r:=by
 obtain⟨h1,h2⟩:=Xb hs.jobs
 unfold Q0f UT
 rw[h1,h2,bS,bS,Ow hs,Ue hs,bS,bS,M10,bS]
 cases hS:stateOk s with
 |false=>exact⟨_,rfl,rfl⟩
 |true =>
  have hn:=Ob.1 (Uo hS).now
  have e:((!Q3 t)||decide (t<s.now)) = !(Z0 t s.now 1000000000):=by
   rw[Mb]
   unfold Z0
   rw[Bool.eq_iff_iff]
   cases ht:time t with
   |true=>have:=Ob.1 ht;simp;omega
   |false =>
    have:¬ (0<=t/\t<=1000000000):=λq=>by rw[Ob.2 q]at ht;cases ht
    simp;omega
  simp only[yL,Bool.false_or,e]
  cases Z0 t s.now 1000000000 with
  |false=>exact⟨_,rfl,rfl⟩
  |true=>exact Y1S t (s.queue.length+s.runs.length) s _ _ hs (yV _) (by have:=hs.jobs;omega) (by have:=hs.jobs;omega)
abbrev zS:State:=State.mk (Topo.mk [] []) [] (Vec.mk 0 0 0) 0 0 [] [] []
def Same(o p:Option (State×Int)):Prop:=∃r,o=some r/\p=some r/\SmallS r.1
theorem J01:SmallS zS:=⟨by simp,by simp,by simp,by simp,by simp,by simp⟩
theorem Same.err(n:Int):Same (some (zS,n)) (some (zS,n)):=⟨_,rfl,rfl,J01⟩
theorem StateP.len60{s:State}(h:StateP s):s.queue.length+s.runs.length<=60:=by
 have:=(Ms h.queue).1
 unfold allJobs at this
 simpa using this
def hasI(l:tJ)(id:Int):Bool:=l.any λy=>y.id==id
theorem L2u(l:tJ)(id:Int):∃y,Ui l id=some y/\y.2=hasI l id:=by
 unfold Ui hasI
 refine Lh (λi (_:Unit)=>∀y∈l.take i,(y.id==id)=false) (λo=>∃y:Job×Bool,o=some y/\y.2=l.any λy=>y.id==id) (λi x b k hx hI hk=>?_) (λb hI=>?_) (by simp)
 .unfold Xl
  cases h:(x.id==id)with
  |true=>exact⟨(x,true),rfl,by rw[List.any_eq_true.2 ⟨x,yE hx,h⟩]⟩
  |false =>
   refine hk () λy hy=>?_
   obtain⟨hi,rfl⟩:=yB hx
   rw[List.take_succ_eq_append_getElem hi]at hy
   rcases List.mem_append.1 hy with hy|hy
   .exact hI y hy
   .rw[List.mem_singleton.1 hy];exact h
 .rw[List.take_length]at hI
  exact⟨_,rfl,by rw[List.any_eq_false.2 λy hy=>by rw[hI y hy];simp]⟩
theorem atI(l:tJ)(id:Int):∃r,Ou l id=some r/\decide (0<=r)=hasI l id/\decide (r<0) = !hasI l id:=by
 suffices h:∃r,rgl (Z1 id) V3 l 0 ()=some r/\decide (0<=r)=hasI l id/\decide (r<0) = !hasI l id by
  obtain⟨r,h1,h2,h3⟩:=h
  exact⟨r,by unfold Ou M1;rw[h1];rfl,h2,h3⟩
 unfold hasI
 refine Lh (λi (_:Unit)=>∀y∈l.take i,(y.id==id)=false) (λo=>∃r:Int,o=some r/\decide (0<=r)=(l.any λy=>y.id==id)/\decide (r<0) = !(l.any λy=>y.id==id)) (λi x b k hx hI hk=>?_) (λb hI=>?_) (by simp)
 .unfold Z1 Lr
  cases h:(x.id==id)with
  |true=>exact⟨i,rfl,by rw[List.any_eq_true.2 ⟨x,yE hx,h⟩];simp,by rw[List.any_eq_true.2 ⟨x,yE hx,h⟩];simp⟩
  |false =>
   refine hk () λy hy=>?_
   obtain⟨hi,rfl⟩:=yB hx
   rw[List.take_succ_eq_append_getElem hi]at hy
   rcases List.mem_append.1 hy with hy|hy
   .exact hI y hy
   .rw[List.mem_singleton.1 hy];exact h
 .rw[List.take_length]at hI
  exact⟨-1,rfl,by rw[List.any_eq_false.2 λy hy=>by rw[hI y hy];simp];rfl,by rw[List.any_eq_false.2 λy hy=>by rw[hI y hy];simp];rfl⟩
theorem M03{s:State}(hs:SmallS s):Same ((Z4 s).bind λy=>some (y,0)) ((Jc s).bind λy=>some (y,0)):=by
 obtain⟨s',new,h1,h2,h3⟩:=M1z hs
 rw[h1,h2]
 exact⟨_,rfl,rfl,h3.small hs⟩
theorem L24{γ:Type}(up:tB){kk:tB->Option γ}{bd:Bool->Nat->tB->(tB->Option γ)->Option γ}(hb:∀x i v k,bd x i v k=(idx v (i:Int)).bind λ_=>k (v.set (i:Int).toNat true)):rgl bd kk up 0 up=kk (List.replicate up.length true):=by
 refine Lh (λi (v:tB)=>v=List.replicate i true++up.drop i) (λo=>o=kk (List.replicate up.length true)) (λi x v k hx hI hk=>?_) (λv hI=>?_) (by simp)
 .obtain⟨hi,rfl⟩:=yB hx
  have hv:v[i]?=some up[i]:=by rw[hI,yS (by simp)];simp[hi]
  rw[hb,X3,hv,bS]
  refine hk _ ?_
  rw[hI,List.drop_eq_getElem_cons hi,yZ,List.set_append_right _ _ (by simp),List.length_replicate,Nat.sub_self,List.set_cons_zero,List.replicate_succ']
  simp
 .rw[hI];simp
theorem Q24{s:State}(h:StateP s)(j:Job){γ:Type}(_:Bool->Option γ):∃b,JK s j=some b/\(∀kk:tB->Option (State×Int),rgl QO kk s.topo.nodes 0 []=kk (List.replicate s.topo.nodes.length true)) /\
  ∃a,WS s.topo (List.replicate s.topo.nodes.length true) s.lic=some a/\∃y,Xn a j 0=some y/\y.2.2=b:=by
 have hn:=h.topo.nodes
 have hT:topoOk s.topo=true:=Ma.2 h.topo
 have hE:=J0w h.topo (up:=List.replicate s.topo.nodes.length true) (by simp) h.lic
 have e1:Vs s=some (Qk s.topo s.up s.lic,true):=by
  rw[Y0m,hT,h.lic]
  simp[h.up]
 have e2:∃y,Vm (Qk s.topo (List.replicate s.topo.nodes.length true) s.lic) j 0=some y:=⟨_,UZ _ _ _⟩
 obtain⟨y,e2⟩:=e2
 refine⟨y.2.2,?_,λkk=>?_,_,J0O h.topo (by simp) s.lic,y,by rw[Z1n,e2],rfl⟩
 .unfold JK
  rw[e1,bS,L24 _ (bd:=LQ) (λx i v k=>rfl)]
  unfold MQ
  have e3:Room.mk (Qk s.topo s.up s.lic).topo (List.replicate (Qk s.topo s.up s.lic).up.length true) (Qk s.topo s.up s.lic).profs (Qk s.topo s.up s.lic).lics=Qk s.topo (List.replicate s.topo.nodes.length true) s.lic:=by
   unfold Qk
   simp only[h.up]
  dsimp only
  rw[e3,e2,bS,Bool.true_and]
 .rw[Q7 (bd:=QO) (bs:=1) (p:=λ_=>true) (f:=λ_=>true) (λx hx i b k=>rfl) (by simp;omega),List.filter_eq_self.2 λ_ _=>rfl,List.nil_append,List.map_const']
theorem J1U{s:State}(hs:SmallS s)(j:Job):Same (X05 s j) (Z08 s j):=by
 unfold X05 Z08
 rw[(Xb hs.jobs).1,(Xb hs.jobs).2,bS,bS,UC]
 cases ho:stateOk s with
 |false=>exact .err 1
 |true =>
 cases hj:Y1 j with
 |false=>exact .err 1
 |true =>
 have h:=Uo ho
 have hq:=h.len60
 simp only[yL,Bool.or_self,yM]
 obtain⟨y,y1,y2⟩:=L2u (allJobs s) j.id
 obtain⟨n,n1,n2,_⟩:=atI (allJobs s) j.id
 rw[M0g,O04 hs.jobs,bS,bS,y1,n1,bS,bS,y2,n2]
 cases hasI (allJobs s) j.id with
 |true=>exact .err 2
 |false =>
 simp only[yM]
 cases decide ((60:Int)<=((allJobs s).length:Int))with
 |true=>exact .err 3
 |false =>
 simp only[yM]
 obtain⟨b,b1,b2,a,a1,e,e1,e2⟩:=Q24 h j (λb=>some b)
 rw[b1,bS,b2]
 unfold J07
 rw[a1,bS,e1,bS,e2]
 cases b with
 |false=>exact .err 4
 |true =>
 simp only[yL,yM]
 rw[Ow hs,Ue hs,bS,bS,Q0 (by simp;omega),bS,bS]
 exact M03 ⟨hs.up,hs.par,hs.nodes,by simp;omega,hs.ends,hs.run⟩
theorem W1C{s:State}(h:StateP s)(n:Int):Ye s n=Z0 n 0 (w64 ((s.up.length:Int)-1)):=by
 have:=h.topo.nodes
 have:=h.up
 unfold Ye Z0
 rw[Y5 (by omega)]
 congr 1
 rw[decide_eq_decide]
 omega
theorem W29{s:State}(h:StateP s){n:Int}(hn:Ye s n=true):∃u,idx s.up n=some u:=by
 unfold Ye at hn
 rw[yD,yO,yO]at hn
 obtain⟨u,hu,_⟩:=L0j (l:=s.up) (i:=n) hn.1 (by rw[h.up];exact hn.2)
 exact⟨u,hu⟩
theorem Z27{s:State}(hs:SmallS s)(n:Nat)(b:Bool):SmallS (State.mk s.topo (s.up.set n b) s.lic s.depth s.now s.queue s.runs s.ends):=⟨by simpa using hs.up,hs.par,hs.nodes,hs.jobs,hs.ends,hs.run⟩
theorem Z1V{s:State}(hs:SmallS s)(n:Int):Same (U05 s n) (V08 s n):=by
 unfold U05 V08
 rw[(Xb hs.jobs).1,(Xb hs.jobs).2,bS,bS]
 cases ho:stateOk s with
 |false=>exact .err 1
 |true =>
 have h:=Uo ho
 simp only[yL,yM]
 rw[W1C h]
 cases hn:Z0 n 0 (w64 ((s.up.length:Int)-1))with
 |false=>exact .err 8
 |true =>
 obtain⟨u,hu⟩:=W29 h (by rw[W1C h];exact hn)
 simp only[yL,yM,hu,bS,Bool.false_or]
 cases u with
 |true=>exact .err 8
 |false =>
 simp only[yM,Ow hs,Ue hs,bS,hu]
 exact M03 (Z27 hs _ _)
theorem Y1V{s:State}(hs:SmallS s)(v:Vec):Same (Q05 s v) (U08 s v):=by
 unfold Q05 U08
 rw[(Xb hs.jobs).1,(Xb hs.jobs).2,bS,bS,Uc]
 cases ho:stateOk s with
 |false=>exact .err 1
 |true =>
 cases hv:U0 v with
 |false=>exact .err 1
 |true =>
 simp only[yL,Bool.or_self,yM,Ow hs,Ue hs,bS,L0d]
 obtain⟨q,q1,_⟩:=UG (State.mk s.topo s.up v s.depth s.now s.queue s.runs s.ends)
 rw[q1,bS,bS]
 cases q.2 with
 |false=>exact .err 9
 |true =>
 simp only[yL,yM]
 exact M03 ⟨hs.up,hs.par,hs.nodes,hs.jobs,hs.ends,hs.run⟩
end Go.Proofs.YtehomnafaoplgaaGreat
