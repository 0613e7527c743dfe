/-
  Lemmas, part 12.
-/
import Derived.Test.YtpgaganbacipnaaGreatS11
namespace Go.Proofs.YtpgaganbacipnaaGreat
open Go Go.RowKit Eng
section
set_option maxRecDepth 20000
noncomputable def W0w:L :=
 lf Tryz.prog Xe [] [] [] [] [(2,13),(3,10),(4,14)] [] [31]
def Q0v:List Rv:=[.t 2]
theorem J0y:YF Tryz.prog Xe 1 W0w Q0v=true:=by kernel_rfl
def Ob(c1:l01Cur)(v6:Int×Int):Option (Int×l01Cur) :=
 some (v6.2,(l01Cur.mk c1.b v6.1 (w64 ((w64 (c1.h*6364136223846793005))+1442695040888963407))))
def Qa(c1:l01Cur):Option (Int×l01Cur) :=
 (shrI .i64 (w64 ((w64 (c1.h*6364136223846793005))+1442695040888963407)) 33).bind fun n2=>(shrI .i64 (w64 ((w64 (c1.h*6364136223846793005))+1442695040888963407)) 45).bind fun n3=>(lenQ c1.b).bind fun _=>bif (decide (c1.i<(c1.b.length:Int)))then((idx c1.b c1.i).bind fun e5=>(Ob c1) ((w64 (c1.i+1)),(bAnd .i64 (w64 ((bAnd .i64 (bXor .i64 n2 n3) 255)+(IntKind.wrap .i64 e5))) 255)))else((Ob c1) (c1.i,(bAnd .i64 (bXor .i64 n2 n3) 255)))
set_option maxRecDepth 20000 in
theorem Qk{c1:l01Cur}{r:Int×l01Cur}(H:Qa c1=some r):ConD Tryz.prog Xe [.ptr 0 0] [(Q0 .rd c1).cells] [] (iV r.1) [(Q0 .rd r.2).cells] [] []:=by
 refine Z0e [] J0y rfl (by kernel_rfl) ?_
 unfold Qa at H
 obtain⟨n2,h2,H⟩:=bB H
 obtain⟨n3,h3,H⟩:=bB H
 obtain⟨u4,h4,H⟩:=bB H
 refine wG [.u 17 (.shr _ _ _ _ fun _=>h2),.u 22 (.shr _ _ _ _ fun _=>h3),.u 33 (.le _ _ (fun _=>lm c1.b eB) (fun _=>OT h4))] fun _=>?_
 refine Q6 (r:=r) (Ob c1) 0 (fun v6:Int×Int=>⟨[(3,.int .i64 v6.2)],[],[(2000000000,(Q0 .rd (l01Cur.mk c1.b v6.1 (w64 ((w64 (c1.h*6364136223846793005))+1442695040888963407)))).cells)],[]⟩) (by kernel_rfl) (fun v6 H=>?_) (fun J12=>?_)
 .unfold Ob at H
  refine wP ?_
  replace H:=sI H;subst H
  exact V4 [(2,.d)] [(2000000000,[])] [] [] [] (by kernel_rfl)
 .refine O0 H (fun H=>?_) fun H=>?_
  .obtain⟨e5,h5,H⟩:=bB H
   refine wG [.u 44 (.ix _ _ _ fun _=>V0 eB h5)] fun _=>?_
   exact wT (J12 _ H)
  .refine wP ?_
   exact wT (J12 _ H)
noncomputable def M0q:L :=
 lf Tryz.prog U0 [] [] [] [] [] [] []
def Q0p:List Rv:=[.t 4]
theorem O0r:YF Tryz.prog U0 2 M0q Q0p=true:=by kernel_rfl
def X0(c1:l01Cur)(n2:Int):Option (Int×l01Cur) :=
 bif (decide (n2<=0))then(some (0,c1))else(bif (decide (n2<=256))then((Qa c1).bind fun y3=>(remI y3.1 n2).bind fun n4=>some (n4,y3.2))else((Qa c1).bind fun y5=>(Qa y5.2).bind fun y6=>(Qa y6.2).bind fun y7=>(Qa y7.2).bind fun y8=>(remI (w64 ((w64 ((w64 ((w64 (y5.1*16777216))+(w64 (y6.1*65536))))+(w64 (y7.1*256))))+y8.1)) n2).bind fun n9=>some (n9,y8.2)))
set_option maxRecDepth 20000 in
theorem Z0{c1:l01Cur}{n2:Int}{r:Int×l01Cur}(H:X0 c1 n2=some r):ConD Tryz.prog U0 [.ptr 0 0,iV n2] [(Q0 .rd c1).cells] [] (iV r.1) [(Q0 .rd r.2).cells] [] []:=by
 refine Z0e [] O0r rfl (by kernel_rfl) ?_
 unfold X0 at H
 refine wP ?_
 refine O0 H (fun H=>?_) fun H=>?_
 .refine wP ?_
  replace H:=sI H;subst H
  exact V4 [(4,.d)] [(2000000000,[])] [] [] [] (by kernel_rfl)
 .refine wP ?_
  refine O0 H (fun H=>?_) fun H=>?_
  .obtain⟨y3,h3,H⟩:=bB H
   obtain⟨n4,h4,H⟩:=bB H
   refine wG [.u 14 (.cw Xe [2000000000] [] [(Q0 .rd c1).cells] [] [.ptr 0 0] _ _ _ _ _ (GEs.of [true] (by simp)) (by simp) (by simp) (by simp) (fun _=>Qk h3)),.u 16 (.rem _ _ _ fun _=>h4)] fun _=>?_
   replace H:=sI H;subst H
   exact V4 [(4,.d)] [(2000000000,[])] [] [] [] (by kernel_rfl)
  .obtain⟨y5,h5,H⟩:=bB H
   obtain⟨y6,h6,H⟩:=bB H
   obtain⟨y7,h7,H⟩:=bB H
   obtain⟨y8,h8,H⟩:=bB H
   obtain⟨n9,h9,H⟩:=bB H
   refine wG [.u 18 (.cw Xe [2000000000] [] [(Q0 .rd c1).cells] [] [.ptr 0 0] _ _ _ _ _ (GEs.of [true] (by simp)) (by simp) (by simp) (by simp) (fun _=>Qk h5)),.u 20 (.cw Xe [2000000000] [] [(Q0 .rd y5.2).cells] [] [.ptr 0 0] _ _ _ _ _ (GEs.of [true] (by simp)) (by simp) (by simp) (by simp) (fun _=>Qk h6)),.u 22 (.cw Xe [2000000000] [] [(Q0 .rd y6.2).cells] [] [.ptr 0 0] _ _ _ _ _ (GEs.of [true] (by simp)) (by simp) (by simp) (by simp) (fun _=>Qk h7)),.u 24 (.cw Xe [2000000000] [] [(Q0 .rd y7.2).cells] [] [.ptr 0 0] _ _ _ _ _ (GEs.of [true] (by simp)) (by simp) (by simp) (by simp) (fun _=>Qk h8)),.u 36 (.rem _ _ _ fun _=>h9)] fun _=>?_
   replace H:=sI H;subst H
   exact V4 [(4,.d)] [(2000000000,[])] [] [] [] (by kernel_rfl)
noncomputable def Q0w:L :=
 lf Tryz.prog Wv [13,17,23] [] [] [] [] [(24,[],[],[0,2,4,6,12,18,9,10,15,16,21,22,24,26],14)] []
def U0v:List Rv:=[.c 2 2 true]
theorem L0y:YF Tryz.prog Wv 1 Q0w U0v=true:=by kernel_rfl
def QB(x5:Int)(k5:(l01Cur×(List Int)×(List Int))->Option (Topo×l01Cur))(y6:Int×l01Cur)(v7:Int×(List Int)×(List Int))(k7:(Int×(List Int)×(List Int))->Option (Topo×l01Cur)):Option (Topo×l01Cur) :=
 bif ((decide (0<v7.1))&&(decide ((v7.2.1.length:Int)<18)))then((appL 8 v7.2.1 [x5]).bind fun xs8=>(appL 8 v7.2.2 [(w64 ((xs8.length:Int)-1))]).bind fun xs9=>k7 ((w64 (v7.1-1)),xs8,xs9))else(k5 (y6.2,v7.2.1,v7.2.2))
def UB(x5:Int)(_:Nat)(v5:l01Cur×(List Int)×(List Int))(k5:(l01Cur×(List Int)×(List Int))->Option (Topo×l01Cur)):Option (Topo×l01Cur) :=
 (X0 v5.1 3).bind fun y6=>whl (QB x5 k5 y6) 9223372036854775807 ((w64 (1+y6.1)),v5.2.1,v5.2.2)
def YB(v3:l01Cur×Int×(List Int)×(List Int))(k3:(l01Cur×Int×(List Int)×(List Int))->Option (Topo×l01Cur))(v5:l01Cur×(List Int)×(List Int)):Option (Topo×l01Cur) :=
 bif (decide (0<(v5.2.2.length:Int)))then(k3 (v5.1,(w64 (v3.2.1+1)),v5.2.1,v5.2.2))else(k3 (v5.1,(w64 (v3.2.1+1)),v5.2.1,v3.2.2.2))
def XB(v3:l01Cur×Int×(List Int)×(List Int))(v13:l01Cur×Int×(List Node))(k13:(l01Cur×Int×(List Node))->Option (Topo×l01Cur)):Option (Topo×l01Cur) :=
 bif (decide (0<v13.2.1))then((X0 v13.1 (v3.2.2.2.length:Int)).bind fun y14=>(idx v3.2.2.2 y14.1).bind fun e15=>(Ym (Topo.mk v3.2.2.1 v13.2.2) e15).bind fun y16=>bif ((y16.length:Int)==0)then((X0 y14.2 5).bind fun y18=>(X0 y18.2 9).bind fun y19=>(X0 y19.2 3).bind fun y20=>(appL 32 v13.2.2 [(Node.mk e15 (Vec.mk (w64 (4+y18.1)) (w64 (8+y19.1)) y20.1))]).bind fun xs21=>k13 (y20.2,(w64 (v13.2.1-1)),xs21))else(k13 (y14.2,(w64 (v13.2.1-1)),v13.2.2)))else(some ((Topo.mk v3.2.2.1 v13.2.2),v13.1))
def VB(y2:Int×l01Cur)(v3:l01Cur×Int×(List Int)×(List Int))(k3:(l01Cur×Int×(List Int)×(List Int))->Option (Topo×l01Cur)):Option (Topo×l01Cur) :=
 bif (decide (v3.2.1<y2.1))then(rgl UB (YB v3 k3) v3.2.2.2 0 (v3.1,v3.2.2.1,[]))else((X0 v3.1 10).bind fun y12=>whl (XB v3) 9223372036854775807 (y12.2,(w64 (1+y12.1)),[]))
def On(c1:l01Cur):Option (Topo×l01Cur) :=
 (X0 c1 3).bind fun y2=>whl (VB y2) 9223372036854775807 (y2.2,0,[0],[0])
set_option maxRecDepth 20000 in
theorem Q00{c1:l01Cur}{r:Topo×l01Cur}(H:On c1=some r):ConD Tryz.prog Wv [.ptr 0 0] [(Q0 .rd c1).cells] [] (.agg [.sref 0,.sref 1]) [(Q0 .rd r.2).cells] [] [(1,r.1.parents.map eI),(4,r.1.nodes.map V1)]:=by
 refine Z0e [] L0y rfl (by kernel_rfl) ?_
 unfold On at H
 obtain⟨y2,h2,H⟩:=bB H
 refine wG [.u 16 (.cw U0 [2000000000] [] [(Q0 .rd c1).cells] [] [.ptr 0 0,iV 3] _ _ _ _ _ (GEs.of [true,false] (by simp)) (by simp) (by simp) (by simp) (fun _=>Z0 h2))] fun _=>?_
 refine wW (fun(v3:l01Cur×Int×(List Int)×(List Int))=>⟨[(0,.ptr 2000000000 0),(2,.ptr 2 0),(3,.ptr 3 0),(4,iV y2.1),(5,.sref 17),(6,iV v3.2.1)],[],[(2000000000,(Q0 .rd v3.1).cells),(2,[.nl,.nl]),(3,[.sref 13,.nl])],[(13,⟨1,v3.2.2.1.map eI,false⟩),(17,⟨1,v3.2.2.2.map eI,false⟩)]⟩) H (fun v3 I m k3 H N53=>?_)
 unfold VB at H
 refine wP ?_
 refine O0 H (fun H=>?_) fun H=>?_
 .refine wG [.u 25 (.ln _ _ fun _=>lm v3.2.2.2 eI)] fun q4=>?_
  refine wR (fun(i5:Nat) (v5:l01Cur×(List Int)×(List Int))=>⟨[(0,.ptr 2000000000 0),(2,.ptr 2 0),(3,.ptr 3 0),(4,iV y2.1),(5,.sref 17),(6,iV v3.2.1),(7,.sref 23),(24,.sref 17),(25,iV (v3.2.2.2.length:Int)),(26,iV (i5:Int))],[],[(2000000000,(Q0 .rd v5.1).cells),(2,[.nl,.nl]),(3,[.sref 13,.nl])],[(13,⟨1,v5.2.1.map eI,false⟩),(17,⟨1,v3.2.2.2.map eI,false⟩),(23,⟨1,v5.2.2.map eI,false⟩)]⟩) H (fun i5 x5 v5 I m k5 hxv5 hiv5 H N39=>?_) (fun v5 I m H=>?_)
  .unfold UB at H
   refine wP ?_
   refine wt (ltT hiv5) ?_
   obtain⟨y6,h6,H⟩:=bB H
   refine wG [.u 28 (.ix _ _ _ fun _=>V0 eI (Z1 hxv5)),.u 29 (.el _ _ _ fun _=>gm eI (Q7 (Z1 hxv5))),.u 31 (.cw U0 [2000000000] [] [(Q0 .rd v5.1).cells] [] [.ptr 0 0,iV 3] _ _ _ _ _ (GEs.of [true,false] (by simp)) (by simp) (by simp) (by simp) (fun _=>Z0 h6))] fun _=>?_
   refine wW (fun(v7:Int×(List Int)×(List Int))=>⟨[(0,.ptr 2000000000 0),(2,.ptr 2 0),(3,.ptr 3 0),(4,iV y2.1),(5,.sref 17),(6,iV v3.2.1),(7,.sref 23),(9,iV x5),(10,iV v7.1),(24,.sref 17),(25,iV (v3.2.2.2.length:Int)),(26,iV (i5:Int))],[],[(2000000000,(Q0 .rd y6.2).cells),(2,[.nl,.nl]),(3,[.sref 13,.nl])],[(13,⟨1,v7.2.1.map eI,false⟩),(17,⟨1,v3.2.2.2.map eI,false⟩),(23,⟨1,v7.2.2.map eI,false⟩)]⟩) H (fun v7 I m k7 H N30=>?_)
   unfold QB at H
   refine wG [.g 38 [((decide (0<v7.1)),true)] (.ln _ _ fun _=>lm v7.2.1 eI)] fun _=>?_
   refine O0 H (fun H=>?_) fun H=>?_
   .obtain⟨xs8,h8,H⟩:=bB H
    obtain⟨xs9,h9,H⟩:=bB H
    refine wG [.u 47 (.ap _ _ _ _ fun _=>L0 eI h8),.u 52 (.ln _ _ fun _=>lm xs8 eI),.u 55 (.ap _ _ _ _ fun _=>L0 eI h9)] fun q10=>?_
    exact wT (N30 _ H)
   .refine wG [.w 56 (wi .i64 rfl hiv5 q4.1)] fun _=>?_
    exact wT (N39 _ H)
  .unfold YB at H
   refine wP ?_
   refine wf (ltF v3.2.2.2.length) ?_
   refine wG [.u 58 (.ln _ _ fun _=>lm v5.2.2 eI)] fun q11=>?_
   refine O0 H (fun H=>?_) fun H=>?_
   .refine wP ?_
    exact U0o (N53 _ H) [] [] [(17,(some 23,0))] [] (by kernel_rfl) (by kernel_rfl)
   .refine wP ?_
    exact wT (N53 _ H)
 .obtain⟨y12,h12,H⟩:=bB H
  refine wG [.u 62 (.cw U0 [2000000000] [] [(Q0 .rd v3.1).cells] [] [.ptr 0 0,iV 10] _ _ _ _ _ (GEs.of [true,false] (by simp)) (by simp) (by simp) (by simp) (fun _=>Z0 h12))] fun _=>?_
  refine O1o (fun(v13:l01Cur×Int×(List Node))=>⟨[(0,.ptr 2000000000 0),(2,.ptr 2 0),(3,.ptr 3 0),(5,.sref 17),(11,.int .i64 v13.2.1)],[],[(2000000000,(Q0 .rd v13.1).cells),(2,[.nl,.nl]),(3,[.sref 13,.sref 455001])],[(13,⟨1,v3.2.2.1.map eI,false⟩),(455001,⟨4,v13.2.2.map V1,false⟩),(17,⟨1,v3.2.2.2.map eI,false⟩)]⟩) [] [(3,[.d,.z 455001])] [(455001,(none,4))] [] (by kernel_rfl) (by kernel_rfl) H (fun v13 I m k13 H N73=>?_)
  unfold XB at H
  refine wP ?_
  refine O0 H (fun H=>?_) fun H=>?_
  .obtain⟨y14,h14,H⟩:=bB H
   obtain⟨e15,h15,H⟩:=bB H
   obtain⟨y16,h16,H⟩:=bB H
   refine wG [.u 71 (.ln _ _ fun _=>lm v3.2.2.2 eI),.u 72 (.cw U0 [2000000000] [] [(Q0 .rd v13.1).cells] [] [.ptr 0 0,iV (v3.2.2.2.length:Int)] _ _ _ _ _ (GEs.of [true,false] (by simp)) (by simp) (by simp) (by simp) (fun _=>Z0 h14)),.u 73 (.ix _ _ _ fun _=>V0 eI h15),.u 74 (.el _ _ _ fun _=>gm eI (Q7 h15)),.c 77 (JA h16),.u 78 (.ln _ _ fun _=>lm y16 eI)] fun q17=>?_
   refine O0 H (fun H=>?_) fun H=>?_
   .obtain⟨y18,h18,H⟩:=bB H
    obtain⟨y19,h19,H⟩:=bB H
    obtain⟨y20,h20,H⟩:=bB H
    obtain⟨xs21,h21,H⟩:=bB H
    refine wG [.u 84 (.cz U0 [2000000000] [(Q0 .rd y14.2).cells] [.ptr 0 0,iV 5] _ _ _ (by simp) (by simp) (fun _=>by simp) (fun _=>Z0 h18)),.u 87 (.cz U0 [2000000000] [(Q0 .rd y18.2).cells] [.ptr 0 0,iV 9] _ _ _ (by simp) (by simp) (fun _=>by simp) (fun _=>Z0 h19)),.u 90 (.cz U0 [2000000000] [(Q0 .rd y19.2).cells] [.ptr 0 0,iV 3] _ _ _ (by simp) (by simp) (fun _=>by simp) (fun _=>Z0 h20)),.u 94 (.ap _ _ _ _ fun _=>L0 V1 h21)] fun _=>?_
    exact wT (N73 _ H)
   .refine wP ?_
    exact wT (N73 _ H)
  .refine wP ?_
   replace H:=sI H;subst H
   exact V4 [(2,.d)] [(2,[]),(2000000000,[])] [(13,some 13,0),(455001,some 455001,0)] [] [13,455001] (by kernel_rfl)
noncomputable def W0E:L :=
 lf Tryz.prog VQ [] [(15,1)] [] [] [] [] []
def M0D:List Rv:=[.c 2 11 true]
theorem J0H:YF Tryz.prog VQ 1 W0E M0D=true:=by kernel_rfl
def Oz(c1:l01Cur):Option (State×l01Cur) :=
 (On c1).bind fun y2=>(X0 y2.2 6).bind fun y3=>(X0 y3.2 4).bind fun y4=>(X0 y4.2 4).bind fun y5=>(LB y2.1 (Vec.mk y3.1 y4.1 1) y5.1).bind fun y6=>some (y6.1,y5.2)
set_option maxRecDepth 20000 in
theorem Z0C{c1:l01Cur}{r:State×l01Cur}(H:Oz c1=some r):ConD Tryz.prog VQ [.ptr 0 0] [(Q0 .rd c1).cells] [] (.agg [nV 1 (r.1.topo.parents.map eI),nV 4 (r.1.topo.nodes.map V1),.sref 0,iV r.1.lic.a,iV r.1.lic.b,iV r.1.lic.c,iV r.1.depth,iV r.1.now,.sref 1,.sref 2,.sref 3]) [(Q0 .rd r.2).cells] [] [(1,r.1.up.map eBo),(11,r.1.queue.map eJob),(13,r.1.runs.map (X1 .nw)),(3,r.1.ends.map eEnd)]:=by
 refine Z0e [] J0H rfl (by kernel_rfl) ?_
 unfold Oz at H
 obtain⟨y2,h2,H⟩:=bB H
 obtain⟨y3,h3,H⟩:=bB H
 obtain⟨y4,h4,H⟩:=bB H
 obtain⟨y5,h5,H⟩:=bB H
 obtain⟨y6,h6,H⟩:=bB H
 refine wG [.u 7 (.cw Wv [2000000000] [] [(Q0 .rd c1).cells] [] [.ptr 0 0] _ _ _ _ _ (GEs.of [true] (by simp)) (by simp) (by simp) (by simp) (fun _=>Q00 h2)),.u 9 (.cw U0 [2000000000] [] [(Q0 .rd y2.2).cells] [] [.ptr 0 0,iV 6] _ _ _ _ _ (GEs.of [true,false] (by simp)) (by simp) (by simp) (by simp) (fun _=>Z0 h3)),.u 11 (.cw U0 [2000000000] [] [(Q0 .rd y3.2).cells] [] [.ptr 0 0,iV 4] _ _ _ _ _ (GEs.of [true,false] (by simp)) (by simp) (by simp) (by simp) (fun _=>Z0 h4)),.u 14 (.cw U0 [2000000000] [] [(Q0 .rd y4.2).cells] [] [.ptr 0 0,iV 4] _ _ _ _ _ (GEs.of [true,false] (by simp)) (by simp) (by simp) (by simp) (fun _=>Z0 h5)),.c 15 (U0D h6)] fun _=>?_
 replace H:=sI H;subst H
 exact V4 [(2,.d)] [(2,[]),(2000000000,[])] [(16000,some 16000,0),(16001,some 16001,0),(16002,some 16002,0),(16003,some 16003,0)] [] [16000,16001,16002,16003] (by kernel_rfl)
noncomputable def Z0F:L :=
 lf Tryz.prog QQ [] [] [] [] [] [] [15]
def J0D:List Rv:=[.c 2 11 true]
theorem Y0I:YF Tryz.prog QQ 1 Z0F J0D=true:=by kernel_rfl
def Xw(y2 y3 y4 y5 y6:Int×l01Cur)(n8:Int)(y9 y10:Int×l01Cur)(v14:l01Cur×Int×Int):Option (Job×l01Cur) :=
 some ((Job.mk (w64 (1+y2.1)) y3.1 (w64 (1+y4.1)) (Vec.mk (w64 (1+y5.1)) y6.1 n8) (Vec.mk v14.2.1 v14.2.2 0) (w64 (1+y9.1)) y10.1),v14.1)
def WA(c1:l01Cur):Option (Job×l01Cur) :=
 (X0 c1 30).bind fun y2=>(X0 y2.2 5).bind fun y3=>(X0 y3.2 3).bind fun y4=>(X0 y4.2 5).bind fun y5=>(X0 y5.2 9).bind fun y6=>(X0 y6.2 4).bind fun y7=>(quoI .i64 y7.1 3).bind fun n8=>(X0 y7.2 20).bind fun y9=>(X0 y9.2 3).bind fun y10=>(X0 y10.2 3).bind fun y11=>bif (y11.1==0)then((X0 y11.2 3).bind fun y12=>(X0 y12.2 2).bind fun y13=>(Xw y2 y3 y4 y5 y6 n8 y9 y10) (y13.2,y12.1,y13.1))else((Xw y2 y3 y4 y5 y6 n8 y9 y10) (y11.2,0,0))
set_option maxRecDepth 20000 in
theorem Q0C{c1:l01Cur}{r:Job×l01Cur}(H:WA c1=some r):ConD Tryz.prog QQ [.ptr 0 0] [(Q0 .rd c1).cells] [] (eJob r.1) [(Q0 .rd r.2).cells] [] []:=by
 refine Z0e [] Y0I rfl (by kernel_rfl) ?_
 unfold WA at H
 obtain⟨y2,h2,H⟩:=bB H
 obtain⟨y3,h3,H⟩:=bB H
 obtain⟨y4,h4,H⟩:=bB H
 obtain⟨y5,h5,H⟩:=bB H
 obtain⟨y6,h6,H⟩:=bB H
 obtain⟨y7,h7,H⟩:=bB H
 obtain⟨n8,h8,H⟩:=bB H
 obtain⟨y9,h9,H⟩:=bB H
 obtain⟨y10,h10,H⟩:=bB H
 obtain⟨y11,h11,H⟩:=bB H
 refine wG [.u 5 (.cw U0 [2000000000] [] [(Q0 .rd c1).cells] [] [.ptr 0 0,iV 30] _ _ _ _ _ (GEs.of [true,false] (by simp)) (by simp) (by simp) (by simp) (fun _=>Z0 h2)),.u 8 (.cw U0 [2000000000] [] [(Q0 .rd y2.2).cells] [] [.ptr 0 0,iV 5] _ _ _ _ _ (GEs.of [true,false] (by simp)) (by simp) (by simp) (by simp) (fun _=>Z0 h3)),.u 10 (.cw U0 [2000000000] [] [(Q0 .rd y3.2).cells] [] [.ptr 0 0,iV 3] _ _ _ _ _ (GEs.of [true,false] (by simp)) (by simp) (by simp) (by simp) (fun _=>Z0 h4)),.u 13 (.cw U0 [2000000000] [] [(Q0 .rd y4.2).cells] [] [.ptr 0 0,iV 5] _ _ _ _ _ (GEs.of [true,false] (by simp)) (by simp) (by simp) (by simp) (fun _=>Z0 h5)),.u 16 (.cw U0 [2000000000] [] [(Q0 .rd y5.2).cells] [] [.ptr 0 0,iV 9] _ _ _ _ _ (GEs.of [true,false] (by simp)) (by simp) (by simp) (by simp) (fun _=>Z0 h6)),.u 18 (.cw U0 [2000000000] [] [(Q0 .rd y6.2).cells] [] [.ptr 0 0,iV 4] _ _ _ _ _ (GEs.of [true,false] (by simp)) (by simp) (by simp) (by simp) (fun _=>Z0 h7)),.u 19 (.quo _ _ _ _ fun _=>h8),.u 22 (.cw U0 [2000000000] [] [(Q0 .rd y7.2).cells] [] [.ptr 0 0,iV 20] _ _ _ _ _ (GEs.of [true,false] (by simp)) (by simp) (by simp) (by simp) (fun _=>Z0 h9)),.u 25 (.cw U0 [2000000000] [] [(Q0 .rd y9.2).cells] [] [.ptr 0 0,iV 3] _ _ _ _ _ (GEs.of [true,false] (by simp)) (by simp) (by simp) (by simp) (fun _=>Z0 h10)),.u 28 (.cw U0 [2000000000] [] [(Q0 .rd y10.2).cells] [] [.ptr 0 0,iV 3] _ _ _ _ _ (GEs.of [true,false] (by simp)) (by simp) (by simp) (by simp) (fun _=>Z0 h11))] fun _=>?_
 refine Q6 (r:=r) (Xw y2 y3 y4 y5 y6 n8 y9 y10) 0 (fun v14:l01Cur×Int×Int=>⟨[(2,.ptr 2 0),(3,.ptr 3 0)],[],[(2000000000,(Q0 .rd v14.1).cells),(2,(eJob (Job.mk 0 0 0 (Vec.mk 0 0 0) (Vec.mk 0 0 0) 0 0)).cells),(3,(eJob (Job.mk (w64 (1+y2.1)) y3.1 (w64 (1+y4.1)) (Vec.mk (w64 (1+y5.1)) y6.1 n8) (Vec.mk v14.2.1 v14.2.2 0) (w64 (1+y9.1)) y10.1)).cells)],[]⟩) (by kernel_rfl) (fun v14 H=>?_) (fun J9=>?_)
 .unfold Xw at H
  refine wP ?_
  replace H:=sI H;subst H
  exact V4 [(2,.d)] [(2,[]),(2000000000,[])] [] [] [] (by kernel_rfl)
 .refine O0 H (fun H=>?_) fun H=>?_
  .obtain⟨y12,h12,H⟩:=bB H
   obtain⟨y13,h13,H⟩:=bB H
   refine wG [.u 31 (.cw U0 [2000000000] [] [(Q0 .rd y11.2).cells] [] [.ptr 0 0,iV 3] _ _ _ _ _ (GEs.of [true,false] (by simp)) (by simp) (by simp) (by simp) (fun _=>Z0 h12)),.u 33 (.cw U0 [2000000000] [] [(Q0 .rd y12.2).cells] [] [.ptr 0 0,iV 2] _ _ _ _ _ (GEs.of [true,false] (by simp)) (by simp) (by simp) (by simp) (fun _=>Z0 h13))] fun _=>?_
   exact wT (J9 _ H)
  .refine wP ?_
   exact wT (J9 _ H)
noncomputable def U01:L :=
 lf Tryz.prog UK [] [(19,1),(31,1),(46,1),(59,1),(72,1),(86,1),(109,1)] [] [] [] [(5,[6],[],[0,2,5,7,9,12,11],7),(7,[],[10],[0,2,4,6,9,10,13,15,18,17],11),(11,[6],[],[0,2,8,5,6,11,12,15,17,20,19],11),(13,[6],[],[0,2,4,6,8,10,13,15,17,20,19],11),(15,[6],[],[0,2,4,6,8,10,13,15,17,20,19],11),(17,[6],[],[0,2,6,10,5,9,13,14,17,19,22,21],12),(19,[6],[],[0,2,4,6,8,10,12,24,15,16,18,20,22,27,28,31,33,36,35],19)] []
def L00:List Rv:=[.c 4 11 true]
theorem X02:YF Tryz.prog UK 2 U01 L00=true:=by kernel_rfl
def Ma(c1:l01Cur)(s2:State):Option (State×l01Cur) :=
 (X0 c1 14).bind fun y3=>bif (decide (y3.1<7))then((WA y3.2).bind fun y4=>(JR s2 y4.1).bind fun y5=>bif (y5.2 != 0)then(some (s2,y4.2))else(some (y5.1,y4.2)))else(bif (decide (y3.1<9))then((X0 y3.2 12).bind fun y6=>(W00 s2 (w64 (s2.now+y6.1))).bind fun y7=>bif y7.2 then(bif (0 != 0)then(some (s2,y6.2))else(some (y7.1,y6.2)))else(bif (0 != 0)then(some (s2,y6.2))else(some (s2,y6.2))))else(bif (y3.1==9)then((X0 y3.2 30).bind fun y8=>(X0 y8.2 2).bind fun y9=>(LG s2 (w64 (1+y8.1)) (w64 (2+y9.1))).bind fun y10=>bif (y10.2 != 0)then(some (s2,y9.2))else(some (y10.1,y9.2)))else(bif (y3.1==10)then((lenQ s2.topo.nodes).bind fun _=>(X0 y3.2 (s2.topo.nodes.length:Int)).bind fun y12=>(U0b s2 y12.1).bind fun y13=>bif (y13.2 != 0)then(some (s2,y12.2))else(some (y13.1,y12.2)))else(bif (y3.1==11)then((lenQ s2.topo.nodes).bind fun _=>(X0 y3.2 (s2.topo.nodes.length:Int)).bind fun y15=>(YS s2 y15.1).bind fun y16=>bif (y16.2 != 0)then(some (s2,y15.2))else(some (y16.1,y15.2)))else(bif (y3.1==12)then((X0 y3.2 6).bind fun y17=>(X0 y17.2 4).bind fun y18=>(X0 y18.2 2).bind fun y19=>(XS s2 (Vec.mk y17.1 y18.1 y19.1)).bind fun y20=>bif (y20.2 != 0)then(some (s2,y19.2))else(some (y20.1,y19.2)))else(bif (decide (0<(s2.runs.length:Int)))then((X0 y3.2 (s2.runs.length:Int)).bind fun y22=>(idx s2.runs y22.1).bind fun e23=>(X0 y22.2 2).bind fun y24=>(LG s2 e23.job.id (w64 (2+y24.1))).bind fun y25=>bif (y25.2 != 0)then(some (s2,y24.2))else(some (y25.1,y24.2)))else(bif (0 != 0)then(some (s2,y3.2))else(some (s2,y3.2)))))))))
set_option maxRecDepth 20000 in
theorem V00{c1:l01Cur}{s2:State}{r:State×l01Cur}(H:Ma c1 s2=some r):ConD Tryz.prog UK [.ptr 0 0,.agg [nV 1 (s2.topo.parents.map eI),nV 4 (s2.topo.nodes.map V1),.sref 0,iV s2.lic.a,iV s2.lic.b,iV s2.lic.c,iV s2.depth,iV s2.now,.sref 1,.sref 2,.sref 3]] [(Q0 .rd c1).cells] [(1,s2.up.map eBo),(11,s2.queue.map eJob),(13,s2.runs.map (X1 .nw)),(3,s2.ends.map eEnd)] (.agg [nV 1 (r.1.topo.parents.map eI),nV 4 (r.1.topo.nodes.map V1),.sref 4,iV r.1.lic.a,iV r.1.lic.b,iV r.1.lic.c,iV r.1.depth,iV r.1.now,.sref 5,.sref 6,.sref 7]) [(Q0 .rd r.2).cells] [none,none,none,none] [(1,r.1.up.map eBo),(11,r.1.queue.map eJob),(13,r.1.runs.map (X1 .nw)),(3,r.1.ends.map eEnd)]:=by
 refine Z0e [false,false,false,false] X02 rfl (by kernel_rfl) ?_
 unfold Ma at H
 obtain⟨y3,h3,H⟩:=bB H
 refine wG [.u 11 (.cw U0 [2000000000] [] [(Q0 .rd c1).cells] [] [.ptr 0 0,iV 14] _ _ _ _ _ (GEs.of [true,false] (by simp)) (by simp) (by simp) (by simp) (fun _=>Z0 h3))] fun _=>?_
 refine O0 H (fun H=>?_) fun H=>?_
 .obtain⟨y4,h4,H⟩:=bB H
  obtain⟨y5,h5,H⟩:=bB H
  refine wG [.u 18 (.cz QQ [2000000000] [(Q0 .rd y3.2).cells] [.ptr 0 0] _ _ _ (by simp) (by simp) (fun _=>by simp) (fun _=>Q0C h4)),.u 19 (.call _ _ _ _ _ (AEs.of (xs:=[.agg [rV 1 (s2.topo.parents.map eI),rV 4 (s2.topo.nodes.map V1),rV 1 (s2.up.map eBo),iV s2.lic.a,iV s2.lic.b,iV s2.lic.c,iV s2.depth,iV s2.now,rV 11 (s2.queue.map eJob),rV 13 (s2.runs.map (X1 .nw)),rV 3 (s2.ends.map eEnd)],.agg [iV y4.1.id,iV y4.1.prio,iV y4.1.nodes,iV y4.1.need.a,iV y4.1.need.b,iV y4.1.need.c,iV y4.1.lic.a,iV y4.1.lic.b,iV y4.1.lic.c,iV y4.1.wall,iV y4.1.level]]) (by simp)) (fun _=>Y0T h5))] fun _=>?_
  refine O0 H (fun H=>?_) fun H=>?_
  .refine wP ?_
   replace H:=sI H;subst H
   exact V4 [(4,.d)] [(4,[]),(2000000000,[])] [(500000000,some 500000000,0),(500000001,some 500000001,0),(500000002,some 500000002,0),(500000003,some 500000003,0)] [] [500000000,500000001,500000002,500000003] (by kernel_rfl)
  .refine wP ?_
   replace H:=sI H;subst H
   exact V4 [(4,.d)] [(4,[]),(2000000000,[])] [(20000,some 20000,0),(20001,some 20001,0),(20002,some 20002,0),(20003,some 20003,0)] [] [20000,20001,20002,20003] (by kernel_rfl)
 .refine wP ?_
  refine O0 H (fun H=>?_) fun H=>?_
  .obtain⟨y6,h6,H⟩:=bB H
   obtain⟨y7,h7,H⟩:=bB H
   refine wG [.u 29 (.cz U0 [2000000000] [(Q0 .rd y3.2).cells] [.ptr 0 0,iV 12] _ _ _ (by simp) (by simp) (fun _=>by simp) (fun _=>Z0 h6)),.u 31 (.call _ _ _ _ _ (AEs.of (xs:=[.agg [rV 1 (s2.topo.parents.map eI),rV 4 (s2.topo.nodes.map V1),rV 1 (s2.up.map eBo),iV s2.lic.a,iV s2.lic.b,iV s2.lic.c,iV s2.depth,iV s2.now,rV 11 (s2.queue.map eJob),rV 13 (s2.runs.map (X1 .nw)),rV 3 (s2.ends.map eEnd)],iV (w64 (s2.now+y6.1))]) (by simp)) (fun _=>X12 h7))] fun _=>?_
   refine O0 H (fun H=>?_) fun H=>?_
   .refine wP ?_
    refine O0 H (fun H=>?_) fun H=>?_
    .refine wP ?_
     replace H:=sI H;subst H
     exact V4 [(4,.d)] [(4,[]),(2000000000,[])] [(500000000,some 500000000,0),(500000001,some 500000001,0),(500000002,some 500000002,0),(500000003,some 500000003,0)] [] [500000000,500000001,500000002,500000003] (by kernel_rfl)
    .refine wP ?_
     replace H:=sI H;subst H
     exact V4 [(4,.d)] [(4,[]),(2000000000,[])] [(32000,some 32000,0),(32001,some 32001,0),(32002,some 32002,0),(32003,some 32003,0)] [] [32000,32001,32002,32003] (by kernel_rfl)
   .refine wP ?_
    refine O0 H (fun H=>?_) fun H=>?_
    .refine wP ?_
     replace H:=sI H;subst H
     exact V4 [(4,.d)] [(4,[]),(2000000000,[])] [(500000000,some 500000000,0),(500000001,some 500000001,0),(500000002,some 500000002,0),(500000003,some 500000003,0)] [] [500000000,500000001,500000002,500000003] (by kernel_rfl)
    .refine wP ?_
     replace H:=sI H;subst H
     exact V4 [(4,.d)] [(4,[]),(2000000000,[])] [(500000000,some 500000000,0),(500000001,some 500000001,0),(500000002,some 500000002,0),(500000003,some 500000003,0)] [] [500000000,500000001,500000002,500000003] (by kernel_rfl)
  .refine wP ?_
   refine O0 H (fun H=>?_) fun H=>?_
   .obtain⟨y8,h8,H⟩:=bB H
    obtain⟨y9,h9,H⟩:=bB H
    obtain⟨y10,h10,H⟩:=bB H
    refine wG [.u 41 (.cz U0 [2000000000] [(Q0 .rd y3.2).cells] [.ptr 0 0,iV 30] _ _ _ (by simp) (by simp) (fun _=>by simp) (fun _=>Z0 h8)),.u 44 (.cz U0 [2000000000] [(Q0 .rd y8.2).cells] [.ptr 0 0,iV 2] _ _ _ (by simp) (by simp) (fun _=>by simp) (fun _=>Z0 h9)),.u 46 (.call _ _ _ _ _ (AEs.of (xs:=[.agg [rV 1 (s2.topo.parents.map eI),rV 4 (s2.topo.nodes.map V1),rV 1 (s2.up.map eBo),iV s2.lic.a,iV s2.lic.b,iV s2.lic.c,iV s2.depth,iV s2.now,rV 11 (s2.queue.map eJob),rV 13 (s2.runs.map (X1 .nw)),rV 3 (s2.ends.map eEnd)],iV (w64 (1+y8.1)),iV (w64 (2+y9.1))]) (by simp)) (fun _=>W0j h10))] fun _=>?_
    refine O0 H (fun H=>?_) fun H=>?_
    .refine wP ?_
     replace H:=sI H;subst H
     exact V4 [(4,.d)] [(4,[]),(2000000000,[])] [(500000000,some 500000000,0),(500000001,some 500000001,0),(500000002,some 500000002,0),(500000003,some 500000003,0)] [] [500000000,500000001,500000002,500000003] (by kernel_rfl)
    .refine wP ?_
     replace H:=sI H;subst H
     exact V4 [(4,.d)] [(4,[]),(2000000000,[])] [(47000,some 47000,0),(47001,some 47001,0),(47002,some 47002,0),(47003,some 47003,0)] [] [47000,47001,47002,47003] (by kernel_rfl)
   .refine wP ?_
    refine O0 H (fun H=>?_) fun H=>?_
    .obtain⟨u11,h11,H⟩:=bB H
     obtain⟨y12,h12,H⟩:=bB H
     obtain⟨y13,h13,H⟩:=bB H
     refine wG [.u 57 (.le _ _ (fun _=>lm s2.topo.nodes V1) (fun _=>OT h11)),.u 58 (.cz U0 [2000000000] [(Q0 .rd y3.2).cells] [.ptr 0 0,iV (s2.topo.nodes.length:Int)] _ _ _ (by simp) (by simp) (fun _=>by simp) (fun _=>Z0 h12)),.u 59 (.call _ _ _ _ _ (AEs.of (xs:=[.agg [rV 1 (s2.topo.parents.map eI),rV 4 (s2.topo.nodes.map V1),rV 1 (s2.up.map eBo),iV s2.lic.a,iV s2.lic.b,iV s2.lic.c,iV s2.depth,iV s2.now,rV 11 (s2.queue.map eJob),rV 13 (s2.runs.map (X1 .nw)),rV 3 (s2.ends.map eEnd)],iV y12.1]) (by simp)) (fun _=>V1a h13))] fun _=>?_
     refine O0 H (fun H=>?_) fun H=>?_
     .refine wP ?_
      replace H:=sI H;subst H
      exact V4 [(4,.d)] [(4,[]),(2000000000,[])] [(500000000,some 500000000,0),(500000001,some 500000001,0),(500000002,some 500000002,0),(500000003,some 500000003,0)] [] [500000000,500000001,500000002,500000003] (by kernel_rfl)
     .refine wP ?_
      replace H:=sI H;subst H
      exact V4 [(4,.d)] [(4,[]),(2000000000,[])] [(60000,some 60000,0),(60001,some 60001,0),(60002,some 60002,0),(60003,some 60003,0)] [] [60000,60001,60002,60003] (by kernel_rfl)
    .refine wP ?_
     refine O0 H (fun H=>?_) fun H=>?_
     .obtain⟨u14,h14,H⟩:=bB H
      obtain⟨y15,h15,H⟩:=bB H
      obtain⟨y16,h16,H⟩:=bB H
      refine wG [.u 70 (.le _ _ (fun _=>lm s2.topo.nodes V1) (fun _=>OT h14)),.u 71 (.cz U0 [2000000000] [(Q0 .rd y3.2).cells] [.ptr 0 0,iV (s2.topo.nodes.length:Int)] _ _ _ (by simp) (by simp) (fun _=>by simp) (fun _=>Z0 h15)),.u 72 (.call _ _ _ _ _ (AEs.of (xs:=[.agg [rV 1 (s2.topo.parents.map eI),rV 4 (s2.topo.nodes.map V1),rV 1 (s2.up.map eBo),iV s2.lic.a,iV s2.lic.b,iV s2.lic.c,iV s2.depth,iV s2.now,rV 11 (s2.queue.map eJob),rV 13 (s2.runs.map (X1 .nw)),rV 3 (s2.ends.map eEnd)],iV y15.1]) (by simp)) (fun _=>X0T h16))] fun _=>?_
      refine O0 H (fun H=>?_) fun H=>?_
      .refine wP ?_
       replace H:=sI H;subst H
       exact V4 [(4,.d)] [(4,[]),(2000000000,[])] [(500000000,some 500000000,0),(500000001,some 500000001,0),(500000002,some 500000002,0),(500000003,some 500000003,0)] [] [500000000,500000001,500000002,500000003] (by kernel_rfl)
      .refine wP ?_
       replace H:=sI H;subst H
       exact V4 [(4,.d)] [(4,[]),(2000000000,[])] [(73000,some 73000,0),(73001,some 73001,0),(73002,some 73002,0),(73003,some 73003,0)] [] [73000,73001,73002,73003] (by kernel_rfl)
     .refine wP ?_
      refine O0 H (fun H=>?_) fun H=>?_
      .obtain⟨y17,h17,H⟩:=bB H
       obtain⟨y18,h18,H⟩:=bB H
       obtain⟨y19,h19,H⟩:=bB H
       obtain⟨y20,h20,H⟩:=bB H
       refine wG [.u 80 (.cz U0 [2000000000] [(Q0 .rd y3.2).cells] [.ptr 0 0,iV 6] _ _ _ (by simp) (by simp) (fun _=>by simp) (fun _=>Z0 h17)),.u 82 (.cz U0 [2000000000] [(Q0 .rd y17.2).cells] [.ptr 0 0,iV 4] _ _ _ (by simp) (by simp) (fun _=>by simp) (fun _=>Z0 h18)),.u 84 (.cz U0 [2000000000] [(Q0 .rd y18.2).cells] [.ptr 0 0,iV 2] _ _ _ (by simp) (by simp) (fun _=>by simp) (fun _=>Z0 h19)),.u 86 (.call _ _ _ _ _ (AEs.of (xs:=[.agg [rV 1 (s2.topo.parents.map eI),rV 4 (s2.topo.nodes.map V1),rV 1 (s2.up.map eBo),iV s2.lic.a,iV s2.lic.b,iV s2.lic.c,iV s2.depth,iV s2.now,rV 11 (s2.queue.map eJob),rV 13 (s2.runs.map (X1 .nw)),rV 3 (s2.ends.map eEnd)],.agg [iV y17.1,iV y18.1,iV y19.1]]) (by simp)) (fun _=>V0T h20))] fun _=>?_
       refine O0 H (fun H=>?_) fun H=>?_
       .refine wP ?_
        replace H:=sI H;subst H
        exact V4 [(4,.d)] [(4,[]),(2000000000,[])] [(500000000,some 500000000,0),(500000001,some 500000001,0),(500000002,some 500000002,0),(500000003,some 500000003,0)] [] [500000000,500000001,500000002,500000003] (by kernel_rfl)
       .refine wP ?_
        replace H:=sI H;subst H
        exact V4 [(4,.d)] [(4,[]),(2000000000,[])] [(87000,some 87000,0),(87001,some 87001,0),(87002,some 87002,0),(87003,some 87003,0)] [] [87000,87001,87002,87003] (by kernel_rfl)
      .refine wG [.u 91 (.ln _ _ fun _=>lm s2.runs (X1 .nw))] fun q21=>?_
       refine O0 H (fun H=>?_) fun H=>?_
       .obtain⟨y22,h22,H⟩:=bB H
        obtain⟨e23,h23,H⟩:=bB H
        obtain⟨y24,h24,H⟩:=bB H
        obtain⟨y25,h25,H⟩:=bB H
        refine wG [.u 100 (.le _ _ (fun _=>lm s2.runs (X1 .nw)) (fun _=>q21.1)),.u 101 (.cz U0 [2000000000] [(Q0 .rd y3.2).cells] [.ptr 0 0,iV (s2.runs.length:Int)] _ _ _ (by simp) (by simp) (fun _=>by simp) (fun _=>Z0 h22)),.u 102 (.ix _ _ _ fun _=>V0 (X1 .nw) h23),.u 105 (.el _ _ _ fun _=>gm (X1 .nw) (Q7 h23)),.u 107 (.cz U0 [2000000000] [(Q0 .rd y22.2).cells] [.ptr 0 0,iV 2] _ _ _ (by simp) (by simp) (fun _=>by simp) (fun _=>Z0 h24)),.u 109 (.call _ _ _ _ _ (AEs.of (xs:=[.agg [rV 1 (s2.topo.parents.map eI),rV 4 (s2.topo.nodes.map V1),rV 1 (s2.up.map eBo),iV s2.lic.a,iV s2.lic.b,iV s2.lic.c,iV s2.depth,iV s2.now,rV 11 (s2.queue.map eJob),rV 13 (s2.runs.map (X1 .nw)),rV 3 (s2.ends.map eEnd)],iV e23.job.id,iV (w64 (2+y24.1))]) (by simp)) (fun _=>W0j h25))] fun _=>?_
        refine O0 H (fun H=>?_) fun H=>?_
        .refine wP ?_
         replace H:=sI H;subst H
         exact V4 [(4,.d)] [(4,[]),(2000000000,[])] [(500000000,some 500000000,0),(500000001,some 500000001,0),(500000002,some 500000002,0),(500000003,some 500000003,0)] [] [500000000,500000001,500000002,500000003] (by kernel_rfl)
        .refine wP ?_
         replace H:=sI H;subst H
         exact V4 [(4,.d)] [(4,[]),(2000000000,[])] [(110000,some 110000,0),(110001,some 110001,0),(110002,some 110002,0),(110003,some 110003,0)] [] [110000,110001,110002,110003] (by kernel_rfl)
       .refine wP ?_
        refine O0 H (fun H=>?_) fun H=>?_
        .refine wP ?_
         replace H:=sI H;subst H
         exact V4 [(4,.d)] [(4,[]),(2000000000,[])] [(500000000,some 500000000,0),(500000001,some 500000001,0),(500000002,some 500000002,0),(500000003,some 500000003,0)] [] [500000000,500000001,500000002,500000003] (by kernel_rfl)
        .refine wP ?_
         replace H:=sI H;subst H
         exact V4 [(4,.d)] [(4,[]),(2000000000,[])] [(500000000,some 500000000,0),(500000001,some 500000001,0),(500000002,some 500000002,0),(500000003,some 500000003,0)] [] [500000000,500000001,500000002,500000003] (by kernel_rfl)
noncomputable def Z0w:L :=
 lf Tryz.prog QK [] [] [] [] [] [] []
def X0v:List Rv:=[.c 4 11 true]
theorem O0y:YF Tryz.prog QK 2 Z0w X0v=true:=by kernel_rfl
def Jz(v5:l01Cur×State×Int)(k5:(l01Cur×State×Int)->Option (State×l01Cur)):Option (State×l01Cur) :=
 bif (decide (0<v5.2.2))then((Ma v5.1 v5.2.1).bind fun y6=>k5 (y6.2,y6.1,(w64 (v5.2.2-1))))else(some (v5.2.1,v5.1))
def Jt(c1:l01Cur)(most2:Int):Option (State×l01Cur) :=
 (Oz c1).bind fun y3=>(X0 y3.2 (w64 (most2+1))).bind fun y4=>whl Jz 9223372036854775807 (y4.2,y3.1,y4.1)
set_option maxRecDepth 20000 in
theorem U0u{c1:l01Cur}{most2:Int}{r:State×l01Cur}(H:Jt c1 most2=some r):ConD Tryz.prog QK [.ptr 0 0,iV most2] [(Q0 .rd c1).cells] [] (.agg [nV 1 (r.1.topo.parents.map eI),nV 4 (r.1.topo.nodes.map V1),.sref 0,iV r.1.lic.a,iV r.1.lic.b,iV r.1.lic.c,iV r.1.depth,iV r.1.now,.sref 1,.sref 2,.sref 3]) [(Q0 .rd r.2).cells] [] [(1,r.1.up.map eBo),(11,r.1.queue.map eJob),(13,r.1.runs.map (X1 .nw)),(3,r.1.ends.map eEnd)]:=by
 refine Z0e [] O0y rfl (by kernel_rfl) ?_
 unfold Jt at H
 obtain⟨y3,h3,H⟩:=bB H
 obtain⟨y4,h4,H⟩:=bB H
 refine wG [.u 8 (.cw VQ [2000000000] [] [(Q0 .rd c1).cells] [] [.ptr 0 0] _ _ _ _ _ (GEs.of [true] (by simp)) (by simp) (by simp) (by simp) (fun _=>Z0C h3)),.u 12 (.cw U0 [2000000000] [] [(Q0 .rd y3.2).cells] [] [.ptr 0 0,iV (w64 (most2+1))] _ _ _ _ _ (GEs.of [true,false] (by simp)) (by simp) (by simp) (by simp) (fun _=>Z0 h4))] fun _=>?_
 refine wW (fun(v5:l01Cur×State×Int)=>⟨[(0,.ptr 2000000000 0),(4,.ptr 4 0),(5,.ptr 5 0),(6,iV v5.2.2)],[],[(2000000000,(Q0 .rd v5.1).cells),(4,[.nl,.nl,.nl,iV 0,iV 0,iV 0,iV 0,iV 0,.nl,.nl,.nl]),(5,[nV 1 (v5.2.1.topo.parents.map eI),nV 4 (v5.2.1.topo.nodes.map V1),.sref 9000,iV v5.2.1.lic.a,iV v5.2.1.lic.b,iV v5.2.1.lic.c,iV v5.2.1.depth,iV v5.2.1.now,.sref 9001,.sref 9002,.sref 9003])],[(9000,⟨1,v5.2.1.up.map eBo,false⟩),(9001,⟨11,v5.2.1.queue.map eJob,false⟩),(9002,⟨13,v5.2.1.runs.map (X1 .nw),false⟩),(9003,⟨3,v5.2.1.ends.map eEnd,false⟩)]⟩) H (fun v5 I m k5 H N13=>?_)
 unfold Jz at H
 refine wP ?_
 refine O0 H (fun H=>?_) fun H=>?_
 .obtain⟨y6,h6,H⟩:=bB H
  refine wG [.u 19 (.cw UK [2000000000] [9000,9001,9002,9003] [(Q0 .rd v5.1).cells] [(1,v5.2.1.up.map eBo),(11,v5.2.1.queue.map eJob),(13,v5.2.1.runs.map (X1 .nw)),(3,v5.2.1.ends.map eEnd)] [.ptr 0 0,.agg [nV 1 (v5.2.1.topo.parents.map eI),nV 4 (v5.2.1.topo.nodes.map V1),.sref 0,iV v5.2.1.lic.a,iV v5.2.1.lic.b,iV v5.2.1.lic.c,iV v5.2.1.depth,iV v5.2.1.now,.sref 1,.sref 2,.sref 3]] _ _ _ _ _ (GEs.of [true,true] (by simp)) (by simp) (by simp) (by simp) (fun _=>V00 h6))] fun _=>?_
  exact U0o (N13 _ H) [] [] [(9000,(some 20000,0)),(9001,(some 20001,0)),(9002,(some 20002,0)),(9003,(some 20003,0))] [] (by kernel_rfl) (by kernel_rfl)
 .refine wP ?_
  replace H:=sI H;subst H
  exact V4 [(4,.d)] [(4,[]),(2000000000,[])] [(9000,some 9000,0),(9001,some 9001,0),(9002,some 9002,0),(9003,some 9003,0)] [] [9000,9001,9002,9003] (by kernel_rfl)
noncomputable def W0F:L :=
 lf Tryz.prog J7 [] [] [] [] [] [] []
def X0E:List Rv:=[.t 2]
theorem U0I:YF Tryz.prog J7 1 W0F X0E=true:=by kernel_rfl
def M5(c1:l01Cur):Option (Int×l01Cur) :=
 (X0 c1 9).bind fun y2=>bif (decide (y2.1<4))then((X0 y2.2 24).bind fun y3=>some ((w64 (y3.1-2)),y3.2))else(bif (y2.1==4)then((X0 y2.2 3).bind fun y4=>some ((w64 (999999+y4.1)),y4.2))else(bif (y2.1==5)then((X0 y2.2 3).bind fun y5=>some ((w64 (999999999+y5.1)),y5.2))else(bif (y2.1==6)then((X0 y2.2 2).bind fun y6=>some ((w64 (9223372036854775807-y6.1)),y6.2))else(bif (y2.1==7)then((X0 y2.2 2).bind fun y7=>some ((w64 ((-9223372036854775807)-y7.1)),y7.2))else((X0 y2.2 2000000).bind fun y8=>some (y8.1,y8.2))))))
set_option maxRecDepth 20000 in
theorem W7{c1:l01Cur}{r:Int×l01Cur}(H:M5 c1=some r):ConD Tryz.prog J7 [.ptr 0 0] [(Q0 .rd c1).cells] [] (iV r.1) [(Q0 .rd r.2).cells] [] []:=by
 refine Z0e [] U0I rfl (by kernel_rfl) ?_
 unfold M5 at H
 obtain⟨y2,h2,H⟩:=bB H
 refine wG [.u 5 (.cw U0 [2000000000] [] [(Q0 .rd c1).cells] [] [.ptr 0 0,iV 9] _ _ _ _ _ (GEs.of [true,false] (by simp)) (by simp) (by simp) (by simp) (fun _=>Z0 h2))] fun _=>?_
 refine O0 H (fun H=>?_) fun H=>?_
 .obtain⟨y3,h3,H⟩:=bB H
  refine wG [.u 9 (.cw U0 [2000000000] [] [(Q0 .rd y2.2).cells] [] [.ptr 0 0,iV 24] _ _ _ _ _ (GEs.of [true,false] (by simp)) (by simp) (by simp) (by simp) (fun _=>Z0 h3))] fun _=>?_
  replace H:=sI H;subst H
  exact V4 [(2,.d)] [(2000000000,[])] [] [] [] (by kernel_rfl)
 .refine wP ?_
  refine O0 H (fun H=>?_) fun H=>?_
  .obtain⟨y4,h4,H⟩:=bB H
   refine wG [.u 14 (.cw U0 [2000000000] [] [(Q0 .rd y2.2).cells] [] [.ptr 0 0,iV 3] _ _ _ _ _ (GEs.of [true,false] (by simp)) (by simp) (by simp) (by simp) (fun _=>Z0 h4))] fun _=>?_
   replace H:=sI H;subst H
   exact V4 [(2,.d)] [(2000000000,[])] [] [] [] (by kernel_rfl)
  .refine wP ?_
   refine O0 H (fun H=>?_) fun H=>?_
   .obtain⟨y5,h5,H⟩:=bB H
    refine wG [.u 19 (.cw U0 [2000000000] [] [(Q0 .rd y2.2).cells] [] [.ptr 0 0,iV 3] _ _ _ _ _ (GEs.of [true,false] (by simp)) (by simp) (by simp) (by simp) (fun _=>Z0 h5))] fun _=>?_
    replace H:=sI H;subst H
    exact V4 [(2,.d)] [(2000000000,[])] [] [] [] (by kernel_rfl)
   .refine wP ?_
    refine O0 H (fun H=>?_) fun H=>?_
    .obtain⟨y6,h6,H⟩:=bB H
     refine wG [.u 24 (.cw U0 [2000000000] [] [(Q0 .rd y2.2).cells] [] [.ptr 0 0,iV 2] _ _ _ _ _ (GEs.of [true,false] (by simp)) (by simp) (by simp) (by simp) (fun _=>Z0 h6))] fun _=>?_
     replace H:=sI H;subst H
     exact V4 [(2,.d)] [(2000000000,[])] [] [] [] (by kernel_rfl)
    .refine wP ?_
     refine O0 H (fun H=>?_) fun H=>?_
     .obtain⟨y7,h7,H⟩:=bB H
      refine wG [.u 29 (.cw U0 [2000000000] [] [(Q0 .rd y2.2).cells] [] [.ptr 0 0,iV 2] _ _ _ _ _ (GEs.of [true,false] (by simp)) (by simp) (by simp) (by simp) (fun _=>Z0 h7))] fun _=>?_
      replace H:=sI H;subst H
      exact V4 [(2,.d)] [(2000000000,[])] [] [] [] (by kernel_rfl)
     .obtain⟨y8,h8,H⟩:=bB H
      refine wG [.u 32 (.cw U0 [2000000000] [] [(Q0 .rd y2.2).cells] [] [.ptr 0 0,iV 2000000] _ _ _ _ _ (GEs.of [true,false] (by simp)) (by simp) (by simp) (by simp) (fun _=>Z0 h8))] fun _=>?_
      replace H:=sI H;subst H
      exact V4 [(2,.d)] [(2000000000,[])] [] [] [] (by kernel_rfl)
noncomputable def Q0F:L :=
 lf Tryz.prog OQ [] [] [] [] [] [] [15]
def Y0E:List Rv:=[.c 2 3 true]
theorem V0I:YF Tryz.prog OQ 1 Q0F Y0E=true:=by kernel_rfl
def Vn(y2 y4:Int×l01Cur)(v7:l01Cur×Int):Option (Vec×l01Cur) :=
 some ((Vec.mk y2.1 v7.2 y4.1),v7.1)
def OB(c1:l01Cur):Option (Vec×l01Cur) :=
 (X0 c1 9).bind fun y2=>(X0 y2.2 17).bind fun y3=>(X0 y3.2 3).bind fun y4=>(X0 y4.2 14).bind fun y5=>bif (y5.1==0)then((X0 y5.2 2).bind fun y6=>(Vn y2 y4) (y6.2,(w64 (1000000-y6.1))))else((Vn y2 y4) (y5.2,y3.1))
set_option maxRecDepth 20000 in
theorem L0C{c1:l01Cur}{r:Vec×l01Cur}(H:OB c1=some r):ConD Tryz.prog OQ [.ptr 0 0] [(Q0 .rd c1).cells] [] (eVec r.1) [(Q0 .rd r.2).cells] [] []:=by
 refine Z0e [] V0I rfl (by kernel_rfl) ?_
 unfold OB at H
 obtain⟨y2,h2,H⟩:=bB H
 obtain⟨y3,h3,H⟩:=bB H
 obtain⟨y4,h4,H⟩:=bB H
 obtain⟨y5,h5,H⟩:=bB H
 refine wG [.u 5 (.cw U0 [2000000000] [] [(Q0 .rd c1).cells] [] [.ptr 0 0,iV 9] _ _ _ _ _ (GEs.of [true,false] (by simp)) (by simp) (by simp) (by simp) (fun _=>Z0 h2)),.u 7 (.cw U0 [2000000000] [] [(Q0 .rd y2.2).cells] [] [.ptr 0 0,iV 17] _ _ _ _ _ (GEs.of [true,false] (by simp)) (by simp) (by simp) (by simp) (fun _=>Z0 h3)),.u 9 (.cw U0 [2000000000] [] [(Q0 .rd y3.2).cells] [] [.ptr 0 0,iV 3] _ _ _ _ _ (GEs.of [true,false] (by simp)) (by simp) (by simp) (by simp) (fun _=>Z0 h4)),.u 12 (.cw U0 [2000000000] [] [(Q0 .rd y4.2).cells] [] [.ptr 0 0,iV 14] _ _ _ _ _ (GEs.of [true,false] (by simp)) (by simp) (by simp) (by simp) (fun _=>Z0 h5))] fun _=>?_
 refine Q6 (r:=r) (Vn y2 y4) 0 (fun v7:l01Cur×Int=>⟨[(2,.ptr 2 0),(3,.ptr 3 0)],[],[(2000000000,(Q0 .rd v7.1).cells),(2,(eVec (Vec.mk 0 0 0)).cells),(3,(eVec (Vec.mk y2.1 v7.2 y4.1)).cells)],[]⟩) (by kernel_rfl) (fun v7 H=>?_) (fun J9=>?_)
 .unfold Vn at H
  refine wP ?_
  replace H:=sI H;subst H
  exact V4 [(2,.d)] [(2,[]),(2000000000,[])] [] [] [] (by kernel_rfl)
 .refine O0 H (fun H=>?_) fun H=>?_
  .obtain⟨y6,h6,H⟩:=bB H
   refine wG [.u 15 (.cw U0 [2000000000] [] [(Q0 .rd y5.2).cells] [] [.ptr 0 0,iV 2] _ _ _ _ _ (GEs.of [true,false] (by simp)) (by simp) (by simp) (by simp) (fun _=>Z0 h6))] fun _=>?_
   exact wT (J9 _ H)
  .refine wP ?_
   exact wT (J9 _ H)
noncomputable def O0F:L :=
 lf Tryz.prog ZF [] [] [] [] [] [] [31,63,127]
def V0E:List Rv:=[.c 2 3 true]
theorem Q0I:YF Tryz.prog ZF 1 O0F V0E=true:=by kernel_rfl
def Wk(v5 v7 v9:l01Cur×Int):Option (Vec×l01Cur) :=
 some ((Vec.mk v5.2 v7.2 v9.2),v9.1)
def Wf(y2:Vec×l01Cur)(y3:Int×l01Cur)(v5 v7:l01Cur×Int):Option (Vec×l01Cur) :=
 bif (y3.1==2)then((M5 v7.1).bind fun y8=>(Wk v5 v7) (y8.2,y8.1))else((Wk v5 v7) (v7.1,y2.1.c))
def Qf(y2:Vec×l01Cur)(y3:Int×l01Cur)(v5:l01Cur×Int):Option (Vec×l01Cur) :=
 bif (y3.1==1)then((M5 v5.1).bind fun y6=>(Wf y2 y3 v5) (y6.2,y6.1))else((Wf y2 y3 v5) (v5.1,y2.1.b))
def Mm(c1:l01Cur):Option (Vec×l01Cur) :=
 (OB c1).bind fun y2=>(X0 y2.2 12).bind fun y3=>bif (y3.1==0)then((M5 y3.2).bind fun y4=>(Qf y2 y3) (y4.2,y4.1))else((Qf y2 y3) (y3.2,y2.1.a))
set_option maxRecDepth 20000 in
theorem L06{c1:l01Cur}{r:Vec×l01Cur}(H:Mm c1=some r):ConD Tryz.prog ZF [.ptr 0 0] [(Q0 .rd c1).cells] [] (eVec r.1) [(Q0 .rd r.2).cells] [] []:=by
 refine Z0e [] Q0I rfl (by kernel_rfl) ?_
 unfold Mm at H
 obtain⟨y2,h2,H⟩:=bB H
 obtain⟨y3,h3,H⟩:=bB H
 refine wG [.u 6 (.cw OQ [2000000000] [] [(Q0 .rd c1).cells] [] [.ptr 0 0] _ _ _ _ _ (GEs.of [true] (by simp)) (by simp) (by simp) (by simp) (fun _=>L0C h2)),.u 8 (.cw U0 [2000000000] [] [(Q0 .rd y2.2).cells] [] [.ptr 0 0,iV 12] _ _ _ _ _ (GEs.of [true,false] (by simp)) (by simp) (by simp) (by simp) (fun _=>Z0 h3))] fun _=>?_
 refine Q6 (r:=r) (Qf y2 y3) 0 (fun v5:l01Cur×Int=>⟨[(0,.ptr 2000000000 0),(2,.ptr 2 0),(3,.ptr 3 0),(4,.int .i64 y3.1)],[],[(2000000000,(Q0 .rd v5.1).cells),(2,(eVec (Vec.mk 0 0 0)).cells),(3,(eVec (Vec.mk v5.2 y2.1.b y2.1.c)).cells)],[]⟩) (by kernel_rfl) (fun v5 H=>?_) (fun J22=>?_)
 .unfold Qf at H
  refine wP ?_
  refine Q6 (r:=r) (Wf y2 y3 v5) 0 (fun v7:l01Cur×Int=>⟨[(0,.ptr 2000000000 0),(2,.ptr 2 0),(3,.ptr 3 0),(4,.int .i64 y3.1)],[],[(2000000000,(Q0 .rd v7.1).cells),(2,(eVec (Vec.mk 0 0 0)).cells),(3,(eVec (Vec.mk v5.2 v7.2 y2.1.c)).cells)],[]⟩) (by kernel_rfl) (fun v7 H=>?_) (fun J21=>?_)
  .unfold Wf at H
   refine wP ?_
   refine Q6 (r:=r) (Wk v5 v7) 0 (fun v9:l01Cur×Int=>⟨[(2,.ptr 2 0),(3,.ptr 3 0)],[],[(2000000000,(Q0 .rd v9.1).cells),(2,(eVec (Vec.mk 0 0 0)).cells),(3,(eVec (Vec.mk v5.2 v7.2 v9.2)).cells)],[]⟩) (by kernel_rfl) (fun v9 H=>?_) (fun J20=>?_)
   .unfold Wk at H
    refine wP ?_
    replace H:=sI H;subst H
    exact V4 [(2,.d)] [(2,[]),(2000000000,[])] [] [] [] (by kernel_rfl)
   .refine O0 H (fun H=>?_) fun H=>?_
    .obtain⟨y8,h8,H⟩:=bB H
     refine wG [.u 22 (.cw J7 [2000000000] [] [(Q0 .rd v7.1).cells] [] [.ptr 0 0] _ _ _ _ _ (GEs.of [true] (by simp)) (by simp) (by simp) (by simp) (fun _=>W7 h8))] fun _=>?_
     exact wT (J20 _ H)
    .refine wP ?_
     exact wT (J20 _ H)
  .refine O0 H (fun H=>?_) fun H=>?_
   .obtain⟨y6,h6,H⟩:=bB H
    refine wG [.u 17 (.cw J7 [2000000000] [] [(Q0 .rd v5.1).cells] [] [.ptr 0 0] _ _ _ _ _ (GEs.of [true] (by simp)) (by simp) (by simp) (by simp) (fun _=>W7 h6))] fun _=>?_
    exact wT (J21 _ H)
   .refine wP ?_
    exact wT (J21 _ H)
 .refine O0 H (fun H=>?_) fun H=>?_
  .obtain⟨y4,h4,H⟩:=bB H
   refine wG [.u 12 (.cw J7 [2000000000] [] [(Q0 .rd y3.2).cells] [] [.ptr 0 0] _ _ _ _ _ (GEs.of [true] (by simp)) (by simp) (by simp) (by simp) (fun _=>W7 h4))] fun _=>?_
   exact wT (J22 _ H)
  .refine wP ?_
   exact wT (J22 _ H)
noncomputable def U0w:L :=
 lf Tryz.prog WK [7] [] [] [] [] [] [31]
def V0v:List Rv:=[.t 4]
theorem M0y:YF Tryz.prog WK 2 U0w V0v=true:=by kernel_rfl
def Wo(v11:l01Cur×(List Int)):Option ((List Int)×l01Cur) :=
 some (v11.2,v11.1)
def MA(t2:Topo)(v4:l01Cur×Int×(List Int))(k4:(l01Cur×Int×(List Int))->Option ((List Int)×l01Cur)):Option ((List Int)×l01Cur) :=
 bif (decide (0<v4.2.1))then((X0 v4.1 (t2.nodes.length:Int)).bind fun y5=>(appL 8 v4.2.2 [y5.1]).bind fun xs6=>k4 (y5.2,(w64 (v4.2.1-1)),xs6))else((X0 v4.1 10).bind fun y8=>bif (y8.1==0)then((M5 y8.2).bind fun y9=>(appL 8 v4.2.2 [y9.1]).bind fun xs10=>Wo (y9.2,xs10))else(Wo (y8.2,v4.2.2)))
def Xu(c1:l01Cur)(t2:Topo):Option ((List Int)×l01Cur) :=
 (X0 c1 5).bind fun y3=>whl (MA t2) 9223372036854775807 (y3.2,y3.1,[])
set_option maxRecDepth 20000 in
theorem M0u{c1:l01Cur}{t2:Topo}{r:(List Int)×l01Cur}(H:Xu c1 t2=some r):ConD Tryz.prog WK [.ptr 0 0,U5 .rd t2] [(Q0 .rd c1).cells] [] (nV 1 (r.1.map eI)) [(Q0 .rd r.2).cells] [] []:=by
 refine Z0e [] M0y rfl (by kernel_rfl) ?_
 unfold Xu at H
 obtain⟨y3,h3,H⟩:=bB H
 refine wG [.u 9 (.cw U0 [2000000000] [] [(Q0 .rd c1).cells] [] [.ptr 0 0,iV 5] _ _ _ _ _ (GEs.of [true,false] (by simp)) (by simp) (by simp) (by simp) (fun _=>Z0 h3))] fun _=>?_
 refine wW (fun(v4:l01Cur×Int×(List Int))=>⟨[(0,.ptr 2000000000 0),(3,.ptr 3 0),(5,.sref 7),(6,iV v4.2.1)],[],[(2000000000,(Q0 .rd v4.1).cells),(3,(U5 .rd t2).cells)],[(7,⟨1,v4.2.2.map eI,false⟩)]⟩) H (fun v4 I m k4 H N13=>?_)
 unfold MA at H
 refine wP ?_
 refine O0 H (fun H=>?_) fun H=>?_
 .obtain⟨y5,h5,H⟩:=bB H
  obtain⟨xs6,h6,H⟩:=bB H
  refine wG [.u 18 (.ln _ _ fun _=>lm t2.nodes V1),.u 19 (.cw U0 [2000000000] [] [(Q0 .rd v4.1).cells] [] [.ptr 0 0,iV (t2.nodes.length:Int)] _ _ _ _ _ (GEs.of [true,false] (by simp)) (by simp) (by simp) (by simp) (fun _=>Z0 h5)),.u 21 (.ap _ _ _ _ fun _=>L0 eI h6)] fun q7=>?_
  exact wT (N13 _ H)
 .obtain⟨y8,h8,H⟩:=bB H
  refine wG [.u 23 (.cw U0 [2000000000] [] [(Q0 .rd v4.1).cells] [] [.ptr 0 0,iV 10] _ _ _ _ _ (GEs.of [true,false] (by simp)) (by simp) (by simp) (by simp) (fun _=>Z0 h8))] fun _=>?_
  refine Q6 (r:=r) Wo 0 (fun v11:l01Cur×(List Int)=>⟨[(5,.sref 7)],[],[(2000000000,(Q0 .rd v11.1).cells)],[(7,⟨1,v11.2.map eI,false⟩)]⟩) (by kernel_rfl) (fun v11 H=>?_) (fun J23=>?_)
  .unfold Wo at H
   refine wP ?_
   replace H:=sI H;subst H
   exact V4 [(4,.f)] [(2000000000,[])] [] [7] [] (by kernel_rfl)
  .refine O0 H (fun H=>?_) fun H=>?_
   .obtain⟨y9,h9,H⟩:=bB H
    obtain⟨xs10,h10,H⟩:=bB H
    refine wG [.u 27 (.cw J7 [2000000000] [] [(Q0 .rd y8.2).cells] [] [.ptr 0 0] _ _ _ _ _ (GEs.of [true] (by simp)) (by simp) (by simp) (by simp) (fun _=>W7 h9)),.u 29 (.ap _ _ _ _ fun _=>L0 eI h10)] fun _=>?_
    exact wT (J23 _ H)
   .refine wP ?_
    exact wT (J23 _ H)
noncomputable def U0F:L :=
 lf Tryz.prog WQ [] [] [] [] [] [(4,[],[],[0,2,4,6,8,10,14,13,17],9),(6,[],[],[0,2,4,7],4),(8,[],[],[0,2,4,7],4),(10,[],[],[0,2,4,6,8,10,13,14],8)] [31,63,127,255,511]
def Z0E:List Rv:=[.c 2 2 true]
theorem X0I:YF Tryz.prog WQ 1 U0F Z0E=true:=by kernel_rfl
def Vk(v14:l01Cur×(List Node))(v18:l01Cur×(List Int))(v19:(List Int)):Option (Topo×l01Cur) :=
 some ((Topo.mk v19 v14.2),v18.1)
def Uf(y3:Int×l01Cur)(v14:l01Cur×(List Node))(v18:l01Cur×(List Int)):Option (Topo×l01Cur) :=
 bif (y3.1==4)then((Vk v14 v18) [])else((Vk v14 v18) v18.2)
def Vf(y3:Int×l01Cur)(v8:l01Cur×(List Int))(v14:l01Cur×(List Node)):Option (Topo×l01Cur) :=
 bif (y3.1==3)then((lenQ v8.2).bind fun _=>(X0 v14.1 (v8.2.length:Int)).bind fun y16=>(appL 8 v8.2 [y16.1]).bind fun xs17=>(Uf y3 v14) (y16.2,xs17))else((Uf y3 v14) (v14.1,v8.2))
def Xf(y3:Int×l01Cur)(v8:l01Cur×(List Int))(v11:l01Cur×(List Node)):Option (Topo×l01Cur) :=
 bif ((y3.1==2)&&(decide (0<(v11.2.length:Int))))then((Mm v11.1).bind fun y12=>(idx v11.2 0).bind fun e13=>(Vf y3 v8) (y12.2,(v11.2.set (0:Int).toNat (Node.mk e13.leaf y12.1))))else((Vf y3 v8) (v11.1,v11.2))
def Yf(y2:Topo×l01Cur)(y3:Int×l01Cur)(v8:l01Cur×(List Int)):Option (Topo×l01Cur) :=
 bif ((y3.1==1)&&(decide (0<(y2.1.nodes.length:Int))))then((M5 v8.1).bind fun y9=>(idx y2.1.nodes 0).bind fun e10=>(Xf y3 v8) (y9.2,(y2.1.nodes.set (0:Int).toNat (Node.mk y9.1 e10.cap))))else((Xf y3 v8) (v8.1,y2.1.nodes))
def WB(c1:l01Cur):Option (Topo×l01Cur) :=
 (On c1).bind fun y2=>(X0 y2.2 14).bind fun y3=>bif (y3.1==0)then((lenQ y2.1.parents).bind fun _=>(X0 y3.2 (y2.1.parents.length:Int)).bind fun y5=>(M5 y5.2).bind fun y6=>(idx y2.1.parents y5.1).bind fun _=>(Yf y2 y3) (y6.2,(y2.1.parents.set y5.1.toNat y6.1)))else((Yf y2 y3) (y3.2,y2.1.parents))
set_option maxRecDepth 20000 in
theorem M0C{c1:l01Cur}{r:Topo×l01Cur}(H:WB c1=some r):ConD Tryz.prog WQ [.ptr 0 0] [(Q0 .rd c1).cells] [] (.agg [.sref 0,.sref 1]) [(Q0 .rd r.2).cells] [] [(1,r.1.parents.map eI),(4,r.1.nodes.map V1)]:=by
 refine Z0e [] X0I rfl (by kernel_rfl) ?_
 unfold WB at H
 obtain⟨y2,h2,H⟩:=bB H
 obtain⟨y3,h3,H⟩:=bB H
 refine wG [.u 6 (.cw Wv [2000000000] [] [(Q0 .rd c1).cells] [] [.ptr 0 0] _ _ _ _ _ (GEs.of [true] (by simp)) (by simp) (by simp) (by simp) (fun _=>Q00 h2)),.u 8 (.cw U0 [2000000000] [] [(Q0 .rd y2.2).cells] [] [.ptr 0 0,iV 14] _ _ _ _ _ (GEs.of [true,false] (by simp)) (by simp) (by simp) (by simp) (fun _=>Z0 h3))] fun _=>?_
 refine Q6 (r:=r) (Yf y2 y3) 0 (fun v8:l01Cur×(List Int)=>⟨[(0,.ptr 2000000000 0),(2,.ptr 2 0),(3,.ptr 3 0),(4,.int .i64 y3.1)],[],[(2000000000,(Q0 .rd v8.1).cells),(2,[.nl,.nl]),(3,[.sref 7000,.sref 7001])],[(7000,⟨1,v8.2.map eI,false⟩),(7001,⟨4,y2.1.nodes.map V1,false⟩)]⟩) (by kernel_rfl) (fun v8 H=>?_) (fun J34=>?_)
 .unfold Yf at H
  refine wG [.g 26 [((y3.1==1),true)] (.ln _ _ fun _=>lm y2.1.nodes V1)] fun _=>?_
  refine Q6 (r:=r) (Xf y3 v8) 0 (fun v11:l01Cur×(List Node)=>⟨[(0,.ptr 2000000000 0),(2,.ptr 2 0),(3,.ptr 3 0),(4,.int .i64 y3.1)],[],[(2000000000,(Q0 .rd v11.1).cells),(2,[.nl,.nl]),(3,[.sref 7000,.sref 7001])],[(7000,⟨1,v8.2.map eI,false⟩),(7001,⟨4,v11.2.map V1,false⟩)]⟩) (by kernel_rfl) (fun v11 H=>?_) (fun J33=>?_)
  .unfold Xf at H
   refine wG [.g 40 [((y3.1==2),true)] (.ln _ _ fun _=>lm v11.2 V1)] fun _=>?_
   refine Q6 (r:=r) (Vf y3 v8) 0 (fun v14:l01Cur×(List Node)=>⟨[(0,.ptr 2000000000 0),(2,.ptr 2 0),(3,.ptr 3 0),(4,.int .i64 y3.1)],[],[(2000000000,(Q0 .rd v14.1).cells),(2,[.nl,.nl]),(3,[.sref 7000,.sref 7001])],[(7000,⟨1,v8.2.map eI,false⟩),(7001,⟨4,v14.2.map V1,false⟩)]⟩) (by kernel_rfl) (fun v14 H=>?_) (fun J32=>?_)
   .unfold Vf at H
    refine wP ?_
    refine Q6 (r:=r) (Uf y3 v14) 0 (fun v18:l01Cur×(List Int)=>⟨[(2,.ptr 2 0),(3,.ptr 3 0),(4,.int .i64 y3.1)],[],[(2000000000,(Q0 .rd v18.1).cells),(2,[.nl,.nl]),(3,[.sref 7000,.sref 7001])],[(7000,⟨1,v18.2.map eI,false⟩),(7001,⟨4,v14.2.map V1,false⟩)]⟩) (by kernel_rfl) (fun v18 H=>?_) (fun J31=>?_)
    .unfold Uf at H
     refine wP ?_
     refine Q6 (r:=r) (Vk v14 v18) 0 (fun v19:(List Int)=>⟨[(2,.ptr 2 0),(3,.ptr 3 0)],[],[(2000000000,(Q0 .rd v18.1).cells),(2,[.nl,.nl]),(3,[.sref 530000,.sref 7001])],[(530000,⟨1,v19.map eI,false⟩),(7001,⟨4,v14.2.map V1,false⟩)]⟩) (by kernel_rfl) (fun v19 H=>?_) (fun J30=>?_)
     .unfold Vk at H
      refine wP ?_
      replace H:=sI H;subst H
      exact V4 [(2,.d)] [(2,[]),(2000000000,[])] [(530000,some 530000,0),(7001,some 7001,0)] [] [530000,7001] (by kernel_rfl)
     .refine O0 H (fun H=>?_) fun H=>?_
      .refine wP ?_
       exact U0o (J30 _ H) [] [(3,[.z 530000,.d])] [(530000,(none,1))] [] (by kernel_rfl) (by kernel_rfl)
      .refine wP ?_
       exact U0o (J30 _ H) [] [] [(530000,(some 7000,0))] [] (by kernel_rfl) (by kernel_rfl)
    .refine O0 H (fun H=>?_) fun H=>?_
     .obtain⟨u15,h15,H⟩:=bB H
      obtain⟨y16,h16,H⟩:=bB H
      obtain⟨xs17,h17,H⟩:=bB H
      refine wG [.u 56 (.le _ _ (fun _=>lm v8.2 eI) (fun _=>OT h15)),.u 57 (.cz U0 [2000000000] [(Q0 .rd v14.1).cells] [.ptr 0 0,iV (v8.2.length:Int)] _ _ _ (by simp) (by simp) (fun _=>by simp) (fun _=>Z0 h16)),.u 59 (.ap _ _ _ _ fun _=>L0 eI h17)] fun _=>?_
      exact wT (J31 _ H)
     .refine wP ?_
      exact wT (J31 _ H)
   .refine O0 H (fun H=>?_) fun H=>?_
    .obtain⟨y12,h12,H⟩:=bB H
     obtain⟨e13,h13,H⟩:=bB H
     refine wG [.u 46 (.cz ZF [2000000000] [(Q0 .rd v11.1).cells] [.ptr 0 0] _ _ _ (by simp) (by simp) (fun _=>by simp) (fun _=>L06 h12)),.u 47 (.ix _ _ _ fun _=>V0 V1 h13),.u 1000000 (.sto _ _ _ (V1 (Node.mk e13.leaf y12.1)) _ (fun _=>gm V1 (Q7 h13)) (fun _=>YH ..))] fun _=>?_
     exact wT (J32 _ H)
    .refine wP ?_
     exact wT (J32 _ H)
  .refine O0 H (fun H=>?_) fun H=>?_
   .obtain⟨y9,h9,H⟩:=bB H
    obtain⟨e10,h10,H⟩:=bB H
    refine wG [.u 32 (.cz J7 [2000000000] [(Q0 .rd v8.1).cells] [.ptr 0 0] _ _ _ (by simp) (by simp) (fun _=>by simp) (fun _=>W7 h9)),.u 33 (.ix _ _ _ fun _=>V0 V1 h10),.u 1000000 (.sto _ _ _ (V1 (Node.mk y9.1 e10.cap)) _ (fun _=>gm V1 (Q7 h10)) (fun _=>YH ..))] fun _=>?_
    exact wT (J33 _ H)
   .refine wP ?_
    exact wT (J33 _ H)
 .refine O0 H (fun H=>?_) fun H=>?_
  .obtain⟨u4,h4,H⟩:=bB H
   obtain⟨y5,h5,H⟩:=bB H
   obtain⟨y6,h6,H⟩:=bB H
   obtain⟨e7,h7,H⟩:=bB H
   refine wG [.u 16 (.le _ _ (fun _=>lm y2.1.parents eI) (fun _=>OT h4)),.u 17 (.cz U0 [2000000000] [(Q0 .rd y3.2).cells] [.ptr 0 0,iV (y2.1.parents.length:Int)] _ _ _ (by simp) (by simp) (fun _=>by simp) (fun _=>Z0 h5)),.u 19 (.cz J7 [2000000000] [(Q0 .rd y5.2).cells] [.ptr 0 0] _ _ _ (by simp) (by simp) (fun _=>by simp) (fun _=>W7 h6)),.u 20 (.ix _ _ _ fun _=>V0 eI h7),.u 1000000 (.sto _ _ _ (eI y6.1) _ (fun _=>gm eI (Q7 h7)) (fun _=>YH ..))] fun _=>?_
   exact wT (J34 _ H)
  .refine wP ?_
   exact wT (J34 _ H)
noncomputable def L0E:L :=
 lf Tryz.prog UQ [] [] [] [] [(6,8),(12,8)] [(10,[],[],[0,2,4,7],4),(14,[],[],[0,2,4,8,12,7,11,15,16,18],10),(16,[],[],[0,2,4,6,8,11],6)] [31,63,127,255,511,1023,2047,4095,8191,16383]
def L0D:List Rv:=[.c 2 11 true]
theorem Z0I:YF Tryz.prog UQ 1 L0E L0D=true:=by kernel_rfl
def Jj(v5:l01Cur×Int)(v7:(List Bool))(v9:l01Cur×Int×Int×Int)(v15:(List Job))(v20:l01Cur×(List End))(v25:(List Run))(v27:l01Cur×Int)(v29:l01Cur×(List Int)×(List Node)):Option (State×l01Cur) :=
 some ((State.mk (Topo.mk v29.2.1 v29.2.2) v7 (Vec.mk v9.2.1 v9.2.2.1 v9.2.2.2) v27.2 v5.2 v15 v25 v20.2),v29.1)
def Zf(y2:State×l01Cur)(y3:Int×l01Cur)(v5:l01Cur×Int)(v7:(List Bool))(v9:l01Cur×Int×Int×Int)(v15:(List Job))(v20:l01Cur×(List End))(v25:(List Run))(v27:l01Cur×Int):Option (State×l01Cur) :=
 bif (y3.1==9)then((WB v27.1).bind fun y28=>(Jj v5 v7 v9 v15 v20 v25 v27) (y28.2,y28.1.parents,y28.1.nodes))else((Jj v5 v7 v9 v15 v20 v25 v27) (v27.1,y2.1.topo.parents,y2.1.topo.nodes))
def Je(y2:State×l01Cur)(y3:Int×l01Cur)(v5:l01Cur×Int)(v7:(List Bool))(v9:l01Cur×Int×Int×Int)(v15:(List Job))(v20:l01Cur×(List End))(v23:l01Cur×(List Run))(v25:(List Run)):Option (State×l01Cur) :=
 bif (y3.1==8)then((M5 v23.1).bind fun y26=>(Zf y2 y3 v5 v7 v9 v15 v20 v25) (y26.2,y26.1))else((Zf y2 y3 v5 v7 v9 v15 v20 v25) (v23.1,y2.1.depth))
def Le(y2:State×l01Cur)(y3:Int×l01Cur)(v5:l01Cur×Int)(v7:(List Bool))(v9:l01Cur×Int×Int×Int)(v15:(List Job))(v20:l01Cur×(List End))(v23:l01Cur×(List Run)):Option (State×l01Cur) :=
 bif ((y3.1==7)&&(decide (0<(v23.2.length:Int))))then((idx v23.2 0).bind fun e24=>(Je y2 y3 v5 v7 v9 v15 v20 v23) (v23.2.set (0:Int).toNat (Run.mk (Job.mk e24.job.id e24.job.prio e24.job.nodes e24.job.need e24.job.lic e24.job.wall 0) e24.t e24.nodes)))else((Je y2 y3 v5 v7 v9 v15 v20 v23) v23.2)
def Me(y2:State×l01Cur)(y3:Int×l01Cur)(v5:l01Cur×Int)(v7:(List Bool))(v9:l01Cur×Int×Int×Int)(v12:l01Cur×(List Run))(v15:(List Job))(v20:l01Cur×(List End)):Option (State×l01Cur) :=
 bif ((y3.1==6)&&(decide (0<(v12.2.length:Int))))then((Xu v20.1 y2.1.topo).bind fun y21=>(idx v12.2 0).bind fun e22=>(Le y2 y3 v5 v7 v9 v15 v20) (y21.2,(v12.2.set (0:Int).toNat (Run.mk e22.job e22.t y21.1))))else((Le y2 y3 v5 v7 v9 v15 v20) (v20.1,v12.2))
def Oe(y2:State×l01Cur)(y3:Int×l01Cur)(v5:l01Cur×Int)(v7:(List Bool))(v9:l01Cur×Int×Int×Int)(v12:l01Cur×(List Run))(v15:(List Job)):Option (State×l01Cur) :=
 bif (y3.1==5)then((X0 v12.1 3).bind fun y16=>(X0 y16.2 3).bind fun y17=>(X0 y17.2 6).bind fun y18=>(appL 24 y2.1.ends [(End.mk y16.1 y17.1 y18.1)]).bind fun xs19=>(Me y2 y3 v5 v7 v9 v12 v15) (y18.2,xs19))else((Me y2 y3 v5 v7 v9 v12 v15) (v12.1,y2.1.ends))
def We(y2:State×l01Cur)(y3:Int×l01Cur)(v5:l01Cur×Int)(v7:(List Bool))(v9:l01Cur×Int×Int×Int)(v12:l01Cur×(List Run)):Option (State×l01Cur) :=
 bif ((y3.1==4)&&(decide (0<(v12.2.length:Int))))then((idx v12.2 0).bind fun e13=>(appL 88 y2.1.queue [e13.job]).bind fun xs14=>(Oe y2 y3 v5 v7 v9 v12) xs14)else((Oe y2 y3 v5 v7 v9 v12) y2.1.queue)
def Qe(y2:State×l01Cur)(y3:Int×l01Cur)(v5:l01Cur×Int)(v7:(List Bool))(v9:l01Cur×Int×Int×Int):Option (State×l01Cur) :=
 bif ((y3.1==3)&&(decide (0<(y2.1.runs.length:Int))))then((M5 v9.1).bind fun y10=>(idx y2.1.runs 0).bind fun e11=>(We y2 y3 v5 v7 v9) (y10.2,(y2.1.runs.set (0:Int).toNat (Run.mk e11.job y10.1 e11.nodes))))else((We y2 y3 v5 v7 v9) (v9.1,y2.1.runs))
def Ue(y2:State×l01Cur)(y3:Int×l01Cur)(v5:l01Cur×Int)(v7:(List Bool)):Option (State×l01Cur) :=
 bif (y3.1==2)then((Mm v5.1).bind fun y8=>(Qe y2 y3 v5 v7) (y8.2,y8.1.a,y8.1.b,y8.1.c))else((Qe y2 y3 v5 v7) (v5.1,y2.1.lic.a,y2.1.lic.b,y2.1.lic.c))
def Ve(y2:State×l01Cur)(y3:Int×l01Cur)(v5:l01Cur×Int):Option (State×l01Cur) :=
 bif ((y3.1==1)&&(decide (0<(y2.1.up.length:Int))))then((idx y2.1.up 0).bind fun e6=>(Ue y2 y3 v5) (y2.1.up.set (0:Int).toNat (!e6)))else((Ue y2 y3 v5) y2.1.up)
def XA(c1:l01Cur):Option (State×l01Cur) :=
 (Jt c1 14).bind fun y2=>(X0 y2.2 20).bind fun y3=>bif (y3.1==0)then((M5 y3.2).bind fun y4=>(Ve y2 y3) (y4.2,y4.1))else((Ve y2 y3) (y3.2,y2.1.now))
set_option maxRecDepth 20000 in
theorem X0C{c1:l01Cur}{r:State×l01Cur}(H:XA c1=some r):ConD Tryz.prog UQ [.ptr 0 0] [(Q0 .rd c1).cells] [] (.agg [nV 1 (r.1.topo.parents.map eI),nV 4 (r.1.topo.nodes.map V1),.sref 0,iV r.1.lic.a,iV r.1.lic.b,iV r.1.lic.c,iV r.1.depth,iV r.1.now,.sref 1,.sref 2,.sref 3]) [(Q0 .rd r.2).cells] [] [(1,r.1.up.map eBo),(11,r.1.queue.map eJob),(13,r.1.runs.map (X1 .nw)),(3,r.1.ends.map eEnd)]:=by
 refine Z0e [] Z0I rfl (by kernel_rfl) ?_
 unfold XA at H
 obtain⟨y2,h2,H⟩:=bB H
 obtain⟨y3,h3,H⟩:=bB H
 refine wG [.u 6 (.cw QK [2000000000] [] [(Q0 .rd c1).cells] [] [.ptr 0 0,iV 14] _ _ _ _ _ (GEs.of [true,false] (by simp)) (by simp) (by simp) (by simp) (fun _=>U0u h2)),.u 8 (.cw U0 [2000000000] [] [(Q0 .rd y2.2).cells] [] [.ptr 0 0,iV 20] _ _ _ _ _ (GEs.of [true,false] (by simp)) (by simp) (by simp) (by simp) (fun _=>Z0 h3))] fun _=>?_
 refine Q6 (r:=r) (Ve y2 y3) 0 (fun v5:l01Cur×Int=>⟨[(0,.ptr 2000000000 0),(2,.ptr 2 0),(3,.ptr 3 0),(4,.int .i64 y3.1)],[],[(2000000000,(Q0 .rd v5.1).cells),(2,[.nl,.nl,.nl,.int .i64 0,.int .i64 0,.int .i64 0,.int .i64 0,.int .i64 0,.nl,.nl,.nl]),(3,[.sl .nw 1 (y2.1.topo.parents.map eI),.sl .nw 4 (y2.1.topo.nodes.map V1),.sref 7000,.int .i64 y2.1.lic.a,.int .i64 y2.1.lic.b,.int .i64 y2.1.lic.c,.int .i64 y2.1.depth,.int .i64 v5.2,.sref 7001,.sref 7002,.sref 7003])],[(7000,⟨1,y2.1.up.map eBo,false⟩),(7001,⟨11,y2.1.queue.map eJob,false⟩),(7002,⟨13,y2.1.runs.map (X1 .nw),false⟩),(7003,⟨3,y2.1.ends.map eEnd,false⟩)]⟩) (by kernel_rfl) (fun v5 H=>?_) (fun J64=>?_)
 .unfold Ve at H
  refine wG [.g 19 [((y3.1==1),true)] (.ln _ _ fun _=>lm y2.1.up eBo)] fun _=>?_
  refine Q6 (r:=r) (Ue y2 y3 v5) 0 (fun v7:(List Bool)=>⟨[(0,.ptr 2000000000 0),(2,.ptr 2 0),(3,.ptr 3 0),(4,.int .i64 y3.1)],[],[(2000000000,(Q0 .rd v5.1).cells),(2,[.nl,.nl,.nl,.int .i64 0,.int .i64 0,.int .i64 0,.int .i64 0,.int .i64 0,.nl,.nl,.nl]),(3,[.sl .nw 1 (y2.1.topo.parents.map eI),.sl .nw 4 (y2.1.topo.nodes.map V1),.sref 7000,.int .i64 y2.1.lic.a,.int .i64 y2.1.lic.b,.int .i64 y2.1.lic.c,.int .i64 y2.1.depth,.int .i64 v5.2,.sref 7001,.sref 7002,.sref 7003])],[(7000,⟨1,v7.map eBo,false⟩),(7001,⟨11,y2.1.queue.map eJob,false⟩),(7002,⟨13,y2.1.runs.map (X1 .nw),false⟩),(7003,⟨3,y2.1.ends.map eEnd,false⟩)]⟩) (by kernel_rfl) (fun v7 H=>?_) (fun J63=>?_)
  .unfold Ue at H
   refine wP ?_
   refine Q6 (r:=r) (Qe y2 y3 v5 v7) 0 (fun v9:l01Cur×Int×Int×Int=>⟨[(0,.ptr 2000000000 0),(2,.ptr 2 0),(3,.ptr 3 0),(4,.int .i64 y3.1)],[],[(2000000000,(Q0 .rd v9.1).cells),(2,[.nl,.nl,.nl,.int .i64 0,.int .i64 0,.int .i64 0,.int .i64 0,.int .i64 0,.nl,.nl,.nl]),(3,[.sl .nw 1 (y2.1.topo.parents.map eI),.sl .nw 4 (y2.1.topo.nodes.map V1),.sref 7000,.int .i64 v9.2.1,.int .i64 v9.2.2.1,.int .i64 v9.2.2.2,.int .i64 y2.1.depth,.int .i64 v5.2,.sref 7001,.sref 7002,.sref 7003])],[(7000,⟨1,v7.map eBo,false⟩),(7001,⟨11,y2.1.queue.map eJob,false⟩),(7002,⟨13,y2.1.runs.map (X1 .nw),false⟩),(7003,⟨3,y2.1.ends.map eEnd,false⟩)]⟩) (by kernel_rfl) (fun v9 H=>?_) (fun J62=>?_)
   .unfold Qe at H
    refine wG [.g 40 [((y3.1==3),true)] (.ln _ _ fun _=>lm y2.1.runs (X1 .nw))] fun _=>?_
    refine Q6 (r:=r) (We y2 y3 v5 v7 v9) 0 (fun v12:l01Cur×(List Run)=>⟨[(0,.ptr 2000000000 0),(2,.ptr 2 0),(3,.ptr 3 0),(4,.int .i64 y3.1)],[],[(2000000000,(Q0 .rd v12.1).cells),(2,[.nl,.nl,.nl,.int .i64 0,.int .i64 0,.int .i64 0,.int .i64 0,.int .i64 0,.nl,.nl,.nl]),(3,[.sl .nw 1 (y2.1.topo.parents.map eI),.sl .nw 4 (y2.1.topo.nodes.map V1),.sref 7000,.int .i64 v9.2.1,.int .i64 v9.2.2.1,.int .i64 v9.2.2.2,.int .i64 y2.1.depth,.int .i64 v5.2,.sref 7001,.sref 7002,.sref 7003])],[(7000,⟨1,v7.map eBo,false⟩),(7001,⟨11,y2.1.queue.map eJob,false⟩),(7002,⟨13,v12.2.map (X1 .nw),false⟩),(7003,⟨3,y2.1.ends.map eEnd,false⟩)]⟩) (by kernel_rfl) (fun v12 H=>?_) (fun J61=>?_)
    .unfold We at H
     refine wG [.g 54 [((y3.1==4),true)] (.ln _ _ fun _=>lm v12.2 (X1 .nw))] fun _=>?_
     refine Q6 (r:=r) (Oe y2 y3 v5 v7 v9 v12) 0 (fun v15:(List Job)=>⟨[(0,.ptr 2000000000 0),(2,.ptr 2 0),(3,.ptr 3 0),(4,.int .i64 y3.1)],[],[(2000000000,(Q0 .rd v12.1).cells),(2,[.nl,.nl,.nl,.int .i64 0,.int .i64 0,.int .i64 0,.int .i64 0,.int .i64 0,.nl,.nl,.nl]),(3,[.sl .nw 1 (y2.1.topo.parents.map eI),.sl .nw 4 (y2.1.topo.nodes.map V1),.sref 7000,.int .i64 v9.2.1,.int .i64 v9.2.2.1,.int .i64 v9.2.2.2,.int .i64 y2.1.depth,.int .i64 v5.2,.sref 7001,.sref 7002,.sref 7003])],[(7000,⟨1,v7.map eBo,false⟩),(7001,⟨11,v15.map eJob,false⟩),(7002,⟨13,v12.2.map (X1 .nw),false⟩),(7003,⟨3,y2.1.ends.map eEnd,false⟩)]⟩) (by kernel_rfl) (fun v15 H=>?_) (fun J60=>?_)
     .unfold Oe at H
      refine wP ?_
      refine Q6 (r:=r) (Me y2 y3 v5 v7 v9 v12 v15) 0 (fun v20:l01Cur×(List End)=>⟨[(0,.ptr 2000000000 0),(2,.ptr 2 0),(3,.ptr 3 0),(4,.int .i64 y3.1)],[],[(2000000000,(Q0 .rd v20.1).cells),(2,[.nl,.nl,.nl,.int .i64 0,.int .i64 0,.int .i64 0,.int .i64 0,.int .i64 0,.nl,.nl,.nl]),(3,[.sl .nw 1 (y2.1.topo.parents.map eI),.sl .nw 4 (y2.1.topo.nodes.map V1),.sref 7000,.int .i64 v9.2.1,.int .i64 v9.2.2.1,.int .i64 v9.2.2.2,.int .i64 y2.1.depth,.int .i64 v5.2,.sref 7001,.sref 7002,.sref 7003])],[(7000,⟨1,v7.map eBo,false⟩),(7001,⟨11,v15.map eJob,false⟩),(7002,⟨13,v12.2.map (X1 .nw),false⟩),(7003,⟨3,v20.2.map eEnd,false⟩)]⟩) (by kernel_rfl) (fun v20 H=>?_) (fun J59=>?_)
      .unfold Me at H
       refine wG [.g 86 [((y3.1==6),true)] (.ln _ _ fun _=>lm v12.2 (X1 .nw))] fun _=>?_
       refine Q6 (r:=r) (Le y2 y3 v5 v7 v9 v15 v20) 0 (fun v23:l01Cur×(List Run)=>⟨[(0,.ptr 2000000000 0),(2,.ptr 2 0),(3,.ptr 3 0),(4,.int .i64 y3.1)],[],[(2000000000,(Q0 .rd v23.1).cells),(2,[.nl,.nl,.nl,.int .i64 0,.int .i64 0,.int .i64 0,.int .i64 0,.int .i64 0,.nl,.nl,.nl]),(3,[.sl .nw 1 (y2.1.topo.parents.map eI),.sl .nw 4 (y2.1.topo.nodes.map V1),.sref 7000,.int .i64 v9.2.1,.int .i64 v9.2.2.1,.int .i64 v9.2.2.2,.int .i64 y2.1.depth,.int .i64 v5.2,.sref 7001,.sref 7002,.sref 7003])],[(7000,⟨1,v7.map eBo,false⟩),(7001,⟨11,v15.map eJob,false⟩),(7002,⟨13,v23.2.map (X1 .nw),false⟩),(7003,⟨3,v20.2.map eEnd,false⟩)]⟩) (by kernel_rfl) (fun v23 H=>?_) (fun J58=>?_)
       .unfold Le at H
        refine wG [.g 102 [((y3.1==7),true)] (.ln _ _ fun _=>lm v23.2 (X1 .nw))] fun _=>?_
        refine Q6 (r:=r) (Je y2 y3 v5 v7 v9 v15 v20 v23) 0 (fun v25:(List Run)=>⟨[(0,.ptr 2000000000 0),(2,.ptr 2 0),(3,.ptr 3 0),(4,.int .i64 y3.1)],[],[(2000000000,(Q0 .rd v23.1).cells),(2,[.nl,.nl,.nl,.int .i64 0,.int .i64 0,.int .i64 0,.int .i64 0,.int .i64 0,.nl,.nl,.nl]),(3,[.sl .nw 1 (y2.1.topo.parents.map eI),.sl .nw 4 (y2.1.topo.nodes.map V1),.sref 7000,.int .i64 v9.2.1,.int .i64 v9.2.2.1,.int .i64 v9.2.2.2,.int .i64 y2.1.depth,.int .i64 v5.2,.sref 7001,.sref 7002,.sref 7003])],[(7000,⟨1,v7.map eBo,false⟩),(7001,⟨11,v15.map eJob,false⟩),(7002,⟨13,v25.map (X1 .nw),false⟩),(7003,⟨3,v20.2.map eEnd,false⟩)]⟩) (by kernel_rfl) (fun v25 H=>?_) (fun J57=>?_)
        .unfold Je at H
         refine wP ?_
         refine Q6 (r:=r) (Zf y2 y3 v5 v7 v9 v15 v20 v25) 0 (fun v27:l01Cur×Int=>⟨[(0,.ptr 2000000000 0),(2,.ptr 2 0),(3,.ptr 3 0),(4,.int .i64 y3.1)],[],[(2000000000,(Q0 .rd v27.1).cells),(2,[.nl,.nl,.nl,.int .i64 0,.int .i64 0,.int .i64 0,.int .i64 0,.int .i64 0,.nl,.nl,.nl]),(3,[.sl .nw 1 (y2.1.topo.parents.map eI),.sl .nw 4 (y2.1.topo.nodes.map V1),.sref 7000,.int .i64 v9.2.1,.int .i64 v9.2.2.1,.int .i64 v9.2.2.2,.int .i64 v27.2,.int .i64 v5.2,.sref 7001,.sref 7002,.sref 7003])],[(7000,⟨1,v7.map eBo,false⟩),(7001,⟨11,v15.map eJob,false⟩),(7002,⟨13,v25.map (X1 .nw),false⟩),(7003,⟨3,v20.2.map eEnd,false⟩)]⟩) (by kernel_rfl) (fun v27 H=>?_) (fun J56=>?_)
         .unfold Zf at H
          refine wP ?_
          refine Q6 (r:=r) (Jj v5 v7 v9 v15 v20 v25 v27) 0 (fun v29:l01Cur×(List Int)×(List Node)=>⟨[(2,.ptr 2 0),(3,.ptr 3 0)],[],[(2000000000,(Q0 .rd v29.1).cells),(2,[.nl,.nl,.nl,.int .i64 0,.int .i64 0,.int .i64 0,.int .i64 0,.int .i64 0,.nl,.nl,.nl]),(3,[.sl .nw 1 (v29.2.1.map eI),.sl .nw 4 (v29.2.2.map V1),.sref 7000,.int .i64 v9.2.1,.int .i64 v9.2.2.1,.int .i64 v9.2.2.2,.int .i64 v27.2,.int .i64 v5.2,.sref 7001,.sref 7002,.sref 7003])],[(7000,⟨1,v7.map eBo,false⟩),(7001,⟨11,v15.map eJob,false⟩),(7002,⟨13,v25.map (X1 .nw),false⟩),(7003,⟨3,v20.2.map eEnd,false⟩)]⟩) (by kernel_rfl) (fun v29 H=>?_) (fun J55=>?_)
          .unfold Jj at H
           refine wP ?_
           replace H:=sI H;subst H
           exact V4 [(2,.d)] [(2,[]),(2000000000,[])] [(7000,some 7000,0),(7001,some 7001,0),(7002,some 7002,0),(7003,some 7003,0)] [] [7000,7001,7002,7003] (by kernel_rfl)
          .refine O0 H (fun H=>?_) fun H=>?_
           .obtain⟨y28,h28,H⟩:=bB H
            refine wG [.u 118 (.cw WQ [2000000000] [] [(Q0 .rd v27.1).cells] [] [.ptr 0 0] _ _ _ _ _ (GEs.of [true] (by simp)) (by simp) (by simp) (by simp) (fun _=>M0C h28))] fun _=>?_
            exact U0o (J55 _ H) [] [(3,[.f,.f,.d,.d,.d,.d,.d,.d,.d,.d,.d])] [] [119000,119001] (by kernel_rfl) (by kernel_rfl)
           .refine wP ?_
            exact wT (J55 _ H)
         .refine O0 H (fun H=>?_) fun H=>?_
          .obtain⟨y26,h26,H⟩:=bB H
           refine wG [.u 113 (.cw J7 [2000000000] [] [(Q0 .rd v23.1).cells] [] [.ptr 0 0] _ _ _ _ _ (GEs.of [true] (by simp)) (by simp) (by simp) (by simp) (fun _=>W7 h26))] fun _=>?_
           exact wT (J56 _ H)
          .refine wP ?_
           exact wT (J56 _ H)
        .refine O0 H (fun H=>?_) fun H=>?_
         .obtain⟨e24,h24,H⟩:=bB H
          refine wG [.u 107 (.ix _ _ _ fun _=>V0 (X1 .nw) h24),.u 1000000 (.sto _ _ _ (X1 .nw (Run.mk (Job.mk e24.job.id e24.job.prio e24.job.nodes e24.job.need e24.job.lic e24.job.wall 0) e24.t e24.nodes)) _ (fun _=>gm (X1 .nw) (Q7 h24)) (fun _=>YH ..))] fun _=>?_
          exact wT (J57 _ H)
         .refine wP ?_
          exact wT (J57 _ H)
       .refine O0 H (fun H=>?_) fun H=>?_
        .obtain⟨y21,h21,H⟩:=bB H
         obtain⟨e22,h22,H⟩:=bB H
         refine wG [.u 94 (.cz WK [2000000000] [(Q0 .rd v20.1).cells] [.ptr 0 0,U5 .nw y2.1.topo] _ _ _ (by simp) (by simp) (fun _=>by simp) (fun _=>M0u h21)),.u 95 (.ix _ _ _ fun _=>V0 (X1 .nw) h22),.u 1000000 (.sto _ _ _ (X1 .nw (Run.mk e22.job e22.t y21.1)) _ (fun _=>gm (X1 .nw) (Q7 h22)) (fun _=>YH ..))] fun _=>?_
         exact wT (J58 _ H)
        .refine wP ?_
         exact wT (J58 _ H)
      .refine O0 H (fun H=>?_) fun H=>?_
       .obtain⟨y16,h16,H⟩:=bB H
        obtain⟨y17,h17,H⟩:=bB H
        obtain⟨y18,h18,H⟩:=bB H
        obtain⟨xs19,h19,H⟩:=bB H
        refine wG [.u 72 (.cz U0 [2000000000] [(Q0 .rd v12.1).cells] [.ptr 0 0,iV 3] _ _ _ (by simp) (by simp) (fun _=>by simp) (fun _=>Z0 h16)),.u 74 (.cz U0 [2000000000] [(Q0 .rd y16.2).cells] [.ptr 0 0,iV 3] _ _ _ (by simp) (by simp) (fun _=>by simp) (fun _=>Z0 h17)),.u 76 (.cz U0 [2000000000] [(Q0 .rd y17.2).cells] [.ptr 0 0,iV 6] _ _ _ (by simp) (by simp) (fun _=>by simp) (fun _=>Z0 h18)),.u 79 (.ap _ _ _ _ fun _=>L0 eEnd h19)] fun _=>?_
        exact wT (J59 _ H)
       .refine wP ?_
        exact wT (J59 _ H)
     .refine O0 H (fun H=>?_) fun H=>?_
      .obtain⟨e13,h13,H⟩:=bB H
       obtain⟨xs14,h14,H⟩:=bB H
       refine wG [.u 61 (.ix _ _ _ fun _=>V0 (X1 .nw) h13),.u 63 (.el _ _ _ fun _=>gm (X1 .nw) (Q7 h13)),.u 65 (.ap _ _ _ _ fun _=>L0 eJob h14)] fun _=>?_
       exact wT (J60 _ H)
      .refine wP ?_
       exact wT (J60 _ H)
    .refine O0 H (fun H=>?_) fun H=>?_
     .obtain⟨y10,h10,H⟩:=bB H
      obtain⟨e11,h11,H⟩:=bB H
      refine wG [.u 46 (.cz J7 [2000000000] [(Q0 .rd v9.1).cells] [.ptr 0 0] _ _ _ (by simp) (by simp) (fun _=>by simp) (fun _=>W7 h10)),.u 47 (.ix _ _ _ fun _=>V0 (X1 .nw) h11),.u 1000000 (.sto _ _ _ (X1 .nw (Run.mk e11.job y10.1 e11.nodes)) _ (fun _=>gm (X1 .nw) (Q7 h11)) (fun _=>YH ..))] fun _=>?_
      exact wT (J61 _ H)
     .refine wP ?_
      exact wT (J61 _ H)
   .refine O0 H (fun H=>?_) fun H=>?_
    .obtain⟨y8,h8,H⟩:=bB H
     refine wG [.u 33 (.cw ZF [2000000000] [] [(Q0 .rd v5.1).cells] [] [.ptr 0 0] _ _ _ _ _ (GEs.of [true] (by simp)) (by simp) (by simp) (by simp) (fun _=>L06 h8))] fun _=>?_
     exact wT (J62 _ H)
    .refine wP ?_
     exact wT (J62 _ H)
  .refine O0 H (fun H=>?_) fun H=>?_
   .obtain⟨e6,h6,H⟩:=bB H
    refine wG [.u 26 (.ix _ _ _ fun _=>V0 eBo h6),.u 27 (.el _ _ _ fun _=>gm eBo (Q7 h6)),.u 29 (.ix _ _ _ fun _=>V0 eBo h6),.u 1000000 (.sto _ _ _ (eBo (!e6)) _ (fun _=>gm eBo (Q7 h6)) (fun _=>YH ..))] fun _=>?_
    exact wT (J63 _ H)
   .refine wP ?_
    exact wT (J63 _ H)
 .refine O0 H (fun H=>?_) fun H=>?_
  .obtain⟨y4,h4,H⟩:=bB H
   refine wG [.u 12 (.cw J7 [2000000000] [] [(Q0 .rd y3.2).cells] [] [.ptr 0 0] _ _ _ _ _ (GEs.of [true] (by simp)) (by simp) (by simp) (by simp) (fun _=>W7 h4))] fun _=>?_
   exact wT (J64 _ H)
  .refine wP ?_
   exact wT (J64 _ H)
noncomputable def O0c:L :=
 lf Tryz.prog JO [] [(6,3)] [] [] [] [] []
def Vi(code1:List Int):Option State :=
 (Q0M code1).bind fun c2=>(XA c2).bind fun y3=>some y3.1
theorem Q0b{code1:List Int}{r:State}(H:Vi code1=some r):Snd Tryz.prog JO [rV 1 (code1.map eB)] (Y3 .nw r) []:=by
 refine wS O0c [.c 2 11 true] ?_
 unfold Vi at H
 obtain⟨c2,h2,H⟩:=bB H
 obtain⟨y3,h3,H⟩:=bB H
 refine wG [.u 6 (.bn V05 [rV 1 (code1.map eB)] [rV 1 (code1.map eB)] _ ((Q0 .rd c2).cells) (fun _=>by simp) (fun _=>by simp) (fun _=>M1q h2)),.u 8 (.cw UQ [6] [] [(Q0 .rd c2).cells] [] [.ptr 0 0] _ _ _ _ _ (GEs.of [true] (by simp)) (by simp) (by simp) (by simp) (fun _=>X0C h3))] fun _=>?_
 replace H:=sI H;subst H
 exact wN [(2,.d)] [(2,[.d,.d,.f,.d,.d,.d,.d,.d,.f,.f,.f])] [] [9000,9001,9002,9003] [] [⟨_,nw_I y3.1.topo.parents⟩,⟨_,O2 y3.1.topo.nodes⟩,⟨_,Qs y3.1.up⟩,⟨_,MC y3.1.queue⟩,⟨_,OC y3.1.runs⟩,⟨_,VW y3.1.ends⟩]
end
section
structure CurP(c:l01Cur):Prop where
 i0:0<=c.i
 i1:c.i<=c.b.length
 len:c.b.length<=1048576
theorem L0r(a:Int):0<=bAnd .i64 a 255/\bAnd .i64 a 255<=255:=by
 have h:(BitVec.ofInt 64 a &&& BitVec.ofInt 64 255).toNat<=255:=by
  rw[BitVec.toNat_and]
  exact Nat.le_trans Nat.and_le_right (by decide)
 show 0<=IntKind.i64.wrap _/\IntKind.i64.wrap _<=255
 have e:((BitVec.ofInt IntKind.i64.bits a &&& BitVec.ofInt IntKind.i64.bits 255).toNat:Int)=((BitVec.ofInt 64 a &&& BitVec.ofInt 64 255).toNat:Int):=rfl
 rw[e,Z11 (by omega) (by omega)]
 omega
theorem Q0c{α:Type}{l:List α}(h:l.length<=9223372036854775807):lenQ l=some ():=by simp[lenQ,h]
theorem O1q{bs:List Int}(h:bs.length<=1048576):∃c,Q0M bs=some c/\CurP c:=⟨⟨bs,0,newH bs⟩,by simp[Q0M,h],by simp,by simp,h⟩
theorem MT{c:l01Cur}(h:CurP c):∃r,Qa c=some r/\0<=r.1/\r.1<=255/\CurP r.2:=by
 unfold Qa
 simp only[shrI,Q0c (show c.b.length<=9223372036854775807 by have:=h.len;omega)]
 have h0:=h.i0;have h1:=h.i1;have h2:=h.len
 by_cases hlt:c.i<c.b.length
 .obtain⟨x,hx,_⟩:=Ji h0 hlt
  refine⟨_,by simp[hx,hlt,Ob];rfl,?_⟩
  simp
  refine⟨(L0r _).1,(L0r _).2,?_,?_,h2⟩<;>simp<;>rw[J3 (by omega)]<;>omega
 .refine⟨_,by simp[hlt,Ob];rfl,?_⟩
  simp
  exact⟨(L0r _).1,(L0r _).2,h0,h1,h2⟩
theorem W9{c:l01Cur}{n:Int}(h:CurP c)(hn:n<=1000000000):∃r,X0 c n=some r/\0<=r.1/\r.1<=max 0 (n-1)/\CurP r.2:=by
 unfold X0
 by_cases h0:n<=0
 .exact⟨(0,c),by simp[h0],by simp,by simp;omega,h⟩
 have hne:¬ n=0:=by omega
 by_cases h256:n<=256
 .obtain⟨r,e,r0,r1,hc⟩:=MT h
  have q0:=Int.tmod_nonneg n r0
  have q1:=Int.tmod_lt_of_pos r.1 (show 0<n by omega)
  exact⟨(r.1.tmod n,r.2),by simp[h0,h256,e,remI,hne],q0,by simp only;omega,hc⟩
 .obtain⟨a,ea,a0,a1,ha⟩:=MT h
  obtain⟨b,eb,b0,b1,hb⟩:=MT ha
  obtain⟨d,ed,d0,d1,hd⟩:=MT hb
  obtain⟨e,ee,e0,e1,he⟩:=MT hd
  have es:w64 ((w64 ((w64 ((w64 (a.1*16777216))+(w64 (b.1*65536))))+(w64 (d.1*256))))+e.1)=a.1*16777216+b.1*65536+d.1*256+e.1:=by
   rw[J3 (n:=a.1*16777216) (by omega),J3 (n:=b.1*65536) (by omega),J3 (n:=d.1*256) (by omega),J3 (n:=a.1*16777216+b.1*65536) (by omega),J3 (n:=a.1*16777216+b.1*65536+d.1*256) (by omega),J3 (by omega)]
  have q0:=Int.tmod_nonneg n (show 0<=a.1*16777216+b.1*65536+d.1*256+e.1 by omega)
  have q1:=Int.tmod_lt_of_pos (a.1*16777216+b.1*65536+d.1*256+e.1) (show 0<n by omega)
  exact⟨((a.1*16777216+b.1*65536+d.1*256+e.1).tmod n,e.2),by simp[h0,h256,ea,eb,ed,ee,es,remI,hne],q0,by simp only;omega,he⟩
theorem O0h{c:l01Cur}(h:CurP c):∃r,M5 c=some r/\CurP r.2:=by
 unfold M5
 obtain⟨y2,e2,_,_,h2⟩:=W9 h (n:=9) (by omega)
 obtain⟨y3,e3,_,_,h3⟩:=W9 h2 (n:=24) (by omega)
 obtain⟨y4,e4,_,_,h4⟩:=W9 h2 (n:=3) (by omega)
 obtain⟨y5,e5,_,_,h5⟩:=W9 h2 (n:=2) (by omega)
 obtain⟨y6,e6,_,_,h6⟩:=W9 h2 (n:=2000000) (by omega)
 simp only[e2,e3,e4,e5,e6,bS]
 cases decide (y2.1<4)<;>cases y2.1==4<;>cases y2.1==5<;>cases y2.1==6<;>cases y2.1==7<;>exact⟨_,rfl,by assumption⟩
theorem W1q{c:l01Cur}(h:CurP c):∃r,OB c=some r/\CurP r.2:=by
 unfold OB
 obtain⟨y2,e2,_,_,h2⟩:=W9 h (n:=9) (by omega)
 obtain⟨y3,e3,_,_,h3⟩:=W9 h2 (n:=17) (by omega)
 obtain⟨y4,e4,_,_,h4⟩:=W9 h3 (n:=3) (by omega)
 obtain⟨y5,e5,_,_,h5⟩:=W9 h4 (n:=14) (by omega)
 obtain⟨y6,e6,_,_,h6⟩:=W9 h5 (n:=2) (by omega)
 simp only[e2,e3,e4,e5,e6,bS,Vn]
 cases y5.1==0<;>exact⟨_,rfl,by assumption⟩
theorem L1q{c:l01Cur}(h:CurP c):∃r,Mm c=some r/\CurP r.2:=by
 unfold Mm
 obtain⟨y2,e2,h2⟩:=W1q h
 obtain⟨y3,e3,_,_,h3⟩:=W9 h2 (n:=12) (by omega)
 obtain⟨y4,e4,h4⟩:=O0h h3
 have j21:∀v5 v7:l01Cur×Int,CurP v7.1->∃r,Wf y2 y3 v5 v7=some r/\CurP r.2:=fun v5 v7 hv=>by
  obtain⟨y8,e8,h8⟩:=O0h hv
  simp only[Wf,Wk,e8,bS]
  cases y3.1==2<;>exact⟨_,rfl,by assumption⟩
 have j22:∀v5:l01Cur×Int,CurP v5.1->∃r,Qf y2 y3 v5=some r/\CurP r.2:=fun v5 hv=>by
  obtain⟨y6,e6,h6⟩:=O0h hv
  simp only[Qf,e6,bS]
  cases y3.1==1
  .exact j21 _ _ hv
  .exact j21 _ _ h6
 simp only[e2,e3,e4,bS]
 cases y3.1==0
 .exact j22 _ h3
 .exact j22 _ h4
theorem Xm{t:Topo}{l:List Int}(h:U7 t l=true)(hl:l.length<=1048576)(s:Nat):Zk t l (s:Int)=some (l.filter fun n=>hasUp t n s):=by
 unfold Zk
 rw[V8 (bs:=8) (p:=fun n=>hasUp t n s) (f:=fun n=>n) (fun x hx i b k=>by
  unfold ZY
  exact X18 h hx s _) (by simp;omega)]
 unfold JX
 simp
def rise(n:Int):List Int->List Int
 |[]=>[n]
 |x::l=>if n<x then n::x::l else x::rise n l
theorem M0p(n:Int):∀l:List Int,(rise n l).length=l.length+1
 |[]=>rfl
 |x::l=>by
  unfold rise
  split
  .rfl
  .simp[M0p n l]
theorem Y13(n m:Int):∀l:List Int,m∈rise n l↔m=n\/m∈l
 |[]=>by simp[rise]
 |x::l=>by
  unfold rise
  split
  .simp
  .simp only[List.mem_cons,Y13 n m l]
   constructor<;>rintro(h|h|h)<;>simp[h]
theorem J1I(n x:Int)(i:Nat)(v:Bool×List Int)(k:Bool×List Int->Option (List Int)) :
  Yn n x i v k=bif (!v.1)&&decide (n<x)then(appL 8 v.2 [n]).bind fun xs5=>(appL 8 xs5 [x]).bind fun xs7=>k (true,xs7)else(appL 8 v.2 [x]).bind fun xs7=>k (v.1,xs7):=rfl
theorem Y10{l:List Int}(n:Int)(hl:l.length<=1048576):Yy l n=some (rise n l):=by
 have key:∀(l:List Int) (i:Nat) (acc:List Int),acc.length+l.length<=1048576 ->
   rgl (Yn n) (Xh n) l i (false,acc)=some (acc++rise n l):=by
  have key2:∀(l:List Int) (i:Nat) (acc:List Int),acc.length+l.length<=1048577->rgl (Yn n) (Xh n) l i (true,acc)=some (acc++l):=by
   intro l
   induction l with
   |nil=>intro i acc _;rw[rgl];unfold Xh Uh;simp
   |cons x l ih =>
    intro i acc h
    simp only[yT]at h
    rw[rgl,J1I]
    simp only[yL,Bool.false_and,yM]
    rw[M0 (by simp;omega),bS,ih _ _ (by simp;omega)]
    simp
  intro l
  induction l with
  |nil =>
   intro i acc h
   rw[rgl]
   unfold Xh Uh
   simp only[Bool.not_false,yN]
   simp only[List.length_nil]at h
   rw[M0 (by simp;omega)]
   rfl
  |cons x l ih =>
   intro i acc h
   simp only[yT]at h
   rw[rgl,J1I]
   unfold rise
   by_cases hx:n<x
   .simp only[Bool.not_false,Bool.true_and,hx,decide_true,yN,yb]
    rw[M0 (by simp;omega),bS,M0 (by simp;omega),bS,key2 _ _ _ (by simp;omega)]
    simp
   .simp only[Bool.not_false,Bool.true_and,hx,decide_false,yM,yc]
    rw[M0 (by simp;omega),bS,ih _ _ (by simp;omega)]
    simp
 unfold Yy
 rw[key l 0 [] (by simpa using hl)]
 rfl
def L0H(n:Int)(v ys:List Int):List Int:=ys.foldl (fun v x=>if(v.length:Int)<n then rise x v else v) v
theorem V0R(n:Int):∀(ys v:List Int),(v.length:Int)<=n->((L0H n v ys).length:Int)=min n ((v.length:Int)+(ys.length:Int))
 |[],v,h=>by simp only[L0H,List.foldl_nil,List.length_nil];omega
 |y::ys,v,h=>by
  unfold L0H
  rw[List.foldl_cons]
  by_cases hv:(v.length:Int)<n
  .have:=V0R n ys (rise y v) (by rw[M0p];omega)
   unfold L0H at this
   rw[yd hv,this,M0p]
   simp only[yT];omega
  .have:=V0R n ys v h
   unfold L0H at this
   rw[ye hv,this]
   simp only[yT];omega
theorem Q1e(n m:Int):∀(ys v:List Int),m∈L0H n v ys->m∈v\/m∈ys
 |[],v,h=>.inl h
 |y::ys,v,h=>by
  unfold L0H at h
  rw[List.foldl_cons]at h
  rcases Q1e n m ys _ h with h|h
  .split at h
   .rcases(Y13 y m v).1 h with h|h
    .exact .inr (by simp[h])
    .exact .inl h
   .exact .inl h
  .exact .inr (yH _ h)
def X1D(Q:Nat->Prop)(m:Nat)(v:Int):Prop:=(v<0->∀s,s<m->¬ Q s)/\(0<=v->∃s:Nat,v=(s:Int)/\s<m/\Q s)
def V14(t:Topo)(l taken:List Int)(s:Nat):Prop:=(l.filter fun n=>hasUp t n s)≠[]/\kids t.parents (s:Int)=[]/\(s:Int)∉taken
theorem Q1q{t:Topo}{l:List Int}(h:U7 t l=true)(hl:l.length<=1048576)(taken:List Int):∃v,Zp t l taken=some v/\X1D (V14 t l taken) t.parents.length v:=by
 have T:=(Y8.1 h).1
 unfold Zp
 refine Mc (l0:=t.parents) (fun i (v:Int)=>X1D (V14 t l taken) i v) (fun o=>∃v,o=some v/\X1D (V14 t l taken) t.parents.length v) (fun i x v k hx hI hk=>?_) (fun v hI=>⟨v,rfl,hI⟩) ⟨fun _ s hs=>by omega,fun h=>by omega⟩
 have hi:=(yB hx).1
 have skip:¬ V14 t l taken i->X1D (V14 t l taken) (i+1) v:=fun hq=>by
  refine⟨fun hv s hs=>?_,fun hv=>?_⟩
  .by_cases e:s=i
   .subst e;exact hq
   .exact hI.1 hv s (by omega)
  .obtain⟨s,e,hs,q⟩:=hI.2 hv
   exact⟨s,e,by omega,q⟩
 have take:V14 t l taken i->X1D (V14 t l taken) (i+1) (i:Int):=fun hq=>⟨fun hv=>by omega,fun _=>⟨i,rfl,by omega,hq⟩⟩
 unfold Yw
 rw[Xm h hl i,bS]
 by_cases h0:(l.filter fun n=>hasUp t n i)=[]
 .simp only[h0,List.length_nil,Int.natCast_zero,beq_self_eq_true,yN,bS,Bool.true_or]
  exact hk v (skip fun q=>q.1 h0)
 .have hne:(((l.filter fun n=>hasUp t n i).length:Int)==0)=false:=by
   rw[beq_eq_false_iff_ne]
   have:=List.length_pos_iff.2 h0
   omega
  rw[hne,yM,Yp t (i:Int) (by have:=T.tree.le;omega),bS]
  by_cases hkd:kids t.parents (i:Int)=[]
  .simp only[hkd,List.map_nil,List.length_nil,Int.natCast_zero,Int.lt_irrefl,decide_false,Bool.or_self,yM,Ud,bS,Bool.false_or]
   cases ht:taken.contains (i:Int)with
   |true =>
    rw[yN]
    exact hk v (skip fun q=>q.2.2 (List.contains_iff_mem.1 ht))
   |false =>
    have hq:V14 t l taken i:=⟨h0,hkd,fun hm=>by rw[List.contains_iff_mem.2 hm]at ht;cases ht⟩
    rw[yM]
    by_cases hv:v<0
    .simp only[hv,decide_true,yN,bS,Bool.true_or]
     exact hk _ (take hq)
    .obtain⟨s,e,hs,q⟩:=hI.2 (by omega)
     subst e
     rw[show decide ((s:Int)<0)=false by simp,yM,Xm h hl s,bS,Bool.false_or]
     cases decide (((l.filter fun n=>hasUp t n s).length:Int)<((l.filter fun n=>hasUp t n i).length:Int))with
     |true=>exact hk _ (take hq)
     |false=>exact hk _ ⟨fun hv=>by omega,fun _=>⟨s,rfl,by omega,q⟩⟩
  .have hpos:decide (0<(((kids t.parents (i:Int)).map fun(n:Nat)=>(n:Int)).length:Int))=true:=by
    have:=List.length_pos_iff.2 hkd
    simp;omega
   simp only[hpos,Bool.or_true,yN,bS,Bool.true_or]
   exact hk v (skip fun q=>hkd q.2.1)
section
variable{α β γ:Type}
theorem U0L{bd:α->Nat->β->(β->Option γ)->Option γ}{kk:β->Option γ}{l0:List α}{f:β->Nat->β}(I:Nat->β->Prop)(hI:∀j b,j<l0.length->I j b->I (j+1) (f b j))
  (h:∀j x b k,l0[j]?=some x->I j b->bd x j b k=k (f b j)) {b:β} (h0:I 0 b):rgl bd kk l0 0 b=kk ((List.range l0.length).foldl f b)/\I l0.length ((List.range l0.length).foldl f b):=by
 have key:∀(m i:Nat) (b:β),l0.length-i=m->i<=l0.length->I i b->rgl bd kk (l0.drop i) i b=kk ((List.range' i m).foldl f b)/\I l0.length ((List.range' i m).foldl f b):=by
  intro m
  induction m with
  |zero =>
   intro i b hm hi hb
   have:i=l0.length:=by omega
   subst this
   rw[List.drop_length]
   exact⟨rfl,hb⟩
  |succ m ih =>
   intro i b hm hi hb
   have h1:i<l0.length:=by omega
   rw[List.drop_eq_getElem_cons h1,rgl,h i _ b _ (yA h1) hb,List.range'_succ,List.foldl_cons]
   exact ih (i+1) _ (by omega) h1 (hI i b h1 hb)
 have:=key l0.length 0 b (by simp) (Nat.zero_le _) h0
 rwa [List.drop_zero,← List.range_eq_range']at this
end
def cntU(t:Topo)(l:List Int)(s:Nat):Nat:=(l.filter fun n=>hasUp t n s).length
def inR(i:Nat)(v:Int):Prop:=-1<=v/\v<(i:Int)
def M0Y(t:Topo)(l:List Int)(n level v:Int)(s:Nat):Int :=
 if(cntU t l s:Int)<n\/level<lev t s then v
 else if v<0\/lev t s<lev t v.toNat\/(lev t s=lev t v.toNat/\(cntU t l s:Int)<cntU t l v.toNat)then(s:Int)else v
def swF(t:Topo)(l:List Int)(n level:Int):Int:=(List.range t.parents.length).foldl (M0Y t l n level) (-1)
theorem L1c{t:Topo}{l:List Int}(h:U7 t l=true)(hl:l.length<=1048576)(n level:Int):Zu t l n level=some (swF t l n level)/\inR t.parents.length (swF t l n level):=by
 have T:=(Y8.1 h).1
 unfold Zu swF
 refine(U0L (f:=M0Y t l n level) inR (fun j v hj hv=>?_) (fun j x v k hx hv=>?_) ⟨by omega,by omega⟩).imp (fun e=>e) fun e=>e
 .obtain⟨v1,v2⟩:=hv
  unfold M0Y inR
  split
  .omega
  .split<;>omega
 .have hj:=(yB hx).1
  obtain⟨v1,v2⟩:=hv
  unfold QA M0Y
  rw[Xm h hl j,bS,Yi T hj,bS]
  rw[show(l.filter fun n=>hasUp t n j).length=cntU t l j from rfl]
  by_cases h1:(cntU t l j:Int)<n\/level<lev t j
  .rw[yd h1,show(decide ((cntU t l j:Int)<n)||decide (level<lev t j))=true by simpa using h1,yN]
  .rw[ye h1,show(decide ((cntU t l j:Int)<n)||decide (level<lev t j))=false by
    rw[Bool.eq_false_iff];intro q;exact h1 (by simpa using q),yM]
   by_cases hv0:v<0
   .rw[yd (.inl hv0),show decide (v<0)=true by simpa using hv0]
    rfl
   .obtain⟨m,rfl⟩:∃m:Nat,v=(m:Int):=⟨v.toNat,by omega⟩
    have hm:m<t.parents.length:=by omega
    rw[show decide ((m:Int)<0)=false by simp]
    simp only[yM,Bool.false_or]
    rw[Yi T hm,bS,yZ]
    by_cases h2:lev t j<lev t m
    .rw[yd (.inr (.inl h2)),show decide (lev t j<lev t m)=true by simpa using h2]
     rfl
    .rw[show decide (lev t j<lev t m)=false by simpa using h2,yM,bS,yM]
     by_cases h3:lev t j=lev t m
     .rw[show(lev t j==lev t m)=true by simpa using h3,yN,Xm h hl m,bS]
      rw[show(l.filter fun n=>hasUp t n m).length=cntU t l m from rfl]
      by_cases h4:(cntU t l j:Int)<cntU t l m
      .rw[yd (.inr (.inr ⟨h3,h4⟩)),show decide ((cntU t l j:Int)<(cntU t l m:Int))=true by simpa using h4]
       rfl
      .rw[ye (by omega),show decide ((cntU t l j:Int)<(cntU t l m:Int))=false by simpa using h4]
       rfl
     .rw[show(lev t j==lev t m)=false by simpa using h3,yM,bS,ye (by omega)]
      rfl
def W0J(t:Topo)(l taken:List Int)(v:Int)(s:Nat):Int :=
 if cntU t l s=0\/kids t.parents (s:Int)≠[]\/(s:Int)∈taken then v
 else if v<0\/cntU t l v.toNat<cntU t l s then(s:Int)else v
def U14(t:Topo)(l taken:List Int):Int:=(List.range t.parents.length).foldl (W0J t l taken) (-1)
theorem L1m{t:Topo}{l:List Int}(h:U7 t l=true)(hl:l.length<=1048576)(taken:List Int):Zp t l taken=some (U14 t l taken)/\inR t.parents.length (U14 t l taken):=by
 have T:=(Y8.1 h).1
 unfold Zp U14
 refine(U0L (f:=W0J t l taken) inR (fun j v hj hv=>?_) (fun j x v k hx hv=>?_) ⟨by omega,by omega⟩).imp (fun e=>e) fun e=>e
 .obtain⟨v1,v2⟩:=hv
  unfold W0J inR
  split
  .omega
  .split<;>omega
 .have hj:=(yB hx).1
  obtain⟨v1,v2⟩:=hv
  unfold Yw W0J
  rw[Xm h hl j,bS]
  rw[show(l.filter fun n=>hasUp t n j).length=cntU t l j from rfl]
  by_cases h0:cntU t l j=0
  .rw[yd (.inl h0),show((cntU t l j:Int)==0)=true by simpa using h0]
   rfl
  .rw[show((cntU t l j:Int)==0)=false by simpa using h0,yM,Yp t (j:Int) (by have:=T.tree.le;omega),bS]
   by_cases hk:kids t.parents (j:Int)=[]
   .simp only[hk,List.map_nil,List.length_nil,Int.natCast_zero,Int.lt_irrefl,decide_false,Bool.or_self,yM,Ud,bS,Bool.false_or]
    by_cases ht:(j:Int)∈taken
    .rw[yd (.inr (.inr ht)),List.contains_iff_mem.2 ht,yN]
    .rw[ye (by rintro(q|q|q);exact h0 q;exact q rfl;exact ht q),show taken.contains (j:Int)=false by
      rw[Bool.eq_false_iff];exact fun q=>ht (List.contains_iff_mem.1 q),yM]
     by_cases hv0:v<0
     .rw[yd (.inl hv0),show decide (v<0)=true by simpa using hv0]
      rfl
     .obtain⟨m,rfl⟩:∃m:Nat,v=(m:Int):=⟨v.toNat,by omega⟩
      rw[show decide ((m:Int)<0)=false by simp,yM,Xm h hl m,bS,Bool.false_or,yZ]
      rw[show(l.filter fun n=>hasUp t n m).length=cntU t l m from rfl]
      by_cases h4:cntU t l m<cntU t l j
      .rw[yd (.inr h4),show decide ((cntU t l m:Int)<(cntU t l j:Int))=true by simpa using h4,yN]
      .rw[ye (by omega),show decide ((cntU t l m:Int)<(cntU t l j:Int))=false by simpa using h4,yM]
   .have hpos:decide (0<(((kids t.parents (j:Int)).map fun(n:Nat)=>(n:Int)).length:Int))=true:=by
     have:=List.length_pos_iff.2 hk
     simp;omega
    rw[yd (.inr (.inl hk))]
    simp only[hpos,Bool.or_true,yN,bS,Bool.true_or]
end
section
def lfOf(t:Topo)(x:Int):Nat:=match idx t.nodes x with
 |some e=>e.leaf.toNat
 |none=>0
theorem L1J{t:Topo}{l:List Int}(h:U7 t l=true){x:Int}(hx:x∈l):hasUp t x (lfOf t x)=true/\lfOf t x<t.parents.length/\kids t.parents (lfOf t x:Int)=[]:=by
 obtain⟨h1,h2⟩:=Y8.1 h
 obtain⟨e,q1,q2⟩:=Ji (l:=t.nodes) (i:=x) (h2 x hx).1 (h2 x hx).2
 obtain⟨a1,a2,a3,_⟩:=h1.node e (yE q2)
 have e1:lfOf t x=e.leaf.toNat:=by unfold lfOf;rw[q1]
 have e2:(lfOf t x:Int)=e.leaf:=by omega
 refine⟨?_,by omega,by rw[e2];exact a3⟩
 unfold hasUp
 rw[q1,e1]
 simp only[List.contains_iff_mem]
 exact List.mem_map.2 ⟨_,V0p _ _,rfl⟩
theorem U1e{α:Type}{r p q:α->Bool}:∀{l:List α},(∀x∈l,r x=true->p x=true\/q x=true)->(l.filter r).length<=(l.filter p).length+(l.filter q).length
 |[],_=>Nat.zero_le _
 |x::l,h=>by
  have ih:=U1e fun y hy=>h y (yH _ hy)
  have hx:=h x (yJ ..)
  cases hr:r x with
  |false=>cases hp:p x<;>cases hq:q x<;>simp[hr,hp,hq]<;>omega
  |true =>
   rcases hx hr with hp|hq
   .cases hq:q x<;>simp[hr,hp,hq]<;>omega
   .cases hp:p x<;>simp[hr,hp,hq]<;>omega
def cntT(t:Topo)(l taken:List Int):Nat:=(l.filter fun x=>taken.contains (lfOf t x:Int)).length
theorem W1F{t:Topo}{l:List Int}(h:U7 t l=true)(hl:l.length<=1048576){taken:List Int}(hc:cntT t l taken<l.length):∃m:Nat,U14 t l taken=(m:Int)/\m<t.parents.length/\(m:Int)∉taken:=by
 obtain⟨v,h1,h2,h3⟩:=Q1q h hl taken
 have e:=(L1m h hl taken).1
 rw[h1]at e
 have e:v=U14 t l taken:=Option.some.inj e
 subst e
 have:∃x∈l,(lfOf t x:Int)∉taken:=by
  by_cases hx:∃x∈l,(lfOf t x:Int)∉taken
  .exact hx
  .have:l.filter (fun x=>taken.contains (lfOf t x:Int))=l:=List.filter_eq_self.2 fun x hxl=>by
    rw[List.contains_iff_mem]
    by_cases hm:(lfOf t x:Int)∈taken
    .exact hm
    .exact absurd ⟨x,hxl,hm⟩ hx
   unfold cntT at hc
   rw[this]at hc
   omega
 obtain⟨x,hx,hm⟩:=this
 obtain⟨q1,q2,q3⟩:=L1J h hx
 have hne:(l.filter fun n=>hasUp t n (lfOf t x))≠[]:=fun q=>by
  have:x∈l.filter fun n=>hasUp t n (lfOf t x):=List.mem_filter.2 ⟨hx,q1⟩
  rw[q]at this
  cases this
 have hQ:V14 t l taken (lfOf t x):=⟨hne,q3,hm⟩
 have hv:0<=U14 t l taken:=by
  by_cases hv:U14 t l taken<0
  .exact absurd hQ (h2 hv _ q2)
  .omega
 obtain⟨m,e,hm,q⟩:=h3 hv
 exact⟨m,e,hm,q.2.2⟩
theorem W18{n:Int}{k11:(List Int×List Int)->Option (List Int×Bool)}{xs:List Int}:∀(ys:List Int) (i:Nat) (v:List Int),v.length+ys.length<=1048576->rgl (VC n) (OS k11 xs) ys i v=k11 (L0H n v ys,xs)
 |[],_,_,_=>rfl
 |y::ys,i,v,h=>by
  simp only[yT]at h
  have e:L0H n v (y::ys)=L0H n (if(v.length:Int)<n then rise y v else v) ys:=rfl
  rw[rgl,e]
  unfold VC
  by_cases hv:(v.length:Int)<n
  .rw[show decide ((v.length:Int)<n)=true by simpa using hv,yN,Y10 y (by omega),bS,yd hv]
   exact W18 ys _ _ (by rw[M0p];omega)
  .rw[show decide ((v.length:Int)<n)=false by simpa using hv,yM,ye hv]
   exact W18 ys _ _ (by omega)
def chL(t:Topo)(l:List Int)(n:Int):Nat->List Int->List Int->List Int
 |0,out,_=>out
 |k+1,out,taken=>if(out.length:Int)<n then chL t l n k (L0H n out (l.filter fun x=>hasUp t x (U14 t l taken).toNat)) (taken++[U14 t l taken])else out
theorem J1r{t:Topo}{l:List Int}{n:Int}(h:U7 t l=true)(hl:l.length<=24)(h0:1<=n)(hn:n<=l.length) :
    whl (Yq t n l) 9223372036854775807 ([],[])=some (chL t l n (t.parents.length+1) [] [],true)/\((chL t l n (t.parents.length+1) [] []).length:Int)=n/\∀m∈chL t l n (t.parents.length+1) [] [],m∈l:=by
  have T:=(Y8.1 h).1
  have hP:=T.tree.le
  have:=QF (bd:=Yq t n l) (fun b o=>o=some (chL t l n (t.parents.length+1-b.2.length) b.1 b.2,true)/\((chL t l n (t.parents.length+1-b.2.length) b.1 b.2).length:Int)=n/\∀m∈chL t l n (t.parents.length+1-b.2.length) b.1 b.2,m∈l)
    (fun b=>t.parents.length-b.2.length) (fun b=>(b.1.length:Int)<=n/\(∀m∈b.1,m∈l)/\b.2.Nodup/\(∀s∈b.2,s∈(List.range t.parents.length).map fun(i:Nat)=>(i:Int))/\((b.1.length:Int)<n->cntT t l b.2<=b.1.length)) ?_ 9223372036854775807 ([],[])
    ⟨by simp;omega,by simp,List.nodup_nil,by simp,fun _=>by simp[cntT]⟩ (by simp;omega)
  · simpa using this
  rintro⟨out,taken⟩ k ⟨i1,i2,i3,i4,i5⟩ hk
  simp only at i1 i2 i3 i4 i5 hk ⊢
  have hlen:taken.length<=t.parents.length:=by simpa using i3.length_le_of_subset i4
  unfold Yq
  simp only
  rw[show t.parents.length+1-taken.length=(t.parents.length-taken.length)+1 by omega,chL]
  by_cases ho:(out.length:Int)<n
  · obtain⟨m,e,hm,hmt⟩:=W1F h (by omega) (taken:=taken) (by have:=i5 ho;omega)
    rw[show decide ((out.length:Int)<n)=true by simpa using ho,yN,(L1m h (by omega) taken).1,bS,yd ho]
    rw[e,yZ]
    rw[M0 (by simp;omega),bS,Xm h (by omega) m,bS]
    have hfl:(l.filter fun x=>hasUp t x m).length<=l.length:=List.length_filter_le ..
    rw[W18 _ _ _ (by omega)]
    have hnd:(taken++[(m:Int)]).Nodup:=by
      rw[List.nodup_append]
      exact⟨i3,by simp,fun a ha b hb q=>by simp at hb;subst hb;subst q;exact hmt ha⟩
    have hsub:∀s∈taken++[(m:Int)],s∈(List.range t.parents.length).map fun(i:Nat)=>(i:Int):=fun s hs=>by
      rcases List.mem_append.1 hs with hs|hs
      · exact i4 s hs
      · simp at hs;subst hs
        exact List.mem_map.2 ⟨m,List.mem_range.2 hm,rfl⟩
    have hlen2:taken.length+1<=t.parents.length:=by simpa using hnd.length_le_of_subset hsub
    have hfn:=V0R n (l.filter fun x=>hasUp t x m) out i1
    have:=hk (L0H n out (l.filter fun x=>hasUp t x m),taken++[(m:Int)]) ⟨by simp only;omega,fun y hy=>?_,hnd,hsub,fun hlt=>?_⟩ (by simp;omega)
    · simp only[yU,yT,List.length_nil]at this
      rw[show t.parents.length+1-(taken.length+(0+1))=t.parents.length-taken.length by omega]at this
      exact this
    · rcases Q1e n y _ _ hy with hy|hy
      · exact i2 y hy
      · exact(List.mem_filter.1 hy).1
    · simp only at hlt ⊢
      have c1:=i5 ho
      have c2:cntT t l (taken++[(m:Int)])<=cntT t l taken+(l.filter fun x=>hasUp t x m).length:=U1e fun x hx hr=>by
        rw[List.contains_iff_mem]at hr
        rcases List.mem_append.1 hr with hr|hr
        · exact .inl (List.contains_iff_mem.2 hr)
        · have hr:(lfOf t x:Int)=(m:Int):=by simpa using hr
          have hr:lfOf t x=m:=by omega
          exact .inr (hr ▸ (L1J h hx).1)
      omega
  · rw[show decide ((out.length:Int)<n)=false by simpa using ho,yM,ye ho]
    exact⟨rfl,by omega,i2⟩
theorem O1k{α γ:Type}{bd:α->Nat->Unit->(Unit->Option γ)->Option γ}{kk:Unit->Option γ}{p:α->Nat->Bool}{r:Option γ}:∀{l:List α} {i:Nat},(∀j x k,l[j]?=some x->bd x (i+j) () k=bif p x (i+j)then r else k ())->rgl bd kk l i ()=bif (l.zipIdx i).any (fun q=>p q.1 q.2)then r else kk ()
 |[],_,_=>rfl
 |x::l,i,h=>by
  have h0:=h 0 x (fun b'=>rgl bd kk l (i+1) b') rfl
  rw[Nat.add_zero]at h0
  rw[rgl,h0,List.zipIdx_cons,List.any_cons]
  cases p x i with
  |true=>rfl
  |false =>
   rw[yM,Bool.false_or]
   exact O1k fun j y k hy=>by
    have:=h (j+1) y k (by simpa using hy)
    rwa [show i+(j+1)=i+1+j by omega]at this
theorem Z1e{α β:Type}(P:β->Prop){f:β->α->β}(h:∀b x,P b->P (f b x)):∀(l:List α) (b:β),P b->P (l.foldl f b)
 |[],_,hb=>hb
 |x::l,b,hb=>Z1e P h l _ (h b x hb)
theorem Q1U{t:Topo}{l:List Int}{n level:Int}(h:0<=swF t l n level):n<=cntU t l (swF t l n level).toNat/\lev t (swF t l n level).toNat<=level:=by
 have:=Z1e (fun v:Int=>v<0\/(n<=cntU t l v.toNat/\lev t v.toNat<=level)) (f:=M0Y t l n level) (fun v s hv=>by
  unfold M0Y
  split
  .exact hv
  .rename_i h1
   split
   .exact .inr (by rw[yZ];omega)
   .exact hv) (List.range t.parents.length) (-1) (.inl (by omega))
 rcases this with q|q
 .exact absurd q (by unfold swF at h;omega)
 .exact q
def Y1w(l:List Int)(i:Nat):Int:=if 0<i then(l[i-1]?).getD default else default
theorem Z1w{l:List Int}{i:Nat}(hi:i<l.length)(hl:l.length<=1048576):(bif decide (0<(i:Int))then idx l (w64 ((i:Int)-1))else some default)=some (Y1w l i):=by
 unfold Y1w
 by_cases h:0<i
 .have e:w64 ((i:Int)-1)=((i-1:Nat):Int):=by rw[J3 (by omega)];omega
  rw[show decide (0<(i:Int))=true by simpa using h,yN,e,V3,yd h,yA (by omega)]
  rfl
 .rw[show decide (0<(i:Int))=false by simpa using h,yM,ye h]
def X1R(l:List Int):Bool:=(l.zipIdx 0).any fun q=>decide (0<(q.2:Int))&&decide (q.1<=Y1w l q.2)
def W1y(t:Topo)(l:List Int)(n level:Int):List Int:=l.filter fun x=>hasUp t x (swF t l n level).toNat
noncomputable def Z0z(t:Topo)(l:List Int)(n level:Int):List Int×Bool :=
 if U7 t l=true/\1<=n/\X1R l=false/\0<=swF t l n level then(chL t (W1y t l n level) n (t.parents.length+1) [] [],true)else([],false)
theorem O0T{t:Topo}{l:List Int}(hl:l.length<=24)(n level:Int):ZT t l n level=some (Z0z t l n level)/\((Z0z t l n level).2=true->((Z0z t l n level).1.length:Int)=n/\∀m∈(Z0z t l n level).1,m∈l):=by
 unfold ZT Z0z
 rw[Uw,bS]
 by_cases hno:U7 t l=true
 .by_cases hn:1<=n
  .rw[hno,show decide (n<1)=false by simp;omega,yL,Bool.or_self,yM]
   rw[O1k (r:=some ([],false)) (p:=fun x i=>decide (0<(i:Int))&&decide (x<=Y1w l i)) (fun j x k hx=>by
    have hj:=(yB hx).1
    rw[Nat.zero_add]
    unfold JS
    rw[Z1w hj (by omega),bS])]
   rw[show((l.zipIdx 0).any fun q=>decide (0<(q.2:Int))&&decide (q.1<=Y1w l q.2))=X1R l from rfl]
   cases hf:X1R l with
   |true =>
    rw[ye (by rintro⟨_,_,q,_⟩;cases q)]
    exact⟨rfl,fun q=>by cases q⟩
   |false =>
    rw[yM]
    unfold MS
    obtain⟨s1,s2⟩:=L1c hno (by omega) n level
    rw[s1,bS]
    by_cases hs:0<=swF t l n level
    .rw[yd ⟨rfl,hn,rfl,hs⟩,show decide (swF t l n level<0)=false by simp;omega,yM]
     obtain⟨m,e⟩:∃m:Nat,swF t l n level=(m:Int):=⟨(swF t l n level).toNat,by omega⟩
     have e2:Zk t l (swF t l n level)=some (W1y t l n level):=by
      unfold W1y
      rw[e,yZ,Xm hno (by omega) m]
     rw[e2,bS]
     have hle:(W1y t l n level).length<=l.length:=List.length_filter_le ..
     have hmine:U7 t (W1y t l n level)=true:=Y8.2 ⟨(Y8.1 hno).1,fun x hx=>(Y8.1 hno).2 x (List.mem_filter.1 hx).1⟩
     obtain⟨c1,c2,c3⟩:=J1r (n:=n) hmine (by omega) hn (Q1U hs).1
     rw[c1]
     exact⟨rfl,fun _=>⟨c2,fun x hx=>(List.mem_filter.1 (c3 x hx)).1⟩⟩
    .rw[ye fun q=>hs q.2.2.2,show decide (swF t l n level<0)=true by simp;omega,yN]
     exact⟨rfl,fun q=>by cases q⟩
  .rw[ye fun q=>hn q.2.1,show(!U7 t l||decide (n<1))=true by
    rw[show decide (n<1)=true by simp;omega,Bool.or_true],yN]
   exact⟨rfl,fun q=>by cases q⟩
 .rw[ye fun q=>hno q.1,show U7 t l=false by simpa using hno,Bool.not_false,Bool.true_or,yN]
  exact⟨rfl,fun q=>by cases q⟩
def X06(fr:Int)(v:List Int)(x:Pt):List Int:=bif decide (fr<x.t)&&!v.contains x.t then rise x.t v else v
theorem V1p(fr:Int)(v:List Int)(x:Pt):(X06 fr v x).length<=v.length+1:=by
 unfold X06
 cases(decide (fr<x.t)&&!v.contains x.t)with
 |true=>rw[yN,M0p];exact yV _
 |false=>rw[yM];omega
theorem U1t{fr:Int}{k:List Int->Option (List Int)}:∀(p:List Pt) (i:Nat) (v:List Int),v.length+p.length<=1048576->rgl (Ur fr) (ZG k) p i v=k (p.foldl (X06 fr) v)/\(p.foldl (X06 fr) v).length<=v.length+p.length
 |[],_,_,_=>⟨rfl,by simp⟩
 |x::p,i,v,h=>by
  simp only[yT]at h
  have hs:=V1p fr v x
  obtain⟨q1,q2⟩:=U1t (fr:=fr) (k:=k) p (i+1) (X06 fr v x) (by omega)
  refine⟨?_,by simp only[List.foldl_cons,yT];omega⟩
  rw[rgl,List.foldl_cons]
  unfold Ur
  rw[← q1]
  unfold X06
  by_cases hx:fr<x.t
  .rw[show decide (fr<x.t)=true by simpa using hx,yN,Ud,bS,Bool.true_and]
   cases v.contains x.t with
   |true=>rfl
   |false =>
    simp only[Bool.not_false,yN]
    rw[Y10 _ (by omega),bS]
    rfl
  .rw[show decide (fr<x.t)=false by simpa using hx,yM,bS,Bool.false_and,yM]
   rfl
def timesF(fr:Int)(ps:List (List Pt))(v:List Int):List Int:=ps.foldl (fun v p=>p.foldl (X06 fr) v) v
theorem V1t{fr:Int}:∀(ps:List (List Pt)) (i:Nat) (v:List Int),(∀p∈ps,p.length<=200)->v.length+200*ps.length<=1048576->rgl (Vr fr) JF ps i v=some (timesF fr ps v)/\(timesF fr ps v).length<=v.length+200*ps.length
 |[],_,_,_,_=>⟨rfl,by simp[timesF]⟩
 |p::ps,i,v,hp,h=>by
  simp only[yT]at h
  have h1:=hp p (yJ ..)
  obtain⟨_,b2⟩:=U1t (fr:=fr) (k:=fun _=>none) p 0 v (by omega)
  obtain⟨q1,q2⟩:=V1t (fr:=fr) ps (i+1) (p.foldl (X06 fr) v) (fun q hq=>hp q (yH _ hq)) (by omega)
  have e:timesF fr (p::ps) v=timesF fr ps (p.foldl (X06 fr) v):=rfl
  refine⟨?_,by rw[e];simp only[yT];omega⟩
  rw[rgl,e,← q1]
  unfold Vr
  exact(U1t p 0 v (by omega)).1
theorem M1h{r:Room}(h:RoomP r)(fr:Int):UA r fr=some (timesF fr (r.profs++[r.lics]) [fr]):=by
 have h1:=h.topo.nodes
 have h2:=h.profs
 unfold UA
 rw[M0 (by simp;omega),bS,List.nil_append,M0 (by simp;omega),bS]
 rw[show lenQ (r.profs++[r.lics])=some () by unfold lenQ;rw[yd (by simp;omega)],bS]
 refine(V1t _ 0 _ (fun p hp=>?_) (by simp;omega)).1
 rcases List.mem_append.1 hp with hp|hp
 .exact(h.prof p hp).le
 .simp at hp;subst hp;exact h.lics.le
def L0K(fr to_:Int):Bool:=time fr&&time to_&&decide (fr<to_)
def M0J(r:Room)(need:Vec)(fr to_:Int)(v:List Int)(i:Nat):List Int :=
 bif (r.up[i]?).getD false&&Q5 need (minV ((r.profs[i]?).getD []) fr to_)then v++[(i:Int)]else v
def Y1H(r:Room)(need:Vec)(fr to_:Int):List Int:=bif L0K fr to_ then(List.range r.profs.length).foldl (M0J r need fr to_) []else[]
theorem M0g{fr to_:Int}:L0K fr to_=true↔time fr=true/\time to_=true/\fr<to_:=by simp[L0K,and_assoc]
theorem W0D{r:Room}(R:RoomP r)(need:Vec)(fr to_:Int):XC r need fr to_=some (Y1H r need fr to_)/\(Y1H r need fr to_).length<=24:=by
 have h24:=R.topo.nodes
 have hpl:=R.profs
 unfold XC Y1H
 rw[UJ,bS,J00.2 R,yL,yM]
 cases hs:L0K fr to_ with
 |true =>
  obtain⟨q2,q3,q4⟩:=M0g.1 hs
  rw[yN]
  refine(U0L (b:=([]:List Int)) (f:=M0J r need fr to_) (fun i (v:List Int)=>v.length<=i) (fun j v hj hv=>?_) (fun j x v k hx hv=>?_) (yV 0)).imp (fun e=>e) fun e=>by omega
  .unfold M0J
   cases(r.up[j]?).getD false&&Q5 need (minV ((r.profs[j]?).getD []) fr to_)with
   |true=>rw[yN];simp;omega
   |false=>rw[yM];omega
  .have hj:=(yB hx).1
   obtain⟨u,hu⟩:∃u,r.up[j]?=some u:=⟨_,yA (by rw[R.up,← R.profs];exact hj)⟩
   unfold Xs M0J
   rw[ZC,bS,yd ⟨ZR.2 (R.prof _ (yE hx)),q2,q3,q4⟩,V3,hu,hx]
   simp only[yN,bS,Option.getD_some,Bool.true_and]
   cases(u&&Q5 need (minV x fr to_))with
   |true=>rw[yN,yN,M0 (by simp;omega),bS]
   |false=>rfl
 |false =>
  have hn:¬ (time fr=true/\time to_=true/\fr<to_):=fun q=>by rw[M0g.2 q]at hs;cases hs
  rw[yM]
  refine⟨?_,by simp⟩
  refine Mc (l0:=r.profs) (fun i (v:List Int)=>v=[]) (fun o=>o=some []) (fun i x v k hx hI hk=>?_) (fun v hI=>by rw[hI];rfl) rfl
  subst hI
  unfold Xs
  rw[ZC,bS,ye fun q=>hn q.2]
  exact hk _ rfl
noncomputable def canM(r:Room)(j:Job)(t:Int):List Int×Bool :=
 bif L0K t (t+j.wall)&&Q5 j.lic (minV r.lics t (t+j.wall))then Z0z r.topo (Y1H r j.need t (t+j.wall)) j.nodes j.level else([],false)
theorem X1z{r:Room}(R:RoomP r){j:Job}(hj:U1 j=true){t:Int}(ht:time t=true):WR r j t=some (canM r j t):=by
 have hw:=(Qn.1 hj).2.2.2.2.2.1
 have ht':=Uo.1 ht
 unfold WR canM
 rw[J3 (by omega),ZC,bS]
 by_cases hs:L0K t (t+j.wall)=true
 .obtain⟨q2,q3,q4⟩:=M0g.1 hs
  rw[yd ⟨ZR.2 R.lics,q2,q3,q4⟩,hs,Bool.true_and]
  simp only[yL,Bool.false_or]
  cases Q5 j.lic (minV r.lics t (t+j.wall))with
  |false=>rfl
  |true =>
   obtain⟨e1,e2⟩:=W0D R j.need t (t+j.wall)
   rw[yL,yM,yN,e1,bS,(O0T e2 j.nodes j.level).1]
   rfl
 .rw[ye fun q=>hs (M0g.2 q.2),show L0K t (t+j.wall)=false by simpa using hs]
  rfl
theorem U1I(fr m:Int):∀(p:List Pt) (v:List Int),m∈p.foldl (X06 fr) v->m∈v\/∃x∈p,m=x.t
 |[],_,h=>.inl h
 |x::p,v,h=>by
  rw[List.foldl_cons]at h
  rcases U1I fr m p _ h with h|⟨y,hy,e⟩
  .unfold X06 at h
   cases hc:(decide (fr<x.t)&&!v.contains x.t)with
   |false=>rw[hc,yM]at h;exact .inl h
   |true =>
    rw[hc,yN]at h
    rcases(Y13 x.t m v).1 h with h|h
    .exact .inr ⟨x,yJ ..,h⟩
    .exact .inl h
  .exact .inr ⟨y,yH _ hy,e⟩
theorem O0Y(fr m:Int):∀(ps:List (List Pt)) (v:List Int),m∈timesF fr ps v->m∈v\/∃p∈ps,∃x∈p,m=x.t
 |[],_,h=>.inl h
 |p::ps,v,h=>by
  have e:timesF fr (p::ps) v=timesF fr ps (p.foldl (X06 fr) v):=rfl
  rw[e]at h
  rcases O0Y fr m ps _ h with h|⟨q,hq,x,hx,e⟩
  .rcases U1I fr m p v h with h|⟨x,hx,e⟩
   .exact .inl h
   .exact .inr ⟨p,yJ ..,x,hx,e⟩
  .exact .inr ⟨q,yH _ hq,x,hx,e⟩
theorem Q1k{α γ:Type}{bd:α->Nat->Unit->(Unit->Option γ)->Option γ}{kk:Unit->Option γ}{p:α->Bool}{g:α->γ}:∀{l:List α} {i:Nat},(∀x∈l,∀i k,bd x i () k=bif p x then some (g x)else k ())->rgl bd kk l i ()=match l.find? p with
  |some x=>some (g x)
  |none=>kk ()
 |[],_,_=>rfl
 |x::l,i,h=>by
  rw[rgl,h x (yJ ..),List.find?_cons]
  cases p x with
  |true=>rfl
  |false=>exact Q1k fun y hy=>h y (yH _ hy)
noncomputable def Q1R(r:Room)(j:Job)(fr:Int):Int×List Int×Bool :=
 match(timesF fr (r.profs++[r.lics]) [fr]).find? (fun t=>(canM r j t).2)with
 |some t=>(t,(canM r j t).1,true)
 |none=>(0,[],false)
theorem U07(r:Room)(j:Job)(fr:Int):Vs r j fr=some (bif roomOk r&&U1 j&&time fr then Q1R r j fr else(0,[],false)):=by
 unfold Vs
 rw[UJ,bS,Uk]
 cases hr:roomOk r with
 |false=>rfl
 |true=>cases hj:U1 j with
  |false=>rfl
  |true=>cases ht:time fr with
   |false=>rfl
   |true =>
    have R:=J00.1 hr
    simp only[yL,Bool.or_self,yM,Bool.and_self,yN]
    rw[M1h R,bS]
    have hall:∀t∈timesF fr (r.profs++[r.lics]) [fr],time t=true:=fun t h=>by
     rcases O0Y fr t _ _ h with h|⟨p,hp,x,hx,rfl⟩
     .rw[List.mem_singleton.1 h];exact ht
     .rcases List.mem_append.1 hp with hp|hp
      .exact((R.prof p hp).ok x hx).1
      .rw[List.mem_singleton.1 hp]at hx;exact(R.lics.ok x hx).1
    rw[Q1k (p:=fun t=>(canM r j t).2) (g:=fun t=>(t,(canM r j t).1,true)) (fun t h i k=>by
     unfold ZH
     rw[X1z R hj (hall t h),bS])]
    unfold Q1R JG
    cases(timesF fr (r.profs++[r.lics]) [fr]).find? (fun t=>(canM r j t).2)<;>rfl
def insJ(x:Job):List Job->List Job
 |[]=>[x]
 |y::l=>if J8 x y then x::y::l else y::insJ x l
theorem J0q(x:Job):∀l:List Job,(insJ x l).Perm (x::l)
 |[]=>.refl _
 |y::l=>by
  unfold insJ
  split
  .exact .refl _
  .exact((J0q x l).cons y).trans (.swap x y l)
theorem X1G(x:Job)(l:List Job):(insJ x l).length=l.length+1:=(J0q x l).length_eq
theorem M1c{x y:Job}(h:J8 x y=true):U0E x y=true:=by
 unfold J8 at h;unfold U0E
 simp at h ⊢;omega
theorem Q14{x y:Job}(h:¬ J8 x y=true):U0E y x=true:=by
 unfold J8 at h;unfold U0E
 simp at h ⊢;omega
theorem J1h{x y z:Job}(h1:U0E x y=true)(h2:U0E y z=true):U0E x z=true:=by
 unfold U0E at *
 simp at h1 h2 ⊢;omega
theorem M0P(x:Job):∀{l:List Job},l.Pairwise (fun a b=>U0E a b=true)->(insJ x l).Pairwise (fun a b=>U0E a b=true)
 |[],_=>by simp[insJ]
 |y::l,h=>by
  unfold insJ
  obtain⟨h1,h2⟩:=List.pairwise_cons.1 h
  split
  .rename_i hb
   refine List.pairwise_cons.2 ⟨fun z hz=>?_,h⟩
   rcases yX hz with rfl|hz
   .exact M1c hb
   .exact J1h (M1c hb) (h1 z hz)
  .rename_i hb
   refine List.pairwise_cons.2 ⟨fun z hz=>?_,M0P x h2⟩
   rcases yX ((J0q x l).mem_iff.1 hz)with rfl|hz
   .exact Q14 hb
   .exact h1 z hz
def ordF(l:List Job):List Job:=l.foldl (fun v x=>insJ x v) []
theorem V1l:∀(l v:List Job),(l.foldl (fun v x=>insJ x v) v).Perm (l++v)/\(v.Pairwise (fun a b=>U0E a b=true)->(l.foldl (fun v x=>insJ x v) v).Pairwise (fun a b=>U0E a b=true))
 |[],v=>⟨.refl _,id⟩
 |x::l,v=>by
  obtain⟨h1,h2⟩:=V1l l (insJ x v)
  exact⟨h1.trans (((J0q x v).append_left l).trans List.perm_middle),fun h=>h2 (M0P x h)⟩
theorem M0L(l:List Job):(ordF l).Perm l:=by unfold ordF;simpa using(V1l l []).1
theorem X1P(x:Job)(k:List Job->Option (List Job))(l:List Job):∀(i:Nat) (acc:List Job),acc.length+l.length<=1000002->rgl (Jn x) (Mn x k) l i (true,acc)=k (acc++l):=by
 induction l with
 |nil=>intro i acc h;simp[rgl,Mn]
 |cons y l ih =>
  intro i acc h
  simp only[yT]at h
  rw[rgl,Jn]
  simp only[yL,Bool.false_and,yM,Md]
  rw[M0 (by simp;omega),bS,ih (i+1) (acc++[y]) (by simp;omega)]
  simp
theorem W1Y(x:Job)(k:List Job->Option (List Job))(l:List Job):∀(i:Nat) (p:Bool) (acc:List Job),acc.length+l.length<=1000000->rgl (Jn x) (Mn x k) l i (p,acc)=k (acc++if p then l else insJ x l):=by
 induction l with
 |nil =>
  intro i p acc h
  simp only[rgl,Mn]
  cases p with
  |true=>simp
  |false =>
   simp only[Bool.not_false,yN,insJ]
   rw[M0 (by simp at h ⊢;omega),bS];simp
 |cons y l ih =>
  intro i p acc h
  simp only[yT]at h
  rw[rgl,Jn]
  cases p with
  |true =>
   simp only[yL,Bool.false_and,yM,Md,yb]
   rw[M0 (by simp;omega),bS,ih (i+1) true (acc++[y]) (by simp;omega)]
   simp
  |false =>
   simp only[Bool.not_false,Bool.true_and,insJ]
   cases hb:J8 x y with
   |true =>
    simp only[yN,yb,Md]
    rw[M0 (by simp;omega),bS,M0 (by simp;omega),bS]
    rw[X1P x k l (i+1) _ (by simp;omega)]
    simp
   |false =>
    simp only[yM,Md]
    rw[M0 (by simp;omega),bS,ih (i+1) false (acc++[y]) (by simp;omega)]
    simp
theorem U1F(l:List Job):∀(i:Nat) (v:List Job),v.length+l.length<=1000000->rgl OJ MY l i v=some (l.foldl (fun v x=>insJ x v) v):=by
 induction l with
 |nil=>intro i v _;rfl
 |cons x l ih =>
  intro i v h
  simp only[yT]at h
  rw[rgl,OJ,W1Y x _ v 0 false [] (by simp;omega)]
  simp only[List.nil_append,yG,yc]
  rw[ih (i+1) (insJ x v) (by rw[X1G];omega)]
  rfl
theorem Ui{l:List Job}(h:queueOk l=true):l.length<=60/\(∀x∈l,U1 x=true)/\(l.map Job.id).Nodup:=by
 unfold queueOk idsOk at h
 simp only[yD,yO,List.all_eq_true]at h
 exact⟨h.1.1,h.1.2,h.2⟩
theorem U12{l:List Job}(h:queueOk l=true):O00 l=some (ordF l):=by
 unfold O00
 rw[US,bS,h]
 simp only[yL,yM]
 have:=(Ui h).1
 exact U1F l 0 [] (by simp;omega)
theorem Z0v(r:Room)(j:Job)(t:Int)(nodes:List Int):∃q,Wp r j t nodes=some q/\(q.2=true->nodes.length<=24):=by
 rw[Z0b]
 cases hd:(diffOk r j nodes&&time t)with
 |false=>exact⟨Qu,rfl,fun h=>by cases h⟩
 |true =>
  simp only[yD]at hd
  have hd1:=hd.1
  unfold diffOk at hd1
  simp only[yD,yO]at hd1
  obtain⟨q,q1,_⟩:=O0o (J00.1 hd1.1.1.1.1) j.need j.lic t (w64 (t+j.wall)) hd1.1.2
  exact⟨q,q1,fun _=>by have:=Qn.1 hd1.1.1.1.2;omega⟩
structure HeldsOk(L:List Job)(hs:List Held):Prop where
 sub:(hs.map Held.id).Sublist (L.map Job.id)
 nodes:∀h∈hs,h.nodes.length<=24
theorem V1w{r:Room}{now d:Int}{L:List Job}(hL:L.length<=60):∃p,rgl (Xi now d) Jp L 0 (r,[],[])=some p/\HeldsOk L p.1:=by
 refine Mc (fun i (v:Room×List Held×List Held)=>HeldsOk (L.take i) v.2.1/\v.2.1.length<=i/\v.2.2.length<=i) (fun o=>∃p:List Held×List Held×Bool,o=some p/\HeldsOk L p.1) (fun i x v k hx hI hk=>?_) (fun v hI=>?_) ⟨⟨by simp,by simp⟩,by simp,by simp⟩
 .obtain⟨hi,rfl⟩:=yB hx
  obtain⟨hI,l1,l2⟩:=hI
  have grow:∀{hs},HeldsOk (L.take i) hs->HeldsOk (L.take (i+1)) hs:=fun h=>⟨h.sub.trans ((List.take_sublist_take_left (by omega)).map _),h.nodes⟩
  unfold Xi
  rw[U07,bS]
  generalize (bif roomOk v.1&&U1 L[i]&&time now then Q1R v.1 L[i] now else(0,[],false))=y
  cases hc:((!y.2.2)||((decide (now<y.1))&&(decide (d<=(v.2.2.length:Int)))))with
  |true=>exact hk _ ⟨grow hI,by simp only;omega,by simp only;omega⟩
  |false =>
   obtain⟨q,q1,q2⟩:=Z0v v.1 L[i] y.1 y.2.1
   simp only[yM,q1,bS]
   cases hq:q.2 with
   |false=>exact hk _ ⟨grow hI,by simp only;omega,by simp only;omega⟩
   |true =>
    have hn:=q2 hq
    simp only[yL,yM]
    cases y.1==now with
    |true =>
     simp only[yN]
     rw[M0 (by simp;omega),bS]
     refine hk _ ⟨⟨?_,fun h hh=>?_⟩,by simp;omega,by simp only;omega⟩
     .rw[List.take_succ_eq_append_getElem hi,List.map_append,List.map_append]
      exact hI.sub.append (.refl _)
     .rcases List.mem_append.1 hh with hh|hh
      .exact hI.nodes h hh
      .rw[List.mem_singleton.1 hh];exact hn
    |false =>
     simp only[yM]
     rw[M0 (by simp;omega),bS]
     exact hk _ ⟨grow hI,by simp only;omega,by simp;omega⟩
 .rw[List.take_of_length_le (yV _)]at hI
  exact⟨_,rfl,hI.1⟩
structure SmallS(s:State):Prop where
 up:s.up.length<=1048576
 par:s.topo.parents.length<=1048576
 nodes:s.topo.nodes.length<=1048576
 jobs:s.queue.length+s.runs.length<=1048576
 ends:s.ends.length<=1048576
 run:∀x∈s.runs,x.nodes.length<=1048576
theorem StateP.small{s:State}(h:StateP s):SmallS s:=by
 have hq:=(Ui h.queue).1
 unfold allJobs at hq
 simp only[yU,List.length_map]at hq
 exact⟨by have:=h.up;have:=h.topo.nodes;omega,by have:=h.topo.tree.le;omega,by have:=h.topo.nodes;omega,by omega,by have:=h.ends;omega,fun x hx=>by
  obtain⟨h1,h2,_⟩:=h.runs.job x hx
  have:=Qn.1 h1;omega⟩
theorem Xp{s:State}(h:SmallS s):Ja s=some s:=by
 unfold Ja
 have:=h.up;have:=h.par;have:=h.nodes;have:=h.jobs;have:=h.ends
 rw[M0 (by simp;omega),bS,M0 (by simp;omega),bS,M0 (by simp;omega),bS,M0 (by simp;omega),bS]
 rw[V8 (bd:=Lv) (bs:=120) (p:=fun _=>true) (f:=id) (fun x hx i b k=>by
  have:=h.run x hx
  unfold Lv
  rw[M0 (by simp;omega),bS];simp) (by simp;omega)]
 unfold LL
 rw[M0 (by simp;omega),bS]
 simp[List.filter_eq_self.2]
theorem V1d{s:State}(h:SmallS s):Yo s=some s:=by
 unfold Yo Qi Wi
 have:=h.up;have:=h.par;have:=h.nodes;have:=h.jobs;have:=h.ends
 rw[M0 (by simp;omega),bS,bS,M0 (by simp;omega),bS,bS,M0 (by simp;omega),bS,M0 (by simp;omega),bS]
 rw[V8 (bd:=Oo) (bs:=120) (p:=fun _=>true) (f:=id) (fun x hx i b k=>by
  have:=h.run x hx
  unfold Oo Wi
  rw[M0 (by simp;omega),bS,bS];simp) (by simp;omega)]
 unfold UD
 rw[M0 (by simp;omega),bS]
 simp[List.filter_eq_self.2]
theorem U1B(j:Job)(b:List Job)(id:Int)(hj:j.id=id):∀(a:List Job) (i:Nat),(∀x∈a,x.id≠id)->rgl (Yh id) JL (a++j::b) i ()=some (j,true)
 |[],i,_=>by simp[rgl,Yh,hj]
 |x::a,i,h=>by
  have hx:(x.id==id)=false:=by simpa using h x (yJ ..)
  rw[List.cons_append,rgl,Yh,hx,yM]
  exact U1B j b id hj a (i+1) fun y hy=>h y (yH _ hy)
theorem Q1Y{j:Job}{a b:List Job}{id:Int}(hl:a.length+b.length<=1048576)(hj:j.id=id)(ha:∀x∈a,x.id≠id)(hb:∀x∈b,x.id≠id):Jo (a++j::b) id=some (a++b):=by
 unfold Jo
 rw[V8 (bd:=Wz id) (bs:=88) (p:=fun x=>x.id != id) (f:=fun x=>x) (fun x _ i b k=>rfl) (by simp;omega)]
 unfold UR
 have e1:a.filter (fun x=>x.id != id)=a:=List.filter_eq_self.2 fun x hx=>by simpa using ha x hx
 have e2:b.filter (fun x=>x.id != id)=b:=List.filter_eq_self.2 fun x hx=>by simpa using hb x hx
 rw[List.filter_append,List.filter_cons,e1,e2]
 simp[hj]
structure StartP(s s':State)(new:List Run):Prop where
 topo:s'.topo=s.topo
 up:s'.up=s.up
 lic:s'.lic=s.lic
 depth:s'.depth=s.depth
 now:s'.now=s.now
 ends:s'.ends=s.ends
 runs:s'.runs=s.runs++new
 fresh:∀x∈new,x.t=s.now/\x.nodes.length<=24
 perm:(s'.queue++new.map Run.job).Perm s.queue
theorem StartP.len{s s':State}{new:List Run}(h:StartP s s' new):s'.queue.length+s'.runs.length=s.queue.length+s.runs.length:=by
 have:=h.perm.length_eq
 rw[h.runs]
 simp at this ⊢;omega
def endOf(x:Run):Int:=w64 (x.t+x.job.wall)
def nextStep(v:Int)(x:Run):Int:=bif decide (v<0)||decide (endOf x<v)then endOf x else v
def WT(s:State):Int:=s.runs.foldl nextStep (-1)
theorem J0z(s:State):Zy s=some (WT s):=by
 unfold Zy WT
 rw[Z01 (f:=nextStep) (fun x _ i b k=>by
  unfold WL nextStep endOf
  cases(decide (b<0)||decide (w64 (x.t+x.job.wall)<b))<;>rfl)]
 rfl
theorem V1m:∀(l:List Run) (v:Int),l.foldl nextStep v=v\/∃x∈l,endOf x=l.foldl nextStep v
 |[],v=>.inl rfl
 |x::l,v=>by
  rw[List.foldl_cons]
  have step:nextStep v x=v\/nextStep v x=endOf x:=by
   unfold nextStep
   cases(decide (v<0)||decide (endOf x<v))with
   |true=>exact .inr rfl
   |false=>exact .inl rfl
  rcases V1m l (nextStep v x)with h|⟨y,hy,h⟩
  .rw[h]
   rcases step with e|e
   .exact .inl e
   .exact .inr ⟨x,yJ ..,e.symm⟩
  .exact .inr ⟨y,yH _ hy,h⟩
theorem L1b{s:State}(h:0<=WT s):∃x∈s.runs,endOf x=WT s:=by
 rcases V1m s.runs (-1)with e|e
 .unfold WT at h;omega
 .exact e
def keepF(n:Int)(l:List Run):List Run:=l.filter fun x=>!(endOf x==n)
def doneF(n:Int)(l:List Run):List End:=(l.filter fun x=>endOf x==n).map fun x=>End.mk x.job.id n 1
def endF(s:State)(n:Int):State:=State.mk s.topo s.up s.lic s.depth n s.queue (keepF n s.runs) (s.ends++doneF n s.runs)
theorem Y1u(v:State×Int)(k:List End×List Run->Option (State×Bool))(l:List Run):∀(i:Nat) (es:List End) (rs:List Run),es.length+l.length<=3000000->rs.length+l.length<=3000000 ->
  rgl (XJ v) k l i (es,rs)=k (es++doneF v.2 l,rs++keepF v.2 l):=by
 induction l with
 |nil=>intro i es rs _ _;simp[rgl,doneF,keepF]
 |cons x l ih =>
  intro i es rs h1 h2
  simp only[yT]at h1 h2
  rw[rgl,XJ]
  have e0:w64 (x.t+x.job.wall)=endOf x:=rfl
  simp only[e0]
  cases hx:(endOf x==v.2)with
  |true =>
   rw[yN,M0 (by simp;omega),bS,ih (i+1) _ _ (by simp;omega) (by omega)]
   simp[doneF,keepF,hx]
  |false =>
   rw[yM,M0 (by simp;omega),bS,ih (i+1) _ _ (by omega) (by simp;omega)]
   simp[doneF,keepF,hx]
theorem M1F{n:Int}{l:List Run}{x:Run}(hx:x∈l)(he:endOf x=n):(keepF n l).length<l.length:=by
 unfold keepF
 refine Nat.lt_of_le_of_ne (List.length_filter_le ..) fun e=>?_
 have:=List.length_filter_eq_length_iff.1 e x hx
 simp[he]at this
def badS:State×Bool:=(State.mk (Topo.mk [] []) [] (Vec.mk 0 0 0) 0 0 [] [] [],false)
def atT(s:State)(t:Int):State:=State.mk s.topo s.up s.lic s.depth t s.queue s.runs s.ends
theorem J0Y(t:Int){s:State}(h:SmallS s)(k:State×Int->Option (State×Bool)):Vu t (s,WT s) k=bif decide (0<=WT s)&&decide (WT s<=t)then(bif decide (300<((endF s (WT s)).ends.length:Int))then some badS else(M2 (endF s (WT s))).bind fun y=>k (y,WT y))else some (atT s t,true):=by
 have h1:=h.jobs
 have h2:=h.ends
 unfold Vu
 simp only
 rw[Y1u (s,WT s) _ s.runs 0 s.ends [] (by omega) (by simp;omega)]
 unfold QY
 simp only[J0z,bS]
 rfl
theorem W1D(r:Room)(now:Int)(l:List Job)(d:Int):∃p,Mk r now l d=some p/\(p.1=[]\/(queueOk l=true/\HeldsOk (ordF l) p.1)):=by
 unfold Mk
 rw[UJ,US,bS]
 cases hr:roomOk r with
 |false=>exact⟨_,rfl,.inl rfl⟩
 |true =>
  simp only[yL,yM,bS,Bool.false_or]
  cases hq:queueOk l with
  |false=>exact⟨_,rfl,.inl rfl⟩
  |true =>
   simp only[yL,Bool.false_or]
   cases(((!Z4 now)||decide (d<0))||decide (60<d))with
   |true=>exact⟨_,rfl,.inl rfl⟩
   |false =>
    simp only[yM,U12 hq,bS]
    obtain⟨p,h1,h2⟩:=V1w (r:=r) (now:=now) (d:=d) (L:=ordF l) (by rw[(M0L l).length_eq];exact(Ui hq).1)
    exact⟨p,h1,.inr ⟨by simp,h2⟩⟩
theorem Z1h(s:State)(hs:List Held):∀(i:Nat) (q:List Job) (rs:List Run),(hs.map Held.id).Nodup->(∀h∈hs,∃j∈q,j.id=h.id)->(q.map Job.id).Nodup->q.length+rs.length<=1048576 ->
  ∃q' new,(∀k,rgl (Ub s) k hs i (q,rs)=k (q',rs++new)) /\
   (∀x∈new,x.t=s.now/\∃h∈hs,x.nodes=h.nodes)/\(q'++new.map Run.job).Perm q:=by
 induction hs with
 |nil=>intro i q rs _ _ _ _;exact⟨q,[],fun k=>by simp[rgl],by simp,by simp⟩
 |cons h hs ih =>
  intro i q rs hn hm hq hl
  obtain⟨j,hj,hid⟩:=hm h (yJ ..)
  obtain⟨a,b,rfl⟩:=List.append_of_mem hj
  have hq2:(j.id::((a++b).map Job.id)).Nodup:=by
   have:((a++j::b).map Job.id).Perm ((j::(a++b)).map Job.id):=List.perm_middle.map _
   exact(this.nodup_iff.1 hq)
  rw[List.nodup_cons]at hq2
  have hab:∀x∈a++b,x.id≠h.id:=fun x hx e=>hq2.1 (by rw[hid,← e];exact List.mem_map_of_mem hx)
  have ha:∀x∈a,x.id≠h.id:=fun x hx=>hab x (List.mem_append_left _ hx)
  have hb:∀x∈b,x.id≠h.id:=fun x hx=>hab x (List.mem_append_right _ hx)
  simp only[yU,yT]at hl
  rw[List.map_cons,List.nodup_cons]at hn
  obtain⟨q',new,h1,h3,h4⟩:=ih (i+1) (a++b) (rs++[Run.mk j s.now h.nodes]) hn.2 (fun h' hh'=>by
   obtain⟨j',hj',hid'⟩:=hm h' (yH _ hh')
   have hne:j'.id≠j.id:=fun e=>hn.1 (by rw[← hid,← e,hid'];exact List.mem_map_of_mem hh')
   rcases List.mem_append.1 hj' with q|q
   .exact⟨j',List.mem_append_left _ q,hid'⟩
   .rcases yX q with q|q
    .exact absurd (by rw[q]) hne
    .exact⟨j',List.mem_append_right _ q,hid'⟩) hq2.2 (by simp;omega)
  refine⟨q',Run.mk j s.now h.nodes::new,fun k=>?_,fun x hx=>?_,?_⟩
  .rw[rgl,Ub]
   unfold Lh
   simp only
   rw[U1B j b h.id hid a 0 ha,bS,Q1Y (by omega) hid ha hb,bS,M0 (by simp;omega),bS,h1 k]
   simp
  .rcases yX hx with rfl|hx
   .exact⟨rfl,h,yJ ..,rfl⟩
   .obtain⟨e1,h',hh',e2⟩:=h3 x hx
    exact⟨e1,h',yH _ hh',e2⟩
  .rw[List.map_cons]
   refine List.perm_middle.trans ?_
   exact(h4.cons j).trans List.perm_middle.symm
theorem L0Y{s:State}(hs:SmallS s):∃s' new,M2 s=some s'/\StartP s s' new:=by
 obtain⟨r,hr,_⟩:=Mw s
 obtain⟨p,p1,p3⟩:=W1D r.1 s.now s.queue s.depth
 unfold M2
 rw[hr,bS,p1,bS]
 have key:(p.1.map Held.id).Nodup/\(∀h∈p.1,∃j∈s.queue,j.id=h.id)/\(∀h∈p.1,h.nodes.length<=24)/\(p.1=[]\/(s.queue.map Job.id).Nodup):=by
  rcases p3 with p3|⟨p3,p4⟩
  .rw[p3];exact⟨by simp,by simp,by simp,.inl rfl⟩
  .have hn:=(Ui p3).2.2
   have ho:((ordF s.queue).map Job.id).Nodup:=((M0L s.queue).map _).nodup_iff.2 hn
   refine⟨ho.sublist p4.sub,fun h hh=>?_,p4.nodes,.inr hn⟩
   have:h.id∈(ordF s.queue).map Job.id:=p4.sub.subset (List.mem_map_of_mem hh)
   obtain⟨j,hj,e⟩:=yY this
   exact⟨j,(M0L s.queue).mem_iff.1 hj,e⟩
 obtain⟨k1,k2,k3,k4⟩:=key
 rcases k4 with k4|k4
 .rw[k4]
  exact⟨s,[],rfl,rfl,rfl,rfl,rfl,rfl,rfl,by simp,by simp,by simp⟩
 .obtain⟨q',new,h1,h3,h4⟩:=Z1h s p.1 0 s.queue s.runs k1 k2 k4 hs.jobs
  rw[h1]
  exact⟨_,new,rfl,rfl,rfl,rfl,rfl,rfl,rfl,rfl,fun x hx=>by
   obtain⟨e1,h,hh,e2⟩:=h3 x hx
   exact⟨e1,by rw[e2];exact k3 h hh⟩,h4⟩
structure DrS(n:Nat)(s:State):Prop where
 up:s.up.length<=100
 par:s.topo.parents.length<=100
 nodes:s.topo.nodes.length<=100
 jobs:s.queue.length+s.runs.length<=n
 ends:s.ends.length<=n
 run:∀x∈s.runs,x.nodes.length<=100
theorem DrS.small{n:Nat}{s:State}(h:DrS n s)(hn:n<=100000):SmallS s :=
  ⟨by have:=h.up;omega,by have:=h.par;omega,by have:=h.nodes;omega,by have:=h.jobs;omega,by have:=h.ends;omega,fun x hx=>by have:=h.run x hx;omega⟩
theorem DrS.mono{n m:Nat}{s:State}(h:DrS n s)(hn:n<=m):DrS m s:=⟨h.up,h.par,h.nodes,by have:=h.jobs;omega,by have:=h.ends;omega,h.run⟩
theorem Zr(n:Nat):DrS n (State.mk (Topo.mk [] []) [] (Vec.mk 0 0 0) 0 0 [] [] []):=⟨by simp,by simp,by simp,by simp,by simp,by simp⟩
theorem O10{s:State}(h:stateOk s=true):DrS 300 s:=by
 have hP:=Qz h
 have hq:=(Ui hP.queue).1
 unfold allJobs at hq
 simp only[yU,List.length_map]at hq
 exact⟨by have:=hP.up;have:=hP.topo.nodes;omega,by have:=hP.topo.tree.le;omega,by have:=hP.topo.nodes;omega,by omega,by have:=hP.ends;omega,fun x hx=>by
  obtain⟨h1,h2,_⟩:=hP.runs.job x hx
  have:=Qn.1 h1;omega⟩
theorem W0g{n:Nat}{s:State}(h:DrS n s)(hn:n<=100000):∃s',M2 s=some s'/\DrS n s':=by
 obtain⟨s',new,e,hT⟩:=L0Y (h.small hn)
 refine⟨s',e,by rw[hT.up];exact h.up,by rw[hT.topo];exact h.par,by rw[hT.topo];exact h.nodes,by rw[hT.len];exact h.jobs,by rw[hT.ends];exact h.ends,fun x hx=>?_⟩
 rw[hT.runs]at hx
 rcases List.mem_append.1 hx with hx|hx
 .exact h.run x hx
 .have:=(hT.fresh x hx).2;omega
theorem J19(t:Int){n:Nat}(h300:300<=n)(hn:n<=100000):∀(m:Nat) (s:State) (f:Nat),DrS n s->s.queue.length+s.runs.length<=m->m<f->∃r,whl (Vu t) f (s,WT s)=some r/\DrS n r.1:=by
 intro m
 induction m with
 |zero =>
  intro s f hs hm hf
  obtain⟨f,rfl⟩:∃g,f=g+1:=⟨f-1,by omega⟩
  rw[whl,J0Y t (hs.small hn)]
  cases hc:(decide (0<=WT s)&&decide (WT s<=t))with
  |false=>exact⟨_,rfl,hs.up,hs.par,hs.nodes,hs.jobs,hs.ends,hs.run⟩
  |true =>
   simp only[yD,yO]at hc
   obtain⟨x,hx,_⟩:=L1b hc.1
   have:=List.length_pos_of_mem hx
   omega
 |succ m ih =>
  intro s f hs hm hf
  obtain⟨f,rfl⟩:∃g,f=g+1:=⟨f-1,by omega⟩
  rw[whl,J0Y t (hs.small hn)]
  cases hc:(decide (0<=WT s)&&decide (WT s<=t))with
  |false=>exact⟨_,rfl,hs.up,hs.par,hs.nodes,hs.jobs,hs.ends,hs.run⟩
  |true =>
   simp only[yD,yO]at hc
   obtain⟨x,hx,he⟩:=L1b hc.1
   have hk:=M1F hx he
   simp only[yN]
   by_cases h3:300<((endF s (WT s)).ends.length:Int)
   .rw[decide_eq_true h3];exact⟨_,rfl,Zr n⟩
   .rw[decide_eq_false h3]
    simp only[yM]
    have kl:(keepF (WT s) s.runs).length<=s.runs.length:=List.length_filter_le ..
    have hE:DrS n (endF s (WT s)):=⟨hs.up,hs.par,hs.nodes,by have:=hs.jobs;simp only[endF];omega,by omega,fun x hx=>hs.run x (List.mem_filter.1 hx).1⟩
    obtain⟨s',e1,hS⟩:=W0g hE hn
    obtain⟨s'',new,e2,hT⟩:=L0Y (hE.small hn)
    rw[e1]at e2;cases e2
    rw[e1,bS]
    have hl:=hT.len
    have:(endF s (WT s)).queue.length+(endF s (WT s)).runs.length=s.queue.length+(keepF (WT s) s.runs).length:=rfl
    exact ih s' f hS (by omega) (by omega)
theorem X1E{s:State}{n:Nat}(hs:DrS n s)(hn:n<=100000)(t:Int):∃r,W00 s t=some r/\DrS 300 r.1:=by
 unfold W00
 rw[(Qh (hs.small hn).jobs).1,bS]
 cases hS:stateOk s with
 |false=>exact⟨_,rfl,Zr _⟩
 |true =>
  have hD:=O10 hS
  simp only[yL,Bool.false_or]
  cases(!Z4 t)||decide (t<s.now)with
  |true=>exact⟨_,rfl,Zr _⟩
  |false =>
   rw[yM,Xp (hs.small hn),bS,J0z,bS]
   exact J19 t (yV _) (by omega) (s.queue.length+s.runs.length) s _ hD (yV _) (by have:=hD.jobs;omega)
theorem Q18(l:List Job)(id:Int):∃y,Lh l id=some y:=by
 unfold Lh
 refine Mc (fun _ (_:Unit)=>True) (fun o=>∃y,o=some y) (fun i x b k hx hI hk=>?_) (fun _ _=>⟨_,rfl⟩) trivial
 unfold Yh
 cases x.id==id with
 |true=>exact⟨_,rfl⟩
 |false=>exact hk () trivial
theorem X1C(s:State)(j:Job):∃b,YA s j=some b:=by
 unfold YA
 rw[Q06,bS]
 generalize (bif topoOk s.topo&&decide (s.up.length=s.topo.nodes.length)&&W0 s.lic then(UL s.topo s.up s.lic,true)else Qu)=y
 refine Mc (fun _ (v:List Bool)=>v.length=y.1.up.length) (fun o=>∃b,o=some b) (fun i x v k hx hI hk=>?_) (fun v _=>?_) rfl
 .have hi:=(yB hx).1
  unfold LF
  rw[V3,yA (by omega),bS]
  exact hk _ (by simp[hI])
 .unfold MF
  rw[U07]
  exact⟨_,rfl⟩
abbrev DrR(o:Option (State×Int)):Prop:=∃r,o=some r/\DrS 400 r.1
theorem Z1u{s:State}{n:Nat}(hs:DrS n s)(hn:n<=100000)(j:Job):DrR (JR s j):=by
 unfold JR
 rw[(Qh (hs.small hn).jobs).1,bS]
 cases hS:stateOk s with
 |false=>exact⟨_,rfl,Zr _⟩
 |true =>
  have hD:=O10 hS
  simp only[yL,Bool.false_or]
  cases !U1 j with
  |true=>exact⟨_,rfl,Zr _⟩
  |false =>
   obtain⟨y,hy⟩:=Q18 (allJobs s) j.id
   obtain⟨b,hb⟩:=X1C s j
   rw[yM,Mz (hs.small hn).jobs,bS,hy,bS,hb]
   cases y.2 with
   |true=>exact⟨_,rfl,Zr _⟩
   |false =>
    cases decide (60<=((allJobs s).length:Int))with
    |true=>exact⟨_,rfl,Zr _⟩
    |false =>
     cases b with
     |false=>exact⟨_,rfl,Zr _⟩
     |true =>
      have:=hD.jobs
      simp only[yM,bS,yL,Xp (hs.small hn)]
      rw[M0 (by simp;omega),bS]
      obtain⟨s',e,h'⟩:=W0g (n:=400) (s:=State.mk s.topo s.up s.lic s.depth s.now (s.queue++[j]) s.runs s.ends) ⟨hD.up,hD.par,hD.nodes,by simp;omega,by have:=hD.ends;simp only;omega,hD.run⟩ (by omega)
      rw[e]
      exact⟨_,rfl,h'⟩
theorem L1B{s:State}(_:s.queue.length<=361)(hr:s.runs.length<=300)(he:s.ends.length<=301)(why id node:Int):∃rs es,Ya s why id node=some (State.mk s.topo s.up s.lic s.depth s.now s.queue rs es)/\(∀x∈rs,x∈s.runs)/\rs.length<=s.runs.length/\es.length<=s.ends.length+s.runs.length:=by
  unfold Ya
  refine Mc (fun i (v:List End×List Run)=>(∀x∈v.2,x∈s.runs)/\v.2.length<=i/\v.1.length<=s.ends.length+i) (fun(o:Option State)=>∃rs es,o=some (State.mk s.topo s.up s.lic s.depth s.now s.queue rs es)/\(∀x∈rs,x∈s.runs)/\rs.length<=s.runs.length/\es.length<=s.ends.length+s.runs.length) (fun i x v k hx hI hk=>?_) (fun v hI=>⟨v.2,v.1,rfl,hI⟩) (by simp)
  have hi:=(yB hx).1
  obtain⟨h1,h2,h3⟩:=hI
  unfold Wm
  rw[Ud]
  cases x.job.id==id<;>cases x.nodes.contains node<;>simp only[yN,yM,bS,Bool.or_self,Bool.or_true,Bool.true_or]<;>rw[M0 (by simp;omega),bS]<;>refine hk _ ⟨fun y hy=>?_,by simp;omega,by simp;omega⟩
  all_goals first
    |exact h1 y hy
    | (rcases List.mem_append.1 hy with hy|hy
       · exact h1 y hy
       · rw[List.mem_singleton.1 hy];exact yE hx)
theorem V1F(l:List Job)(id:Int)(hl:l.length<=100000):∃l',Jo l id=some l'/\l'.length<=l.length:=by
 unfold Jo
 rw[V8 (bd:=Wz id) (bs:=88) (p:=fun x=>x.id != id) (f:=fun x=>x) (fun x _ i b k=>rfl) (by simp;omega)]
 exact⟨_,rfl,by simp;exact List.length_filter_le ..⟩
theorem V1e{s:State}{n:Nat}(hs:DrS n s)(hn:n<=100000)(id why:Int):DrR (LG s id why):=by
 unfold LG
 rw[(Qh (hs.small hn).jobs).1,bS]
 cases hS:stateOk s with
 |false=>exact⟨_,rfl,Zr _⟩
 |true =>
  have hD:=O10 hS
  simp only[yL,Bool.false_or]
  cases(why != 2)&&(why != 3)with
  |true=>exact⟨_,rfl,Zr _⟩
  |false =>
   obtain⟨y,hy⟩:=Q18 s.queue id
   obtain⟨z,hz⟩:=Q18 (allJobs s) id
   rw[yM,hy,bS,Mz (hs.small hn).jobs,bS,hz,bS]
   cases(!z.2)||y.2&&why==2 with
   |true=>exact⟨_,rfl,Zr _⟩
   |false =>
    cases decide (300<=(s.ends.length:Int))with
    |true=>exact⟨_,rfl,Zr _⟩
    |false =>
     have d1:=hD.jobs;have d2:=hD.ends
     have j36:∀v:List Job×List End,v.1.length<=s.queue.length->v.2.length<=s.ends.length+1->DrR (Zl id why s v):=fun v h1 h2=>by
      unfold Zl
      have hS:=Qz hS
      have hq:=(Ui hS.queue).1
      unfold allJobs at hq
      simp only[yU,List.length_map]at hq
      obtain⟨rs,es,e,q1,q2,q3⟩:=L1B (s:=State.mk s.topo s.up s.lic s.depth s.now v.1 s.runs v.2) (by simp only;omega) (by simp only;omega) (by simp only;omega) why id (-1)
      simp only at q1 q2 q3
      rw[e,bS]
      obtain⟨s',e',h'⟩:=W0g (n:=400) (s:=State.mk s.topo s.up s.lic s.depth s.now v.1 rs es) ⟨hD.up,hD.par,hD.nodes,by simp only;omega,by simp only;omega,fun x hx=>hD.run x (q1 x hx)⟩ (by omega)
      simp only
      rw[e']
      exact⟨_,rfl,h'⟩
     simp only[yM,bS,Xp (hs.small hn)]
     cases y.2 with
     |false=>exact j36 _ (yV _) (by simp)
     |true =>
      obtain⟨l',e,hl⟩:=V1F s.queue id (by omega)
      rw[yN,e,bS,M0 (by simp;omega),bS]
      exact j36 _ hl (by simp)
theorem X1v{s:State}{n:Nat}(hs:DrS n s)(hn:n<=100000)(k:Int):DrR (YS s k):=by
 unfold YS
 rw[(Qh (hs.small hn).jobs).1,bS]
 cases hS:stateOk s with
 |false=>exact⟨_,rfl,Zr _⟩
 |true =>
  have hD:=O10 hS
  have hu:=(Qz hS).up
  simp only[yL,yM]
  cases hk:La s k with
  |false=>exact⟨_,rfl,Zr _⟩
  |true =>
   unfold La at hk
   simp only[yD,yO]at hk
   obtain⟨x,ex,_⟩:=Ji (l:=s.up) hk.1 (by omega)
   simp only[yL,yM,ex,bS,Bool.false_or,Xp (hs.small hn)]
   cases x with
   |true=>exact⟨_,rfl,Zr _⟩
   |false =>
    obtain⟨s',e',h'⟩:=W0g (n:=400) (s:=State.mk s.topo (s.up.set k.toNat true) s.lic s.depth s.now s.queue s.runs s.ends) ⟨by simp;exact hD.up,hD.par,hD.nodes,by have:=hD.jobs;simp only;omega,by have:=hD.ends;simp only;omega,hD.run⟩ (by omega)
    rw[yM,e']
    exact⟨_,rfl,h'⟩
theorem V1v{s:State}{n:Nat}(hs:DrS n s)(hn:n<=100000)(v:Vec):DrR (XS s v):=by
 unfold XS
 rw[(Qh (hs.small hn).jobs).1,bS]
 cases hS:stateOk s with
 |false=>exact⟨_,rfl,Zr _⟩
 |true =>
  have hD:=O10 hS
  simp only[yL,Bool.false_or]
  cases !W0 v with
  |true=>exact⟨_,rfl,Zr _⟩
  |false =>
   obtain⟨q,hq,_⟩:=Mw (State.mk s.topo s.up v s.depth s.now s.queue s.runs s.ends)
   simp only[yM,Xp (hs.small hn),bS,hq]
   cases q.2 with
   |false=>exact⟨_,rfl,Zr _⟩
   |true =>
    obtain⟨s',e',h'⟩:=W0g (n:=400) (s:=State.mk s.topo s.up v s.depth s.now s.queue s.runs s.ends) ⟨hD.up,hD.par,hD.nodes,by have:=hD.jobs;simp only;omega,by have:=hD.ends;simp only;omega,hD.run⟩ (by omega)
    simp only[yL,yM]
    rw[e']
    exact⟨_,rfl,h'⟩
theorem V1R{s:State}{n:Nat}(hs:DrS n s)(hn:n<=100000)(k:Int):DrR (U0b s k):=by
 unfold U0b
 rw[(Qh (hs.small hn).jobs).1,bS]
 cases hS:stateOk s with
 |false=>exact⟨_,rfl,Zr _⟩
 |true =>
  have hD:=O10 hS
  have hP:=Qz hS
  have hu:=hP.up
  have hq:=(Ui hP.queue).1
  unfold allJobs at hq
  simp only[yU,List.length_map]at hq
  simp only[yL,yM]
  cases hk:La s k with
  |false=>exact⟨_,rfl,Zr _⟩
  |true =>
   unfold La at hk
   simp only[yD,yO]at hk
   obtain⟨x,ex,_⟩:=Ji (l:=s.up) hk.1 (by omega)
   simp only[yL,yM,ex,bS,Bool.false_or,Xp (hs.small hn)]
   cases x with
   |false=>exact⟨_,rfl,Zr _⟩
   |true =>
    simp only[yL,yM]
    have d2:=hD.ends
    refine Mc (fun i (v:List Job)=>v.length<=s.queue.length+i) (fun(o:Option (State×Int))=>DrR o) (fun i x v k' hx hI hk'=>?_) (fun v hI=>?_) (by simp)
    .have hi:=(yB hx).1
     unfold M02
     rw[Ud,bS]
     cases x.nodes.contains k with
     |true=>rw[yN,M0 (by simp;omega),bS];exact hk' _ (by simp;omega)
     |false=>exact hk' _ (by omega)
    .unfold O02
     obtain⟨rs,es,e,q1,q2,q3⟩:=L1B (s:=State.mk s.topo s.up s.lic s.depth s.now v s.runs s.ends) (by simp only;omega) (by simp only;omega) (by simp only;omega) 4 0 k
     simp only at q1 q2 q3
     rw[e,bS]
     simp only
     cases decide (300<(es.length:Int))with
     |true=>exact⟨_,rfl,Zr _⟩
     |false =>
      obtain⟨s',e',h'⟩:=W0g (n:=400) (s:=State.mk s.topo (s.up.set k.toNat false) s.lic s.depth s.now v rs es) ⟨by simp;exact hD.up,hD.par,hD.nodes,by simp only;omega,by simp only;omega,fun x hx=>hD.run x (q1 x hx)⟩ (by omega)
      rw[yM,ex,bS,e']
      exact⟨_,rfl,h'⟩
def Dr{α:Type}(P:α->Prop)(o:Option (α×l01Cur)):Prop:=∃r,o=some r/\P r.1/\CurP r.2
theorem Dr.bind{α γ:Type}{P:α->Prop}{o:Option (α×l01Cur)}{f:α×l01Cur->Option γ}{Q:Option γ->Prop}(h:Dr P o)(k:∀r,P r.1->CurP r.2->Q (f r)):Q (o.bind f):=by
 obtain⟨r,rfl,h1,h2⟩:=h
 exact k r h1 h2
theorem J2{c:l01Cur}{n:Int}(h:CurP c)(hn:n<=1000000000:=by omega):Dr (fun v=>0<=v/\v<=max 0 (n-1)) (X0 c n):=by
 obtain⟨r,e,h0,h1,h2⟩:=W9 h hn
 exact⟨r,e,⟨h0,h1⟩,h2⟩
theorem V0Z{c:l01Cur}(h:CurP c):Dr (fun _=>True) (M5 c):=by
 obtain⟨r,e,h2⟩:=O0h h
 exact⟨r,e,trivial,h2⟩
theorem M1L{c:l01Cur}(h:CurP c):Dr (fun _=>True) (Mm c):=by
 obtain⟨r,e,h2⟩:=L1q h
 exact⟨r,e,trivial,h2⟩
theorem Q20{c:l01Cur}(h:CurP c):Dr (fun _=>True) (WA c):=by
 unfold WA
 refine(J2 h).bind fun y2 _ h=>(J2 h).bind fun y3 _ h=>(J2 h).bind fun y4 _ h=>(J2 h).bind fun y5 _ h=>(J2 h).bind fun y6 _ h=>(J2 h).bind fun y7 _ h=>?_
 have:∃n,quoI .i64 y7.1 3=some n:=⟨_,by simp[quoI];rfl⟩
 obtain⟨n8,e8⟩:=this
 rw[e8,bS]
 refine(J2 h).bind fun y9 _ h=>(J2 h).bind fun y10 _ h=>(J2 h).bind fun y11 _ h=>?_
 cases y11.1==0 with
 |true=>exact(J2 h).bind fun y12 _ h=>(J2 h).bind fun y13 _ h=>⟨_,rfl,trivial,h⟩
 |false=>exact⟨_,rfl,trivial,h⟩
theorem J1f{α:Type}{b:Bool}{x y:α}{Q:α->Prop}(h1:Q x)(h2:Q y):Q (bif b then x else y):=by cases b<;>assumption
abbrev TopS(t:Topo):Prop:=1<=t.parents.length/\t.parents.length<=20/\t.nodes.length<=20
theorem X1t{c:l01Cur}(h:CurP c):Dr TopS (On c):=by
 unfold On
 refine(J2 h).bind fun y2 h2 hc=>?_
 refine QF (fun _ (o:Option (Topo×l01Cur))=>Dr TopS o) (fun v:l01Cur×Int×List Int×List Int=>(y2.1-v.2.1).toNat) (fun v=>CurP v.1/\0<=v.2.1/\v.2.1<=max 0 y2.1/\1<=v.2.2.1.length/\v.2.2.1.length<=18/\1<=v.2.2.2.length/\v.2.2.2.length<=18) (fun v k hI hk=>?_) _ _ ⟨hc,by simp only;omega,by simp only;omega,by simp,by simp,by simp,by simp⟩ (by simp only;omega)
 obtain⟨g1,g2,g3,g4,g5,g6,g7⟩:=hI
 unfold VB
 by_cases hlt:v.2.1<y2.1
 .rw[decide_eq_true hlt,yN]
  refine Mc (fun i (w:l01Cur×List Int×List Int)=>CurP w.1/\1<=w.2.1.length/\w.2.1.length<=18/\w.2.2.length<=w.2.1.length) (fun(o:Option (Topo×l01Cur))=>Dr TopS o) (fun i x w k' hx hJ hk'=>?_) (fun w hJ=>?_) ⟨g1,g4,g5,by simp⟩
  .obtain⟨j1,j2,j3,j4⟩:=hJ
   unfold UB
   refine(J2 j1).bind fun y6 h6 hc6=>?_
   refine QF (fun _ (o:Option (Topo×l01Cur))=>Dr TopS o) (fun u:Int×List Int×List Int=>u.1.toNat) (fun u=>u.1<=100/\1<=u.2.1.length/\u.2.1.length<=18/\u.2.2.length<=u.2.1.length) (fun u k'' hU hk''=>?_) _ _ ⟨by rw[J3 (by omega)];omega,j2,j3,j4⟩ (by simp only;rw[J3 (by omega)];omega)
   obtain⟨u1,u2,u3,u4⟩:=hU
   unfold QB
   by_cases hu:0<u.1/\(u.2.1.length:Int)<18
   .rw[show(decide (0<u.1)&&decide ((u.2.1.length:Int)<18))=true by(rw[yD,yO,yO];exact hu),yN,M0 (by simp;omega),bS,M0 (by simp;omega),bS]
    have ew:w64 (u.1-1)=u.1-1:=J3 (by omega)
    exact hk'' _ ⟨by rw[ew];omega,by simp,by simp;omega,by simp;omega⟩ (by simp only;rw[ew];omega)
   .rw[show(decide (0<u.1)&&decide ((u.2.1.length:Int)<18))=false by(rw[Bool.eq_false_iff];intro q;rw[yD,yO,yO]at q;exact hu q),yM]
    exact hk' _ ⟨hc6,u2,u3,u4⟩
  .obtain⟨j1,j2,j3,j4⟩:=hJ
   unfold YB
   have ew:w64 (v.2.1+1)=v.2.1+1:=J3 (by omega)
   by_cases hl:0<(w.2.2.length:Int)
   .rw[decide_eq_true hl,yN]
    exact hk _ ⟨j1,by simp only;rw[ew];omega,by simp only;rw[ew];omega,j2,j3,by simp only;omega,by simp only;omega⟩ (by simp only;rw[ew];omega)
   .rw[decide_eq_false hl,yM]
    exact hk _ ⟨j1,by simp only;rw[ew];omega,by simp only;rw[ew];omega,j2,j3,g6,g7⟩ (by simp only;rw[ew];omega)
 .rw[decide_eq_false hlt,yM]
  refine(J2 g1).bind fun y12 h12 hc12=>?_
  refine QF (fun _ (o:Option (Topo×l01Cur))=>Dr TopS o) (fun u:l01Cur×Int×List Node=>u.2.1.toNat) (fun u=>CurP u.1/\u.2.1<=10/\(u.2.2.length:Int)+max 0 u.2.1<=10) (fun u k'' hU hk''=>?_) _ _ ⟨hc12,by simp only;rw[J3 (by omega)];omega,by simp only;rw[J3 (by omega)];simp;omega⟩ (by simp only;rw[J3 (by omega)];omega)
  obtain⟨u1,u2,u3⟩:=hU
  unfold XB
  by_cases hu:0<u.2.1
  .have ew:w64 (u.2.1-1)=u.2.1-1:=J3 (by omega)
   rw[decide_eq_true hu,yN]
   refine(J2 u1).bind fun y14 h14 hc14=>?_
   obtain⟨x,ex,_⟩:=Ji (l:=v.2.2.2) h14.1 (by omega)
   rw[ex,bS,Yp _ _ (by simp only;omega),bS]
   refine J1f (Q:=Dr TopS) ?_ ?_
   .refine(J2 hc14).bind fun y18 _ h=>(J2 h).bind fun y19 _ h=>(J2 h).bind fun y20 _ h=>?_
    rw[M0 (by simp;omega),bS]
    exact hk'' _ ⟨h,by simp only;rw[ew];omega,by simp only;rw[ew];simp;omega⟩ (by simp only;rw[ew];omega)
   .exact hk'' _ ⟨hc14,by simp only;rw[ew];omega,by simp only;rw[ew];omega⟩ (by simp only;rw[ew];omega)
  .rw[decide_eq_false hu,yM]
   exact⟨_,rfl,⟨g4,by simp only;omega,by simp only;omega⟩,u1⟩
theorem J1g{t:Topo}(h:TopS t)(v:Vec)(d:Int):∃r,LB t v d=some r/\DrS 400 r.1:=by
 unfold LB
 refine Mc (fun i (u:List Bool)=>u.length=i) (fun o=>∃r:State×Bool,o=some r/\DrS 400 r.1) (fun i x u k hx hI hk=>?_) (fun u hI=>?_) rfl
 .have hi:=(yB hx).1
  unfold MG
  rw[M0 (by simp;omega),bS]
  exact hk _ (by simp[hI])
 .unfold OG
  have hD:DrS 400 (State.mk t u v d 0 [] [] []):=⟨by simp only;omega,by simp only;omega,by simp only;omega,by simp,by simp,by simp⟩
  rw[(Qh (by simp)).1,bS]
  cases stateOk (State.mk t u v d 0 [] [] [])with
  |false=>exact⟨_,rfl,Zr _⟩
  |true =>
   simp only[yL,yM,Xp (hD.small (by omega)),bS]
   exact⟨_,rfl,hD⟩
theorem O1Z{c:l01Cur}(h:CurP c):Dr (DrS 400) (Oz c):=by
 unfold Oz
 refine(X1t h).bind fun y2 h2 h=>(J2 h).bind fun y3 _ h=>(J2 h).bind fun y4 _ h=>(J2 h).bind fun y5 _ h=>?_
 obtain⟨r,e,hr⟩:=J1g h2 (Vec.mk y3.1 y4.1 1) y5.1
 rw[e,bS]
 exact⟨_,rfl,hr,h⟩
theorem Uz{s s':State}{c:l01Cur}{n:Nat}(hs:DrS n s)(hs':DrS n s')(hc:CurP c)(b:Bool):Dr (DrS n) (bif b then(some (s,c))else(some (s',c))):=by
 cases b with
 |true=>exact⟨_,rfl,hs,hc⟩
 |false=>exact⟨_,rfl,hs',hc⟩
theorem M1M{c:l01Cur}{s:State}{n:Nat}(hn:400<=n)(hn':n<=100000)(hs:DrS n s)(h:CurP c):Dr (DrS n) (Ma c s):=by
 have hnn:=hs.nodes;have hjj:=hs.jobs
 unfold Ma
 refine(J2 h).bind fun y3 _ h3=>?_
 cases decide (y3.1<7)with
 |true =>
  refine(Q20 h3).bind fun y4 _ h=>?_
  obtain⟨r,e,hr⟩:=Z1u hs hn' y4.1
  rw[e,bS]
  exact Uz hs (hr.mono hn) h _
 |false =>
 cases decide (y3.1<9)with
 |true =>
  refine(J2 h3).bind fun y6 _ h=>?_
  obtain⟨r,e,hr⟩:=X1E hs hn' (w64 (s.now+y6.1))
  rw[e,bS]
  exact J1f (Q:=Dr (DrS n)) (Uz hs (hr.mono (by omega)) h _) (Uz hs hs h _)
 |false =>
 cases y3.1==9 with
 |true =>
  refine(J2 h3).bind fun y8 _ h=>(J2 h).bind fun y9 _ h=>?_
  obtain⟨r,e,hr⟩:=V1e hs hn' (w64 (1+y8.1)) (w64 (2+y9.1))
  rw[e,bS]
  exact Uz hs (hr.mono hn) h _
 |false =>
 cases y3.1==10 with
 |true =>
  rw[yN,Q0c (by omega),bS]
  refine(J2 h3).bind fun y12 _ h=>?_
  obtain⟨r,e,hr⟩:=V1R hs hn' y12.1
  rw[e,bS]
  exact Uz hs (hr.mono hn) h _
 |false =>
 cases y3.1==11 with
 |true =>
  rw[yN,Q0c (by omega),bS]
  refine(J2 h3).bind fun y15 _ h=>?_
  obtain⟨r,e,hr⟩:=X1v hs hn' y15.1
  rw[e,bS]
  exact Uz hs (hr.mono hn) h _
 |false =>
 cases y3.1==12 with
 |true =>
  refine(J2 h3).bind fun y17 _ h=>(J2 h).bind fun y18 _ h=>(J2 h).bind fun y19 _ h=>?_
  obtain⟨r,e,hr⟩:=V1v hs hn' (Vec.mk y17.1 y18.1 y19.1)
  rw[e,bS]
  exact Uz hs (hr.mono hn) h _
 |false =>
 by_cases hl:0<(s.runs.length:Int)
 .simp only[yM]
  rw[decide_eq_true hl,yN]
  refine(J2 h3).bind fun y22 h22 h=>?_
  obtain⟨x,ex,_⟩:=Ji (l:=s.runs) h22.1 (by omega)
  rw[ex,bS]
  refine(J2 h).bind fun y24 _ h=>?_
  obtain⟨r,e,hr⟩:=V1e hs hn' x.job.id (w64 (2+y24.1))
  rw[e,bS]
  exact Uz hs (hr.mono hn) h _
 .simp only[yM]
  rw[decide_eq_false hl,yM]
  exact Uz hs hs h3 _
theorem U1q{c:l01Cur}(h:CurP c):Dr (DrS 400) (Jt c 14):=by
 unfold Jt
 refine(O1Z h).bind fun y3 h3 hc=>(J2 hc (by decide)).bind fun y4 h4 hc=>?_
 have e15:w64 (14+1)=15:=by decide
 rw[e15]at h4
 refine QF (fun _ (o:Option (State×l01Cur))=>Dr (DrS 400) o) (fun v:l01Cur×State×Int=>v.2.2.toNat) (fun v=>CurP v.1/\DrS 400 v.2.1/\v.2.2<=14) (fun v k hI hk=>?_) _ _ ⟨hc,h3,by simp only;omega⟩ (by simp only;omega)
 obtain⟨g1,g2,g3⟩:=hI
 unfold Jz
 by_cases hp:0<v.2.2
 .rw[decide_eq_true hp,yN]
  have ew:w64 (v.2.2-1)=v.2.2-1:=J3 (by omega)
  refine(M1M (yV _) (by omega) g2 g1).bind fun y6 h6 hc6=>hk _ ⟨hc6,h6,by simp only;rw[ew];omega⟩ (by simp only;rw[ew];omega)
 .rw[decide_eq_false hp]
  exact⟨_,rfl,g2,g1⟩
theorem J1M{c:l01Cur}(h:CurP c){t:Topo}(ht:t.nodes.length<=1000):Dr (fun l:List Int=>l.length<=100) (Xu c t):=by
 unfold Xu
 refine(J2 h).bind fun y3 h3 hc=>?_
 refine QF (fun _ (o:Option (List Int×l01Cur))=>Dr (fun l:List Int=>l.length<=100) o) (fun v:l01Cur×Int×List Int=>v.2.1.toNat) (fun v=>CurP v.1/\v.2.1<=10/\(v.2.2.length:Int)+max 0 v.2.1<=10) (fun v k hI hk=>?_) _ _ ⟨hc,by simp only;omega,by simp;omega⟩ (by simp only;omega)
 obtain⟨g1,g2,g3⟩:=hI
 unfold MA
 by_cases hp:0<v.2.1
 .rw[decide_eq_true hp,yN]
  have ew:w64 (v.2.1-1)=v.2.1-1:=J3 (by omega)
  refine(J2 g1).bind fun y5 _ h=>?_
  rw[M0 (by simp;omega),bS]
  exact hk _ ⟨h,by simp only;rw[ew];omega,by simp only;rw[ew];simp;omega⟩ (by simp only;rw[ew];omega)
 .rw[decide_eq_false hp,yM]
  refine(J2 g1).bind fun y8 _ h=>?_
  cases y8.1==0 with
  |true =>
   refine(V0Z h).bind fun y9 _ h=>?_
   rw[M0 (by simp;omega)]
   exact⟨_,rfl,by simp;omega,h⟩
  |false=>exact⟨_,rfl,by simp only;omega,h⟩
theorem Y1s{c:l01Cur}(h:CurP c):Dr (fun t:Topo=>t.parents.length<=100/\t.nodes.length<=100) (WB c):=by
 unfold WB
 refine(X1t h).bind fun y2 h2 hc=>(J2 hc).bind fun y3 _ hc=>?_
 obtain⟨t1,t2,t3⟩:=h2
 have j31:∀(v14:l01Cur×List Node) (v18:l01Cur×List Int),CurP v18.1->v14.2.length<=20->v18.2.length<=21->Dr (fun t:Topo=>t.parents.length<=100/\t.nodes.length<=100) (Uf y3 v14 v18):=fun v14 v18 hc h1 h2=>by
  unfold Uf Vk
  cases y3.1==4 with
  |true=>exact⟨_,rfl,⟨by simp,by simp only;omega⟩,hc⟩
  |false=>exact⟨_,rfl,⟨by simp only;omega,by simp only;omega⟩,hc⟩
 have j32:∀(v8:l01Cur×List Int) (v14:l01Cur×List Node),CurP v14.1->v14.2.length<=20->v8.2.length<=20->Dr (fun t:Topo=>t.parents.length<=100/\t.nodes.length<=100) (Vf y3 v8 v14):=fun v8 v14 hc h1 h2=>by
  unfold Vf
  cases y3.1==3 with
  |true =>
   rw[yN,Q0c (by omega),bS]
   refine(J2 hc).bind fun y16 _ h=>?_
   rw[M0 (by simp;omega),bS]
   exact j31 _ _ h h1 (by simp;omega)
  |false=>exact j31 _ _ hc h1 (by simp only;omega)
 have j33:∀(v8:l01Cur×List Int) (v11:l01Cur×List Node),CurP v11.1->v11.2.length<=20->v8.2.length<=20->Dr (fun t:Topo=>t.parents.length<=100/\t.nodes.length<=100) (Xf y3 v8 v11):=fun v8 v11 hc h1 h2=>by
  unfold Xf
  by_cases hq:(y3.1==2)=true/\0<(v11.2.length:Int)
  .rw[show((y3.1==2)&&decide (0<(v11.2.length:Int)))=true by simp[hq];omega,yN]
   refine(M1L hc).bind fun y12 _ h=>?_
   obtain⟨x,ex,_⟩:=Ji (l:=v11.2) (i:=0) (by omega) hq.2
   rw[ex,bS]
   exact j32 _ _ h (by simp;omega) h2
  .rw[show((y3.1==2)&&decide (0<(v11.2.length:Int)))=false by rw[Bool.eq_false_iff];intro q;rw[yD,yO]at q;exact hq q,yM]
   exact j32 _ _ hc h1 h2
 have j34:∀(v8:l01Cur×List Int),CurP v8.1->v8.2.length<=20->Dr (fun t:Topo=>t.parents.length<=100/\t.nodes.length<=100) (Yf y2 y3 v8):=fun v8 hc h1=>by
  unfold Yf
  by_cases hq:(y3.1==1)=true/\0<(y2.1.nodes.length:Int)
  .rw[show((y3.1==1)&&decide (0<(y2.1.nodes.length:Int)))=true by simp[hq];omega,yN]
   refine(V0Z hc).bind fun y12 _ h=>?_
   obtain⟨x,ex,_⟩:=Ji (l:=y2.1.nodes) (i:=0) (by omega) hq.2
   rw[ex,bS]
   exact j33 _ _ h (by simp;omega) h1
  .rw[show((y3.1==1)&&decide (0<(y2.1.nodes.length:Int)))=false by rw[Bool.eq_false_iff];intro q;rw[yD,yO]at q;exact hq q,yM]
   exact j33 _ _ hc (by simp only;omega) h1
 cases y3.1==0 with
 |true =>
  rw[yN,Q0c (by omega),bS]
  refine(J2 hc).bind fun y5 h5 h=>(V0Z h).bind fun y6 _ h=>?_
  obtain⟨x,ex,_⟩:=Ji (l:=y2.1.parents) h5.1 (by omega)
  rw[ex,bS]
  exact j34 _ h (by simp;omega)
 |false=>exact j34 _ hc (by simp only;omega)
theorem JU{b:Bool}{p:Prop}[Decidable p]:(b&&decide p)=true/\b=true/\p\/(b&&decide p)=false:=by
 cases b<;>by_cases hp:p<;>simp[hp]
theorem X1h{l:List Run}{n:Nat}(h:∀x∈l,x.nodes.length<=n){i:Nat}{y:Run}(hy:y.nodes.length<=n):∀x∈l.set i y,x.nodes.length<=n:=fun x hx=>by
 rcases List.mem_or_eq_of_mem_set hx with hx|rfl
 .exact h x hx
 .exact hy
theorem L1S{c:l01Cur}(h:CurP c):Dr (DrS 500) (XA c):=by
 unfold XA
 refine(U1q h).bind fun y2 h2 hc=>(J2 hc).bind fun y3 _ hc=>?_
 have d1:=h2.up;have d2:=h2.par;have d3:=h2.nodes;have d4:=h2.jobs;have d5:=h2.ends;have d6:=h2.run
 have j56:∀(v5:l01Cur×Int) (v7:List Bool) (v9:l01Cur×Int×Int×Int) (v15:List Job) (v20:l01Cur×List End) (v25:List Run) (v27:l01Cur×Int),CurP v27.1->v7.length<=100->v15.length+v25.length<=500->v20.2.length<=500->(∀x∈v25,x.nodes.length<=100)->Dr (DrS 500) (Zf y2 y3 v5 v7 v9 v15 v20 v25 v27):=fun v5 v7 v9 v15 v20 v25 v27 hc g1 g2 g3 g4=>by
  unfold Zf Jj
  cases y3.1==9 with
  |true=>exact(Y1s hc).bind fun y28 h28 h=>⟨_,rfl,⟨g1,h28.1,h28.2,g2,g3,g4⟩,h⟩
  |false=>exact⟨_,rfl,⟨g1,d2,d3,g2,g3,g4⟩,hc⟩
 have j57:∀(v5:l01Cur×Int) (v7:List Bool) (v9:l01Cur×Int×Int×Int) (v15:List Job) (v20:l01Cur×List End) (v23:l01Cur×List Run) (v25:List Run),CurP v23.1->v7.length<=100->v15.length+v25.length<=500->v20.2.length<=500->(∀x∈v25,x.nodes.length<=100)->Dr (DrS 500) (Je y2 y3 v5 v7 v9 v15 v20 v23 v25):=fun v5 v7 v9 v15 v20 v23 v25 hc g1 g2 g3 g4=>by
  unfold Je
  cases y3.1==8 with
  |true=>exact(V0Z hc).bind fun y26 _ h=>j56 _ _ _ _ _ _ _ h g1 g2 g3 g4
  |false=>exact j56 _ _ _ _ _ _ _ hc g1 g2 g3 g4
 have j58:∀(v5:l01Cur×Int) (v7:List Bool) (v9:l01Cur×Int×Int×Int) (v15:List Job) (v20:l01Cur×List End) (v23:l01Cur×List Run),CurP v23.1->v7.length<=100->v15.length+v23.2.length<=500->v20.2.length<=500->(∀x∈v23.2,x.nodes.length<=100)->Dr (DrS 500) (Le y2 y3 v5 v7 v9 v15 v20 v23):=fun v5 v7 v9 v15 v20 v23 hc g1 g2 g3 g4=>by
  unfold Le
  rcases JU (b:=y3.1==7) (p:=0<(v23.2.length:Int))with⟨e,_,hp⟩|e<;>rw[e]
  .obtain⟨x,ex,hx⟩:=Ji (l:=v23.2) (i:=0) (by omega) hp
   rw[yN,ex,bS]
   exact j57 _ _ _ _ _ _ _ hc g1 (by simp;omega) g3 (X1h g4 (g4 x (yE hx)))
  .exact j57 _ _ _ _ _ _ _ hc g1 g2 g3 g4
 have j59:∀(v5:l01Cur×Int) (v7:List Bool) (v9:l01Cur×Int×Int×Int) (v12:l01Cur×List Run) (v15:List Job) (v20:l01Cur×List End),CurP v20.1->v7.length<=100->v15.length+v12.2.length<=500->v20.2.length<=500->(∀x∈v12.2,x.nodes.length<=100)->Dr (DrS 500) (Me y2 y3 v5 v7 v9 v12 v15 v20):=fun v5 v7 v9 v12 v15 v20 hc g1 g2 g3 g4=>by
  unfold Me
  rcases JU (b:=y3.1==6) (p:=0<(v12.2.length:Int))with⟨e,_,hp⟩|e<;>rw[e]
  .refine(J1M hc (by omega)).bind fun y21 h21 h=>?_
   obtain⟨x,ex,hx⟩:=Ji (l:=v12.2) (i:=0) (by omega) hp
   rw[ex,bS]
   exact j58 _ _ _ _ _ _ h g1 (by simp;omega) g3 (X1h g4 h21)
  .exact j58 _ _ _ _ _ _ hc g1 g2 g3 g4
 have j60:∀(v5:l01Cur×Int) (v7:List Bool) (v9:l01Cur×Int×Int×Int) (v12:l01Cur×List Run) (v15:List Job),CurP v12.1->v7.length<=100->v15.length+v12.2.length<=500->(∀x∈v12.2,x.nodes.length<=100)->Dr (DrS 500) (Oe y2 y3 v5 v7 v9 v12 v15):=fun v5 v7 v9 v12 v15 hc g1 g2 g4=>by
  unfold Oe
  cases y3.1==5 with
  |true =>
   refine(J2 hc).bind fun y16 _ h=>(J2 h).bind fun y17 _ h=>(J2 h).bind fun y18 _ h=>?_
   rw[M0 (by simp;omega),bS]
   exact j59 _ _ _ _ _ _ h g1 g2 (by simp;omega) g4
  |false=>exact j59 _ _ _ _ _ _ hc g1 g2 (by simp only;omega) g4
 have j61:∀(v5:l01Cur×Int) (v7:List Bool) (v9:l01Cur×Int×Int×Int) (v12:l01Cur×List Run),CurP v12.1->v7.length<=100->y2.1.queue.length+v12.2.length<=400->(∀x∈v12.2,x.nodes.length<=100)->Dr (DrS 500) (We y2 y3 v5 v7 v9 v12):=fun v5 v7 v9 v12 hc g1 g2 g4=>by
  unfold We
  rcases JU (b:=y3.1==4) (p:=0<(v12.2.length:Int))with⟨e,_,hp⟩|e<;>rw[e]
  .obtain⟨x,ex,hx⟩:=Ji (l:=v12.2) (i:=0) (by omega) hp
   rw[yN,ex,bS,M0 (by simp;omega),bS]
   exact j60 _ _ _ _ _ hc g1 (by simp;omega) g4
  .exact j60 _ _ _ _ _ hc g1 (by omega) g4
 have j62:∀(v5:l01Cur×Int) (v7:List Bool) (v9:l01Cur×Int×Int×Int),CurP v9.1->v7.length<=100->Dr (DrS 500) (Qe y2 y3 v5 v7 v9):=fun v5 v7 v9 hc g1=>by
  unfold Qe
  rcases JU (b:=y3.1==3) (p:=0<(y2.1.runs.length:Int))with⟨e,_,hp⟩|e<;>rw[e]
  .refine(V0Z hc).bind fun y10 _ h=>?_
   obtain⟨x,ex,hx⟩:=Ji (l:=y2.1.runs) (i:=0) (by omega) hp
   rw[ex,bS]
   exact j61 _ _ _ _ h g1 (by simp;omega) (X1h d6 (d6 x (yE hx)))
  .exact j61 _ _ _ _ hc g1 (by simp only;omega) d6
 have j63:∀(v5:l01Cur×Int) (v7:List Bool),CurP v5.1->v7.length<=100->Dr (DrS 500) (Ue y2 y3 v5 v7):=fun v5 v7 hc g1=>by
  unfold Ue
  cases y3.1==2 with
  |true=>exact(M1L hc).bind fun y8 _ h=>j62 _ _ _ h g1
  |false=>exact j62 _ _ _ hc g1
 have j64:∀(v5:l01Cur×Int),CurP v5.1->Dr (DrS 500) (Ve y2 y3 v5):=fun v5 hc=>by
  unfold Ve
  rcases JU (b:=y3.1==1) (p:=0<(y2.1.up.length:Int))with⟨e,_,hp⟩|e<;>rw[e]
  .obtain⟨x,ex,hx⟩:=Ji (l:=y2.1.up) (i:=0) (by omega) hp
   rw[yN,ex,bS]
   exact j63 _ _ hc (by simp;omega)
  .exact j63 _ _ hc d1
 cases y3.1==0 with
 |true=>exact(V0Z hc).bind fun y4 _ h=>j64 _ h
 |false=>exact j64 _ hc
theorem L1R{w:Str}(hw:w.length<=1000000):∃r,whl (JE w) 9223372036854775807 (7,0)=some r/\0<=r:=by
 refine QF (fun _ (o:Option Int)=>∃r,o=some r/\0<=r) (fun b:Int×Int=>((w.length:Int)-b.2).toNat) (fun b=>∃m:Nat,b.2=(m:Int)/\0<=b.1/\b.1<1000000007) ?_ _ (7,0) ⟨0,rfl,by simp,by simp⟩ (by simp only;omega)
 rintro⟨x,n⟩ k ⟨m,hm,h0,h1⟩ hk
 simp only at hm h0 h1 hk
 subst hm
 unfold JE
 dsimp only
 by_cases h:m<w.length
 .rw[show decide ((m:Int)<(w.length:Int))=true by simp;omega,yN,V3,yA h,bS]
  have hc:w[m].toNat<256:=w[m].toNat_lt
  have e1:IntKind.wrap .i64 (w[m].toNat:Int)=(w[m].toNat:Int):=J3 (by omega)
  rw[e1,J3 (n:=131*x) (by omega),J3 (n:=131*x+(w[m].toNat:Int)) (by omega)]
  have q0:=Int.tmod_nonneg 1000000007 (show 0<=131*x+(w[m].toNat:Int) by omega)
  have q1:=Int.tmod_lt_of_pos (131*x+(w[m].toNat:Int)) (show(0:Int)<1000000007 by decide)
  rw[show remI (131*x+(w[m].toNat:Int)) 1000000007=some ((131*x+(w[m].toNat:Int)).tmod 1000000007) by simp[remI],bS,W09 (n:=m) (by omega)]
  exact hk _ ⟨m+1,rfl,q0,q1⟩ (by simp only;omega)
 .rw[show decide ((m:Int)<(w.length:Int))=false by simp;omega,yM]
  exact⟨_,rfl,h0⟩
theorem W1i{s:State}(hs:s.queue.length+s.runs.length<=1048576):∃r,Jq s=some r/\(stateOk s=true->0<=r)/\(stateOk s=false->r = -1):=by
 unfold Jq
 rw[(Qh hs).2,bS]
 cases h:stateOk s with
 |false=>exact⟨-1,rfl,(fun q=>by cases q),fun _=>rfl⟩
 |true =>
  obtain⟨r,hr,h0⟩:=L1R (L0o s)
  simp only[yL,yM]
  rw[UI hs,bS]
  exact⟨r,hr,(fun _=>h0),(fun q=>by cases q)⟩
theorem Y1G{c:UInt8}(hc:¬ V09 c)(h32:c≠32)(l:List Int):c∉JK l:=by
 unfold JK
 simp only[List.mem_flatMap,List.mem_cons,not_exists,not_and,not_or]
 exact fun n _=>⟨h32,Uu hc⟩
theorem L1z{c:UInt8}(hc:¬ V09 c)(h32:c≠32)(h47:c≠47)(j:Job):c∉X01 j:=by
 unfold X01
 simp only[List.mem_append,List.mem_singleton,not_or]
 exact⟨⟨⟨⟨⟨⟨⟨⟨⟨⟨⟨⟨Uu hc,h32⟩,Uu hc⟩,h32⟩,Uu hc⟩,h32⟩,L19 hc h47⟩,h32⟩,L19 hc h47⟩,h32⟩,Uu hc⟩,h32⟩,Uu hc⟩
theorem U0y{bs:List Int}(h:bs.length<=1048576):∃s,Vi bs=some s/\DrS 500 s:=by
 unfold Vi
 obtain⟨c,ec,hc⟩:=O1q h
 rw[ec,bS]
 obtain⟨r,e,h1,_⟩:=L1S hc
 rw[e]
 exact⟨_,rfl,h1⟩
def nlS(l:Str):Str:=l++[10]
theorem L09:∀{L:List Str},(∀l∈L,(10:UInt8)∉l)->O5 10 (L.flatMap nlS)=L++[[]]
 |[],_=>rfl
 |a::L,h=>by
  have e:(a::L).flatMap nlS=a++10::L.flatMap nlS:=by simp[nlS]
  rw[e,Vb (h a (yJ ..)),L09 fun l hl=>h l (yH _ hl)]
  rfl
def swL(p:Int):Str:=[115,119,105,116,99,104,32]++numText p
def ndL(x:Node):Str:=[110,111,100,101,32]++numText x.leaf++[32]++Q4 x.cap
def hdL(v:Vec)(d n:Int):Str:=[115,116,97,116,101,32]++Q4 v++JK [d,n]
def dnL(i:Nat):Str:=[100,111,119,110]++JK [(i:Int)]
def wtL(j:Job):Str:=[119,97,105,116,32]++X01 j
def rnL(x:Run):Str:=[114,117,110]++JK ([x.t,(x.nodes.length:Int)]++x.nodes)++[32]++X01 x.job
def enL(e:End):Str:=[101,110,100]++JK [e.id,e.t,e.why]
def ovL:Str:=[111,118,101,114]
inductive Ln where
 |hd (v:Vec) (d n:Int)
 |dn (i:Nat)
 |wt (j:Job)
 |rn (x:Run)
 |en (e:End)
 |ov
def lnS:Ln->Str
 |.hd v d n=>hdL v d n
 |.dn i=>dnL i
 |.wt j=>wtL j
 |.rn x=>rnL x
 |.en e=>enL e
 |.ov=>ovL
def lnW:Ln->List Str
 |.hd v d n=>[[115,116,97,116,101],Q4 v,numText d,numText n]
 |.dn i=>[[100,111,119,110],numText i]
 |.wt j=>[119,97,105,116]::jobW j
 |.rn x=>[114,117,110]::(([x.t,(x.nodes.length:Int)]++x.nodes).map numText++jobW x.job)
 |.en e=>[[101,110,100],numText e.id,numText e.t,numText e.why]
 |.ov=>[ovL]
def lnGo(s:State):Ln->State
 |.hd v d n=>{ s with lic:=v,depth:=d,now:=n }
 |.dn i=>{ s with up:=s.up.set i false }
 |.wt j=>{ s with queue:=s.queue++[j] }
 |.rn x=>{ s with runs:=s.runs++[x] }
 |.en e=>{ s with ends:=s.ends++[e] }
 |.ov=>s
def dnF(q:Bool×Nat):Option Nat:=bif q.1 then none else some q.2
def U0r(up:List Bool)(i:Nat):List Nat:=(up.zipIdx i).filterMap dnF
def VV(t:Topo):List Str:=(t.parents.drop 1).map swL++t.nodes.map ndL
def Y09(s:State):List Ln:=.hd s.lic s.depth s.now::((U0r s.up 0).map Ln.dn++(s.queue.map Ln.wt++(s.runs.map Ln.rn++(s.ends.map Ln.en++[.ov]))))
theorem J01{α:Type}{f g:α->Str}(h:∀x,f x=nlS (g x))(l:List α):l.flatMap f=(l.map g).flatMap nlS:=by
 rw[List.flatMap_map]
 congr 1
 funext x
 exact h x
theorem LX{t:Topo}(h:topoOk t=true):Qm t=(VV t).flatMap nlS:=by
 unfold Qm VV
 rw[yd h,List.flatMap_append,J01 (g:=swL) (fun x=>by simp[WV,swL,nlS]),J01 (f:=QW) (g:=ndL) (fun x=>by simp[QW,ndL,nlS])]
theorem W0R:∀(up:List Bool) (i:Nat),((up.zipIdx i).flatMap fun q=>XQ q.1 q.2)=((U0r up i).map dnL).flatMap nlS
 |[],_=>rfl
 |b::up,i=>by
  have ih:=W0R up (i+1)
  unfold U0r at ih ⊢
  rw[List.zipIdx_cons,ya,ih,List.filterMap_cons]
  cases b with
  |true=>rfl
  |false=>simp[dnF,XQ,dnL,nlS]
theorem M09{s:State}(h:stateOk s=true):M9 s=(VV s.topo++(Y09 s).map lnS).flatMap nlS:=by
 have hT:topoOk s.topo=true:=Lj.2 (Qz h).topo
 unfold M9 Y09
 rw[yd h,LX hT,W0R,J01 (f:=ZP) (g:=wtL) (fun x=>by simp[ZP,wtL,nlS]),J01 (f:=J02) (g:=rnL) (fun x=>by simp[J02,rnL,nlS]),J01 (f:=M04) (g:=enL) (fun x=>by simp[M04,enL,nlS])]
 simp only[List.map_cons,List.map_append,List.map_map,List.flatMap_append,ya,List.append_assoc]
 congr 1
theorem Q1I(p:Int):(10:UInt8)∉swL p:=by
 have:=Uu (n:=p) no10
 simp[swL,this]
theorem W1J(x:Node):(10:UInt8)∉ndL x:=by
 have h1:=Uu (n:=x.leaf) no10
 have h2:=L19 (v:=x.cap) no10 (by decide)
 simp[ndL,h1,h2]
theorem L1Z(l:Ln):(10:UInt8)∉lnS l:=by
 have a:=fun l=>Y1G (c:=10) no10 (by decide) l
 have b:=fun j=>L1z (c:=10) no10 (by decide) (by decide) j
 cases l with
 |hd v d n =>
  have h1:=L19 (v:=v) no10 (by decide)
  have h2:=a [d,n]
  simp[lnS,hdL,h1,h2]
 |dn i=>have:=a [(i:Int)];simp[lnS,dnL,this]
 |wt j=>have:=b j;simp[lnS,wtL,this]
 |rn x =>
  have h1:=b x.job
  have h2:=a ([x.t,(x.nodes.length:Int)]++x.nodes)
  simp only[lnS,rnL,List.mem_append,not_or]
  exact⟨⟨⟨by decide,h2⟩,by decide⟩,h1⟩
 |en e=>have:=a [e.id,e.t,e.why];simp[lnS,enL,this]
 |ov=>decide
theorem L1g{s:State}(h:stateOk s=true):O5 10 (M9 s)=VV s.topo++(Y09 s).map lnS++[[]]:=by
 rw[M09 h,L09]
 intro l hl
 rcases List.mem_append.1 hl with hl|hl
 .unfold VV at hl
  rcases List.mem_append.1 hl with hl|hl
  .obtain⟨x,_,rfl⟩:=yY hl;exact Q1I x
  .obtain⟨x,_,rfl⟩:=yY hl;exact W1J x
 .obtain⟨x,_,rfl⟩:=yY hl;exact L1Z x
theorem X1p{t:Topo}(h:topoOk t=true):O5 10 (Qm t)=VV t++[[]]:=by
 rw[LX h,L09]
 intro l hl
 unfold VV at hl
 rcases List.mem_append.1 hl with hl|hl
 .obtain⟨x,_,rfl⟩:=yY hl;exact Q1I x
 .obtain⟨x,_,rfl⟩:=yY hl;exact W1J x
theorem O0g(a:Str)(ha:(32:UInt8)∉a):∀(l:List Int),O5 32 (a++JK l)=a::l.map numText
 |[]=>by simp[JK,LQ ha]
 |n::l=>by
  have e:a++JK (n::l)=a++32::(numText n++JK l):=by simp[JK]
  rw[e,Vb ha,O0g (numText n) (Uu no32) l]
  rfl
theorem Q0K(a:Str)(ha:(32:UInt8)∉a)(r:Str):∀(l:List Int),O5 32 (a++JK l++32::r)=a::(l.map numText++O5 32 r)
 |[]=>by simp[JK,Vb ha]
 |n::l=>by
  have e:a++JK (n::l)++32::r=a++32::(numText n++JK l++32::r):=by simp[JK]
  rw[e,Vb ha,Q0K (numText n) (Uu no32) r l]
  rfl
theorem U0K(w:Str)(hw:(32:UInt8)∉w)(r:Str):O5 32 (w++32::r)=w::O5 32 r:=Vb hw
theorem U0A(j:Job):O5 32 (X01 j)=jobW j:=M1z j
theorem M1y(l:Ln):O5 32 (lnS l)=lnW l:=by
 cases l with
 |hd v d n =>
  have e:lnS (.hd v d n)=[115,116,97,116,101]++32::(Q4 v++JK [d,n]):=by simp[lnS,hdL]
  rw[e,U0K _ (by decide),O0g _ J0I]
  rfl
 |dn i=>exact O0g [100,111,119,110] (by decide) [(i:Int)]
 |wt j =>
  have e:lnS (.wt j)=[119,97,105,116]++32::X01 j:=by simp[lnS,wtL]
  rw[e,U0K _ (by decide),U0A]
  rfl
 |rn x =>
  have e:lnS (.rn x)=[114,117,110]++JK ([x.t,(x.nodes.length:Int)]++x.nodes)++32::X01 x.job:=by simp[lnS,rnL]
  rw[e,Q0K _ (by decide),U0A]
  rfl
 |en e=>exact O0g [101,110,100] (by decide) [e.id,e.t,e.why]
 |ov=>rfl
theorem J1t(p:Int):O5 32 (swL p)=[[115,119,105,116,99,104],numText p]:=by
 have e:swL p=[115,119,105,116,99,104]++32::numText p:=by simp[swL]
 rw[e,U0K _ (by decide),LQ (Uu no32)]
theorem L1x(x:Node):O5 32 (ndL x)=[[110,111,100,101],numText x.leaf,Q4 x.cap]:=by
 have e:ndL x=[110,111,100,101]++32::(numText x.leaf++32::Q4 x.cap):=by simp[ndL]
 rw[e,U0K _ (by decide),U0K _ (Uu no32),LQ J0I]
theorem L1s:∀(up pre:List Bool),(U0r up pre.length).foldl (fun u i=>u.set i false) (pre++List.replicate up.length true)=pre++up
 |[],pre=>by simp[U0r]
 |b::up,pre=>by
  have ih:=L1s up (pre++[b])
  rw[yU,List.length_singleton]at ih
  unfold U0r at ih ⊢
  rw[List.zipIdx_cons,List.filterMap_cons,yT,List.replicate_succ]
  cases b with
  |true =>
   show((up.zipIdx (pre.length+1)).filterMap dnF).foldl _ _=_
   rw[show pre++true::List.replicate up.length true=pre++[true]++List.replicate up.length true by simp,ih]
   simp
  |false =>
   show((up.zipIdx (pre.length+1)).filterMap dnF).foldl _ ((pre++true::List.replicate up.length true).set pre.length false)=_
   rw[show(pre++true::List.replicate up.length true).set pre.length false=pre++[false]++List.replicate up.length true by simp[],ih]
   simp
def st0(t:Topo):State:=⟨t,List.replicate t.nodes.length true,⟨0,0,0⟩,0,0,[],[],[]⟩
theorem X1B(D:List Nat):∀s:State,(D.map Ln.dn).foldl lnGo s={ s with up:=D.foldl (fun u i=>u.set i false) s.up }:=by
 induction D with
 |nil=>intro s;rfl
 |cons d D ih=>intro s;rw[List.map_cons,List.foldl_cons,ih];rfl
theorem J1A(D:List Job):∀s:State,(D.map Ln.wt).foldl lnGo s={ s with queue:=s.queue++D }:=by
 induction D with
 |nil=>intro s;simp
 |cons d D ih=>intro s;rw[List.map_cons,List.foldl_cons,ih];simp[lnGo]
theorem Z1B(D:List Run):∀s:State,(D.map Ln.rn).foldl lnGo s={ s with runs:=s.runs++D }:=by
 induction D with
 |nil=>intro s;simp
 |cons d D ih=>intro s;rw[List.map_cons,List.foldl_cons,ih];simp[lnGo]
theorem Y1B(D:List End):∀s:State,(D.map Ln.en).foldl lnGo s={ s with ends:=s.ends++D }:=by
 induction D with
 |nil=>intro s;simp
 |cons d D ih=>intro s;rw[List.map_cons,List.foldl_cons,ih];simp[lnGo]
theorem U1p{s:State}(h:s.up.length=s.topo.nodes.length):(Y09 s).foldl lnGo (st0 s.topo)=s:=by
 unfold Y09
 rw[List.foldl_cons,List.foldl_append,List.foldl_append,List.foldl_append,List.foldl_append,X1B,J1A,Z1B,Y1B]
 have e:=L1s s.up []
 simp only[List.nil_append,List.length_nil]at e
 simp[lnGo,st0,← h,e]
theorem O1e:∀(up:List Bool) (i:Nat),∀d∈U0r up i,i<=d/\d<i+up.length
 |[],_,d,h=>by simp[U0r]at h
 |b::up,i,d,h=>by
  have ih:=O1e up (i+1) d
  unfold U0r at h ih
  rw[List.zipIdx_cons,List.filterMap_cons]at h
  cases b with
  |true=>have:=ih h;simp only[yT];omega
  |false =>
   rcases yX h with h|h
   .simp only[yT];omega
   .have:=ih h;simp only[yT];omega
theorem tt_sw{p:Int}(h:time p=true){v:Topo}(h1:v.parents.length+1<=24)(h2:v.nodes.length<=24)(i:Nat)(k:Topo->Option (Topo×Bool)):L3 (swL p) i v k=k ⟨v.parents++[p],v.nodes⟩:=by
 unfold L3
 have hl:=U2 p
 have hp:W8 (swL p) 32=some (O5 32 (swL p)):=XW (c:=32) (by simp[swL];omega)
 rw[hp,J1t,bS]
 have i0:idx [([115,119,105,116,99,104]:Str),numText p] 0=some [115,119,105,116,99,104]:=rfl
 have i1:idx [([115,119,105,116,99,104]:Str),numText p] 1=some (numText p):=rfl
 have e:((([([115,119,105,116,99,104]:Str),numText p].length:Nat):Int)==2)=true:=rfl
 rw[e,yN,i0,bS,beq_self_eq_true,Bool.and_self,yN,i1,bS,LC h,bS,M0 (by simp;omega),bS]
 unfold Q8
 rw[show(decide ((24:Int)<((v.parents++[p]).length:Int))||decide ((24:Int)<(v.nodes.length:Int)))=false by simp;omega,yM]
theorem tt_nd{x:Node}(h:time x.leaf=true)(hv:W0 x.cap=true){v:Topo}(h1:v.parents.length<=24)(h2:v.nodes.length+1<=24)(i:Nat)(k:Topo->Option (Topo×Bool)):L3 (ndL x) i v k=k ⟨v.parents,v.nodes++[x]⟩:=by
 unfold L3
 have hl:=U2 x.leaf
 have hl2:=Yj x.cap
 have hp:W8 (ndL x) 32=some (O5 32 (ndL x)):=XW (c:=32) (by simp[ndL];omega)
 rw[hp,L1x,bS]
 have i0:idx [([110,111,100,101]:Str),numText x.leaf,Q4 x.cap] 0=some [110,111,100,101]:=rfl
 have i1:idx [([110,111,100,101]:Str),numText x.leaf,Q4 x.cap] 1=some (numText x.leaf):=rfl
 have i2:idx [([110,111,100,101]:Str),numText x.leaf,Q4 x.cap] 2=some (Q4 x.cap):=rfl
 have e:((([([110,111,100,101]:Str),numText x.leaf,Q4 x.cap].length:Nat):Int)==2)=false:=rfl
 have e3:((([([110,111,100,101]:Str),numText x.leaf,Q4 x.cap].length:Nat):Int)==3)=true:=rfl
 simp only[e,e3,yN,yM,i0,i1,i2,bS,beq_self_eq_true,Bool.and_self,Bool.false_and,LC h,L0I hv]
 rw[M0 (by simp;omega),bS]
 unfold Q8
 rw[show(decide ((24:Int)<(v.parents.length:Int))||decide ((24:Int)<((v.nodes++[x]).length:Int)))=false by simp;omega,yM]
theorem V1I{v:Topo}(h1:v.parents.length<=24)(h2:v.nodes.length<=24)(i:Nat)(k:Topo->Option (Topo×Bool)):L3 [] i v k=k v:=by
 unfold L3
 have hp:W8 [] 32=some (O5 32 []):=XW (c:=32) (by simp)
 have e:((([([]:Str)].length:Nat):Int)==2)=false:=rfl
 have e3:((([([]:Str)].length:Nat):Int)==3)=false:=rfl
 rw[hp,show O5 32 []=[[]] from rfl,bS]
 simp only[e,e3,yM,Bool.false_and,bS]
 unfold Q8
 rw[show(decide ((24:Int)<(v.parents.length:Int))||decide ((24:Int)<(v.nodes.length:Int)))=false by simp;omega,yM]
theorem L1t{kk:Topo->Option (Topo×Bool)}(m:List Str):∀(l:List Int) (i:Nat) (v:Topo),(∀p∈l,time p=true)->v.parents.length+l.length<=24->v.nodes.length<=24->rgl L3 kk (l.map swL++m) i v=rgl L3 kk m (i+l.length) ⟨v.parents++l,v.nodes⟩
 |[],i,v,_,_,_=>by simp
 |p::l,i,v,h,h1,h2=>by
  simp only[yT]at h1
  rw[List.map_cons,List.cons_append,rgl,tt_sw (h p (yJ ..)) (by omega) h2,L1t m l (i+1) ⟨v.parents++[p],v.nodes⟩ (fun q hq=>h q (yH _ hq)) (by simp;omega) h2]
  rw[yT,show i+1+l.length=i+(l.length+1) by omega]
  simp
theorem M1x{kk:Topo->Option (Topo×Bool)}(m:List Str):∀(l:List Node) (i:Nat) (v:Topo),(∀x∈l,time x.leaf=true/\W0 x.cap=true)->v.parents.length<=24->v.nodes.length+l.length<=24->rgl L3 kk (l.map ndL++m) i v=rgl L3 kk m (i+l.length) ⟨v.parents,v.nodes++l⟩
 |[],i,v,_,_,_=>by simp
 |x::l,i,v,h,h1,h2=>by
  simp only[yT]at h2
  obtain⟨a,b⟩:=h x (yJ ..)
  rw[List.map_cons,List.cons_append,rgl,tt_nd a b h1 (by omega),M1x m l (i+1) ⟨v.parents,v.nodes++[x]⟩ (fun q hq=>h q (yH _ hq)) h1 (by simp;omega)]
  rw[yT,show i+1+l.length=i+(l.length+1) by omega]
  simp
theorem Y1t{t:Topo}(h:topoOk t=true):Mi (Qm t)=some (t,true):=by
 have T:=Lj.1 h
 have hle:=T.tree.le
 have hpos:=T.tree.pos
 have hn:=T.nodes
 obtain⟨t1,t2⟩:=T.times
 unfold Mi
 have hp:W8 (Qm t) 10=some (O5 10 (Qm t)):=XW (c:=10) (by have:=QV t;omega)
 rw[hp,X1p h,bS]
 unfold VV
 rw[List.append_assoc,L1t _ _ _ _ t1 (by simp;omega) (by simp),M1x _ _ _ _ t2 (by simp;omega) (by simpa using hn)]
 have e:(⟨[0]++t.parents.drop 1,([]:List Node)++t.nodes⟩:Topo)=t:=by
  have h0:=T.tree.root
  obtain⟨P,N⟩:=t
  cases P with
  |nil=>simp at h0
  |cons a l=>simp at h0;subst h0;rfl
 simp only[rgl]
 rw[e,V1I hle hn]
 unfold Vt
 rw[Xo,Qd,h,bS]
 simp only[yL,yM,ZN,bS,Bool.false_or,bne_self_eq_false]
theorem L1P(s:Str):∃p,W4 s=some p:=by
 unfold W4 Y0
 cases hw:(decide ((1:Int)<=(s.length:Int))&&decide ((s.length:Int)<=10))with
 |false=>exact⟨_,rfl⟩
 |true =>
  simp only[yL,yM]
  have hl:1<=s.length/\s.length<=10:=by simp at hw;omega
  refine QF (fun _ (o:Option (Int×Bool))=>∃p,o=some p) (fun v:Int×Int=>((s.length:Int)-v.2).toNat) (fun v=>∃i:Nat,v.2=(i:Int)) (fun v k hI hk=>?_) _ _ ⟨0,rfl⟩ (by simp only;omega)
  obtain⟨a,b⟩:=v
  obtain⟨i,hi⟩:=hI
  simp only at hi
  subst hi
  unfold Zx
  dsimp only
  by_cases hlt:i<s.length
  .rw[show decide ((i:Int)<(s.length:Int))=true by simp;omega,yN,V3,yA hlt,bS]
   cases(decide ((s[i].toNat:Int)<48)||decide ((57:Int)<(s[i].toNat:Int)))with
   |true=>exact⟨_,rfl⟩
   |false =>
    rw[yM,J3 (n:=(i:Int)+1) (by omega)]
    exact hk _ ⟨i+1,by simp⟩ (by simp only;omega)
  .rw[show decide ((i:Int)<(s.length:Int))=false by simp;omega,yM,Xb,bS]
   cases(numText a != s)<;>exact⟨_,rfl⟩
def numG(s:Str):Int:=((W4 s).getD (0,false)).1
theorem UT{n:Int}(h:time n=true):numG (numText n)=n:=by unfold numG;rw[LC h];rfl
theorem Y01{l:List Str}(h:l.length<=1048576):YU l=some (l.map numG):=by
 unfold YU
 rw[V8 (bd:=VD) (bs:=8) (p:=fun _=>true) (f:=numG) (fun x hx i b k=>by
  obtain⟨p,hp⟩:=L1P x
  unfold VD numG
  rw[hp];rfl) (by simp;omega)]
 unfold ZU
 simp[List.filter_eq_self.2]
theorem Q0y{α:Type}(a:α)(l:List α):cutL (a::l) (some 1) none=some l:=by
 unfold cutL bhi blo
 simp only
 rw[yd (by simp;omega)]
 simp
def lnOk(s:State):Ln->Prop
 |.hd v d n=>W0 v=true/\time d=true/\time n=true
 |.dn i=>i<s.up.length/\i<=1000
 |.wt j=>U1 j=true/\s.queue.length<=1000
 |.rn x=>U1 x.job=true/\time x.t=true/\1<=x.nodes.length/\x.nodes.length<=24/\(∀n∈x.nodes,time n=true)/\s.runs.length<=1000
 |.en e=>time e.id=true/\time e.t=true/\time e.why=true/\s.ends.length<=1000
 |.ov=>True
theorem Z1z{α:Type}{l:List α}(h:l.length<=1048576):lenQ l=some ():=by unfold lenQ;rw[yd (by omega)]
theorem Z15(j:Job):(jobW j).length=7:=rfl
theorem U1Q{l:List Int}(h:∀n∈l,time n=true):(l.map numText).map numG=l:=by
 induction l with
 |nil=>rfl
 |cons a l ih=>rw[List.map_cons,List.map_cons,UT (h a (yJ ..)),ih fun n hn=>h n (yH _ hn)]
theorem Q1O{s:State}{v:Vec}{d n:Int}(h:lnOk s (.hd v d n)):J0 s (lnW (.hd v d n))=some (true,lnGo s (.hd v d n)):=by
 obtain⟨h1,h2,h3⟩:=h
 unfold J0 lnW
 have i0:idx [([115,116,97,116,101]:Str),Q4 v,numText d,numText n] 0=some [115,116,97,116,101]:=rfl
 have i1:idx [([115,116,97,116,101]:Str),Q4 v,numText d,numText n] 1=some (Q4 v):=rfl
 have j1:idx [numG (Q4 v),d,n] 1=some d:=rfl
 have j2:idx [numG (Q4 v),d,n] 2=some n:=rfl
 have e:((([([115,116,97,116,101]:Str),Q4 v,numText d,numText n].length:Nat):Int)==4)=true:=rfl
 rw[Q0y,bS,Y01 (by simp),bS]
 simp only[List.map_cons,List.map_nil,UT h2,UT h3,i0,i1,j1,j2,e,bS,beq_self_eq_true,Bool.and_self,yN,L0I h1]
 rfl
theorem O1O{s:State}{i:Nat}(h:lnOk s (.dn i))(hu:s.up.length<=1000):J0 s (lnW (.dn i))=some (true,lnGo s (.dn i)):=by
 obtain⟨h1,h2⟩:=h
 have t:time (i:Int)=true:=by unfold time;rw[yD,yO,yO];omega
 unfold J0 lnW
 have i0:idx [([100,111,119,110]:Str),numText i] 0=some [100,111,119,110]:=rfl
 have j0:idx [(i:Int)] 0=some (i:Int):=rfl
 have n1:(([100,111,119,110]:Str)==[115,116,97,116,101])=false:=rfl
 have e:((([([100,111,119,110]:Str),numText i].length:Nat):Int)==2)=true:=rfl
 have g:idx s.up (i:Int)=some (s.up[i]'h1):=by rw[V3];exact yA h1
 rw[Q0y,bS,Y01 (by simp),bS]
 simp only[List.map_cons,List.map_nil,UT t,i0,j0,e,n1,bS,beq_self_eq_true,Bool.and_self,Bool.false_and,yN,yM,Z1z (l:=s.up) (by omega),Z1z (l:=[([100,111,119,110]:Str),numText i]) (by simp),show decide ((i:Int)<(s.up.length:Int))=true by simp;omega,g]
 rfl
theorem X1O{s:State}{j:Job}(h:lnOk s (.wt j)):J0 s (lnW (.wt j))=some (true,lnGo s (.wt j)):=by
 obtain⟨h1,h2⟩:=h
 unfold J0 lnW
 have i0:idx (([119,97,105,116]:Str)::jobW j) 0=some [119,97,105,116]:=rfl
 have n1:(([119,97,105,116]:Str)==[115,116,97,116,101])=false:=rfl
 have n2:(([119,97,105,116]:Str)==[100,111,119,110])=false:=rfl
 have e:((((([119,97,105,116]:Str)::jobW j).length:Nat):Int)==8)=true:=rfl
 rw[Q0y,bS,Y01 (by rw[Z15];omega),bS]
 simp only[i0,e,n1,n2,bS,beq_self_eq_true,Bool.and_self,Bool.false_and,yN,yM,Z1n h1]
 rw[M0 (by simp;omega),bS]
 rfl
theorem V1O{s:State}{x:Run}(h:lnOk s (.rn x)):J0 s (lnW (.rn x))=some (true,lnGo s (.rn x)):=by
 obtain⟨h1,h2,h3,h4,h5,h6⟩:=h
 unfold J0 lnW
 have tk:time (x.nodes.length:Int)=true:=by unfold time;rw[yD,yO,yO];omega
 have hN:((([x.t,(x.nodes.length:Int)]++x.nodes).map numText++jobW x.job).map numG)=x.t::(x.nodes.length:Int)::(x.nodes++(jobW x.job).map numG):=by
  rw[List.map_append,U1Q (l:=[x.t,(x.nodes.length:Int)]++x.nodes) (fun n hn=>by
   rcases List.mem_append.1 hn with hn|hn
   .simp only[List.mem_cons,List.not_mem_nil,or_false]at hn
    rcases hn with rfl|rfl
    .exact h2
    .exact tk
   .exact h5 n hn)]
  simp
 have i0:idx (([114,117,110]:Str)::(([x.t,(x.nodes.length:Int)]++x.nodes).map numText++jobW x.job)) 0=some [114,117,110]:=rfl
 have j0:idx (x.t::(x.nodes.length:Int)::(x.nodes++(jobW x.job).map numG)) 0=some x.t:=rfl
 have j1:idx (x.t::(x.nodes.length:Int)::(x.nodes++(jobW x.job).map numG)) 1=some (x.nodes.length:Int):=rfl
 have n1:(([114,117,110]:Str)==[115,116,97,116,101])=false:=rfl
 have n2:(([114,117,110]:Str)==[100,111,119,110])=false:=rfl
 have n3:(([114,117,110]:Str)==[119,97,105,116])=false:=rfl
 have hlen:(([114,117,110]:Str)::(([x.t,(x.nodes.length:Int)]++x.nodes).map numText++jobW x.job)).length=10+x.nodes.length:=by
  simp[Z15];omega
 have e1:decide ((10:Int)<((([114,117,110]:Str)::(([x.t,(x.nodes.length:Int)]++x.nodes).map numText++jobW x.job)).length:Int))=true:=by rw[hlen];simp;omega
 have e2:(((([114,117,110]:Str)::(([x.t,(x.nodes.length:Int)]++x.nodes).map numText++jobW x.job)).length:Int)==w64 (10+(x.nodes.length:Int)))=true:=by rw[hlen,J3 (by omega)];simp
 have c1:cutL (x.t::(x.nodes.length:Int)::(x.nodes++(jobW x.job).map numG)) (some 2) (some (w64 (2+(x.nodes.length:Int))))=some x.nodes:=by
  rw[J3 (by omega),show(2:Int)+(x.nodes.length:Int)=((2+x.nodes.length:Nat):Int) by omega]
  have a1:(0:Int)<=((2+x.nodes.length:Nat):Int)/\((2+x.nodes.length:Nat):Int)<=((x.t::(x.nodes.length:Int)::(x.nodes++(jobW x.job).map numG)).length:Int):=by simp;omega
  have a2:(0:Int)<=2/\(2:Int)<=((2+x.nodes.length:Nat):Int):=by omega
  simp only[cutL,bhi,blo,yd a1,yd a2,yZ]
  rw[show 2+x.nodes.length=x.nodes.length+1+1 by omega]
  simp
 have c2:cutL (([114,117,110]:Str)::(([x.t,(x.nodes.length:Int)]++x.nodes).map numText++jobW x.job)) (some (w64 (3+(x.nodes.length:Int)))) none=some (jobW x.job):=by
  rw[J3 (by omega),show(3:Int)+(x.nodes.length:Int)=((3+x.nodes.length:Nat):Int) by omega]
  have a2:(0:Int)<=((3+x.nodes.length:Nat):Int)/\((3+x.nodes.length:Nat):Int)<=((([114,117,110]:Str)::(([x.t,(x.nodes.length:Int)]++x.nodes).map numText++jobW x.job)).length:Int):=by rw[hlen];omega
  simp only[cutL,bhi,blo,yd a2,List.take_length,yZ]
  rw[show 3+x.nodes.length=x.nodes.length+1+1+1 by omega]
  simp
 rw[Q0y,bS,Y01 (by simp[Z15];omega),bS,hN]
 simp only[i0,e1,e2,j0,j1,n1,n2,n3,c1,c2,bS,beq_self_eq_true,Bool.and_self,Bool.false_and,yN,yM,Z1n h1]
 rw[M0 (by simp;omega)]
 rfl
theorem W1O{s:State}{e:End}(h:lnOk s (.en e)):J0 s (lnW (.en e))=some (true,lnGo s (.en e)):=by
 obtain⟨h1,h2,h3,h4⟩:=h
 unfold J0 lnW
 have i0:idx [([101,110,100]:Str),numText e.id,numText e.t,numText e.why] 0=some [101,110,100]:=rfl
 have j0:idx [e.id,e.t,e.why] 0=some e.id:=rfl
 have j1:idx [e.id,e.t,e.why] 1=some e.t:=rfl
 have j2:idx [e.id,e.t,e.why] 2=some e.why:=rfl
 have n1:(([101,110,100]:Str)==[115,116,97,116,101])=false:=rfl
 have n2:(([101,110,100]:Str)==[100,111,119,110])=false:=rfl
 have n3:(([101,110,100]:Str)==[119,97,105,116])=false:=rfl
 have n4:(([101,110,100]:Str)==[114,117,110])=false:=rfl
 have el:((([([101,110,100]:Str),numText e.id,numText e.t,numText e.why].length:Nat):Int)==4)=true:=rfl
 rw[Q0y,bS,Y01 (by simp),bS]
 simp only[List.map_cons,List.map_nil,UT h1,UT h2,UT h3,i0,el,j0,j1,j2,n1,n2,n3,n4,bS,beq_self_eq_true,Bool.and_self,Bool.false_and,yN,yM]
 rw[M0 (by simp;omega)]
 rfl
theorem U1O(s:State):J0 s (lnW .ov)=some (true,s):=by
 unfold J0 lnW
 have i0:idx [ovL] 0=some ovL:=rfl
 have n1:(ovL==([115,116,97,116,101]:Str))=false:=rfl
 have n2:(ovL==([100,111,119,110]:Str))=false:=rfl
 have n3:(ovL==([119,97,105,116]:Str))=false:=rfl
 have n4:(ovL==([114,117,110]:Str))=false:=rfl
 have n5:(ovL==([101,110,100]:Str))=false:=rfl
 have n6:(ovL==([111,118,101,114]:Str))=true:=rfl
 have el:((([ovL].length:Nat):Int)==1)=true:=rfl
 rw[Q0y,bS,Y01 (by simp),bS]
 simp only[i0,el,n1,n2,n3,n4,n5,n6,bS,Bool.and_self,Bool.false_and,yN,yM]
 rfl
theorem U1v{s:State}{l:Ln}(h:lnOk s l)(hu:s.up.length<=1000):J0 s (lnW l)=some (true,lnGo s l):=by
 cases l with
 |hd v d n=>exact Q1O h
 |dn i=>exact O1O h hu
 |wt j=>exact X1O h
 |rn x=>exact V1O h
 |en e=>exact W1O h
 |ov=>exact U1O s
theorem VR(s w:Str):Xa s w=some (decide (w.length<=s.length)&&(s.take w.length==w)):=by
 unfold Xa
 by_cases h:w.length<=s.length
 .rw[show decide ((w.length:Int)<=(s.length:Int))=true by simp;omega,yN,L0J h,bS,decide_eq_true h]
 .rw[show decide ((w.length:Int)<=(s.length:Int))=false by simp;omega,yM,decide_eq_false h]
  rfl
def M1Q(l:Str):Prop:=Xa l [115,119,105,116,99,104,32]=some true\/(Xa l [115,119,105,116,99,104,32]=some false/\Xa l [110,111,100,101,32]=some true)
theorem O1M(p:Int):M1Q (swL p):=.inl (by rw[VR];simp[swL])
theorem Y1Q(x:Node):M1Q (ndL x):=.inr ⟨by rw[VR];simp[ndL],by rw[VR];simp[ndL]⟩
theorem Y1K(v:Vec)(d n:Int):Xa (hdL v d n) [115,119,105,116,99,104,32]=some false/\Xa (hdL v d n) [110,111,100,101,32]=some false:=⟨by rw[VR];simp[hdL],by rw[VR];simp[hdL]⟩
def V1U(s1:Str)(y2:List Str)(v3:Int×Str):Option (State×Bool):=(Mi v3.2).bind fun y12=>(bif (!y12.2)then some default else(idx y2 (w64 ((y2.length:Int)-1)))).bind fun e13=>bif ((!y12.2)||(e13 != ([]:Str)))then(some ((State.mk (Topo.mk [] []) [] (Vec.mk 0 0 0) 0 0 [] [] []),false))else(rgl Mo (Li s1 y2 v3 y12) y12.1.nodes 0 [])
theorem L0Q{s1:Str}{v:Vec}{d n:Int}{R:List Str}:∀(B P:List Str) (fuel:Nat),(∀l∈B,M1Q l)->B.length<fuel->(P++B).length<=1000000->((P++B).flatMap nlS).length<=1000000000 ->
  whl (Jb s1 (P++B++hdL v d n::R)) fuel ((P.length:Int),P.flatMap nlS)=V1U s1 (P++B++hdL v d n::R) (((P++B).length:Int),(P++B).flatMap nlS)
 |[],P,fuel,_,hf,hl,ht=>by
  obtain⟨f,rfl⟩:∃f,fuel=f+1:=⟨fuel-1,by simp at hf;omega⟩
  rw[List.append_nil,whl,Jb]
  have hi:decide ((P.length:Int)<((P++hdL v d n::R).length:Int))=true:=by simp;omega
  have hx:idx (P++hdL v d n::R) (P.length:Int)=some (hdL v d n):=by rw[V3];simp
  simp only[hi,yN,hx,bS,(Y1K v d n).1,(Y1K v d n).2,yM,Bool.or_self,Bool.and_false]
  rfl
 |b::B,P,fuel,h,hf,hl,ht=>by
  simp only[yT]at hf
  obtain⟨f,rfl⟩:∃f,fuel=f+1:=⟨fuel-1,by omega⟩
  have e:P++b::B=(P++[b])++B:=by simp
  have hi:decide ((P.length:Int)<((P++b::B++hdL v d n::R).length:Int))=true:=by simp;omega
  have hx:idx (P++b::B++hdL v d n::R) (P.length:Int)=some b:=by rw[V3];simp
  have hb:b.length+(P.flatMap nlS).length+1<=1000000000:=by
   rw[e]at ht
   simp only[List.flatMap_append,ya,List.flatMap_nil,yU,nlS,yT,List.length_nil]at ht
   omega
  have c1:catS (P.flatMap nlS) b=some (P.flatMap nlS++b):=O3 (by omega)
  have c2:catS (P.flatMap nlS++b) [10]=some (P.flatMap nlS++b++[10]):=O3 (by simp only[yU,yT,List.length_nil];omega)
  have c3:w64 ((P.length:Int)+1)=((P++[b]).length:Int):=by rw[J3 (by simp at hl;omega)];simp
  have c4:P.flatMap nlS++b++[10]=(P++[b]).flatMap nlS:=by simp[nlS]
  rw[whl,Jb]
  rcases h b (yJ ..)with h1|⟨h1,h2⟩
  .simp only[hi,yN,hx,bS,h1,Bool.true_and,Bool.true_or,c1,c2,c3,c4]
   rw[e]
   exact L0Q B (P++[b]) f (fun l hl=>h l (yH _ hl)) (by omega) (by rw[← e];exact hl) (by rw[← e];exact ht)
  .simp only[hi,yN,yM,hx,bS,h1,h2,Bool.true_and,Bool.false_or,c1,c2,c3,c4]
   rw[e]
   exact L0Q B (P++[b]) f (fun l hl=>h l (yH _ hl)) (by omega) (by rw[← e];exact hl) (by rw[← e];exact ht)
def X0U:State->List Ln->Prop
 |_,[]=>True
 |s,l::B=>(lnOk s l/\s.up.length<=1000)/\X0U (lnGo s l) B
theorem Z0c:∀(A B:List Ln) (s:State),X0U s A->X0U (A.foldl lnGo s) B->X0U s (A++B)
 |[],_,_,_,h=>h
 |_::A,B,_,h1,h2=>⟨h1.1,Z0c A B _ h1.2 h2⟩
theorem J1Y:∀(D:List Nat) (s:State),s.up.length<=1000->(∀d∈D,d<s.up.length)->X0U s (D.map Ln.dn)
 |[],_,_,_=>trivial
 |d::D,s,h,hd=>by
  have:=hd d (yJ ..)
  exact⟨⟨⟨this,by omega⟩,h⟩,J1Y D _ (by simpa[lnGo]using h) fun x hx=>by simpa[lnGo]using hd x (yH _ hx)⟩
theorem O1Y:∀(D:List Job) (s:State),s.up.length<=1000->s.queue.length+D.length<=1000->(∀j∈D,U1 j=true)->X0U s (D.map Ln.wt)
 |[],_,_,_,_=>trivial
 |d::D,s,h,hl,hd=>⟨⟨⟨hd d (yJ ..),by omega⟩,h⟩,O1Y D _ h (by simp[lnGo]at hl ⊢;omega) fun x hx=>hd x (yH _ hx)⟩
theorem M1Y:∀(D:List Run) (s:State),s.up.length<=1000->s.runs.length+D.length<=1000->(∀x∈D,U1 x.job=true/\time x.t=true/\1<=x.nodes.length/\x.nodes.length<=24/\(∀n∈x.nodes,time n=true))->X0U s (D.map Ln.rn)
 |[],_,_,_,_=>trivial
 |d::D,s,h,hl,hd=>by
  obtain⟨a,b,c,e,f⟩:=hd d (yJ ..)
  exact⟨⟨⟨a,b,c,e,f,by omega⟩,h⟩,M1Y D _ h (by simp[lnGo]at hl ⊢;omega) fun x hx=>hd x (yH _ hx)⟩
theorem L1Y:∀(D:List End) (s:State),s.up.length<=1000->s.ends.length+D.length<=1000->(∀e∈D,time e.id=true/\time e.t=true/\time e.why=true)->X0U s (D.map Ln.en)
 |[],_,_,_,_=>trivial
 |d::D,s,h,hl,hd=>by
  obtain⟨a,b,c⟩:=hd d (yJ ..)
  exact⟨⟨⟨a,b,c,by omega⟩,h⟩,L1Y D _ h (by simp[lnGo]at hl ⊢;omega) fun x hx=>hd x (yH _ hx)⟩
theorem Z1F{s:State}(h:StateP s):X0U (st0 s.topo) (Y09 s):=by
 have hn:=h.topo.nodes
 have hu:=h.up
 obtain⟨j1,j2⟩:=h.jobs
 have hnow:=Uo.1 h.now
 have hU:∀(D:List Nat) (u:List Bool),(D.foldl (fun u i=>u.set i false) u).length=u.length:=by
  intro D
  induction D with
  |nil=>intro u;rfl
  |cons d D ih=>intro u;rw[List.foldl_cons,ih];simp
 unfold Y09
 refine⟨⟨⟨h.lic,Uo.2 (by have:=h.depth;omega),h.now⟩,by simp[st0];omega⟩,?_⟩
 refine Z0c _ _ _ (J1Y _ _ (by simp[lnGo,st0];omega) fun d hd=>?_) ?_
 .have:=O1e s.up 0 d hd
  simp[lnGo,st0];omega
 rw[X1B]
 refine Z0c _ _ _ (O1Y _ _ (by simp[lnGo,st0,hU];omega) (by simp[lnGo,st0];omega) j2) ?_
 rw[J1A]
 refine Z0c _ _ _ (M1Y _ _ (by simp[lnGo,st0,hU];omega) (by simp[lnGo,st0];omega) fun x hx=>?_) ?_
 .obtain⟨r1,r2,r3,r4,r5⟩:=h.runs.job x hx
  have hj:=(Qn.1 r1).2.2.1
  unfold M12 at r5
  simp only[yD]at r5
  refine⟨r1,r5.1.1.1,by omega,by omega,fun n hn2=>?_⟩
  have:=(Y8.1 r3).2 n hn2
  exact Uo.2 (by omega)
 rw[Z1B]
 refine Z0c _ _ _ (L1Y _ _ (by simp[lnGo,st0,hU];omega) (by have:=h.ends;simp[lnGo,st0];omega) fun e he=>?_) ?_
 .have:=h.fin e he
  unfold endOk at this
  simp only[yD,yO]at this
  exact⟨Uo.2 (by omega),Uo.2 (by omega),Uo.2 (by omega)⟩
 .exact⟨⟨trivial,by rw[Y1B];simp[lnGo,st0,hU];omega⟩,trivial⟩
def U1L(s1:Str)(st:State):Option (State×Bool):=(bif (s1==([]:Str))then some default else(Jd st)).bind fun w22=>bif ((s1==([]:Str))||(w22 != s1))then(some ((State.mk (Topo.mk [] []) [] (Vec.mk 0 0 0) 0 0 [] [] []),false))else((Yo st).bind fun y23=>some (y23,true))
theorem X1b{s1:Str}:∀(B:List Ln) (P:List Str) (st:State) (fuel:Nat),X0U st B->(∀l∈B,(lnS l).length<=1000000)->B.length<fuel->(P++B.map lnS).length<=1000000 ->
  whl (Lb s1 (P++B.map lnS++[[]])) fuel (st,(P.length:Int))=U1L s1 (B.foldl lnGo st)
 |[],P,st,fuel,_,_,hf,hl=>by
  obtain⟨f,rfl⟩:∃f,fuel=f+1:=⟨fuel-1,by simp at hf;omega⟩
  rw[whl,Lb]
  simp only[List.map_nil,List.append_nil]at hl ⊢
  rw[show w64 (((P++[([]:Str)]).length:Int)-1)=(P.length:Int) by rw[J3 (by simp;omega)];simp]
  simp only[Int.lt_irrefl,decide_false,yM]
  rfl
 |l::B,P,st,fuel,ho,hs,hf,hl=>by
  simp only[yT]at hf
  obtain⟨f,rfl⟩:∃f,fuel=f+1:=⟨fuel-1,by omega⟩
  have e:P++(l::B).map lnS=(P++[lnS l])++B.map lnS:=by simp
  have hx:idx (P++(l::B).map lnS++[[]]) (P.length:Int)=some (lnS l):=by rw[V3];simp
  have hll:=hs l (yJ ..)
  have hp:W8 (lnS l) 32=some (O5 32 (lnS l)):=XW (c:=32) (by omega)
  have hw:w64 (((P++(l::B).map lnS++[([]:Str)]).length:Int)-1)=((P++(l::B).map lnS).length:Int):=by rw[J3 (by rw[yU];simp only[List.length_singleton];omega),yU];simp only[List.length_singleton];omega
  have hi:decide ((P.length:Int)<((P++(l::B).map lnS).length:Int))=true:=by simp;omega
  have c3:w64 ((P.length:Int)+1)=((P++[lnS l]).length:Int):=by rw[J3 (by simp at hl;omega)];simp
  rw[whl,Lb]
  simp only[hw,hi,yN,hx,bS,hp,M1y,U1v ho.1.1 ho.1.2,yL,yM,c3]
  rw[e]
  exact X1b B (P++[lnS l]) (lnGo st l) f ho.2 (fun x hx=>hs x (yH _ hx)) (by omega) (by rw[← e];exact hl)
theorem W0A{l:Str}:∀{L:List Str},l∈L->l.length+1<=(L.flatMap nlS).length
 |[],h=>by cases h
 |a::L,h=>by
  rw[ya,yU]
  rcases yX h with rfl|h
  .simp[nlS]
  .have:=W0A h;omega
theorem Y0R:∀(L:List Str),L.length<=(L.flatMap nlS).length
 |[]=>by simp
 |a::L=>by
  have:=Y0R L
  rw[ya,yU,yT]
  simp only[nlS,yU,List.length_singleton];omega
theorem W1t{s:State}(h:stateOk s=true):Wj (M9 s)=some (s,true):=by
 have hP:=Qz h
 have hT:topoOk s.topo=true:=Lj.2 hP.topo
 have hsl:=L0o s
 have hlines:=M09 h
 have hq:=hP.jobs.1
 unfold Wj
 have hp:W8 (M9 s) 10=some (O5 10 (M9 s)):=XW (c:=10) (by omega)
 rw[hp,L1g h,bS]
 have hcnt:=Y0R (VV s.topo++(Y09 s).map lnS)
 rw[← hlines]at hcnt
 have hcons:∃R,(Y09 s).map lnS++[[]]=hdL s.lic s.depth s.now::R:=⟨_,rfl⟩
 obtain⟨R,hR⟩:=hcons
 have hY:VV s.topo++(Y09 s).map lnS++[[]]=[]++VV s.topo++hdL s.lic s.depth s.now::R:=by rw[List.append_assoc,hR];rfl
 have htl:=LX hT
 have htlen:=QV s.topo
 have hcl:(VV s.topo).length<=1000000:=by rw[yU]at hcnt;omega
 have L1:=L0Q (s1:=M9 s) (v:=s.lic) (d:=s.depth) (n:=s.now) (R:=R) (VV s.topo) [] 9223372036854775807 (fun l hl=>by
  unfold VV at hl
  rcases List.mem_append.1 hl with hl|hl
  .obtain⟨x,_,rfl⟩:=yY hl;exact O1M x
  .obtain⟨x,_,rfl⟩:=yY hl;exact Y1Q x) (by omega) (by simpa using hcl) (by rw[List.nil_append,← htl];omega)
 rw[hY]
 refine Eq.trans L1 ?_
 rw[← hY,List.nil_append,← htl]
 unfold V1U
 dsimp only
 rw[Y1t hT,bS]
 have hlast:idx (VV s.topo++(Y09 s).map lnS++[([]:Str)]) (w64 (((VV s.topo++(Y09 s).map lnS++[([]:Str)]).length:Int)-1))=some []:=by
  have hl:(VV s.topo++(Y09 s).map lnS++[([]:Str)]).length=(VV s.topo++(Y09 s).map lnS).length+1:=by rw[yU,List.length_singleton]
  rw[hl,J3 (by omega),show(((VV s.topo++(Y09 s).map lnS).length+1:Nat):Int)-1=((VV s.topo++(Y09 s).map lnS).length:Int) by omega,V3]
  simp
 simp only[yL,yM,hlast,bS,Bool.false_or,bne_self_eq_false]
 rw[V8 (bd:=Mo) (bs:=1) (p:=fun _=>true) (f:=fun _=>true) (fun x hx i b k=>rfl) (by have:=hP.topo.nodes;simp;omega)]
 unfold Li
 have hrep:(([]:List Bool)++(s.topo.nodes.filter fun _=>true).map fun _=>true)=List.replicate s.topo.nodes.length true:=by rw[List.filter_eq_self.2 fun _ _=>rfl,List.nil_append,List.map_const']
 rw[hrep]
 have L2:=X1b (s1:=M9 s) (Y09 s) (VV s.topo) (st0 s.topo) 9223372036854775807 (Z1F hP) (fun l hl=>by
  have:=W0A (L:=VV s.topo++(Y09 s).map lnS) (l:=lnS l) (List.mem_append.2 (.inr (List.mem_map_of_mem hl)))
  rw[← hlines]at this;omega) (by rw[yU,List.length_map]at hcnt;omega) (by omega)
 refine Eq.trans L2 ?_
 rw[U1p hP.up]
 unfold U1L
 have hne:(M9 s==([]:Str))=false:=by rw[M0o,h];rfl
 rw[hne,yM,UI (by omega),bS,bne_self_eq_false,Bool.or_self,yM,V1d hP.small]
 rfl
theorem U1E:Wj []=some (State.mk (Topo.mk [] []) [] (Vec.mk 0 0 0) 0 0 [] [] [],false):=by
 unfold Wj
 have hp:W8 [] 10=some (O5 10 []):=XW (c:=10) (by simp)
 rw[hp,bS]
 obtain⟨f,hf⟩:∃f,9223372036854775807=f+1:=⟨9223372036854775806,rfl⟩
 rw[hf,whl,Jb]
 have i0:idx (O5 10 []) 0=some []:=rfl
 have q1:Xa [] [115,119,105,116,99,104,32]=some false:=by rw[VR];rfl
 have q2:Xa [] [110,111,100,101,32]=some false:=by rw[VR];rfl
 have e:decide ((0:Int)<((O5 10 []).length:Int))=true:=rfl
 simp only[e,i0,q1,q2,yN,yM,bS,Bool.or_self,Bool.and_false]
 have ht:Mi []=bif topoOk ⟨[0],[]⟩then some (⟨[0],[]⟩,true)else some (⟨[],[]⟩,false):=by
  unfold Mi
  rw[hp,bS,show O5 10 []=[[]] from rfl,rgl,V1I (by simp) (by simp),rgl]
  unfold Vt
  rw[Xo,Qd,bS,ZN]
  unfold Qm
  cases ho:topoOk ⟨[0],[]⟩with
  |false=>rfl
  |true=>rfl
 rw[ht]
 cases topoOk ⟨[0],[]⟩with
 |false=>rfl
 |true =>
  rw[yN,bS]
  have i1:idx (O5 10 []) (w64 (((O5 10 []).length:Int)-1))=some []:=by rw[show(((O5 10 []).length:Nat):Int)-1=0 from rfl,J3 (by omega)];rfl
  simp only[yL,yM,i1,bS,bne_self_eq_false,Bool.or_self,rgl]
  unfold Li
  rw[hf,whl,Lb,show w64 (((O5 10 []).length:Int)-1)=0 by rw[show(((O5 10 []).length:Nat):Int)-1=0 from rfl,J3 (by omega)]]
  rfl
set_option maxRecDepth 20000
noncomputable def Z0W:L :=
 lf Tryz.prog MQ [] [] [] [] [(12,23)] [] []
def X03(code1:List Int):Option Bool :=
 bif (decide (1048576<(code1.length:Int)))then(some true)else((Vi code1).bind fun y3=>(Jd y3).bind fun w4=>(Q9 y3).bind fun b5=>bif (!((w4 != ([]:Str))==b5))then(some false)else((Wj w4).bind fun y6=>bif (!(y6.2==(w4 != ([]:Str))))then(some false)else(bif (!y6.2)then((Jq y3).bind fun n7=>some (n7==(-1)))else((Zv y3 y6.1).bind fun b8=>(bif b8 then(Jq y3)else some default).bind fun n9=>(bif b8 then(Jq y6.1)else some default).bind fun n10=>(bif (b8&&(n9==n10))then(Jq y3)else some default).bind fun n11=>(bif ((b8&&(n9==n10))&&(decide (0<=n11)))then(VL y3 y6.1)else some default).bind fun y12=>(bif ((b8&&(n9==n10))&&(decide (0<=n11)))then(lenQ y12)else some default).bind fun _=>some (((b8&&(n9==n10))&&(decide (0<=n11)))&&((y12.length:Int)==0))))))
theorem V0U{code1:List Int}{r:Bool}(H:X03 code1=some r):Snd Tryz.prog MQ [rV 1 (code1.map eB)] (.bool r) []:=by
 refine wS Z0W [.t 2] ?_
 unfold X03 at H
 refine wG [.u 8 (.ln _ _ fun _=>lm code1 eB)] fun q2=>?_
 refine O0 H (fun H=>?_) fun H=>?_
 .obtain rfl:=sI H
  exact wP (wE [(2,.d)])
 .obtain⟨y3,h3,H⟩:=bB H
  obtain⟨w4,h4,H⟩:=bB H
  obtain⟨b5,h5,H⟩:=bB H
  refine wG [.c 11 (Q0b h3),.u 13 (.call _ _ _ _ _ (AEs.of (xs:=[.agg [rV 1 (y3.topo.parents.map eI),rV 4 (y3.topo.nodes.map V1),rV 1 (y3.up.map eBo),iV y3.lic.a,iV y3.lic.b,iV y3.lic.c,iV y3.depth,iV y3.now,rV 11 (y3.queue.map eJob),rV 13 (y3.runs.map (X1 .nw)),rV 3 (y3.ends.map eEnd)]]) (by simp)) (fun _=>VI h4)),.u 17 (.call _ _ _ _ _ (AEs.of (xs:=[.agg [rV 1 (y3.topo.parents.map eI),rV 4 (y3.topo.nodes.map V1),rV 1 (y3.up.map eBo),iV y3.lic.a,iV y3.lic.b,iV y3.lic.c,iV y3.depth,iV y3.now,rV 11 (y3.queue.map eJob),rV 13 (y3.runs.map (X1 .nw)),rV 3 (y3.ends.map eEnd)]]) (by simp)) (fun _=>Zb h5))] fun _=>?_
  refine O0 H (fun H=>?_) fun H=>?_
  .obtain rfl:=sI H
   exact wP (wE [(2,.d)])
  .obtain⟨y6,h6,H⟩:=bB H
   refine wG [.c 21 (W0x h6)] fun _=>?_
   refine O0 H (fun H=>?_) fun H=>?_
   .obtain rfl:=sI H
    exact wP (wE [(2,.d)])
   .refine wP ?_
    refine O0 H (fun H=>?_) fun H=>?_
    .obtain⟨n7,h7,H⟩:=bB H
     refine wG [.u 31 (.call _ _ _ _ _ (AEs.of (xs:=[.agg [rV 1 (y3.topo.parents.map eI),rV 4 (y3.topo.nodes.map V1),rV 1 (y3.up.map eBo),iV y3.lic.a,iV y3.lic.b,iV y3.lic.c,iV y3.depth,iV y3.now,rV 11 (y3.queue.map eJob),rV 13 (y3.runs.map (X1 .nw)),rV 3 (y3.ends.map eEnd)]]) (by simp)) (fun _=>VK h7))] fun _=>?_
     replace H:=sI H;subst H
     exact wE [(2,.d)]
    .obtain⟨b8,h8,H⟩:=bB H
     obtain⟨n9,h9,H⟩:=bB H
     obtain⟨n10,h10,H⟩:=bB H
     obtain⟨n11,h11,H⟩:=bB H
     obtain⟨y12,h12,H⟩:=bB H
     obtain⟨u13,h13,H⟩:=bB H
     refine wG [.u 35 (.call _ _ _ _ _ (AEs.of (xs:=[.agg [rV 1 (y3.topo.parents.map eI),rV 4 (y3.topo.nodes.map V1),rV 1 (y3.up.map eBo),iV y3.lic.a,iV y3.lic.b,iV y3.lic.c,iV y3.depth,iV y3.now,rV 11 (y3.queue.map eJob),rV 13 (y3.runs.map (X1 .nw)),rV 3 (y3.ends.map eEnd)],.agg [rV 1 (y6.1.topo.parents.map eI),rV 4 (y6.1.topo.nodes.map V1),rV 1 (y6.1.up.map eBo),iV y6.1.lic.a,iV y6.1.lic.b,iV y6.1.lic.c,iV y6.1.depth,iV y6.1.now,rV 11 (y6.1.queue.map eJob),rV 13 (y6.1.runs.map (X1 .nw)),rV 3 (y6.1.ends.map eEnd)]]) (by simp)) (fun _=>O0x h8)),.g 38 [(_,true)] (.call _ _ _ _ _ (AEs.of (xs:=[.agg [rV 1 (y3.topo.parents.map eI),rV 4 (y3.topo.nodes.map V1),rV 1 (y3.up.map eBo),iV y3.lic.a,iV y3.lic.b,iV y3.lic.c,iV y3.depth,iV y3.now,rV 11 (y3.queue.map eJob),rV 13 (y3.runs.map (X1 .nw)),rV 3 (y3.ends.map eEnd)]]) (by simp)) (fun q=>VK (bT q.1 h9))),.g 40 [(_,true)] (.call _ _ _ _ _ (AEs.of (xs:=[.agg [rV 1 (y6.1.topo.parents.map eI),rV 4 (y6.1.topo.nodes.map V1),rV 1 (y6.1.up.map eBo),iV y6.1.lic.a,iV y6.1.lic.b,iV y6.1.lic.c,iV y6.1.depth,iV y6.1.now,rV 11 (y6.1.queue.map eJob),rV 13 (y6.1.runs.map (X1 .nw)),rV 3 (y6.1.ends.map eEnd)]]) (by simp)) (fun q=>VK (bT q.1 h10))),.g 45 [(_,true)] (.call _ _ _ _ _ (AEs.of (xs:=[.agg [rV 1 (y3.topo.parents.map eI),rV 4 (y3.topo.nodes.map V1),rV 1 (y3.up.map eBo),iV y3.lic.a,iV y3.lic.b,iV y3.lic.c,iV y3.depth,iV y3.now,rV 11 (y3.queue.map eJob),rV 13 (y3.runs.map (X1 .nw)),rV 3 (y3.ends.map eEnd)]]) (by simp)) (fun q=>VK (bT q.1 h11))),.g 51 [(_,true)] (.call _ _ _ _ _ (AEs.of (xs:=[.agg [rV 1 (y3.topo.parents.map eI),rV 4 (y3.topo.nodes.map V1),rV 1 (y3.up.map eBo),iV y3.lic.a,iV y3.lic.b,iV y3.lic.c,iV y3.depth,iV y3.now,rV 11 (y3.queue.map eJob),rV 13 (y3.runs.map (X1 .nw)),rV 3 (y3.ends.map eEnd)],.agg [rV 1 (y6.1.topo.parents.map eI),rV 4 (y6.1.topo.nodes.map V1),rV 1 (y6.1.up.map eBo),iV y6.1.lic.a,iV y6.1.lic.b,iV y6.1.lic.c,iV y6.1.depth,iV y6.1.now,rV 11 (y6.1.queue.map eJob),rV 13 (y6.1.runs.map (X1 .nw)),rV 3 (y6.1.ends.map eEnd)]]) (by simp)) (fun q=>O0Q (bT q.1 h12))),.g 52 [(_,true)] (.le _ _ (fun q=>lm y12 eS) (fun q=>OT (bT q.1 h13)))] fun _=>?_
     replace H:=sI H;subst H
     exact wE [(2,.d)]
end
theorem Y0h{α:Type}{bd:α->Nat->Unit->(Unit->Option Bool)->Option Bool}{kk:Unit->Option Bool}{l:List α}(h:∀(i:Nat) x,l[i]?=some x->∀k,bd x i () k=k ())(hk:kk ()=some true):rgl bd kk l 0 ()=some true :=
 Mc (fun _ _=>True) (fun o=>o=some true) (fun i x b k hx _ hkk=>by rw[h i x hx];exact hkk () trivial) (fun _ _=>hk) trivial
theorem L0p{α β γ:Type}{bd:α->Nat->β->(β->Option γ)->Option γ}{kk:β->Option γ}{l:List α}{v:β}(h:∀(i:Nat) x,l[i]?=some x->∀k,bd x i v k=k v):rgl bd kk l 0 v=kk v :=
 Mc (fun _ b=>b=v) (fun o=>o=kk v) (fun i x b k hx hb hkk=>by subst hb;rw[h i x hx];exact hkk _ rfl) (fun b hb=>by rw[hb]) rfl
theorem L1a(l:List Int):U9 l l=some true:=by
 unfold U9
 rw[bne_self_eq_false,yM]
 exact Y0h (fun i x hx k=>by unfold Xl;rw[V3,hx,bS];simp) rfl
theorem M1p(l:List Node):U4 l l=some true:=by
 unfold U4
 rw[bne_self_eq_false,yM]
 exact Y0h (fun i x hx k=>by unfold X7;rw[V3,hx,bS];simp) rfl
theorem L1p(l:List Bool):L9 l l=some true:=by
 unfold L9
 rw[bne_self_eq_false,yM]
 exact Y0h (fun i x hx k=>by unfold Zh;rw[V3,hx,bS];simp) rfl
theorem U1u(l:List Job):Y5 l l=some true:=by
 unfold Y5
 rw[bne_self_eq_false,yM]
 exact Y0h (fun i x hx k=>by unfold M8;rw[V3,hx,bS];simp) rfl
theorem Q1u(l:List End):X5 l l=some true:=by
 unfold X5
 rw[bne_self_eq_false,yM]
 exact Y0h (fun i x hx k=>by unfold L8;rw[V3,hx,bS];simp) rfl
theorem W1E(x:Run):ZL x x=some true:=by
 unfold ZL
 simp only[beq_self_eq_true,Bool.and_self,yN,L1a,bS]
theorem V1u(l:List Run):Y1 l l=some true:=by
 unfold Y1
 rw[bne_self_eq_false,yM]
 exact Y0h (fun i x hx k=>by unfold J1;rw[V3,hx,bS,W1E];simp) rfl
theorem M1a(t:Topo):Ls t t=some true:=by
 unfold Ls
 rw[L1a,bS,yN,M1p,bS]
 rfl
theorem O1p{s:State}(h:stateOk s=true)(hs:s.queue.length+s.runs.length<=1048576):Zv s s=some true:=by
 unfold Zv Jw
 simp only[(Qh hs).2,h,bS,yN,Bool.and_self,M1a,L1p,U1u,V1u,Q1u,beq_self_eq_true]
theorem Q1L{l:List Job}{id:Int}(h:∃y∈l,y.id=id):∃r,YR l id=some r/\decide (r<0)=false:=by
 have key:∃r,M1 l id=some r/\decide (r<0)=false:=by
  unfold M1
  refine Mc (fun i (_:Unit)=>∀y∈l.take i,(y.id==id)=false) (fun o=>∃r:Int,o=some r/\decide (r<0)=false) (fun i x b k hx hI hk=>?_) (fun b hI=>?_) (by simp)
  .unfold M3 YL
   cases hq:(x.id==id)with
   |true=>exact⟨i,rfl,by simp⟩
   |false =>
    refine hk () fun y hy=>?_
    obtain⟨hi,rfl⟩:=yB hx
    rw[List.take_succ_eq_append_getElem hi]at hy
    rcases List.mem_append.1 hy with hy|hy
    .exact hI y hy
    .rw[List.mem_singleton.1 hy];exact hq
  .rw[List.take_length]at hI
   obtain⟨y,hy,e⟩:=h
   have:=hI y hy
   rw[e]at this
   simp at this
 obtain⟨r,h1,h2⟩:=key
 exact⟨r,by unfold YR;rw[h1];rfl,h2⟩
theorem Q1x{l:List Job}{x:Run}(h:∀y∈l,y.id≠x.job.id):W1 l x=some false:=by
 have key:O1 l x=some (-1):=by
  unfold O1
  rw[L0p fun i y hy k=>by
   unfold Q3 Uv
   rw[show(y.id==x.job.id)=false from beq_eq_false_iff_ne.2 (h y (yE hy)),yM]]
  rfl
 unfold W1
 rw[key,bS]
 rfl
theorem Q1f{s:State}(h:stateOk s=true)(hs:s.queue.length+s.runs.length<=1048576):VL s s=some []:=by
 have hP:=Qz h
 have hall:Oa s=some (allJobs s):=by rw[M01,Mz hs]
 unfold VL
 simp only[(Qh hs).2,h,bS,yL,Bool.or_self,yM,M1a,bne_self_eq_false]
 unfold Ol
 simp only[beq_self_eq_true,Bool.and_self,yL,yM]
 unfold Ml
 rw[L0p fun i x hx k=>by
  unfold VO
  rw[V3,hx]
  cases x<;>rfl]
 unfold ZO
 rw[hall,bS,L0p fun i x hx k=>by
  obtain⟨r,r1,r2⟩:=Q1L (l:=allJobs s) (id:=x.id) ⟨x,yE hx,rfl⟩
  unfold XO
  rw[hall,bS,r1,bS,r2,yM]]
 unfold JN
 rw[hall,bS,L0p fun i x hx k=>by
  obtain⟨r,r1,r2⟩:=Q1L (l:=allJobs s) (id:=x.id) ⟨x,yE hx,rfl⟩
  unfold YO
  rw[hall,bS,r1,bS,r2,yM]]
 unfold LN
 rw[L0p fun i x hx k=>by
  unfold WI
  rw[Q1x fun y hy e=>by
   have hn:=(Ui hP.queue).2.2
   unfold allJobs at hn
   rw[List.map_append,List.nodup_append]at hn
   exact hn.2.2 y.id (List.mem_map_of_mem hy) x.job.id (List.mem_map_of_mem (List.mem_map_of_mem (yE hx))) e,bS,yM]]
 rfl
theorem Q1i(code:List Int):X03 code=some true:=by
 unfold X03
 by_cases hl:1048576<code.length
 .rw[show decide ((1048576:Int)<(code.length:Int))=true by simp;omega];rfl
 rw[show decide ((1048576:Int)<(code.length:Int))=false by simp;omega,yM]
 obtain⟨s,e,hs⟩:=U0y (bs:=code) (by omega)
 have hj:s.queue.length+s.runs.length<=1048576:=by have:=hs.jobs;omega
 rw[e,bS,UI hj,bS,(Qh hj).1,bS]
 have hne:(M9 s != ([]:Str))=stateOk s:=by rw[bne,M0o,Bool.not_not]
 rw[hne,beq_self_eq_true,yL,yM]
 obtain⟨r,r1,r2,r3⟩:=W1i hj
 cases h:stateOk s with
 |false =>
  have ht:M9 s=[]:=by unfold M9;rw[h];rfl
  rw[ht,U1E,bS]
  simp only[Bool.not_false,yN,beq_self_eq_true,yL,yM,r1,bS,r3 h]
 |true =>
  rw[W1t h,bS]
  have h0:=r2 h
  simp only[beq_self_eq_true,yL,yM,yN,O1p h hj,r1,bS,Bool.true_and,Q1f h hj,show decide (0<=r)=true by simpa using h0]
  rfl
theorem W1H{a:AV}(h:(Ty.sl (.int .u8)).okV a):∃l:List Int,AV.wkA (fun _=>False) a (.sl .rd 1 (l.map eB)):=by
 simp only[Ty.okV,Ty.ok]at h
 rcases h with h|⟨es,h,_,h2⟩
 .exact⟨[],by rw[(List.cons.inj h).1];simp⟩
 .obtain⟨l,rfl⟩:=W1Q eB fun x hx=>by
   obtain⟨_,h3,n,h4,_⟩:=h2 x hx
   simp only[Ty.isSt,yG,yc]at h3
   rw[W1f h3]at h4
   exact⟨n,(List.cons.inj h4).1⟩
  exact⟨l,by rw[(List.cons.inj h).1];simp[Ty.size]⟩
theorem M1D(xs:List AV)(h:okVs [.sl (.int .u8)] xs):Snd Tryz.prog MQ xs (.bool true) []:=by
 obtain⟨a,_,rfl,ha,rfl⟩:=h
 obtain⟨l,ha⟩:=W1H ha
 exact(V0U (Q1i l)).wk ⟨ha,trivial⟩
end Go.Proofs.YtpgaganbacipnaaGreat
