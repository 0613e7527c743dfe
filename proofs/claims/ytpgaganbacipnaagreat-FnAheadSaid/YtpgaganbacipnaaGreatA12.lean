/-
  Lemmas, part 12.
-/
import Derived.Test.YtpgaganbacipnaaGreatA11
namespace Go.Proofs.YtpgaganbacipnaaGreat
open Go Go.RowKit Eng
section
set_option maxRecDepth 20000
noncomputable def X0v:L :=
 lf Tryz.prog Ob [] [] [] [] [(2,13),(3,10),(4,14)] [] [31]
def W0t:List Rv:=[.t 2]
theorem Q0x:Ms Tryz.prog Ob 1 X0v W0t=true:=by kernel_rfl
def L9(c1:l01Cur)(v6:Int×Int):Option (Int×l01Cur) :=
 some (v6.2,(l01Cur.mk c1.b v6.1 (w64 ((w64 (c1.h*6364136223846793005))+1442695040888963407))))
def O8(c1:l01Cur):Option (Int×l01Cur) :=
 (shrI .i64 (w64 ((w64 (c1.h*6364136223846793005))+1442695040888963407)) 33).bind fun n2=>(shrI .i64 (w64 ((w64 (c1.h*6364136223846793005))+1442695040888963407)) 45).bind fun n3=>(lenQ c1.b).bind fun _=>bif (decide (c1.i<(c1.b.length:Int)))then((idx c1.b c1.i).bind fun e5=>(L9 c1) ((w64 (c1.i+1)),(bAnd .i64 (w64 ((bAnd .i64 (bXor .i64 n2 n3) 255)+(IntKind.wrap .i64 e5))) 255)))else((L9 c1) (c1.i,(bAnd .i64 (bXor .i64 n2 n3) 255)))
set_option maxRecDepth 20000 in
theorem Yh{c1:l01Cur}{r:Int×l01Cur}(H:O8 c1=some r):ConD Tryz.prog Ob [.ptr 0 0] [(U0 .rd c1).cells] [] (iV r.1) [(U0 .rd r.2).cells] [] []:=by
 refine WV [] Q0x rfl (by kernel_rfl) ?_
 unfold O8 at H
 obtain⟨n2,h2,H⟩:=bB H
 obtain⟨n3,h3,H⟩:=bB H
 obtain⟨u4,h4,H⟩:=bB H
 refine wG [.u 17 (.shr _ _ _ _ fun _=>h2),.u 22 (.shr _ _ _ _ fun _=>h3),.u 33 (.le _ _ (fun _=>lm c1.b eB) (fun _=>LC h4))] fun _=>?_
 refine X6 (r:=r) (L9 c1) 0 (fun v6:Int×Int=>⟨[(3,.int .i64 v6.2)],[],[(2000000000,(U0 .rd (l01Cur.mk c1.b v6.1 (w64 ((w64 (c1.h*6364136223846793005))+1442695040888963407)))).cells)],[]⟩) (by kernel_rfl) (fun v6 H=>?_) (fun J12=>?_)
 .unfold L9 at H
  refine wP ?_
  replace H:=sI H;subst H
  exact X3 [(2,.d)] [(2000000000,[])] [] [] [] (by kernel_rfl)
 .refine O0 H (fun H=>?_) fun H=>?_
  .obtain⟨e5,h5,H⟩:=bB H
   refine wG [.u 44 (.ix _ _ _ fun _=>Q0 eB h5)] fun _=>?_
   exact wT (J12 _ H)
  .refine wP ?_
   exact wT (J12 _ H)
noncomputable def L0m:L :=
 lf Tryz.prog V0 [] [] [] [] [] [] []
def Q0l:List Rv:=[.t 4]
theorem M0o:Ms Tryz.prog V0 2 L0m Q0l=true:=by kernel_rfl
def X0(c1:l01Cur)(n2:Int):Option (Int×l01Cur) :=
 bif (decide (n2<=0))then(some (0,c1))else(bif (decide (n2<=256))then((O8 c1).bind fun y3=>(remI y3.1 n2).bind fun n4=>some (n4,y3.2))else((O8 c1).bind fun y5=>(O8 y5.2).bind fun y6=>(O8 y6.2).bind fun y7=>(O8 y7.2).bind fun y8=>(remI (w64 ((w64 ((w64 ((w64 (y5.1*16777216))+(w64 (y6.1*65536))))+(w64 (y7.1*256))))+y8.1)) n2).bind fun n9=>some (n9,y8.2)))
set_option maxRecDepth 20000 in
theorem Z0{c1:l01Cur}{n2:Int}{r:Int×l01Cur}(H:X0 c1 n2=some r):ConD Tryz.prog V0 [.ptr 0 0,iV n2] [(U0 .rd c1).cells] [] (iV r.1) [(U0 .rd r.2).cells] [] []:=by
 refine WV [] M0o rfl (by kernel_rfl) ?_
 unfold X0 at H
 refine wP ?_
 refine O0 H (fun H=>?_) fun H=>?_
 .refine wP ?_
  replace H:=sI H;subst H
  exact X3 [(4,.d)] [(2000000000,[])] [] [] [] (by kernel_rfl)
 .refine wP ?_
  refine O0 H (fun H=>?_) fun H=>?_
  .obtain⟨y3,h3,H⟩:=bB H
   obtain⟨n4,h4,H⟩:=bB H
   refine wG [.u 14 (.cw Ob [2000000000] [] [(U0 .rd c1).cells] [] [.ptr 0 0] _ _ _ _ _ (GEs.of [true] (by simp)) (by simp) (by simp) (by simp) (fun _=>Yh h3)),.u 16 (.rem _ _ _ fun _=>h4)] fun _=>?_
   replace H:=sI H;subst H
   exact X3 [(4,.d)] [(2000000000,[])] [] [] [] (by kernel_rfl)
  .obtain⟨y5,h5,H⟩:=bB H
   obtain⟨y6,h6,H⟩:=bB H
   obtain⟨y7,h7,H⟩:=bB H
   obtain⟨y8,h8,H⟩:=bB H
   obtain⟨n9,h9,H⟩:=bB H
   refine wG [.u 18 (.cw Ob [2000000000] [] [(U0 .rd c1).cells] [] [.ptr 0 0] _ _ _ _ _ (GEs.of [true] (by simp)) (by simp) (by simp) (by simp) (fun _=>Yh h5)),.u 20 (.cw Ob [2000000000] [] [(U0 .rd y5.2).cells] [] [.ptr 0 0] _ _ _ _ _ (GEs.of [true] (by simp)) (by simp) (by simp) (by simp) (fun _=>Yh h6)),.u 22 (.cw Ob [2000000000] [] [(U0 .rd y6.2).cells] [] [.ptr 0 0] _ _ _ _ _ (GEs.of [true] (by simp)) (by simp) (by simp) (by simp) (fun _=>Yh h7)),.u 24 (.cw Ob [2000000000] [] [(U0 .rd y7.2).cells] [] [.ptr 0 0] _ _ _ _ _ (GEs.of [true] (by simp)) (by simp) (by simp) (by simp) (fun _=>Yh h8)),.u 36 (.rem _ _ _ fun _=>h9)] fun _=>?_
   replace H:=sI H;subst H
   exact X3 [(4,.d)] [(2000000000,[])] [] [] [] (by kernel_rfl)
noncomputable def Y0v:L :=
 lf Tryz.prog Js [13,17,23] [] [] [] [] [(24,[],[],[0,2,4,6,12,18,9,10,15,16,21,22,24,26],14)] []
def Q0t:List Rv:=[.c 2 2 true]
theorem U0x:Ms Tryz.prog Js 1 Y0v Q0t=true:=by kernel_rfl
def Qy(x5:Int)(k5:(l01Cur×(List Int)×(List Int))->Option (Topo×l01Cur))(y6:Int×l01Cur)(v7:Int×(List Int)×(List Int))(k7:(Int×(List Int)×(List Int))->Option (Topo×l01Cur)):Option (Topo×l01Cur) :=
 bif ((decide (0<v7.1))&&(decide ((v7.2.1.length:Int)<18)))then((appL 8 v7.2.1 [x5]).bind fun xs8=>(appL 8 v7.2.2 [(w64 ((xs8.length:Int)-1))]).bind fun xs9=>k7 ((w64 (v7.1-1)),xs8,xs9))else(k5 (y6.2,v7.2.1,v7.2.2))
def Uy(x5:Int)(_:Nat)(v5:l01Cur×(List Int)×(List Int))(k5:(l01Cur×(List Int)×(List Int))->Option (Topo×l01Cur)):Option (Topo×l01Cur) :=
 (X0 v5.1 3).bind fun y6=>whl (Qy x5 k5 y6) 9223372036854775807 ((w64 (1+y6.1)),v5.2.1,v5.2.2)
def Yy(v3:l01Cur×Int×(List Int)×(List Int))(k3:(l01Cur×Int×(List Int)×(List Int))->Option (Topo×l01Cur))(v5:l01Cur×(List Int)×(List Int)):Option (Topo×l01Cur) :=
 bif (decide (0<(v5.2.2.length:Int)))then(k3 (v5.1,(w64 (v3.2.1+1)),v5.2.1,v5.2.2))else(k3 (v5.1,(w64 (v3.2.1+1)),v5.2.1,v3.2.2.2))
def Xy(v3:l01Cur×Int×(List Int)×(List Int))(v13:l01Cur×Int×(List Node))(k13:(l01Cur×Int×(List Node))->Option (Topo×l01Cur)):Option (Topo×l01Cur) :=
 bif (decide (0<v13.2.1))then((X0 v13.1 (v3.2.2.2.length:Int)).bind fun y14=>(idx v3.2.2.2 y14.1).bind fun e15=>(Ji (Topo.mk v3.2.2.1 v13.2.2) e15).bind fun y16=>bif ((y16.length:Int)==0)then((X0 y14.2 5).bind fun y18=>(X0 y18.2 9).bind fun y19=>(X0 y19.2 3).bind fun y20=>(appL 32 v13.2.2 [(Node.mk e15 (Vec.mk (w64 (4+y18.1)) (w64 (8+y19.1)) y20.1))]).bind fun xs21=>k13 (y20.2,(w64 (v13.2.1-1)),xs21))else(k13 (y14.2,(w64 (v13.2.1-1)),v13.2.2)))else(some ((Topo.mk v3.2.2.1 v13.2.2),v13.1))
def Vy(y2:Int×l01Cur)(v3:l01Cur×Int×(List Int)×(List Int))(k3:(l01Cur×Int×(List Int)×(List Int))->Option (Topo×l01Cur)):Option (Topo×l01Cur) :=
 bif (decide (v3.2.1<y2.1))then(rgl Uy (Yy v3 k3) v3.2.2.2 0 (v3.1,v3.2.2.1,[]))else((X0 v3.1 10).bind fun y12=>whl (Xy v3) 9223372036854775807 (y12.2,(w64 (1+y12.1)),[]))
def Uk(c1:l01Cur):Option (Topo×l01Cur) :=
 (X0 c1 3).bind fun y2=>whl (Vy y2) 9223372036854775807 (y2.2,0,[0],[0])
set_option maxRecDepth 20000 in
theorem WW{c1:l01Cur}{r:Topo×l01Cur}(H:Uk c1=some r):ConD Tryz.prog Js [.ptr 0 0] [(U0 .rd c1).cells] [] (.agg [.sref 0,.sref 1]) [(U0 .rd r.2).cells] [] [(1,r.1.parents.map eI),(4,r.1.nodes.map Y1)]:=by
 refine WV [] U0x rfl (by kernel_rfl) ?_
 unfold Uk at H
 obtain⟨y2,h2,H⟩:=bB H
 refine wG [.u 16 (.cw V0 [2000000000] [] [(U0 .rd c1).cells] [] [.ptr 0 0,iV 3] _ _ _ _ _ (GEs.of [true,false] (by simp)) (by simp) (by simp) (by simp) (fun _=>Z0 h2))] fun _=>?_
 refine wW (fun(v3:l01Cur×Int×(List Int)×(List Int))=>⟨[(0,.ptr 2000000000 0),(2,.ptr 2 0),(3,.ptr 3 0),(4,iV y2.1),(5,.sref 17),(6,iV v3.2.1)],[],[(2000000000,(U0 .rd v3.1).cells),(2,[.nl,.nl]),(3,[.sref 13,.nl])],[(13,⟨1,v3.2.2.1.map eI,false⟩),(17,⟨1,v3.2.2.2.map eI,false⟩)]⟩) H (fun v3 I m k3 H N53=>?_)
 unfold Vy at H
 refine wP ?_
 refine O0 H (fun H=>?_) fun H=>?_
 .refine wG [.u 25 (.ln _ _ fun _=>lm v3.2.2.2 eI)] fun q4=>?_
  refine wR (fun(i5:Nat) (v5:l01Cur×(List Int)×(List Int))=>⟨[(0,.ptr 2000000000 0),(2,.ptr 2 0),(3,.ptr 3 0),(4,iV y2.1),(5,.sref 17),(6,iV v3.2.1),(7,.sref 23),(24,.sref 17),(25,iV (v3.2.2.2.length:Int)),(26,iV (i5:Int))],[],[(2000000000,(U0 .rd v5.1).cells),(2,[.nl,.nl]),(3,[.sref 13,.nl])],[(13,⟨1,v5.2.1.map eI,false⟩),(17,⟨1,v3.2.2.2.map eI,false⟩),(23,⟨1,v5.2.2.map eI,false⟩)]⟩) H (fun i5 x5 v5 I m k5 hxv5 hiv5 H N39=>?_) (fun v5 I m H=>?_)
  .unfold Uy at H
   refine wP ?_
   refine wt (ltT hiv5) ?_
   obtain⟨y6,h6,H⟩:=bB H
   refine wG [.u 28 (.ix _ _ _ fun _=>Q0 eI (J0 hxv5)),.u 29 (.el _ _ _ fun _=>gm eI (W4 (J0 hxv5))),.u 31 (.cw V0 [2000000000] [] [(U0 .rd v5.1).cells] [] [.ptr 0 0,iV 3] _ _ _ _ _ (GEs.of [true,false] (by simp)) (by simp) (by simp) (by simp) (fun _=>Z0 h6))] fun _=>?_
   refine wW (fun(v7:Int×(List Int)×(List Int))=>⟨[(0,.ptr 2000000000 0),(2,.ptr 2 0),(3,.ptr 3 0),(4,iV y2.1),(5,.sref 17),(6,iV v3.2.1),(7,.sref 23),(9,iV x5),(10,iV v7.1),(24,.sref 17),(25,iV (v3.2.2.2.length:Int)),(26,iV (i5:Int))],[],[(2000000000,(U0 .rd y6.2).cells),(2,[.nl,.nl]),(3,[.sref 13,.nl])],[(13,⟨1,v7.2.1.map eI,false⟩),(17,⟨1,v3.2.2.2.map eI,false⟩),(23,⟨1,v7.2.2.map eI,false⟩)]⟩) H (fun v7 I m k7 H N30=>?_)
   unfold Qy at H
   refine wG [.g 38 [((decide (0<v7.1)),true)] (.ln _ _ fun _=>lm v7.2.1 eI)] fun _=>?_
   refine O0 H (fun H=>?_) fun H=>?_
   .obtain⟨xs8,h8,H⟩:=bB H
    obtain⟨xs9,h9,H⟩:=bB H
    refine wG [.u 47 (.ap _ _ _ _ fun _=>L0 eI h8),.u 52 (.ln _ _ fun _=>lm xs8 eI),.u 55 (.ap _ _ _ _ fun _=>L0 eI h9)] fun q10=>?_
    exact wT (N30 _ H)
   .refine wG [.w 56 (wi .i64 rfl hiv5 q4.1)] fun _=>?_
    exact wT (N39 _ H)
  .unfold Yy at H
   refine wP ?_
   refine wf (ltF v3.2.2.2.length) ?_
   refine wG [.u 58 (.ln _ _ fun _=>lm v5.2.2 eI)] fun q11=>?_
   refine O0 H (fun H=>?_) fun H=>?_
   .refine wP ?_
    exact U05 (N53 _ H) [] [] [(17,(some 23,0))] [] (by kernel_rfl) (by kernel_rfl)
   .refine wP ?_
    exact wT (N53 _ H)
 .obtain⟨y12,h12,H⟩:=bB H
  refine wG [.u 62 (.cw V0 [2000000000] [] [(U0 .rd v3.1).cells] [] [.ptr 0 0,iV 10] _ _ _ _ _ (GEs.of [true,false] (by simp)) (by simp) (by simp) (by simp) (fun _=>Z0 h12))] fun _=>?_
  refine U10 (fun(v13:l01Cur×Int×(List Node))=>⟨[(0,.ptr 2000000000 0),(2,.ptr 2 0),(3,.ptr 3 0),(5,.sref 17),(11,.int .i64 v13.2.1)],[],[(2000000000,(U0 .rd v13.1).cells),(2,[.nl,.nl]),(3,[.sref 13,.sref 455001])],[(13,⟨1,v3.2.2.1.map eI,false⟩),(455001,⟨4,v13.2.2.map Y1,false⟩),(17,⟨1,v3.2.2.2.map eI,false⟩)]⟩) [] [(3,[.d,.z 455001])] [(455001,(none,4))] [] (by kernel_rfl) (by kernel_rfl) H (fun v13 I m k13 H N73=>?_)
  unfold Xy at H
  refine wP ?_
  refine O0 H (fun H=>?_) fun H=>?_
  .obtain⟨y14,h14,H⟩:=bB H
   obtain⟨e15,h15,H⟩:=bB H
   obtain⟨y16,h16,H⟩:=bB H
   refine wG [.u 71 (.ln _ _ fun _=>lm v3.2.2.2 eI),.u 72 (.cw V0 [2000000000] [] [(U0 .rd v13.1).cells] [] [.ptr 0 0,iV (v3.2.2.2.length:Int)] _ _ _ _ _ (GEs.of [true,false] (by simp)) (by simp) (by simp) (by simp) (fun _=>Z0 h14)),.u 73 (.ix _ _ _ fun _=>Q0 eI h15),.u 74 (.el _ _ _ fun _=>gm eI (W4 h15)),.c 77 (Zy h16),.u 78 (.ln _ _ fun _=>lm y16 eI)] fun q17=>?_
   refine O0 H (fun H=>?_) fun H=>?_
   .obtain⟨y18,h18,H⟩:=bB H
    obtain⟨y19,h19,H⟩:=bB H
    obtain⟨y20,h20,H⟩:=bB H
    obtain⟨xs21,h21,H⟩:=bB H
    refine wG [.u 84 (.cz V0 [2000000000] [(U0 .rd y14.2).cells] [.ptr 0 0,iV 5] _ _ _ (by simp) (by simp) (fun _=>by simp) (fun _=>Z0 h18)),.u 87 (.cz V0 [2000000000] [(U0 .rd y18.2).cells] [.ptr 0 0,iV 9] _ _ _ (by simp) (by simp) (fun _=>by simp) (fun _=>Z0 h19)),.u 90 (.cz V0 [2000000000] [(U0 .rd y19.2).cells] [.ptr 0 0,iV 3] _ _ _ (by simp) (by simp) (fun _=>by simp) (fun _=>Z0 h20)),.u 94 (.ap _ _ _ _ fun _=>L0 Y1 h21)] fun _=>?_
    exact wT (N73 _ H)
   .refine wP ?_
    exact wT (N73 _ H)
  .refine wP ?_
   replace H:=sI H;subst H
   exact X3 [(2,.d)] [(2,[]),(2000000000,[])] [(13,some 13,0),(455001,some 455001,0)] [] [13,455001] (by kernel_rfl)
noncomputable def X0D:L :=
 lf Tryz.prog UM [] [(15,1)] [] [] [] [] []
def Q0C:List Rv:=[.c 2 11 true]
theorem O0G:Ms Tryz.prog UM 1 X0D Q0C=true:=by kernel_rfl
def Yx(c1:l01Cur):Option (State×l01Cur) :=
 (Uk c1).bind fun y2=>(X0 y2.2 6).bind fun y3=>(X0 y3.2 4).bind fun y4=>(X0 y4.2 4).bind fun y5=>(Ly y2.1 (Vec.mk y3.1 y4.1 1) y5.1).bind fun y6=>some (y6.1,y5.2)
set_option maxRecDepth 20000 in
theorem M0A{c1:l01Cur}{r:State×l01Cur}(H:Yx c1=some r):ConD Tryz.prog UM [.ptr 0 0] [(U0 .rd c1).cells] [] (.agg [nV 1 (r.1.topo.parents.map eI),nV 4 (r.1.topo.nodes.map Y1),.sref 0,iV r.1.lic.a,iV r.1.lic.b,iV r.1.lic.c,iV r.1.depth,iV r.1.now,.sref 1,.sref 2,.sref 3]) [(U0 .rd r.2).cells] [] [(1,r.1.up.map eBo),(11,r.1.queue.map eJob),(13,r.1.runs.map (Z1 .nw)),(3,r.1.ends.map eEnd)]:=by
 refine WV [] O0G rfl (by kernel_rfl) ?_
 unfold Yx at H
 obtain⟨y2,h2,H⟩:=bB H
 obtain⟨y3,h3,H⟩:=bB H
 obtain⟨y4,h4,H⟩:=bB H
 obtain⟨y5,h5,H⟩:=bB H
 obtain⟨y6,h6,H⟩:=bB H
 refine wG [.u 7 (.cw Js [2000000000] [] [(U0 .rd c1).cells] [] [.ptr 0 0] _ _ _ _ _ (GEs.of [true] (by simp)) (by simp) (by simp) (by simp) (fun _=>WW h2)),.u 9 (.cw V0 [2000000000] [] [(U0 .rd y2.2).cells] [] [.ptr 0 0,iV 6] _ _ _ _ _ (GEs.of [true,false] (by simp)) (by simp) (by simp) (by simp) (fun _=>Z0 h3)),.u 11 (.cw V0 [2000000000] [] [(U0 .rd y3.2).cells] [] [.ptr 0 0,iV 4] _ _ _ _ _ (GEs.of [true,false] (by simp)) (by simp) (by simp) (by simp) (fun _=>Z0 h4)),.u 14 (.cw V0 [2000000000] [] [(U0 .rd y4.2).cells] [] [.ptr 0 0,iV 4] _ _ _ _ _ (GEs.of [true,false] (by simp)) (by simp) (by simp) (by simp) (fun _=>Z0 h5)),.c 15 (Y0C h6)] fun _=>?_
 replace H:=sI H;subst H
 exact X3 [(2,.d)] [(2,[]),(2000000000,[])] [(16000,some 16000,0),(16001,some 16001,0),(16002,some 16002,0),(16003,some 16003,0)] [] [16000,16001,16002,16003] (by kernel_rfl)
noncomputable def O0D:L :=
 lf Tryz.prog WA [] [] [] [] [] [] [15]
def O0C:List Rv:=[.c 2 11 true]
theorem L0G:Ms Tryz.prog WA 1 O0D O0C=true:=by kernel_rfl
def Ot(y2 y3 y4 y5 y6:Int×l01Cur)(n8:Int)(y9 y10:Int×l01Cur)(v14:l01Cur×Int×Int):Option (Job×l01Cur) :=
 some ((Job.mk (w64 (1+y2.1)) y3.1 (w64 (1+y4.1)) (Vec.mk (w64 (1+y5.1)) y6.1 n8) (Vec.mk v14.2.1 v14.2.2 0) (w64 (1+y9.1)) y10.1),v14.1)
def Wo(c1:l01Cur):Option (Job×l01Cur) :=
 (X0 c1 30).bind fun y2=>(X0 y2.2 5).bind fun y3=>(X0 y3.2 3).bind fun y4=>(X0 y4.2 5).bind fun y5=>(X0 y5.2 9).bind fun y6=>(X0 y6.2 4).bind fun y7=>(quoI .i64 y7.1 3).bind fun n8=>(X0 y7.2 20).bind fun y9=>(X0 y9.2 3).bind fun y10=>(X0 y10.2 3).bind fun y11=>bif (y11.1==0)then((X0 y11.2 3).bind fun y12=>(X0 y12.2 2).bind fun y13=>(Ot y2 y3 y4 y5 y6 n8 y9 y10) (y13.2,y12.1,y13.1))else((Ot y2 y3 y4 y5 y6 n8 y9 y10) (y11.2,0,0))
set_option maxRecDepth 20000 in
theorem O02{c1:l01Cur}{r:Job×l01Cur}(H:Wo c1=some r):ConD Tryz.prog WA [.ptr 0 0] [(U0 .rd c1).cells] [] (eJob r.1) [(U0 .rd r.2).cells] [] []:=by
 refine WV [] L0G rfl (by kernel_rfl) ?_
 unfold Wo at H
 obtain⟨y2,h2,H⟩:=bB H
 obtain⟨y3,h3,H⟩:=bB H
 obtain⟨y4,h4,H⟩:=bB H
 obtain⟨y5,h5,H⟩:=bB H
 obtain⟨y6,h6,H⟩:=bB H
 obtain⟨y7,h7,H⟩:=bB H
 obtain⟨n8,h8,H⟩:=bB H
 obtain⟨y9,h9,H⟩:=bB H
 obtain⟨y10,h10,H⟩:=bB H
 obtain⟨y11,h11,H⟩:=bB H
 refine wG [.u 5 (.cw V0 [2000000000] [] [(U0 .rd c1).cells] [] [.ptr 0 0,iV 30] _ _ _ _ _ (GEs.of [true,false] (by simp)) (by simp) (by simp) (by simp) (fun _=>Z0 h2)),.u 8 (.cw V0 [2000000000] [] [(U0 .rd y2.2).cells] [] [.ptr 0 0,iV 5] _ _ _ _ _ (GEs.of [true,false] (by simp)) (by simp) (by simp) (by simp) (fun _=>Z0 h3)),.u 10 (.cw V0 [2000000000] [] [(U0 .rd y3.2).cells] [] [.ptr 0 0,iV 3] _ _ _ _ _ (GEs.of [true,false] (by simp)) (by simp) (by simp) (by simp) (fun _=>Z0 h4)),.u 13 (.cw V0 [2000000000] [] [(U0 .rd y4.2).cells] [] [.ptr 0 0,iV 5] _ _ _ _ _ (GEs.of [true,false] (by simp)) (by simp) (by simp) (by simp) (fun _=>Z0 h5)),.u 16 (.cw V0 [2000000000] [] [(U0 .rd y5.2).cells] [] [.ptr 0 0,iV 9] _ _ _ _ _ (GEs.of [true,false] (by simp)) (by simp) (by simp) (by simp) (fun _=>Z0 h6)),.u 18 (.cw V0 [2000000000] [] [(U0 .rd y6.2).cells] [] [.ptr 0 0,iV 4] _ _ _ _ _ (GEs.of [true,false] (by simp)) (by simp) (by simp) (by simp) (fun _=>Z0 h7)),.u 19 (.quo _ _ _ _ fun _=>h8),.u 22 (.cw V0 [2000000000] [] [(U0 .rd y7.2).cells] [] [.ptr 0 0,iV 20] _ _ _ _ _ (GEs.of [true,false] (by simp)) (by simp) (by simp) (by simp) (fun _=>Z0 h9)),.u 25 (.cw V0 [2000000000] [] [(U0 .rd y9.2).cells] [] [.ptr 0 0,iV 3] _ _ _ _ _ (GEs.of [true,false] (by simp)) (by simp) (by simp) (by simp) (fun _=>Z0 h10)),.u 28 (.cw V0 [2000000000] [] [(U0 .rd y10.2).cells] [] [.ptr 0 0,iV 3] _ _ _ _ _ (GEs.of [true,false] (by simp)) (by simp) (by simp) (by simp) (fun _=>Z0 h11))] fun _=>?_
 refine X6 (r:=r) (Ot y2 y3 y4 y5 y6 n8 y9 y10) 0 (fun v14:l01Cur×Int×Int=>⟨[(2,.ptr 2 0),(3,.ptr 3 0)],[],[(2000000000,(U0 .rd v14.1).cells),(2,(eJob (Job.mk 0 0 0 (Vec.mk 0 0 0) (Vec.mk 0 0 0) 0 0)).cells),(3,(eJob (Job.mk (w64 (1+y2.1)) y3.1 (w64 (1+y4.1)) (Vec.mk (w64 (1+y5.1)) y6.1 n8) (Vec.mk v14.2.1 v14.2.2 0) (w64 (1+y9.1)) y10.1)).cells)],[]⟩) (by kernel_rfl) (fun v14 H=>?_) (fun J9=>?_)
 .unfold Ot at H
  refine wP ?_
  replace H:=sI H;subst H
  exact X3 [(2,.d)] [(2,[]),(2000000000,[])] [] [] [] (by kernel_rfl)
 .refine O0 H (fun H=>?_) fun H=>?_
  .obtain⟨y12,h12,H⟩:=bB H
   obtain⟨y13,h13,H⟩:=bB H
   refine wG [.u 31 (.cw V0 [2000000000] [] [(U0 .rd y11.2).cells] [] [.ptr 0 0,iV 3] _ _ _ _ _ (GEs.of [true,false] (by simp)) (by simp) (by simp) (by simp) (fun _=>Z0 h12)),.u 33 (.cw V0 [2000000000] [] [(U0 .rd y12.2).cells] [] [.ptr 0 0,iV 2] _ _ _ _ _ (GEs.of [true,false] (by simp)) (by simp) (by simp) (by simp) (fun _=>Z0 h13))] fun _=>?_
   exact wT (J9 _ H)
  .refine wP ?_
   exact wT (J9 _ H)
noncomputable def XX:L :=
 lf Tryz.prog WG [] [(19,1),(31,1),(46,1),(59,1),(72,1),(86,1),(109,1)] [] [] [] [(5,[6],[],[0,2,5,7,9,12,11],7),(7,[],[10],[0,2,4,6,9,10,13,15,18,17],11),(11,[6],[],[0,2,8,5,6,11,12,15,17,20,19],11),(13,[6],[],[0,2,4,6,8,10,13,15,17,20,19],11),(15,[6],[],[0,2,4,6,8,10,13,15,17,20,19],11),(17,[6],[],[0,2,6,10,5,9,13,14,17,19,22,21],12),(19,[6],[],[0,2,4,6,8,10,12,24,15,16,18,20,22,27,28,31,33,36,35],19)] []
def JW:List Rv:=[.c 4 11 true]
theorem YY:Ms Tryz.prog WG 2 XX JW=true:=by kernel_rfl
def M8(c1:l01Cur)(s2:State):Option (State×l01Cur) :=
 (X0 c1 14).bind fun y3=>bif (decide (y3.1<7))then((Wo y3.2).bind fun y4=>(XC s2 y4.1).bind fun y5=>bif (y5.2 != 0)then(some (s2,y4.2))else(some (y5.1,y4.2)))else(bif (decide (y3.1<9))then((X0 y3.2 12).bind fun y6=>(Wk s2 (w64 (s2.now+y6.1))).bind fun y7=>bif y7.2 then(bif (0 != 0)then(some (s2,y6.2))else(some (y7.1,y6.2)))else(bif (0 != 0)then(some (s2,y6.2))else(some (s2,y6.2))))else(bif (y3.1==9)then((X0 y3.2 30).bind fun y8=>(X0 y8.2 2).bind fun y9=>(QC s2 (w64 (1+y8.1)) (w64 (2+y9.1))).bind fun y10=>bif (y10.2 != 0)then(some (s2,y9.2))else(some (y10.1,y9.2)))else(bif (y3.1==10)then((lenQ s2.topo.nodes).bind fun _=>(X0 y3.2 (s2.topo.nodes.length:Int)).bind fun y12=>(J06 s2 y12.1).bind fun y13=>bif (y13.2 != 0)then(some (s2,y12.2))else(some (y13.1,y12.2)))else(bif (y3.1==11)then((lenQ s2.topo.nodes).bind fun _=>(X0 y3.2 (s2.topo.nodes.length:Int)).bind fun y15=>(VO s2 y15.1).bind fun y16=>bif (y16.2 != 0)then(some (s2,y15.2))else(some (y16.1,y15.2)))else(bif (y3.1==12)then((X0 y3.2 6).bind fun y17=>(X0 y17.2 4).bind fun y18=>(X0 y18.2 2).bind fun y19=>(UO s2 (Vec.mk y17.1 y18.1 y19.1)).bind fun y20=>bif (y20.2 != 0)then(some (s2,y19.2))else(some (y20.1,y19.2)))else(bif (decide (0<(s2.runs.length:Int)))then((X0 y3.2 (s2.runs.length:Int)).bind fun y22=>(idx s2.runs y22.1).bind fun e23=>(X0 y22.2 2).bind fun y24=>(QC s2 e23.job.id (w64 (2+y24.1))).bind fun y25=>bif (y25.2 != 0)then(some (s2,y24.2))else(some (y25.1,y24.2)))else(bif (0 != 0)then(some (s2,y3.2))else(some (s2,y3.2)))))))))
set_option maxRecDepth 20000 in
theorem UW{c1:l01Cur}{s2:State}{r:State×l01Cur}(H:M8 c1 s2=some r):ConD Tryz.prog WG [.ptr 0 0,.agg [nV 1 (s2.topo.parents.map eI),nV 4 (s2.topo.nodes.map Y1),.sref 0,iV s2.lic.a,iV s2.lic.b,iV s2.lic.c,iV s2.depth,iV s2.now,.sref 1,.sref 2,.sref 3]] [(U0 .rd c1).cells] [(1,s2.up.map eBo),(11,s2.queue.map eJob),(13,s2.runs.map (Z1 .nw)),(3,s2.ends.map eEnd)] (.agg [nV 1 (r.1.topo.parents.map eI),nV 4 (r.1.topo.nodes.map Y1),.sref 4,iV r.1.lic.a,iV r.1.lic.b,iV r.1.lic.c,iV r.1.depth,iV r.1.now,.sref 5,.sref 6,.sref 7]) [(U0 .rd r.2).cells] [none,none,none,none] [(1,r.1.up.map eBo),(11,r.1.queue.map eJob),(13,r.1.runs.map (Z1 .nw)),(3,r.1.ends.map eEnd)]:=by
 refine WV [false,false,false,false] YY rfl (by kernel_rfl) ?_
 unfold M8 at H
 obtain⟨y3,h3,H⟩:=bB H
 refine wG [.u 11 (.cw V0 [2000000000] [] [(U0 .rd c1).cells] [] [.ptr 0 0,iV 14] _ _ _ _ _ (GEs.of [true,false] (by simp)) (by simp) (by simp) (by simp) (fun _=>Z0 h3))] fun _=>?_
 refine O0 H (fun H=>?_) fun H=>?_
 .obtain⟨y4,h4,H⟩:=bB H
  obtain⟨y5,h5,H⟩:=bB H
  refine wG [.u 18 (.cz WA [2000000000] [(U0 .rd y3.2).cells] [.ptr 0 0] _ _ _ (by simp) (by simp) (fun _=>by simp) (fun _=>O02 h4)),.u 19 (.call _ _ _ _ _ (AEs.of (xs:=[.agg [rV 1 (s2.topo.parents.map eI),rV 4 (s2.topo.nodes.map Y1),rV 1 (s2.up.map eBo),iV s2.lic.a,iV s2.lic.b,iV s2.lic.c,iV s2.depth,iV s2.now,rV 11 (s2.queue.map eJob),rV 13 (s2.runs.map (Z1 .nw)),rV 3 (s2.ends.map eEnd)],.agg [iV y4.1.id,iV y4.1.prio,iV y4.1.nodes,iV y4.1.need.a,iV y4.1.need.b,iV y4.1.need.c,iV y4.1.lic.a,iV y4.1.lic.b,iV y4.1.lic.c,iV y4.1.wall,iV y4.1.level]]) (by simp)) (fun _=>Y0f h5))] fun _=>?_
  refine O0 H (fun H=>?_) fun H=>?_
  .refine wP ?_
   replace H:=sI H;subst H
   exact X3 [(4,.d)] [(4,[]),(2000000000,[])] [(500000000,some 500000000,0),(500000001,some 500000001,0),(500000002,some 500000002,0),(500000003,some 500000003,0)] [] [500000000,500000001,500000002,500000003] (by kernel_rfl)
  .refine wP ?_
   replace H:=sI H;subst H
   exact X3 [(4,.d)] [(4,[]),(2000000000,[])] [(20000,some 20000,0),(20001,some 20001,0),(20002,some 20002,0),(20003,some 20003,0)] [] [20000,20001,20002,20003] (by kernel_rfl)
 .refine wP ?_
  refine O0 H (fun H=>?_) fun H=>?_
  .obtain⟨y6,h6,H⟩:=bB H
   obtain⟨y7,h7,H⟩:=bB H
   refine wG [.u 29 (.cz V0 [2000000000] [(U0 .rd y3.2).cells] [.ptr 0 0,iV 12] _ _ _ (by simp) (by simp) (fun _=>by simp) (fun _=>Z0 h6)),.u 31 (.call _ _ _ _ _ (AEs.of (xs:=[.agg [rV 1 (s2.topo.parents.map eI),rV 4 (s2.topo.nodes.map Y1),rV 1 (s2.up.map eBo),iV s2.lic.a,iV s2.lic.b,iV s2.lic.c,iV s2.depth,iV s2.now,rV 11 (s2.queue.map eJob),rV 13 (s2.runs.map (Z1 .nw)),rV 3 (s2.ends.map eEnd)],iV (w64 (s2.now+y6.1))]) (by simp)) (fun _=>Y0l h7))] fun _=>?_
   refine O0 H (fun H=>?_) fun H=>?_
   .refine wP ?_
    refine O0 H (fun H=>?_) fun H=>?_
    .refine wP ?_
     replace H:=sI H;subst H
     exact X3 [(4,.d)] [(4,[]),(2000000000,[])] [(500000000,some 500000000,0),(500000001,some 500000001,0),(500000002,some 500000002,0),(500000003,some 500000003,0)] [] [500000000,500000001,500000002,500000003] (by kernel_rfl)
    .refine wP ?_
     replace H:=sI H;subst H
     exact X3 [(4,.d)] [(4,[]),(2000000000,[])] [(32000,some 32000,0),(32001,some 32001,0),(32002,some 32002,0),(32003,some 32003,0)] [] [32000,32001,32002,32003] (by kernel_rfl)
   .refine wP ?_
    refine O0 H (fun H=>?_) fun H=>?_
    .refine wP ?_
     replace H:=sI H;subst H
     exact X3 [(4,.d)] [(4,[]),(2000000000,[])] [(500000000,some 500000000,0),(500000001,some 500000001,0),(500000002,some 500000002,0),(500000003,some 500000003,0)] [] [500000000,500000001,500000002,500000003] (by kernel_rfl)
    .refine wP ?_
     replace H:=sI H;subst H
     exact X3 [(4,.d)] [(4,[]),(2000000000,[])] [(500000000,some 500000000,0),(500000001,some 500000001,0),(500000002,some 500000002,0),(500000003,some 500000003,0)] [] [500000000,500000001,500000002,500000003] (by kernel_rfl)
  .refine wP ?_
   refine O0 H (fun H=>?_) fun H=>?_
   .obtain⟨y8,h8,H⟩:=bB H
    obtain⟨y9,h9,H⟩:=bB H
    obtain⟨y10,h10,H⟩:=bB H
    refine wG [.u 41 (.cz V0 [2000000000] [(U0 .rd y3.2).cells] [.ptr 0 0,iV 30] _ _ _ (by simp) (by simp) (fun _=>by simp) (fun _=>Z0 h8)),.u 44 (.cz V0 [2000000000] [(U0 .rd y8.2).cells] [.ptr 0 0,iV 2] _ _ _ (by simp) (by simp) (fun _=>by simp) (fun _=>Z0 h9)),.u 46 (.call _ _ _ _ _ (AEs.of (xs:=[.agg [rV 1 (s2.topo.parents.map eI),rV 4 (s2.topo.nodes.map Y1),rV 1 (s2.up.map eBo),iV s2.lic.a,iV s2.lic.b,iV s2.lic.c,iV s2.depth,iV s2.now,rV 11 (s2.queue.map eJob),rV 13 (s2.runs.map (Z1 .nw)),rV 3 (s2.ends.map eEnd)],iV (w64 (1+y8.1)),iV (w64 (2+y9.1))]) (by simp)) (fun _=>V0f h10))] fun _=>?_
    refine O0 H (fun H=>?_) fun H=>?_
    .refine wP ?_
     replace H:=sI H;subst H
     exact X3 [(4,.d)] [(4,[]),(2000000000,[])] [(500000000,some 500000000,0),(500000001,some 500000001,0),(500000002,some 500000002,0),(500000003,some 500000003,0)] [] [500000000,500000001,500000002,500000003] (by kernel_rfl)
    .refine wP ?_
     replace H:=sI H;subst H
     exact X3 [(4,.d)] [(4,[]),(2000000000,[])] [(47000,some 47000,0),(47001,some 47001,0),(47002,some 47002,0),(47003,some 47003,0)] [] [47000,47001,47002,47003] (by kernel_rfl)
   .refine wP ?_
    refine O0 H (fun H=>?_) fun H=>?_
    .obtain⟨u11,h11,H⟩:=bB H
     obtain⟨y12,h12,H⟩:=bB H
     obtain⟨y13,h13,H⟩:=bB H
     refine wG [.u 57 (.le _ _ (fun _=>lm s2.topo.nodes Y1) (fun _=>LC h11)),.u 58 (.cz V0 [2000000000] [(U0 .rd y3.2).cells] [.ptr 0 0,iV (s2.topo.nodes.length:Int)] _ _ _ (by simp) (by simp) (fun _=>by simp) (fun _=>Z0 h12)),.u 59 (.call _ _ _ _ _ (AEs.of (xs:=[.agg [rV 1 (s2.topo.parents.map eI),rV 4 (s2.topo.nodes.map Y1),rV 1 (s2.up.map eBo),iV s2.lic.a,iV s2.lic.b,iV s2.lic.c,iV s2.depth,iV s2.now,rV 11 (s2.queue.map eJob),rV 13 (s2.runs.map (Z1 .nw)),rV 3 (s2.ends.map eEnd)],iV y12.1]) (by simp)) (fun _=>Y1b h13))] fun _=>?_
     refine O0 H (fun H=>?_) fun H=>?_
     .refine wP ?_
      replace H:=sI H;subst H
      exact X3 [(4,.d)] [(4,[]),(2000000000,[])] [(500000000,some 500000000,0),(500000001,some 500000001,0),(500000002,some 500000002,0),(500000003,some 500000003,0)] [] [500000000,500000001,500000002,500000003] (by kernel_rfl)
     .refine wP ?_
      replace H:=sI H;subst H
      exact X3 [(4,.d)] [(4,[]),(2000000000,[])] [(60000,some 60000,0),(60001,some 60001,0),(60002,some 60002,0),(60003,some 60003,0)] [] [60000,60001,60002,60003] (by kernel_rfl)
    .refine wP ?_
     refine O0 H (fun H=>?_) fun H=>?_
     .obtain⟨u14,h14,H⟩:=bB H
      obtain⟨y15,h15,H⟩:=bB H
      obtain⟨y16,h16,H⟩:=bB H
      refine wG [.u 70 (.le _ _ (fun _=>lm s2.topo.nodes Y1) (fun _=>LC h14)),.u 71 (.cz V0 [2000000000] [(U0 .rd y3.2).cells] [.ptr 0 0,iV (s2.topo.nodes.length:Int)] _ _ _ (by simp) (by simp) (fun _=>by simp) (fun _=>Z0 h15)),.u 72 (.call _ _ _ _ _ (AEs.of (xs:=[.agg [rV 1 (s2.topo.parents.map eI),rV 4 (s2.topo.nodes.map Y1),rV 1 (s2.up.map eBo),iV s2.lic.a,iV s2.lic.b,iV s2.lic.c,iV s2.depth,iV s2.now,rV 11 (s2.queue.map eJob),rV 13 (s2.runs.map (Z1 .nw)),rV 3 (s2.ends.map eEnd)],iV y15.1]) (by simp)) (fun _=>Z0S h16))] fun _=>?_
      refine O0 H (fun H=>?_) fun H=>?_
      .refine wP ?_
       replace H:=sI H;subst H
       exact X3 [(4,.d)] [(4,[]),(2000000000,[])] [(500000000,some 500000000,0),(500000001,some 500000001,0),(500000002,some 500000002,0),(500000003,some 500000003,0)] [] [500000000,500000001,500000002,500000003] (by kernel_rfl)
      .refine wP ?_
       replace H:=sI H;subst H
       exact X3 [(4,.d)] [(4,[]),(2000000000,[])] [(73000,some 73000,0),(73001,some 73001,0),(73002,some 73002,0),(73003,some 73003,0)] [] [73000,73001,73002,73003] (by kernel_rfl)
     .refine wP ?_
      refine O0 H (fun H=>?_) fun H=>?_
      .obtain⟨y17,h17,H⟩:=bB H
       obtain⟨y18,h18,H⟩:=bB H
       obtain⟨y19,h19,H⟩:=bB H
       obtain⟨y20,h20,H⟩:=bB H
       refine wG [.u 80 (.cz V0 [2000000000] [(U0 .rd y3.2).cells] [.ptr 0 0,iV 6] _ _ _ (by simp) (by simp) (fun _=>by simp) (fun _=>Z0 h17)),.u 82 (.cz V0 [2000000000] [(U0 .rd y17.2).cells] [.ptr 0 0,iV 4] _ _ _ (by simp) (by simp) (fun _=>by simp) (fun _=>Z0 h18)),.u 84 (.cz V0 [2000000000] [(U0 .rd y18.2).cells] [.ptr 0 0,iV 2] _ _ _ (by simp) (by simp) (fun _=>by simp) (fun _=>Z0 h19)),.u 86 (.call _ _ _ _ _ (AEs.of (xs:=[.agg [rV 1 (s2.topo.parents.map eI),rV 4 (s2.topo.nodes.map Y1),rV 1 (s2.up.map eBo),iV s2.lic.a,iV s2.lic.b,iV s2.lic.c,iV s2.depth,iV s2.now,rV 11 (s2.queue.map eJob),rV 13 (s2.runs.map (Z1 .nw)),rV 3 (s2.ends.map eEnd)],.agg [iV y17.1,iV y18.1,iV y19.1]]) (by simp)) (fun _=>Y0S h20))] fun _=>?_
       refine O0 H (fun H=>?_) fun H=>?_
       .refine wP ?_
        replace H:=sI H;subst H
        exact X3 [(4,.d)] [(4,[]),(2000000000,[])] [(500000000,some 500000000,0),(500000001,some 500000001,0),(500000002,some 500000002,0),(500000003,some 500000003,0)] [] [500000000,500000001,500000002,500000003] (by kernel_rfl)
       .refine wP ?_
        replace H:=sI H;subst H
        exact X3 [(4,.d)] [(4,[]),(2000000000,[])] [(87000,some 87000,0),(87001,some 87001,0),(87002,some 87002,0),(87003,some 87003,0)] [] [87000,87001,87002,87003] (by kernel_rfl)
      .refine wG [.u 91 (.ln _ _ fun _=>lm s2.runs (Z1 .nw))] fun q21=>?_
       refine O0 H (fun H=>?_) fun H=>?_
       .obtain⟨y22,h22,H⟩:=bB H
        obtain⟨e23,h23,H⟩:=bB H
        obtain⟨y24,h24,H⟩:=bB H
        obtain⟨y25,h25,H⟩:=bB H
        refine wG [.u 100 (.le _ _ (fun _=>lm s2.runs (Z1 .nw)) (fun _=>q21.1)),.u 101 (.cz V0 [2000000000] [(U0 .rd y3.2).cells] [.ptr 0 0,iV (s2.runs.length:Int)] _ _ _ (by simp) (by simp) (fun _=>by simp) (fun _=>Z0 h22)),.u 102 (.ix _ _ _ fun _=>Q0 (Z1 .nw) h23),.u 105 (.el _ _ _ fun _=>gm (Z1 .nw) (W4 h23)),.u 107 (.cz V0 [2000000000] [(U0 .rd y22.2).cells] [.ptr 0 0,iV 2] _ _ _ (by simp) (by simp) (fun _=>by simp) (fun _=>Z0 h24)),.u 109 (.call _ _ _ _ _ (AEs.of (xs:=[.agg [rV 1 (s2.topo.parents.map eI),rV 4 (s2.topo.nodes.map Y1),rV 1 (s2.up.map eBo),iV s2.lic.a,iV s2.lic.b,iV s2.lic.c,iV s2.depth,iV s2.now,rV 11 (s2.queue.map eJob),rV 13 (s2.runs.map (Z1 .nw)),rV 3 (s2.ends.map eEnd)],iV e23.job.id,iV (w64 (2+y24.1))]) (by simp)) (fun _=>V0f h25))] fun _=>?_
        refine O0 H (fun H=>?_) fun H=>?_
        .refine wP ?_
         replace H:=sI H;subst H
         exact X3 [(4,.d)] [(4,[]),(2000000000,[])] [(500000000,some 500000000,0),(500000001,some 500000001,0),(500000002,some 500000002,0),(500000003,some 500000003,0)] [] [500000000,500000001,500000002,500000003] (by kernel_rfl)
        .refine wP ?_
         replace H:=sI H;subst H
         exact X3 [(4,.d)] [(4,[]),(2000000000,[])] [(110000,some 110000,0),(110001,some 110001,0),(110002,some 110002,0),(110003,some 110003,0)] [] [110000,110001,110002,110003] (by kernel_rfl)
       .refine wP ?_
        refine O0 H (fun H=>?_) fun H=>?_
        .refine wP ?_
         replace H:=sI H;subst H
         exact X3 [(4,.d)] [(4,[]),(2000000000,[])] [(500000000,some 500000000,0),(500000001,some 500000001,0),(500000002,some 500000002,0),(500000003,some 500000003,0)] [] [500000000,500000001,500000002,500000003] (by kernel_rfl)
        .refine wP ?_
         replace H:=sI H;subst H
         exact X3 [(4,.d)] [(4,[]),(2000000000,[])] [(500000000,some 500000000,0),(500000001,some 500000001,0),(500000002,some 500000002,0),(500000003,some 500000003,0)] [] [500000000,500000001,500000002,500000003] (by kernel_rfl)
noncomputable def O0u:L :=
 lf Tryz.prog OG [] [] [] [] [] [] []
def V0t:List Rv:=[.c 4 11 true]
theorem X0x:Ms Tryz.prog OG 2 O0u V0t=true:=by kernel_rfl
def Vx(v5:l01Cur×State×Int)(k5:(l01Cur×State×Int)->Option (State×l01Cur)):Option (State×l01Cur) :=
 bif (decide (0<v5.2.2))then((M8 v5.1 v5.2.1).bind fun y6=>k5 (y6.2,y6.1,(w64 (v5.2.2-1))))else(some (v5.2.1,v5.1))
def Jq(c1:l01Cur)(most2:Int):Option (State×l01Cur) :=
 (Yx c1).bind fun y3=>(X0 y3.2 (w64 (most2+1))).bind fun y4=>whl Vx 9223372036854775807 (y4.2,y3.1,y4.1)
set_option maxRecDepth 20000 in
theorem Z0s{c1:l01Cur}{most2:Int}{r:State×l01Cur}(H:Jq c1 most2=some r):ConD Tryz.prog OG [.ptr 0 0,iV most2] [(U0 .rd c1).cells] [] (.agg [nV 1 (r.1.topo.parents.map eI),nV 4 (r.1.topo.nodes.map Y1),.sref 0,iV r.1.lic.a,iV r.1.lic.b,iV r.1.lic.c,iV r.1.depth,iV r.1.now,.sref 1,.sref 2,.sref 3]) [(U0 .rd r.2).cells] [] [(1,r.1.up.map eBo),(11,r.1.queue.map eJob),(13,r.1.runs.map (Z1 .nw)),(3,r.1.ends.map eEnd)]:=by
 refine WV [] X0x rfl (by kernel_rfl) ?_
 unfold Jq at H
 obtain⟨y3,h3,H⟩:=bB H
 obtain⟨y4,h4,H⟩:=bB H
 refine wG [.u 8 (.cw UM [2000000000] [] [(U0 .rd c1).cells] [] [.ptr 0 0] _ _ _ _ _ (GEs.of [true] (by simp)) (by simp) (by simp) (by simp) (fun _=>M0A h3)),.u 12 (.cw V0 [2000000000] [] [(U0 .rd y3.2).cells] [] [.ptr 0 0,iV (w64 (most2+1))] _ _ _ _ _ (GEs.of [true,false] (by simp)) (by simp) (by simp) (by simp) (fun _=>Z0 h4))] fun _=>?_
 refine wW (fun(v5:l01Cur×State×Int)=>⟨[(0,.ptr 2000000000 0),(4,.ptr 4 0),(5,.ptr 5 0),(6,iV v5.2.2)],[],[(2000000000,(U0 .rd v5.1).cells),(4,[.nl,.nl,.nl,iV 0,iV 0,iV 0,iV 0,iV 0,.nl,.nl,.nl]),(5,[nV 1 (v5.2.1.topo.parents.map eI),nV 4 (v5.2.1.topo.nodes.map Y1),.sref 9000,iV v5.2.1.lic.a,iV v5.2.1.lic.b,iV v5.2.1.lic.c,iV v5.2.1.depth,iV v5.2.1.now,.sref 9001,.sref 9002,.sref 9003])],[(9000,⟨1,v5.2.1.up.map eBo,false⟩),(9001,⟨11,v5.2.1.queue.map eJob,false⟩),(9002,⟨13,v5.2.1.runs.map (Z1 .nw),false⟩),(9003,⟨3,v5.2.1.ends.map eEnd,false⟩)]⟩) H (fun v5 I m k5 H N13=>?_)
 unfold Vx at H
 refine wP ?_
 refine O0 H (fun H=>?_) fun H=>?_
 .obtain⟨y6,h6,H⟩:=bB H
  refine wG [.u 19 (.cw WG [2000000000] [9000,9001,9002,9003] [(U0 .rd v5.1).cells] [(1,v5.2.1.up.map eBo),(11,v5.2.1.queue.map eJob),(13,v5.2.1.runs.map (Z1 .nw)),(3,v5.2.1.ends.map eEnd)] [.ptr 0 0,.agg [nV 1 (v5.2.1.topo.parents.map eI),nV 4 (v5.2.1.topo.nodes.map Y1),.sref 0,iV v5.2.1.lic.a,iV v5.2.1.lic.b,iV v5.2.1.lic.c,iV v5.2.1.depth,iV v5.2.1.now,.sref 1,.sref 2,.sref 3]] _ _ _ _ _ (GEs.of [true,true] (by simp)) (by simp) (by simp) (by simp) (fun _=>UW h6))] fun _=>?_
  exact U05 (N13 _ H) [] [] [(9000,(some 20000,0)),(9001,(some 20001,0)),(9002,(some 20002,0)),(9003,(some 20003,0))] [] (by kernel_rfl) (by kernel_rfl)
 .refine wP ?_
  replace H:=sI H;subst H
  exact X3 [(4,.d)] [(4,[]),(2000000000,[])] [(9000,some 9000,0),(9001,some 9001,0),(9002,some 9002,0),(9003,some 9003,0)] [] [9000,9001,9002,9003] (by kernel_rfl)
noncomputable def X0E:L :=
 lf Tryz.prog W6 [] [] [] [] [] [] []
def J0C:List Rv:=[.t 2]
theorem Y0H:Ms Tryz.prog W6 1 X0E J0C=true:=by kernel_rfl
def L4(c1:l01Cur):Option (Int×l01Cur) :=
 (X0 c1 9).bind fun y2=>bif (decide (y2.1<4))then((X0 y2.2 24).bind fun y3=>some ((w64 (y3.1-2)),y3.2))else(bif (y2.1==4)then((X0 y2.2 3).bind fun y4=>some ((w64 (999999+y4.1)),y4.2))else(bif (y2.1==5)then((X0 y2.2 3).bind fun y5=>some ((w64 (999999999+y5.1)),y5.2))else(bif (y2.1==6)then((X0 y2.2 2).bind fun y6=>some ((w64 (9223372036854775807-y6.1)),y6.2))else(bif (y2.1==7)then((X0 y2.2 2).bind fun y7=>some ((w64 ((-9223372036854775807)-y7.1)),y7.2))else((X0 y2.2 2000000).bind fun y8=>some (y8.1,y8.2))))))
set_option maxRecDepth 20000 in
theorem V6{c1:l01Cur}{r:Int×l01Cur}(H:L4 c1=some r):ConD Tryz.prog W6 [.ptr 0 0] [(U0 .rd c1).cells] [] (iV r.1) [(U0 .rd r.2).cells] [] []:=by
 refine WV [] Y0H rfl (by kernel_rfl) ?_
 unfold L4 at H
 obtain⟨y2,h2,H⟩:=bB H
 refine wG [.u 5 (.cw V0 [2000000000] [] [(U0 .rd c1).cells] [] [.ptr 0 0,iV 9] _ _ _ _ _ (GEs.of [true,false] (by simp)) (by simp) (by simp) (by simp) (fun _=>Z0 h2))] fun _=>?_
 refine O0 H (fun H=>?_) fun H=>?_
 .obtain⟨y3,h3,H⟩:=bB H
  refine wG [.u 9 (.cw V0 [2000000000] [] [(U0 .rd y2.2).cells] [] [.ptr 0 0,iV 24] _ _ _ _ _ (GEs.of [true,false] (by simp)) (by simp) (by simp) (by simp) (fun _=>Z0 h3))] fun _=>?_
  replace H:=sI H;subst H
  exact X3 [(2,.d)] [(2000000000,[])] [] [] [] (by kernel_rfl)
 .refine wP ?_
  refine O0 H (fun H=>?_) fun H=>?_
  .obtain⟨y4,h4,H⟩:=bB H
   refine wG [.u 14 (.cw V0 [2000000000] [] [(U0 .rd y2.2).cells] [] [.ptr 0 0,iV 3] _ _ _ _ _ (GEs.of [true,false] (by simp)) (by simp) (by simp) (by simp) (fun _=>Z0 h4))] fun _=>?_
   replace H:=sI H;subst H
   exact X3 [(2,.d)] [(2000000000,[])] [] [] [] (by kernel_rfl)
  .refine wP ?_
   refine O0 H (fun H=>?_) fun H=>?_
   .obtain⟨y5,h5,H⟩:=bB H
    refine wG [.u 19 (.cw V0 [2000000000] [] [(U0 .rd y2.2).cells] [] [.ptr 0 0,iV 3] _ _ _ _ _ (GEs.of [true,false] (by simp)) (by simp) (by simp) (by simp) (fun _=>Z0 h5))] fun _=>?_
    replace H:=sI H;subst H
    exact X3 [(2,.d)] [(2000000000,[])] [] [] [] (by kernel_rfl)
   .refine wP ?_
    refine O0 H (fun H=>?_) fun H=>?_
    .obtain⟨y6,h6,H⟩:=bB H
     refine wG [.u 24 (.cw V0 [2000000000] [] [(U0 .rd y2.2).cells] [] [.ptr 0 0,iV 2] _ _ _ _ _ (GEs.of [true,false] (by simp)) (by simp) (by simp) (by simp) (fun _=>Z0 h6))] fun _=>?_
     replace H:=sI H;subst H
     exact X3 [(2,.d)] [(2000000000,[])] [] [] [] (by kernel_rfl)
    .refine wP ?_
     refine O0 H (fun H=>?_) fun H=>?_
     .obtain⟨y7,h7,H⟩:=bB H
      refine wG [.u 29 (.cw V0 [2000000000] [] [(U0 .rd y2.2).cells] [] [.ptr 0 0,iV 2] _ _ _ _ _ (GEs.of [true,false] (by simp)) (by simp) (by simp) (by simp) (fun _=>Z0 h7))] fun _=>?_
      replace H:=sI H;subst H
      exact X3 [(2,.d)] [(2000000000,[])] [] [] [] (by kernel_rfl)
     .obtain⟨y8,h8,H⟩:=bB H
      refine wG [.u 32 (.cw V0 [2000000000] [] [(U0 .rd y2.2).cells] [] [.ptr 0 0,iV 2000000] _ _ _ _ _ (GEs.of [true,false] (by simp)) (by simp) (by simp) (by simp) (fun _=>Z0 h8))] fun _=>?_
      replace H:=sI H;subst H
      exact X3 [(2,.d)] [(2000000000,[])] [] [] [] (by kernel_rfl)
noncomputable def Y0E:L :=
 lf Tryz.prog OM [] [] [] [] [] [] [15]
def L0C:List Rv:=[.c 2 3 true]
theorem Z0H:Ms Tryz.prog OM 1 Y0E L0C=true:=by kernel_rfl
def Zk(y2 y4:Int×l01Cur)(v7:l01Cur×Int):Option (Vec×l01Cur) :=
 some ((Vec.mk y2.1 v7.2 y4.1),v7.1)
def Oy(c1:l01Cur):Option (Vec×l01Cur) :=
 (X0 c1 9).bind fun y2=>(X0 y2.2 17).bind fun y3=>(X0 y3.2 3).bind fun y4=>(X0 y4.2 14).bind fun y5=>bif (y5.1==0)then((X0 y5.2 2).bind fun y6=>(Zk y2 y4) (y6.2,(w64 (1000000-y6.1))))else((Zk y2 y4) (y5.2,y3.1))
set_option maxRecDepth 20000 in
theorem Q0B{c1:l01Cur}{r:Vec×l01Cur}(H:Oy c1=some r):ConD Tryz.prog OM [.ptr 0 0] [(U0 .rd c1).cells] [] (eVec r.1) [(U0 .rd r.2).cells] [] []:=by
 refine WV [] Z0H rfl (by kernel_rfl) ?_
 unfold Oy at H
 obtain⟨y2,h2,H⟩:=bB H
 obtain⟨y3,h3,H⟩:=bB H
 obtain⟨y4,h4,H⟩:=bB H
 obtain⟨y5,h5,H⟩:=bB H
 refine wG [.u 5 (.cw V0 [2000000000] [] [(U0 .rd c1).cells] [] [.ptr 0 0,iV 9] _ _ _ _ _ (GEs.of [true,false] (by simp)) (by simp) (by simp) (by simp) (fun _=>Z0 h2)),.u 7 (.cw V0 [2000000000] [] [(U0 .rd y2.2).cells] [] [.ptr 0 0,iV 17] _ _ _ _ _ (GEs.of [true,false] (by simp)) (by simp) (by simp) (by simp) (fun _=>Z0 h3)),.u 9 (.cw V0 [2000000000] [] [(U0 .rd y3.2).cells] [] [.ptr 0 0,iV 3] _ _ _ _ _ (GEs.of [true,false] (by simp)) (by simp) (by simp) (by simp) (fun _=>Z0 h4)),.u 12 (.cw V0 [2000000000] [] [(U0 .rd y4.2).cells] [] [.ptr 0 0,iV 14] _ _ _ _ _ (GEs.of [true,false] (by simp)) (by simp) (by simp) (by simp) (fun _=>Z0 h5))] fun _=>?_
 refine X6 (r:=r) (Zk y2 y4) 0 (fun v7:l01Cur×Int=>⟨[(2,.ptr 2 0),(3,.ptr 3 0)],[],[(2000000000,(U0 .rd v7.1).cells),(2,(eVec (Vec.mk 0 0 0)).cells),(3,(eVec (Vec.mk y2.1 v7.2 y4.1)).cells)],[]⟩) (by kernel_rfl) (fun v7 H=>?_) (fun J9=>?_)
 .unfold Zk at H
  refine wP ?_
  replace H:=sI H;subst H
  exact X3 [(2,.d)] [(2,[]),(2000000000,[])] [] [] [] (by kernel_rfl)
 .refine O0 H (fun H=>?_) fun H=>?_
  .obtain⟨y6,h6,H⟩:=bB H
   refine wG [.u 15 (.cw V0 [2000000000] [] [(U0 .rd y5.2).cells] [] [.ptr 0 0,iV 2] _ _ _ _ _ (GEs.of [true,false] (by simp)) (by simp) (by simp) (by simp) (fun _=>Z0 h6))] fun _=>?_
   exact wT (J9 _ H)
  .refine wP ?_
   exact wT (J9 _ H)
noncomputable def V0E:L :=
 lf Tryz.prog OA [] [] [] [] [] [] [31,63,127]
def Z0D:List Rv:=[.c 2 3 true]
theorem X0H:Ms Tryz.prog OA 1 V0E Z0D=true:=by kernel_rfl
def Xh(v5 v7 v9:l01Cur×Int):Option (Vec×l01Cur) :=
 some ((Vec.mk v5.2 v7.2 v9.2),v9.1)
def Yd(y2:Vec×l01Cur)(y3:Int×l01Cur)(v5 v7:l01Cur×Int):Option (Vec×l01Cur) :=
 bif (y3.1==2)then((L4 v7.1).bind fun y8=>(Xh v5 v7) (y8.2,y8.1))else((Xh v5 v7) (v7.1,y2.1.c))
def Zd(y2:Vec×l01Cur)(y3:Int×l01Cur)(v5:l01Cur×Int):Option (Vec×l01Cur) :=
 bif (y3.1==1)then((L4 v5.1).bind fun y6=>(Yd y2 y3 v5) (y6.2,y6.1))else((Yd y2 y3 v5) (v5.1,y2.1.b))
def Vj(c1:l01Cur):Option (Vec×l01Cur) :=
 (Oy c1).bind fun y2=>(X0 y2.2 12).bind fun y3=>bif (y3.1==0)then((L4 y3.2).bind fun y4=>(Zd y2 y3) (y4.2,y4.1))else((Zd y2 y3) (y3.2,y2.1.a))
set_option maxRecDepth 20000 in
theorem J02{c1:l01Cur}{r:Vec×l01Cur}(H:Vj c1=some r):ConD Tryz.prog OA [.ptr 0 0] [(U0 .rd c1).cells] [] (eVec r.1) [(U0 .rd r.2).cells] [] []:=by
 refine WV [] X0H rfl (by kernel_rfl) ?_
 unfold Vj at H
 obtain⟨y2,h2,H⟩:=bB H
 obtain⟨y3,h3,H⟩:=bB H
 refine wG [.u 6 (.cw OM [2000000000] [] [(U0 .rd c1).cells] [] [.ptr 0 0] _ _ _ _ _ (GEs.of [true] (by simp)) (by simp) (by simp) (by simp) (fun _=>Q0B h2)),.u 8 (.cw V0 [2000000000] [] [(U0 .rd y2.2).cells] [] [.ptr 0 0,iV 12] _ _ _ _ _ (GEs.of [true,false] (by simp)) (by simp) (by simp) (by simp) (fun _=>Z0 h3))] fun _=>?_
 refine X6 (r:=r) (Zd y2 y3) 0 (fun v5:l01Cur×Int=>⟨[(0,.ptr 2000000000 0),(2,.ptr 2 0),(3,.ptr 3 0),(4,.int .i64 y3.1)],[],[(2000000000,(U0 .rd v5.1).cells),(2,(eVec (Vec.mk 0 0 0)).cells),(3,(eVec (Vec.mk v5.2 y2.1.b y2.1.c)).cells)],[]⟩) (by kernel_rfl) (fun v5 H=>?_) (fun J22=>?_)
 .unfold Zd at H
  refine wP ?_
  refine X6 (r:=r) (Yd y2 y3 v5) 0 (fun v7:l01Cur×Int=>⟨[(0,.ptr 2000000000 0),(2,.ptr 2 0),(3,.ptr 3 0),(4,.int .i64 y3.1)],[],[(2000000000,(U0 .rd v7.1).cells),(2,(eVec (Vec.mk 0 0 0)).cells),(3,(eVec (Vec.mk v5.2 v7.2 y2.1.c)).cells)],[]⟩) (by kernel_rfl) (fun v7 H=>?_) (fun J21=>?_)
  .unfold Yd at H
   refine wP ?_
   refine X6 (r:=r) (Xh v5 v7) 0 (fun v9:l01Cur×Int=>⟨[(2,.ptr 2 0),(3,.ptr 3 0)],[],[(2000000000,(U0 .rd v9.1).cells),(2,(eVec (Vec.mk 0 0 0)).cells),(3,(eVec (Vec.mk v5.2 v7.2 v9.2)).cells)],[]⟩) (by kernel_rfl) (fun v9 H=>?_) (fun J20=>?_)
   .unfold Xh at H
    refine wP ?_
    replace H:=sI H;subst H
    exact X3 [(2,.d)] [(2,[]),(2000000000,[])] [] [] [] (by kernel_rfl)
   .refine O0 H (fun H=>?_) fun H=>?_
    .obtain⟨y8,h8,H⟩:=bB H
     refine wG [.u 22 (.cw W6 [2000000000] [] [(U0 .rd v7.1).cells] [] [.ptr 0 0] _ _ _ _ _ (GEs.of [true] (by simp)) (by simp) (by simp) (by simp) (fun _=>V6 h8))] fun _=>?_
     exact wT (J20 _ H)
    .refine wP ?_
     exact wT (J20 _ H)
  .refine O0 H (fun H=>?_) fun H=>?_
   .obtain⟨y6,h6,H⟩:=bB H
    refine wG [.u 17 (.cw W6 [2000000000] [] [(U0 .rd v5.1).cells] [] [.ptr 0 0] _ _ _ _ _ (GEs.of [true] (by simp)) (by simp) (by simp) (by simp) (fun _=>V6 h6))] fun _=>?_
    exact wT (J21 _ H)
   .refine wP ?_
    exact wT (J21 _ H)
 .refine O0 H (fun H=>?_) fun H=>?_
  .obtain⟨y4,h4,H⟩:=bB H
   refine wG [.u 12 (.cw W6 [2000000000] [] [(U0 .rd y3.2).cells] [] [.ptr 0 0] _ _ _ _ _ (GEs.of [true] (by simp)) (by simp) (by simp) (by simp) (fun _=>V6 h4))] fun _=>?_
   exact wT (J22 _ H)
  .refine wP ?_
   exact wT (J22 _ H)
noncomputable def Z0v:L :=
 lf Tryz.prog MG [7] [] [] [] [] [] [31]
def U0t:List Rv:=[.t 4]
theorem V0x:Ms Tryz.prog MG 2 Z0v U0t=true:=by kernel_rfl
def Vl(v11:l01Cur×(List Int)):Option ((List Int)×l01Cur) :=
 some (v11.2,v11.1)
def Jx(t2:Topo)(v4:l01Cur×Int×(List Int))(k4:(l01Cur×Int×(List Int))->Option ((List Int)×l01Cur)):Option ((List Int)×l01Cur) :=
 bif (decide (0<v4.2.1))then((X0 v4.1 (t2.nodes.length:Int)).bind fun y5=>(appL 8 v4.2.2 [y5.1]).bind fun xs6=>k4 (y5.2,(w64 (v4.2.1-1)),xs6))else((X0 v4.1 10).bind fun y8=>bif (y8.1==0)then((L4 y8.2).bind fun y9=>(appL 8 v4.2.2 [y9.1]).bind fun xs10=>Vl (y9.2,xs10))else(Vl (y8.2,v4.2.2)))
def Xr(c1:l01Cur)(t2:Topo):Option ((List Int)×l01Cur) :=
 (X0 c1 5).bind fun y3=>whl (Jx t2) 9223372036854775807 (y3.2,y3.1,[])
set_option maxRecDepth 20000 in
theorem U0s{c1:l01Cur}{t2:Topo}{r:(List Int)×l01Cur}(H:Xr c1 t2=some r):ConD Tryz.prog MG [.ptr 0 0,X4 .rd t2] [(U0 .rd c1).cells] [] (nV 1 (r.1.map eI)) [(U0 .rd r.2).cells] [] []:=by
 refine WV [] V0x rfl (by kernel_rfl) ?_
 unfold Xr at H
 obtain⟨y3,h3,H⟩:=bB H
 refine wG [.u 9 (.cw V0 [2000000000] [] [(U0 .rd c1).cells] [] [.ptr 0 0,iV 5] _ _ _ _ _ (GEs.of [true,false] (by simp)) (by simp) (by simp) (by simp) (fun _=>Z0 h3))] fun _=>?_
 refine wW (fun(v4:l01Cur×Int×(List Int))=>⟨[(0,.ptr 2000000000 0),(3,.ptr 3 0),(5,.sref 7),(6,iV v4.2.1)],[],[(2000000000,(U0 .rd v4.1).cells),(3,(X4 .rd t2).cells)],[(7,⟨1,v4.2.2.map eI,false⟩)]⟩) H (fun v4 I m k4 H N13=>?_)
 unfold Jx at H
 refine wP ?_
 refine O0 H (fun H=>?_) fun H=>?_
 .obtain⟨y5,h5,H⟩:=bB H
  obtain⟨xs6,h6,H⟩:=bB H
  refine wG [.u 18 (.ln _ _ fun _=>lm t2.nodes Y1),.u 19 (.cw V0 [2000000000] [] [(U0 .rd v4.1).cells] [] [.ptr 0 0,iV (t2.nodes.length:Int)] _ _ _ _ _ (GEs.of [true,false] (by simp)) (by simp) (by simp) (by simp) (fun _=>Z0 h5)),.u 21 (.ap _ _ _ _ fun _=>L0 eI h6)] fun q7=>?_
  exact wT (N13 _ H)
 .obtain⟨y8,h8,H⟩:=bB H
  refine wG [.u 23 (.cw V0 [2000000000] [] [(U0 .rd v4.1).cells] [] [.ptr 0 0,iV 10] _ _ _ _ _ (GEs.of [true,false] (by simp)) (by simp) (by simp) (by simp) (fun _=>Z0 h8))] fun _=>?_
  refine X6 (r:=r) Vl 0 (fun v11:l01Cur×(List Int)=>⟨[(5,.sref 7)],[],[(2000000000,(U0 .rd v11.1).cells)],[(7,⟨1,v11.2.map eI,false⟩)]⟩) (by kernel_rfl) (fun v11 H=>?_) (fun J23=>?_)
  .unfold Vl at H
   refine wP ?_
   replace H:=sI H;subst H
   exact X3 [(4,.f)] [(2000000000,[])] [] [7] [] (by kernel_rfl)
  .refine O0 H (fun H=>?_) fun H=>?_
   .obtain⟨y9,h9,H⟩:=bB H
    obtain⟨xs10,h10,H⟩:=bB H
    refine wG [.u 27 (.cw W6 [2000000000] [] [(U0 .rd y8.2).cells] [] [.ptr 0 0] _ _ _ _ _ (GEs.of [true] (by simp)) (by simp) (by simp) (by simp) (fun _=>V6 h9)),.u 29 (.ap _ _ _ _ fun _=>L0 eI h10)] fun _=>?_
    exact wT (J23 _ H)
   .refine wP ?_
    exact wT (J23 _ H)
noncomputable def Z0E:L :=
 lf Tryz.prog WM [] [] [] [] [] [(4,[],[],[0,2,4,6,8,10,14,13,17],9),(6,[],[],[0,2,4,7],4),(8,[],[],[0,2,4,7],4),(10,[],[],[0,2,4,6,8,10,13,14],8)] [31,63,127,255,511]
def M0C:List Rv:=[.c 2 2 true]
theorem J0G:Ms Tryz.prog WM 1 Z0E M0C=true:=by kernel_rfl
def Zh(v14:l01Cur×(List Node))(v18:l01Cur×(List Int))(v19:(List Int)):Option (Topo×l01Cur) :=
 some ((Topo.mk v19 v14.2),v18.1)
def Jc(y3:Int×l01Cur)(v14:l01Cur×(List Node))(v18:l01Cur×(List Int)):Option (Topo×l01Cur) :=
 bif (y3.1==4)then((Zh v14 v18) [])else((Zh v14 v18) v18.2)
def Lc(y3:Int×l01Cur)(v8:l01Cur×(List Int))(v14:l01Cur×(List Node)):Option (Topo×l01Cur) :=
 bif (y3.1==3)then((lenQ v8.2).bind fun _=>(X0 v14.1 (v8.2.length:Int)).bind fun y16=>(appL 8 v8.2 [y16.1]).bind fun xs17=>(Jc y3 v14) (y16.2,xs17))else((Jc y3 v14) (v14.1,v8.2))
def Mc(y3:Int×l01Cur)(v8:l01Cur×(List Int))(v11:l01Cur×(List Node)):Option (Topo×l01Cur) :=
 bif ((y3.1==2)&&(decide (0<(v11.2.length:Int))))then((Vj v11.1).bind fun y12=>(idx v11.2 0).bind fun e13=>(Lc y3 v8) (y12.2,(v11.2.set (0:Int).toNat (Node.mk e13.leaf y12.1))))else((Lc y3 v8) (v11.1,v11.2))
def Oc(y2:Topo×l01Cur)(y3:Int×l01Cur)(v8:l01Cur×(List Int)):Option (Topo×l01Cur) :=
 bif ((y3.1==1)&&(decide (0<(y2.1.nodes.length:Int))))then((L4 v8.1).bind fun y9=>(idx y2.1.nodes 0).bind fun e10=>(Mc y3 v8) (y9.2,(y2.1.nodes.set (0:Int).toNat (Node.mk y9.1 e10.cap))))else((Mc y3 v8) (v8.1,y2.1.nodes))
def Wy(c1:l01Cur):Option (Topo×l01Cur) :=
 (Uk c1).bind fun y2=>(X0 y2.2 14).bind fun y3=>bif (y3.1==0)then((lenQ y2.1.parents).bind fun _=>(X0 y3.2 (y2.1.parents.length:Int)).bind fun y5=>(L4 y5.2).bind fun y6=>(idx y2.1.parents y5.1).bind fun _=>(Oc y2 y3) (y6.2,(y2.1.parents.set y5.1.toNat y6.1)))else((Oc y2 y3) (y3.2,y2.1.parents))
set_option maxRecDepth 20000 in
theorem U0B{c1:l01Cur}{r:Topo×l01Cur}(H:Wy c1=some r):ConD Tryz.prog WM [.ptr 0 0] [(U0 .rd c1).cells] [] (.agg [.sref 0,.sref 1]) [(U0 .rd r.2).cells] [] [(1,r.1.parents.map eI),(4,r.1.nodes.map Y1)]:=by
 refine WV [] J0G rfl (by kernel_rfl) ?_
 unfold Wy at H
 obtain⟨y2,h2,H⟩:=bB H
 obtain⟨y3,h3,H⟩:=bB H
 refine wG [.u 6 (.cw Js [2000000000] [] [(U0 .rd c1).cells] [] [.ptr 0 0] _ _ _ _ _ (GEs.of [true] (by simp)) (by simp) (by simp) (by simp) (fun _=>WW h2)),.u 8 (.cw V0 [2000000000] [] [(U0 .rd y2.2).cells] [] [.ptr 0 0,iV 14] _ _ _ _ _ (GEs.of [true,false] (by simp)) (by simp) (by simp) (by simp) (fun _=>Z0 h3))] fun _=>?_
 refine X6 (r:=r) (Oc y2 y3) 0 (fun v8:l01Cur×(List Int)=>⟨[(0,.ptr 2000000000 0),(2,.ptr 2 0),(3,.ptr 3 0),(4,.int .i64 y3.1)],[],[(2000000000,(U0 .rd v8.1).cells),(2,[.nl,.nl]),(3,[.sref 7000,.sref 7001])],[(7000,⟨1,v8.2.map eI,false⟩),(7001,⟨4,y2.1.nodes.map Y1,false⟩)]⟩) (by kernel_rfl) (fun v8 H=>?_) (fun J34=>?_)
 .unfold Oc at H
  refine wG [.g 26 [((y3.1==1),true)] (.ln _ _ fun _=>lm y2.1.nodes Y1)] fun _=>?_
  refine X6 (r:=r) (Mc y3 v8) 0 (fun v11:l01Cur×(List Node)=>⟨[(0,.ptr 2000000000 0),(2,.ptr 2 0),(3,.ptr 3 0),(4,.int .i64 y3.1)],[],[(2000000000,(U0 .rd v11.1).cells),(2,[.nl,.nl]),(3,[.sref 7000,.sref 7001])],[(7000,⟨1,v8.2.map eI,false⟩),(7001,⟨4,v11.2.map Y1,false⟩)]⟩) (by kernel_rfl) (fun v11 H=>?_) (fun J33=>?_)
  .unfold Mc at H
   refine wG [.g 40 [((y3.1==2),true)] (.ln _ _ fun _=>lm v11.2 Y1)] fun _=>?_
   refine X6 (r:=r) (Lc y3 v8) 0 (fun v14:l01Cur×(List Node)=>⟨[(0,.ptr 2000000000 0),(2,.ptr 2 0),(3,.ptr 3 0),(4,.int .i64 y3.1)],[],[(2000000000,(U0 .rd v14.1).cells),(2,[.nl,.nl]),(3,[.sref 7000,.sref 7001])],[(7000,⟨1,v8.2.map eI,false⟩),(7001,⟨4,v14.2.map Y1,false⟩)]⟩) (by kernel_rfl) (fun v14 H=>?_) (fun J32=>?_)
   .unfold Lc at H
    refine wP ?_
    refine X6 (r:=r) (Jc y3 v14) 0 (fun v18:l01Cur×(List Int)=>⟨[(2,.ptr 2 0),(3,.ptr 3 0),(4,.int .i64 y3.1)],[],[(2000000000,(U0 .rd v18.1).cells),(2,[.nl,.nl]),(3,[.sref 7000,.sref 7001])],[(7000,⟨1,v18.2.map eI,false⟩),(7001,⟨4,v14.2.map Y1,false⟩)]⟩) (by kernel_rfl) (fun v18 H=>?_) (fun J31=>?_)
    .unfold Jc at H
     refine wP ?_
     refine X6 (r:=r) (Zh v14 v18) 0 (fun v19:(List Int)=>⟨[(2,.ptr 2 0),(3,.ptr 3 0)],[],[(2000000000,(U0 .rd v18.1).cells),(2,[.nl,.nl]),(3,[.sref 530000,.sref 7001])],[(530000,⟨1,v19.map eI,false⟩),(7001,⟨4,v14.2.map Y1,false⟩)]⟩) (by kernel_rfl) (fun v19 H=>?_) (fun J30=>?_)
     .unfold Zh at H
      refine wP ?_
      replace H:=sI H;subst H
      exact X3 [(2,.d)] [(2,[]),(2000000000,[])] [(530000,some 530000,0),(7001,some 7001,0)] [] [530000,7001] (by kernel_rfl)
     .refine O0 H (fun H=>?_) fun H=>?_
      .refine wP ?_
       exact U05 (J30 _ H) [] [(3,[.z 530000,.d])] [(530000,(none,1))] [] (by kernel_rfl) (by kernel_rfl)
      .refine wP ?_
       exact U05 (J30 _ H) [] [] [(530000,(some 7000,0))] [] (by kernel_rfl) (by kernel_rfl)
    .refine O0 H (fun H=>?_) fun H=>?_
     .obtain⟨u15,h15,H⟩:=bB H
      obtain⟨y16,h16,H⟩:=bB H
      obtain⟨xs17,h17,H⟩:=bB H
      refine wG [.u 56 (.le _ _ (fun _=>lm v8.2 eI) (fun _=>LC h15)),.u 57 (.cz V0 [2000000000] [(U0 .rd v14.1).cells] [.ptr 0 0,iV (v8.2.length:Int)] _ _ _ (by simp) (by simp) (fun _=>by simp) (fun _=>Z0 h16)),.u 59 (.ap _ _ _ _ fun _=>L0 eI h17)] fun _=>?_
      exact wT (J31 _ H)
     .refine wP ?_
      exact wT (J31 _ H)
   .refine O0 H (fun H=>?_) fun H=>?_
    .obtain⟨y12,h12,H⟩:=bB H
     obtain⟨e13,h13,H⟩:=bB H
     refine wG [.u 46 (.cz OA [2000000000] [(U0 .rd v11.1).cells] [.ptr 0 0] _ _ _ (by simp) (by simp) (fun _=>by simp) (fun _=>J02 h12)),.u 47 (.ix _ _ _ fun _=>Q0 Y1 h13),.u 1000000 (.sto _ _ _ (Y1 (Node.mk e13.leaf y12.1)) _ (fun _=>gm Y1 (W4 h13)) (fun _=>MC ..))] fun _=>?_
     exact wT (J32 _ H)
    .refine wP ?_
     exact wT (J32 _ H)
  .refine O0 H (fun H=>?_) fun H=>?_
   .obtain⟨y9,h9,H⟩:=bB H
    obtain⟨e10,h10,H⟩:=bB H
    refine wG [.u 32 (.cz W6 [2000000000] [(U0 .rd v8.1).cells] [.ptr 0 0] _ _ _ (by simp) (by simp) (fun _=>by simp) (fun _=>V6 h9)),.u 33 (.ix _ _ _ fun _=>Q0 Y1 h10),.u 1000000 (.sto _ _ _ (Y1 (Node.mk y9.1 e10.cap)) _ (fun _=>gm Y1 (W4 h10)) (fun _=>MC ..))] fun _=>?_
    exact wT (J33 _ H)
   .refine wP ?_
    exact wT (J33 _ H)
 .refine O0 H (fun H=>?_) fun H=>?_
  .obtain⟨u4,h4,H⟩:=bB H
   obtain⟨y5,h5,H⟩:=bB H
   obtain⟨y6,h6,H⟩:=bB H
   obtain⟨e7,h7,H⟩:=bB H
   refine wG [.u 16 (.le _ _ (fun _=>lm y2.1.parents eI) (fun _=>LC h4)),.u 17 (.cz V0 [2000000000] [(U0 .rd y3.2).cells] [.ptr 0 0,iV (y2.1.parents.length:Int)] _ _ _ (by simp) (by simp) (fun _=>by simp) (fun _=>Z0 h5)),.u 19 (.cz W6 [2000000000] [(U0 .rd y5.2).cells] [.ptr 0 0] _ _ _ (by simp) (by simp) (fun _=>by simp) (fun _=>V6 h6)),.u 20 (.ix _ _ _ fun _=>Q0 eI h7),.u 1000000 (.sto _ _ _ (eI y6.1) _ (fun _=>gm eI (W4 h7)) (fun _=>MC ..))] fun _=>?_
   exact wT (J34 _ H)
  .refine wP ?_
   exact wT (J34 _ H)
noncomputable def Q0D:L :=
 lf Tryz.prog QM [] [] [] [] [(6,8),(12,8)] [(10,[],[],[0,2,4,7],4),(14,[],[],[0,2,4,8,12,7,11,15,16,18],10),(16,[],[],[0,2,4,6,8,11],6)] [31,63,127,255,511,1023,2047,4095,8191,16383]
def W0C:List Rv:=[.c 2 11 true]
theorem M0G:Ms Tryz.prog QM 1 Q0D W0C=true:=by kernel_rfl
def Mg(v5:l01Cur×Int)(v7:(List Bool))(v9:l01Cur×Int×Int×Int)(v15:(List Job))(v20:l01Cur×(List End))(v25:(List Run))(v27:l01Cur×Int)(v29:l01Cur×(List Int)×(List Node)):Option (State×l01Cur) :=
 some ((State.mk (Topo.mk v29.2.1 v29.2.2) v7 (Vec.mk v9.2.1 v9.2.2.1 v9.2.2.2) v27.2 v5.2 v15 v25 v20.2),v29.1)
def Wc(y2:State×l01Cur)(y3:Int×l01Cur)(v5:l01Cur×Int)(v7:(List Bool))(v9:l01Cur×Int×Int×Int)(v15:(List Job))(v20:l01Cur×(List End))(v25:(List Run))(v27:l01Cur×Int):Option (State×l01Cur) :=
 bif (y3.1==9)then((Wy v27.1).bind fun y28=>(Mg v5 v7 v9 v15 v20 v25 v27) (y28.2,y28.1.parents,y28.1.nodes))else((Mg v5 v7 v9 v15 v20 v25 v27) (v27.1,y2.1.topo.parents,y2.1.topo.nodes))
def Qc(y2:State×l01Cur)(y3:Int×l01Cur)(v5:l01Cur×Int)(v7:(List Bool))(v9:l01Cur×Int×Int×Int)(v15:(List Job))(v20:l01Cur×(List End))(v23:l01Cur×(List Run))(v25:(List Run)):Option (State×l01Cur) :=
 bif (y3.1==8)then((L4 v23.1).bind fun y26=>(Wc y2 y3 v5 v7 v9 v15 v20 v25) (y26.2,y26.1))else((Wc y2 y3 v5 v7 v9 v15 v20 v25) (v23.1,y2.1.depth))
def Uc(y2:State×l01Cur)(y3:Int×l01Cur)(v5:l01Cur×Int)(v7:(List Bool))(v9:l01Cur×Int×Int×Int)(v15:(List Job))(v20:l01Cur×(List End))(v23:l01Cur×(List Run)):Option (State×l01Cur) :=
 bif ((y3.1==7)&&(decide (0<(v23.2.length:Int))))then((idx v23.2 0).bind fun e24=>(Qc y2 y3 v5 v7 v9 v15 v20 v23) (v23.2.set (0:Int).toNat (Run.mk (Job.mk e24.job.id e24.job.prio e24.job.nodes e24.job.need e24.job.lic e24.job.wall 0) e24.t e24.nodes)))else((Qc y2 y3 v5 v7 v9 v15 v20 v23) v23.2)
def Vc(y2:State×l01Cur)(y3:Int×l01Cur)(v5:l01Cur×Int)(v7:(List Bool))(v9:l01Cur×Int×Int×Int)(v12:l01Cur×(List Run))(v15:(List Job))(v20:l01Cur×(List End)):Option (State×l01Cur) :=
 bif ((y3.1==6)&&(decide (0<(v12.2.length:Int))))then((Xr v20.1 y2.1.topo).bind fun y21=>(idx v12.2 0).bind fun e22=>(Uc y2 y3 v5 v7 v9 v15 v20) (y21.2,(v12.2.set (0:Int).toNat (Run.mk e22.job e22.t y21.1))))else((Uc y2 y3 v5 v7 v9 v15 v20) (v20.1,v12.2))
def Xc(y2:State×l01Cur)(y3:Int×l01Cur)(v5:l01Cur×Int)(v7:(List Bool))(v9:l01Cur×Int×Int×Int)(v12:l01Cur×(List Run))(v15:(List Job)):Option (State×l01Cur) :=
 bif (y3.1==5)then((X0 v12.1 3).bind fun y16=>(X0 y16.2 3).bind fun y17=>(X0 y17.2 6).bind fun y18=>(appL 24 y2.1.ends [(End.mk y16.1 y17.1 y18.1)]).bind fun xs19=>(Vc y2 y3 v5 v7 v9 v12 v15) (y18.2,xs19))else((Vc y2 y3 v5 v7 v9 v12 v15) (v12.1,y2.1.ends))
def Yc(y2:State×l01Cur)(y3:Int×l01Cur)(v5:l01Cur×Int)(v7:(List Bool))(v9:l01Cur×Int×Int×Int)(v12:l01Cur×(List Run)):Option (State×l01Cur) :=
 bif ((y3.1==4)&&(decide (0<(v12.2.length:Int))))then((idx v12.2 0).bind fun e13=>(appL 88 y2.1.queue [e13.job]).bind fun xs14=>(Xc y2 y3 v5 v7 v9 v12) xs14)else((Xc y2 y3 v5 v7 v9 v12) y2.1.queue)
def Jb(y2:State×l01Cur)(y3:Int×l01Cur)(v5:l01Cur×Int)(v7:(List Bool))(v9:l01Cur×Int×Int×Int):Option (State×l01Cur) :=
 bif ((y3.1==3)&&(decide (0<(y2.1.runs.length:Int))))then((L4 v9.1).bind fun y10=>(idx y2.1.runs 0).bind fun e11=>(Yc y2 y3 v5 v7 v9) (y10.2,(y2.1.runs.set (0:Int).toNat (Run.mk e11.job y10.1 e11.nodes))))else((Yc y2 y3 v5 v7 v9) (v9.1,y2.1.runs))
def Lb(y2:State×l01Cur)(y3:Int×l01Cur)(v5:l01Cur×Int)(v7:(List Bool)):Option (State×l01Cur) :=
 bif (y3.1==2)then((Vj v5.1).bind fun y8=>(Jb y2 y3 v5 v7) (y8.2,y8.1.a,y8.1.b,y8.1.c))else((Jb y2 y3 v5 v7) (v5.1,y2.1.lic.a,y2.1.lic.b,y2.1.lic.c))
def Mb(y2:State×l01Cur)(y3:Int×l01Cur)(v5:l01Cur×Int):Option (State×l01Cur) :=
 bif ((y3.1==1)&&(decide (0<(y2.1.up.length:Int))))then((idx y2.1.up 0).bind fun e6=>(Lb y2 y3 v5) (y2.1.up.set (0:Int).toNat (!e6)))else((Lb y2 y3 v5) y2.1.up)
def Qx(c1:l01Cur):Option (State×l01Cur) :=
 (Jq c1 14).bind fun y2=>(X0 y2.2 20).bind fun y3=>bif (y3.1==0)then((L4 y3.2).bind fun y4=>(Mb y2 y3) (y4.2,y4.1))else((Mb y2 y3) (y3.2,y2.1.now))
set_option maxRecDepth 20000 in
theorem J0A{c1:l01Cur}{r:State×l01Cur}(H:Qx c1=some r):ConD Tryz.prog QM [.ptr 0 0] [(U0 .rd c1).cells] [] (.agg [nV 1 (r.1.topo.parents.map eI),nV 4 (r.1.topo.nodes.map Y1),.sref 0,iV r.1.lic.a,iV r.1.lic.b,iV r.1.lic.c,iV r.1.depth,iV r.1.now,.sref 1,.sref 2,.sref 3]) [(U0 .rd r.2).cells] [] [(1,r.1.up.map eBo),(11,r.1.queue.map eJob),(13,r.1.runs.map (Z1 .nw)),(3,r.1.ends.map eEnd)]:=by
 refine WV [] M0G rfl (by kernel_rfl) ?_
 unfold Qx at H
 obtain⟨y2,h2,H⟩:=bB H
 obtain⟨y3,h3,H⟩:=bB H
 refine wG [.u 6 (.cw OG [2000000000] [] [(U0 .rd c1).cells] [] [.ptr 0 0,iV 14] _ _ _ _ _ (GEs.of [true,false] (by simp)) (by simp) (by simp) (by simp) (fun _=>Z0s h2)),.u 8 (.cw V0 [2000000000] [] [(U0 .rd y2.2).cells] [] [.ptr 0 0,iV 20] _ _ _ _ _ (GEs.of [true,false] (by simp)) (by simp) (by simp) (by simp) (fun _=>Z0 h3))] fun _=>?_
 refine X6 (r:=r) (Mb y2 y3) 0 (fun v5:l01Cur×Int=>⟨[(0,.ptr 2000000000 0),(2,.ptr 2 0),(3,.ptr 3 0),(4,.int .i64 y3.1)],[],[(2000000000,(U0 .rd v5.1).cells),(2,[.nl,.nl,.nl,.int .i64 0,.int .i64 0,.int .i64 0,.int .i64 0,.int .i64 0,.nl,.nl,.nl]),(3,[.sl .nw 1 (y2.1.topo.parents.map eI),.sl .nw 4 (y2.1.topo.nodes.map Y1),.sref 7000,.int .i64 y2.1.lic.a,.int .i64 y2.1.lic.b,.int .i64 y2.1.lic.c,.int .i64 y2.1.depth,.int .i64 v5.2,.sref 7001,.sref 7002,.sref 7003])],[(7000,⟨1,y2.1.up.map eBo,false⟩),(7001,⟨11,y2.1.queue.map eJob,false⟩),(7002,⟨13,y2.1.runs.map (Z1 .nw),false⟩),(7003,⟨3,y2.1.ends.map eEnd,false⟩)]⟩) (by kernel_rfl) (fun v5 H=>?_) (fun J64=>?_)
 .unfold Mb at H
  refine wG [.g 19 [((y3.1==1),true)] (.ln _ _ fun _=>lm y2.1.up eBo)] fun _=>?_
  refine X6 (r:=r) (Lb y2 y3 v5) 0 (fun v7:(List Bool)=>⟨[(0,.ptr 2000000000 0),(2,.ptr 2 0),(3,.ptr 3 0),(4,.int .i64 y3.1)],[],[(2000000000,(U0 .rd v5.1).cells),(2,[.nl,.nl,.nl,.int .i64 0,.int .i64 0,.int .i64 0,.int .i64 0,.int .i64 0,.nl,.nl,.nl]),(3,[.sl .nw 1 (y2.1.topo.parents.map eI),.sl .nw 4 (y2.1.topo.nodes.map Y1),.sref 7000,.int .i64 y2.1.lic.a,.int .i64 y2.1.lic.b,.int .i64 y2.1.lic.c,.int .i64 y2.1.depth,.int .i64 v5.2,.sref 7001,.sref 7002,.sref 7003])],[(7000,⟨1,v7.map eBo,false⟩),(7001,⟨11,y2.1.queue.map eJob,false⟩),(7002,⟨13,y2.1.runs.map (Z1 .nw),false⟩),(7003,⟨3,y2.1.ends.map eEnd,false⟩)]⟩) (by kernel_rfl) (fun v7 H=>?_) (fun J63=>?_)
  .unfold Lb at H
   refine wP ?_
   refine X6 (r:=r) (Jb y2 y3 v5 v7) 0 (fun v9:l01Cur×Int×Int×Int=>⟨[(0,.ptr 2000000000 0),(2,.ptr 2 0),(3,.ptr 3 0),(4,.int .i64 y3.1)],[],[(2000000000,(U0 .rd v9.1).cells),(2,[.nl,.nl,.nl,.int .i64 0,.int .i64 0,.int .i64 0,.int .i64 0,.int .i64 0,.nl,.nl,.nl]),(3,[.sl .nw 1 (y2.1.topo.parents.map eI),.sl .nw 4 (y2.1.topo.nodes.map Y1),.sref 7000,.int .i64 v9.2.1,.int .i64 v9.2.2.1,.int .i64 v9.2.2.2,.int .i64 y2.1.depth,.int .i64 v5.2,.sref 7001,.sref 7002,.sref 7003])],[(7000,⟨1,v7.map eBo,false⟩),(7001,⟨11,y2.1.queue.map eJob,false⟩),(7002,⟨13,y2.1.runs.map (Z1 .nw),false⟩),(7003,⟨3,y2.1.ends.map eEnd,false⟩)]⟩) (by kernel_rfl) (fun v9 H=>?_) (fun J62=>?_)
   .unfold Jb at H
    refine wG [.g 40 [((y3.1==3),true)] (.ln _ _ fun _=>lm y2.1.runs (Z1 .nw))] fun _=>?_
    refine X6 (r:=r) (Yc y2 y3 v5 v7 v9) 0 (fun v12:l01Cur×(List Run)=>⟨[(0,.ptr 2000000000 0),(2,.ptr 2 0),(3,.ptr 3 0),(4,.int .i64 y3.1)],[],[(2000000000,(U0 .rd v12.1).cells),(2,[.nl,.nl,.nl,.int .i64 0,.int .i64 0,.int .i64 0,.int .i64 0,.int .i64 0,.nl,.nl,.nl]),(3,[.sl .nw 1 (y2.1.topo.parents.map eI),.sl .nw 4 (y2.1.topo.nodes.map Y1),.sref 7000,.int .i64 v9.2.1,.int .i64 v9.2.2.1,.int .i64 v9.2.2.2,.int .i64 y2.1.depth,.int .i64 v5.2,.sref 7001,.sref 7002,.sref 7003])],[(7000,⟨1,v7.map eBo,false⟩),(7001,⟨11,y2.1.queue.map eJob,false⟩),(7002,⟨13,v12.2.map (Z1 .nw),false⟩),(7003,⟨3,y2.1.ends.map eEnd,false⟩)]⟩) (by kernel_rfl) (fun v12 H=>?_) (fun J61=>?_)
    .unfold Yc at H
     refine wG [.g 54 [((y3.1==4),true)] (.ln _ _ fun _=>lm v12.2 (Z1 .nw))] fun _=>?_
     refine X6 (r:=r) (Xc y2 y3 v5 v7 v9 v12) 0 (fun v15:(List Job)=>⟨[(0,.ptr 2000000000 0),(2,.ptr 2 0),(3,.ptr 3 0),(4,.int .i64 y3.1)],[],[(2000000000,(U0 .rd v12.1).cells),(2,[.nl,.nl,.nl,.int .i64 0,.int .i64 0,.int .i64 0,.int .i64 0,.int .i64 0,.nl,.nl,.nl]),(3,[.sl .nw 1 (y2.1.topo.parents.map eI),.sl .nw 4 (y2.1.topo.nodes.map Y1),.sref 7000,.int .i64 v9.2.1,.int .i64 v9.2.2.1,.int .i64 v9.2.2.2,.int .i64 y2.1.depth,.int .i64 v5.2,.sref 7001,.sref 7002,.sref 7003])],[(7000,⟨1,v7.map eBo,false⟩),(7001,⟨11,v15.map eJob,false⟩),(7002,⟨13,v12.2.map (Z1 .nw),false⟩),(7003,⟨3,y2.1.ends.map eEnd,false⟩)]⟩) (by kernel_rfl) (fun v15 H=>?_) (fun J60=>?_)
     .unfold Xc at H
      refine wP ?_
      refine X6 (r:=r) (Vc y2 y3 v5 v7 v9 v12 v15) 0 (fun v20:l01Cur×(List End)=>⟨[(0,.ptr 2000000000 0),(2,.ptr 2 0),(3,.ptr 3 0),(4,.int .i64 y3.1)],[],[(2000000000,(U0 .rd v20.1).cells),(2,[.nl,.nl,.nl,.int .i64 0,.int .i64 0,.int .i64 0,.int .i64 0,.int .i64 0,.nl,.nl,.nl]),(3,[.sl .nw 1 (y2.1.topo.parents.map eI),.sl .nw 4 (y2.1.topo.nodes.map Y1),.sref 7000,.int .i64 v9.2.1,.int .i64 v9.2.2.1,.int .i64 v9.2.2.2,.int .i64 y2.1.depth,.int .i64 v5.2,.sref 7001,.sref 7002,.sref 7003])],[(7000,⟨1,v7.map eBo,false⟩),(7001,⟨11,v15.map eJob,false⟩),(7002,⟨13,v12.2.map (Z1 .nw),false⟩),(7003,⟨3,v20.2.map eEnd,false⟩)]⟩) (by kernel_rfl) (fun v20 H=>?_) (fun J59=>?_)
      .unfold Vc at H
       refine wG [.g 86 [((y3.1==6),true)] (.ln _ _ fun _=>lm v12.2 (Z1 .nw))] fun _=>?_
       refine X6 (r:=r) (Uc y2 y3 v5 v7 v9 v15 v20) 0 (fun v23:l01Cur×(List Run)=>⟨[(0,.ptr 2000000000 0),(2,.ptr 2 0),(3,.ptr 3 0),(4,.int .i64 y3.1)],[],[(2000000000,(U0 .rd v23.1).cells),(2,[.nl,.nl,.nl,.int .i64 0,.int .i64 0,.int .i64 0,.int .i64 0,.int .i64 0,.nl,.nl,.nl]),(3,[.sl .nw 1 (y2.1.topo.parents.map eI),.sl .nw 4 (y2.1.topo.nodes.map Y1),.sref 7000,.int .i64 v9.2.1,.int .i64 v9.2.2.1,.int .i64 v9.2.2.2,.int .i64 y2.1.depth,.int .i64 v5.2,.sref 7001,.sref 7002,.sref 7003])],[(7000,⟨1,v7.map eBo,false⟩),(7001,⟨11,v15.map eJob,false⟩),(7002,⟨13,v23.2.map (Z1 .nw),false⟩),(7003,⟨3,v20.2.map eEnd,false⟩)]⟩) (by kernel_rfl) (fun v23 H=>?_) (fun J58=>?_)
       .unfold Uc at H
        refine wG [.g 102 [((y3.1==7),true)] (.ln _ _ fun _=>lm v23.2 (Z1 .nw))] fun _=>?_
        refine X6 (r:=r) (Qc y2 y3 v5 v7 v9 v15 v20 v23) 0 (fun v25:(List Run)=>⟨[(0,.ptr 2000000000 0),(2,.ptr 2 0),(3,.ptr 3 0),(4,.int .i64 y3.1)],[],[(2000000000,(U0 .rd v23.1).cells),(2,[.nl,.nl,.nl,.int .i64 0,.int .i64 0,.int .i64 0,.int .i64 0,.int .i64 0,.nl,.nl,.nl]),(3,[.sl .nw 1 (y2.1.topo.parents.map eI),.sl .nw 4 (y2.1.topo.nodes.map Y1),.sref 7000,.int .i64 v9.2.1,.int .i64 v9.2.2.1,.int .i64 v9.2.2.2,.int .i64 y2.1.depth,.int .i64 v5.2,.sref 7001,.sref 7002,.sref 7003])],[(7000,⟨1,v7.map eBo,false⟩),(7001,⟨11,v15.map eJob,false⟩),(7002,⟨13,v25.map (Z1 .nw),false⟩),(7003,⟨3,v20.2.map eEnd,false⟩)]⟩) (by kernel_rfl) (fun v25 H=>?_) (fun J57=>?_)
        .unfold Qc at H
         refine wP ?_
         refine X6 (r:=r) (Wc y2 y3 v5 v7 v9 v15 v20 v25) 0 (fun v27:l01Cur×Int=>⟨[(0,.ptr 2000000000 0),(2,.ptr 2 0),(3,.ptr 3 0),(4,.int .i64 y3.1)],[],[(2000000000,(U0 .rd v27.1).cells),(2,[.nl,.nl,.nl,.int .i64 0,.int .i64 0,.int .i64 0,.int .i64 0,.int .i64 0,.nl,.nl,.nl]),(3,[.sl .nw 1 (y2.1.topo.parents.map eI),.sl .nw 4 (y2.1.topo.nodes.map Y1),.sref 7000,.int .i64 v9.2.1,.int .i64 v9.2.2.1,.int .i64 v9.2.2.2,.int .i64 v27.2,.int .i64 v5.2,.sref 7001,.sref 7002,.sref 7003])],[(7000,⟨1,v7.map eBo,false⟩),(7001,⟨11,v15.map eJob,false⟩),(7002,⟨13,v25.map (Z1 .nw),false⟩),(7003,⟨3,v20.2.map eEnd,false⟩)]⟩) (by kernel_rfl) (fun v27 H=>?_) (fun J56=>?_)
         .unfold Wc at H
          refine wP ?_
          refine X6 (r:=r) (Mg v5 v7 v9 v15 v20 v25 v27) 0 (fun v29:l01Cur×(List Int)×(List Node)=>⟨[(2,.ptr 2 0),(3,.ptr 3 0)],[],[(2000000000,(U0 .rd v29.1).cells),(2,[.nl,.nl,.nl,.int .i64 0,.int .i64 0,.int .i64 0,.int .i64 0,.int .i64 0,.nl,.nl,.nl]),(3,[.sl .nw 1 (v29.2.1.map eI),.sl .nw 4 (v29.2.2.map Y1),.sref 7000,.int .i64 v9.2.1,.int .i64 v9.2.2.1,.int .i64 v9.2.2.2,.int .i64 v27.2,.int .i64 v5.2,.sref 7001,.sref 7002,.sref 7003])],[(7000,⟨1,v7.map eBo,false⟩),(7001,⟨11,v15.map eJob,false⟩),(7002,⟨13,v25.map (Z1 .nw),false⟩),(7003,⟨3,v20.2.map eEnd,false⟩)]⟩) (by kernel_rfl) (fun v29 H=>?_) (fun J55=>?_)
          .unfold Mg at H
           refine wP ?_
           replace H:=sI H;subst H
           exact X3 [(2,.d)] [(2,[]),(2000000000,[])] [(7000,some 7000,0),(7001,some 7001,0),(7002,some 7002,0),(7003,some 7003,0)] [] [7000,7001,7002,7003] (by kernel_rfl)
          .refine O0 H (fun H=>?_) fun H=>?_
           .obtain⟨y28,h28,H⟩:=bB H
            refine wG [.u 118 (.cw WM [2000000000] [] [(U0 .rd v27.1).cells] [] [.ptr 0 0] _ _ _ _ _ (GEs.of [true] (by simp)) (by simp) (by simp) (by simp) (fun _=>U0B h28))] fun _=>?_
            exact U05 (J55 _ H) [] [(3,[.f,.f,.d,.d,.d,.d,.d,.d,.d,.d,.d])] [] [119000,119001] (by kernel_rfl) (by kernel_rfl)
           .refine wP ?_
            exact wT (J55 _ H)
         .refine O0 H (fun H=>?_) fun H=>?_
          .obtain⟨y26,h26,H⟩:=bB H
           refine wG [.u 113 (.cw W6 [2000000000] [] [(U0 .rd v23.1).cells] [] [.ptr 0 0] _ _ _ _ _ (GEs.of [true] (by simp)) (by simp) (by simp) (by simp) (fun _=>V6 h26))] fun _=>?_
           exact wT (J56 _ H)
          .refine wP ?_
           exact wT (J56 _ H)
        .refine O0 H (fun H=>?_) fun H=>?_
         .obtain⟨e24,h24,H⟩:=bB H
          refine wG [.u 107 (.ix _ _ _ fun _=>Q0 (Z1 .nw) h24),.u 1000000 (.sto _ _ _ (Z1 .nw (Run.mk (Job.mk e24.job.id e24.job.prio e24.job.nodes e24.job.need e24.job.lic e24.job.wall 0) e24.t e24.nodes)) _ (fun _=>gm (Z1 .nw) (W4 h24)) (fun _=>MC ..))] fun _=>?_
          exact wT (J57 _ H)
         .refine wP ?_
          exact wT (J57 _ H)
       .refine O0 H (fun H=>?_) fun H=>?_
        .obtain⟨y21,h21,H⟩:=bB H
         obtain⟨e22,h22,H⟩:=bB H
         refine wG [.u 94 (.cz MG [2000000000] [(U0 .rd v20.1).cells] [.ptr 0 0,X4 .nw y2.1.topo] _ _ _ (by simp) (by simp) (fun _=>by simp) (fun _=>U0s h21)),.u 95 (.ix _ _ _ fun _=>Q0 (Z1 .nw) h22),.u 1000000 (.sto _ _ _ (Z1 .nw (Run.mk e22.job e22.t y21.1)) _ (fun _=>gm (Z1 .nw) (W4 h22)) (fun _=>MC ..))] fun _=>?_
         exact wT (J58 _ H)
        .refine wP ?_
         exact wT (J58 _ H)
      .refine O0 H (fun H=>?_) fun H=>?_
       .obtain⟨y16,h16,H⟩:=bB H
        obtain⟨y17,h17,H⟩:=bB H
        obtain⟨y18,h18,H⟩:=bB H
        obtain⟨xs19,h19,H⟩:=bB H
        refine wG [.u 72 (.cz V0 [2000000000] [(U0 .rd v12.1).cells] [.ptr 0 0,iV 3] _ _ _ (by simp) (by simp) (fun _=>by simp) (fun _=>Z0 h16)),.u 74 (.cz V0 [2000000000] [(U0 .rd y16.2).cells] [.ptr 0 0,iV 3] _ _ _ (by simp) (by simp) (fun _=>by simp) (fun _=>Z0 h17)),.u 76 (.cz V0 [2000000000] [(U0 .rd y17.2).cells] [.ptr 0 0,iV 6] _ _ _ (by simp) (by simp) (fun _=>by simp) (fun _=>Z0 h18)),.u 79 (.ap _ _ _ _ fun _=>L0 eEnd h19)] fun _=>?_
        exact wT (J59 _ H)
       .refine wP ?_
        exact wT (J59 _ H)
     .refine O0 H (fun H=>?_) fun H=>?_
      .obtain⟨e13,h13,H⟩:=bB H
       obtain⟨xs14,h14,H⟩:=bB H
       refine wG [.u 61 (.ix _ _ _ fun _=>Q0 (Z1 .nw) h13),.u 63 (.el _ _ _ fun _=>gm (Z1 .nw) (W4 h13)),.u 65 (.ap _ _ _ _ fun _=>L0 eJob h14)] fun _=>?_
       exact wT (J60 _ H)
      .refine wP ?_
       exact wT (J60 _ H)
    .refine O0 H (fun H=>?_) fun H=>?_
     .obtain⟨y10,h10,H⟩:=bB H
      obtain⟨e11,h11,H⟩:=bB H
      refine wG [.u 46 (.cz W6 [2000000000] [(U0 .rd v9.1).cells] [.ptr 0 0] _ _ _ (by simp) (by simp) (fun _=>by simp) (fun _=>V6 h10)),.u 47 (.ix _ _ _ fun _=>Q0 (Z1 .nw) h11),.u 1000000 (.sto _ _ _ (Z1 .nw (Run.mk e11.job y10.1 e11.nodes)) _ (fun _=>gm (Z1 .nw) (W4 h11)) (fun _=>MC ..))] fun _=>?_
      exact wT (J61 _ H)
     .refine wP ?_
      exact wT (J61 _ H)
   .refine O0 H (fun H=>?_) fun H=>?_
    .obtain⟨y8,h8,H⟩:=bB H
     refine wG [.u 33 (.cw OA [2000000000] [] [(U0 .rd v5.1).cells] [] [.ptr 0 0] _ _ _ _ _ (GEs.of [true] (by simp)) (by simp) (by simp) (by simp) (fun _=>J02 h8))] fun _=>?_
     exact wT (J62 _ H)
    .refine wP ?_
     exact wT (J62 _ H)
  .refine O0 H (fun H=>?_) fun H=>?_
   .obtain⟨e6,h6,H⟩:=bB H
    refine wG [.u 26 (.ix _ _ _ fun _=>Q0 eBo h6),.u 27 (.el _ _ _ fun _=>gm eBo (W4 h6)),.u 29 (.ix _ _ _ fun _=>Q0 eBo h6),.u 1000000 (.sto _ _ _ (eBo (!e6)) _ (fun _=>gm eBo (W4 h6)) (fun _=>MC ..))] fun _=>?_
    exact wT (J63 _ H)
   .refine wP ?_
    exact wT (J63 _ H)
 .refine O0 H (fun H=>?_) fun H=>?_
  .obtain⟨y4,h4,H⟩:=bB H
   refine wG [.u 12 (.cw W6 [2000000000] [] [(U0 .rd y3.2).cells] [] [.ptr 0 0] _ _ _ _ _ (GEs.of [true] (by simp)) (by simp) (by simp) (by simp) (fun _=>V6 h4))] fun _=>?_
   exact wT (J64 _ H)
  .refine wP ?_
   exact wT (J64 _ H)
noncomputable def W0u:L :=
 lf Tryz.prog QG [] [] [] [] [] [(5,[],[7],[0,2,5,6,8,10,12],8)] [31]
def X0t:List Rv:=[.c 2 11 true]
theorem Y0x:Ms Tryz.prog QG 1 W0u X0t=true:=by kernel_rfl
def W9(v4:l01Cur×State×Int)(y8:Int×l01Cur)(v12:(List End)):Option (State×l01Cur) :=
 some ((State.mk v4.2.1.topo v4.2.1.up v4.2.1.lic v4.2.1.depth v4.2.1.now v4.2.1.queue v4.2.1.runs v12),y8.2)
def Yl(v4:l01Cur×State×Int)(y8:Int×l01Cur)(v9:(List End))(k9:(List End)->Option (State×l01Cur)):Option (State×l01Cur) :=
 bif (decide ((v9.length:Int)<299))then((appL 24 v9 [(End.mk 1 0 2)]).bind fun xs11=>k9 xs11)else((W9 v4 y8) v9)
def Lw(v4:l01Cur×State×Int)(k4:(l01Cur×State×Int)->Option (State×l01Cur)):Option (State×l01Cur) :=
 (bif (decide (0<v4.2.2))then(M6 v4.2.1)else some default).bind fun b5=>bif ((decide (0<v4.2.2))&&b5)then((Wo v4.1).bind fun y6=>(XC v4.2.1 y6.1).bind fun y7=>bif (y7.2==0)then(k4 (y6.2,y7.1,(w64 (v4.2.2-1))))else(k4 (y6.2,v4.2.1,(w64 (v4.2.2-1)))))else((X0 v4.1 30).bind fun y8=>bif (y8.1==0)then(whl (Yl v4 y8) 9223372036854775807 [])else((W9 v4 y8) v4.2.1.ends))
def Lq(c1:l01Cur):Option (State×l01Cur) :=
 (Qx c1).bind fun y2=>(X0 y2.2 5).bind fun y3=>whl Lw 9223372036854775807 (y3.2,y2.1,y3.1)
set_option maxRecDepth 20000 in
theorem L0r{c1:l01Cur}{r:State×l01Cur}(H:Lq c1=some r):ConD Tryz.prog QG [.ptr 0 0] [(U0 .rd c1).cells] [] (X2 .nw r.1) [(U0 .rd r.2).cells] [] []:=by
 refine WV [] Y0x rfl (by kernel_rfl) ?_
 unfold Lq at H
 obtain⟨y2,h2,H⟩:=bB H
 obtain⟨y3,h3,H⟩:=bB H
 refine wG [.u 8 (.cw QM [2000000000] [] [(U0 .rd c1).cells] [] [.ptr 0 0] _ _ _ _ _ (GEs.of [true] (by simp)) (by simp) (by simp) (by simp) (fun _=>J0A h2)),.u 10 (.cw V0 [2000000000] [] [(U0 .rd y2.2).cells] [] [.ptr 0 0,iV 5] _ _ _ _ _ (GEs.of [true,false] (by simp)) (by simp) (by simp) (by simp) (fun _=>Z0 h3))] fun _=>?_
 refine U10 (fun(v4:l01Cur×State×Int)=>⟨[(0,.ptr 2000000000 0),(2,.ptr 2 0),(3,.ptr 3 0),(4,.int .i64 v4.2.2)],[],[(2000000000,(U0 .rd v4.1).cells),(2,[.nl,.nl,.nl,.int .i64 0,.int .i64 0,.int .i64 0,.int .i64 0,.int .i64 0,.nl,.nl,.nl]),(3,(X2 .nw v4.2.1).cells)],[]⟩) [] [(3,[.d,.d,.f,.d,.d,.d,.d,.d,.f,.f,.f])] [] [9000,9001,9002,9003] (by kernel_rfl) (by kernel_rfl) H (fun v4 I m k4 H N19=>?_)
 unfold Lw at H
 obtain⟨b5,h5,H⟩:=bB H
 refine wG [.g 15 [(_,true)] (.call _ _ _ _ _ (AEs.of (xs:=[.agg [rV 1 (v4.2.1.topo.parents.map eI),rV 4 (v4.2.1.topo.nodes.map Y1),rV 1 (v4.2.1.up.map eBo),iV v4.2.1.lic.a,iV v4.2.1.lic.b,iV v4.2.1.lic.c,iV v4.2.1.depth,iV v4.2.1.now,rV 11 (v4.2.1.queue.map eJob),rV 13 (v4.2.1.runs.map (Z1 .nw)),rV 3 (v4.2.1.ends.map eEnd)]]) (by simp)) (fun q=>Y7 (bT q.1 h5)))] fun _=>?_
 refine O0 H (fun H=>?_) fun H=>?_
 .obtain⟨y6,h6,H⟩:=bB H
  obtain⟨y7,h7,H⟩:=bB H
  refine wG [.u 22 (.cz WA [2000000000] [(U0 .rd v4.1).cells] [.ptr 0 0] _ _ _ (by simp) (by simp) (fun _=>by simp) (fun _=>O02 h6)),.u 23 (.call _ _ _ _ _ (AEs.of (xs:=[.agg [rV 1 (v4.2.1.topo.parents.map eI),rV 4 (v4.2.1.topo.nodes.map Y1),rV 1 (v4.2.1.up.map eBo),iV v4.2.1.lic.a,iV v4.2.1.lic.b,iV v4.2.1.lic.c,iV v4.2.1.depth,iV v4.2.1.now,rV 11 (v4.2.1.queue.map eJob),rV 13 (v4.2.1.runs.map (Z1 .nw)),rV 3 (v4.2.1.ends.map eEnd)],.agg [iV y6.1.id,iV y6.1.prio,iV y6.1.nodes,iV y6.1.need.a,iV y6.1.need.b,iV y6.1.need.c,iV y6.1.lic.a,iV y6.1.lic.b,iV y6.1.lic.c,iV y6.1.wall,iV y6.1.level]]) (by simp)) (fun _=>Y0f h7))] fun _=>?_
  refine O0 H (fun H=>?_) fun H=>?_
  .refine wP ?_
   exact wT (N19 _ H)
  .refine wP ?_
   exact wT (N19 _ H)
 .obtain⟨y8,h8,H⟩:=bB H
  refine wG [.u 30 (.cw V0 [2000000000] [] [(U0 .rd v4.1).cells] [] [.ptr 0 0,iV 30] _ _ _ _ _ (GEs.of [true,false] (by simp)) (by simp) (by simp) (by simp) (fun _=>Z0 h8))] fun _=>?_
  refine X6 (r:=r) (W9 v4 y8) 0 (fun v12:(List End)=>⟨[(2,.ptr 2 0),(3,.ptr 3 0)],[],[(2000000000,(U0 .rd y8.2).cells),(2,[.nl,.nl,.nl,.int .i64 0,.int .i64 0,.int .i64 0,.int .i64 0,.int .i64 0,.nl,.nl,.nl]),(3,(X2 .nw (State.mk v4.2.1.topo v4.2.1.up v4.2.1.lic v4.2.1.depth v4.2.1.now v4.2.1.queue v4.2.1.runs v12)).cells)],[]⟩) (by kernel_rfl) (fun v12 H=>?_) (fun J40=>?_)
  .unfold W9 at H
   refine wP ?_
   replace H:=sI H;subst H
   exact X3 [(2,.d)] [(2,[]),(2000000000,[])] [] [] [] (by kernel_rfl)
  .refine O0 H (fun H=>?_) fun H=>?_
   .refine wP ?_
    refine U10 (fun(v9:(List End))=>⟨[(2,.ptr 2 0),(3,.ptr 3 0)],[],[(2000000000,(U0 .rd y8.2).cells),(2,[.nl,.nl,.nl,.int .i64 0,.int .i64 0,.int .i64 0,.int .i64 0,.int .i64 0,.nl,.nl,.nl]),(3,[.sl .nw 1 (v4.2.1.topo.parents.map eI),.sl .nw 4 (v4.2.1.topo.nodes.map Y1),.sl .nw 1 (v4.2.1.up.map eBo),.int .i64 v4.2.1.lic.a,.int .i64 v4.2.1.lic.b,.int .i64 v4.2.1.lic.c,.int .i64 v4.2.1.depth,.int .i64 v4.2.1.now,.sl .nw 11 (v4.2.1.queue.map eJob),.sl .nw 13 (v4.2.1.runs.map (Z1 .nw)),.sref 456000])],[(456000,⟨3,v9.map eEnd,false⟩)]⟩) [] [(3,[.d,.d,.d,.d,.d,.d,.d,.d,.d,.d,.z 456000])] [(456000,(none,3))] [] (by kernel_rfl) (by kernel_rfl) H (fun v9 I m k9 H N32=>?_)
    unfold Yl at H
    refine wG [.u 35 (.ln _ _ fun _=>lm v9 eEnd)] fun q10=>?_
    refine O0 H (fun H=>?_) fun H=>?_
    .obtain⟨xs11,h11,H⟩:=bB H
     refine wG [.u 41 (.ap _ _ _ _ fun _=>L0 eEnd h11)] fun _=>?_
     exact wT (N32 _ H)
    .refine wP ?_
     exact U05 (J40 _ H) [] [(3,[.d,.d,.d,.d,.d,.d,.d,.d,.d,.d,.f])] [] [456000] (by kernel_rfl) (by kernel_rfl)
   .refine wP ?_
    exact wT (J40 _ H)
noncomputable def V0v:L :=
 lf Tryz.prog O04 [] [(6,3)] [] [] [] [] []
def Ur(code1:List Int):Option State :=
 (X0L code1).bind fun c2=>(Lq c2).bind fun y3=>some y3.1
theorem L0s{code1:List Int}{r:State}(H:Ur code1=some r):Snd Tryz.prog O04 [rV 1 (code1.map eB)] (X2 .nw r) []:=by
 refine wS V0v [.c 2 11 true] ?_
 unfold Ur at H
 obtain⟨c2,h2,H⟩:=bB H
 obtain⟨y3,h3,H⟩:=bB H
 refine wG [.u 6 (.bn Y01 [rV 1 (code1.map eB)] [rV 1 (code1.map eB)] _ ((U0 .rd c2).cells) (fun _=>by simp) (fun _=>by simp) (fun _=>J1r h2)),.u 8 (.cw QG [6] [] [(U0 .rd c2).cells] [] [.ptr 0 0] _ _ _ _ _ (GEs.of [true] (by simp)) (by simp) (by simp) (by simp) (fun _=>L0r h3))] fun _=>?_
 replace H:=sI H;subst H
 exact wN [(2,.d)] [(2,[])] [] [] [] [⟨_,nw_I y3.1.topo.parents⟩,⟨_,J1 y3.1.topo.nodes⟩,⟨_,Yg y3.1.up⟩,⟨_,Lh y3.1.queue⟩,⟨_,Zg y3.1.runs⟩,⟨_,Lr y3.1.ends⟩]
end
section
structure CurP(c:l01Cur):Prop where
 i0:0<=c.i
 i1:c.i<=c.b.length
 len:c.b.length<=1048576
theorem Z0p(a:Int):0<=bAnd .i64 a 255/\bAnd .i64 a 255<=255:=by
 have h:(BitVec.ofInt 64 a &&& BitVec.ofInt 64 255).toNat<=255:=by
  rw[BitVec.toNat_and]
  exact Nat.le_trans Nat.and_le_right (by decide)
 show 0<=IntKind.i64.wrap _/\IntKind.i64.wrap _<=255
 have e:((BitVec.ofInt IntKind.i64.bits a &&& BitVec.ofInt IntKind.i64.bits 255).toNat:Int)=((BitVec.ofInt 64 a &&& BitVec.ofInt 64 255).toNat:Int):=rfl
 rw[e,O1h (by omega) (by omega)]
 omega
theorem Jr{α:Type}{l:List α}(h:l.length<=9223372036854775807):lenQ l=some ():=by simp[lenQ,h]
theorem L1r{bs:List Int}(h:bs.length<=1048576):∃c,X0L bs=some c/\CurP c:=⟨⟨bs,0,newH bs⟩,by simp[X0L,h],by simp,by simp,h⟩
theorem MP{c:l01Cur}(h:CurP c):∃r,O8 c=some r/\0<=r.1/\r.1<=255/\CurP r.2:=by
 unfold O8
 simp only[shrI,Jr (show c.b.length<=9223372036854775807 by have:=h.len;omega)]
 have h0:=h.i0;have h1:=h.i1;have h2:=h.len
 by_cases hlt:c.i<c.b.length
 .obtain⟨x,hx,_⟩:=Qf h0 hlt
  refine⟨_,by simp[hx,hlt,L9];rfl,?_⟩
  simp
  refine⟨(Z0p _).1,(Z0p _).2,?_,?_,h2⟩<;>simp<;>rw[X5 (by omega)]<;>omega
 .refine⟨_,by simp[hlt,L9];rfl,?_⟩
  simp
  exact⟨(Z0p _).1,(Z0p _).2,h0,h1,h2⟩
theorem W7{c:l01Cur}{n:Int}(h:CurP c)(hn:n<=1000000000):∃r,X0 c n=some r/\0<=r.1/\r.1<=max 0 (n-1)/\CurP r.2:=by
 unfold X0
 by_cases h0:n<=0
 .exact⟨(0,c),by simp[h0],by simp,by simp;omega,h⟩
 have hne:¬ n=0:=by omega
 by_cases h256:n<=256
 .obtain⟨r,e,r0,r1,hc⟩:=MP h
  have q0:=Int.tmod_nonneg n r0
  have q1:=Int.tmod_lt_of_pos r.1 (show 0<n by omega)
  exact⟨(r.1.tmod n,r.2),by simp[h0,h256,e,remI,hne],q0,by simp only;omega,hc⟩
 .obtain⟨a,ea,a0,a1,ha⟩:=MP h
  obtain⟨b,eb,b0,b1,hb⟩:=MP ha
  obtain⟨d,ed,d0,d1,hd⟩:=MP hb
  obtain⟨e,ee,e0,e1,he⟩:=MP hd
  have es:w64 ((w64 ((w64 ((w64 (a.1*16777216))+(w64 (b.1*65536))))+(w64 (d.1*256))))+e.1)=a.1*16777216+b.1*65536+d.1*256+e.1:=by
   rw[X5 (n:=a.1*16777216) (by omega),X5 (n:=b.1*65536) (by omega),X5 (n:=d.1*256) (by omega),X5 (n:=a.1*16777216+b.1*65536) (by omega),X5 (n:=a.1*16777216+b.1*65536+d.1*256) (by omega),X5 (by omega)]
  have q0:=Int.tmod_nonneg n (show 0<=a.1*16777216+b.1*65536+d.1*256+e.1 by omega)
  have q1:=Int.tmod_lt_of_pos (a.1*16777216+b.1*65536+d.1*256+e.1) (show 0<n by omega)
  exact⟨((a.1*16777216+b.1*65536+d.1*256+e.1).tmod n,e.2),by simp[h0,h256,ea,eb,ed,ee,es,remI,hne],q0,by simp only;omega,he⟩
theorem X0d{c:l01Cur}(h:CurP c):∃r,L4 c=some r/\CurP r.2:=by
 unfold L4
 obtain⟨y2,e2,_,_,h2⟩:=W7 h (n:=9) (by omega)
 obtain⟨y3,e3,_,_,h3⟩:=W7 h2 (n:=24) (by omega)
 obtain⟨y4,e4,_,_,h4⟩:=W7 h2 (n:=3) (by omega)
 obtain⟨y5,e5,_,_,h5⟩:=W7 h2 (n:=2) (by omega)
 obtain⟨y6,e6,_,_,h6⟩:=W7 h2 (n:=2000000) (by omega)
 simp only[e2,e3,e4,e5,e6,bS]
 cases decide (y2.1<4)<;>cases y2.1==4<;>cases y2.1==5<;>cases y2.1==6<;>cases y2.1==7<;>exact⟨_,rfl,by assumption⟩
theorem M1r{c:l01Cur}(h:CurP c):∃r,Oy c=some r/\CurP r.2:=by
 unfold Oy
 obtain⟨y2,e2,_,_,h2⟩:=W7 h (n:=9) (by omega)
 obtain⟨y3,e3,_,_,h3⟩:=W7 h2 (n:=17) (by omega)
 obtain⟨y4,e4,_,_,h4⟩:=W7 h3 (n:=3) (by omega)
 obtain⟨y5,e5,_,_,h5⟩:=W7 h4 (n:=14) (by omega)
 obtain⟨y6,e6,_,_,h6⟩:=W7 h5 (n:=2) (by omega)
 simp only[e2,e3,e4,e5,e6,bS,Zk]
 cases y5.1==0<;>exact⟨_,rfl,by assumption⟩
theorem Z1s{c:l01Cur}(h:CurP c):∃r,Vj c=some r/\CurP r.2:=by
 unfold Vj
 obtain⟨y2,e2,h2⟩:=M1r h
 obtain⟨y3,e3,_,_,h3⟩:=W7 h2 (n:=12) (by omega)
 obtain⟨y4,e4,h4⟩:=X0d h3
 have j21:∀v5 v7:l01Cur×Int,CurP v7.1->∃r,Yd y2 y3 v5 v7=some r/\CurP r.2:=fun v5 v7 hv=>by
  obtain⟨y8,e8,h8⟩:=X0d hv
  simp only[Yd,Xh,e8,bS]
  cases y3.1==2<;>exact⟨_,rfl,by assumption⟩
 have j22:∀v5:l01Cur×Int,CurP v5.1->∃r,Zd y2 y3 v5=some r/\CurP r.2:=fun v5 hv=>by
  obtain⟨y6,e6,h6⟩:=X0d hv
  simp only[Zd,e6,bS]
  cases y3.1==1
  .exact j21 _ _ hv
  .exact j21 _ _ h6
 simp only[e2,e3,e4,bS]
 cases y3.1==0
 .exact j22 _ h3
 .exact j22 _ h4
theorem O1D(r:Room)(now:Int)(l:List Job)(d:Int):∃p,O4 r now l d=some p/\(p.1=[]\/(queueOk l=true/\HeldsOk (ordF l) p.1)):=by
 unfold O4
 rw[Mk,Xm,bS]
 cases hr:roomOk r with
 |false=>exact⟨_,rfl,.inl rfl⟩
 |true =>
  simp only[yL,yM,bS,Bool.false_or]
  cases hq:queueOk l with
  |false=>exact⟨_,rfl,.inl rfl⟩
  |true =>
   simp only[yL,Bool.false_or]
   cases(((!M2 now)||decide (d<0))||decide (60<d))with
   |true=>exact⟨_,rfl,.inl rfl⟩
   |false =>
    simp only[yM,WY hq,bS]
    obtain⟨p,h1,h2⟩:=X1c (r:=r) (now:=now) (d:=d) (L:=ordF l) (by rw[(YH l).length_eq];exact(V4 hq).1)
    exact⟨p,h1,.inr ⟨by simp,h2⟩⟩
theorem X1i(s:State)(hs:List Held):∀(i:Nat) (q:List Job) (rs:List Run),(hs.map Held.id).Nodup->(∀h∈hs,∃j∈q,j.id=h.id)->(q.map Job.id).Nodup->q.length+rs.length<=1048576 ->
  ∃q' new,(∀k,rgl (V5 s) k hs i (q,rs)=k (q',rs++new)) /\
   (∀x∈new,x.t=s.now/\∃h∈hs,x.nodes=h.nodes)/\(q'++new.map Run.job).Perm q:=by
 induction hs with
 |nil=>intro i q rs _ _ _ _;exact⟨q,[],fun k=>by simp[rgl],by simp,by simp⟩
 |cons h hs ih =>
  intro i q rs hn hm hq hl
  obtain⟨j,hj,hid⟩:=hm h (yJ ..)
  obtain⟨a,b,rfl⟩:=List.append_of_mem hj
  have hq2:(j.id::((a++b).map Job.id)).Nodup:=by
   have:((a++j::b).map Job.id).Perm ((j::(a++b)).map Job.id):=List.perm_middle.map _
   exact(this.nodup_iff.1 hq)
  rw[List.nodup_cons]at hq2
  have hab:∀x∈a++b,x.id≠h.id:=fun x hx e=>hq2.1 (by rw[hid,← e];exact List.mem_map_of_mem hx)
  have ha:∀x∈a,x.id≠h.id:=fun x hx=>hab x (List.mem_append_left _ hx)
  have hb:∀x∈b,x.id≠h.id:=fun x hx=>hab x (List.mem_append_right _ hx)
  simp only[yU,yT]at hl
  rw[List.map_cons,List.nodup_cons]at hn
  obtain⟨q',new,h1,h3,h4⟩:=ih (i+1) (a++b) (rs++[Run.mk j s.now h.nodes]) hn.2 (fun h' hh'=>by
   obtain⟨j',hj',hid'⟩:=hm h' (yH _ hh')
   have hne:j'.id≠j.id:=fun e=>hn.1 (by rw[← hid,← e,hid'];exact List.mem_map_of_mem hh')
   rcases List.mem_append.1 hj' with q|q
   .exact⟨j',List.mem_append_left _ q,hid'⟩
   .rcases yX q with q|q
    .exact absurd (by rw[q]) hne
    .exact⟨j',List.mem_append_right _ q,hid'⟩) hq2.2 (by simp;omega)
  refine⟨q',Run.mk j s.now h.nodes::new,fun k=>?_,fun x hx=>?_,?_⟩
  .rw[rgl,V5]
   unfold Yb
   simp only
   rw[V1k j b h.id hid a 0 ha,bS,V1J (by omega) hid ha hb,bS,M0 (by simp;omega),bS,h1 k]
   simp
  .rcases yX hx with rfl|hx
   .exact⟨rfl,h,yJ ..,rfl⟩
   .obtain⟨e1,h',hh',e2⟩:=h3 x hx
    exact⟨e1,h',yH _ hh',e2⟩
  .rw[List.map_cons]
   refine List.perm_middle.trans ?_
   exact(h4.cons j).trans List.perm_middle.symm
theorem L0X{s:State}(hs:SmallS s):∃s' new,O1 s=some s'/\StartP s s' new:=by
 obtain⟨r,hr,_⟩:=Yk s
 obtain⟨p,p1,p3⟩:=O1D r.1 s.now s.queue s.depth
 unfold O1
 rw[hr,bS,p1,bS]
 have key:(p.1.map Held.id).Nodup/\(∀h∈p.1,∃j∈s.queue,j.id=h.id)/\(∀h∈p.1,h.nodes.length<=24)/\(p.1=[]\/(s.queue.map Job.id).Nodup):=by
  rcases p3 with p3|⟨p3,p4⟩
  .rw[p3];exact⟨by simp,by simp,by simp,.inl rfl⟩
  .have hn:=(V4 p3).2.2
   have ho:((ordF s.queue).map Job.id).Nodup:=((YH s.queue).map _).nodup_iff.2 hn
   refine⟨ho.sublist p4.sub,fun h hh=>?_,p4.nodes,.inr hn⟩
   have:h.id∈(ordF s.queue).map Job.id:=p4.sub.subset (List.mem_map_of_mem hh)
   obtain⟨j,hj,e⟩:=yY this
   exact⟨j,(YH s.queue).mem_iff.1 hj,e⟩
 obtain⟨k1,k2,k3,k4⟩:=key
 rcases k4 with k4|k4
 .rw[k4]
  exact⟨s,[],rfl,rfl,rfl,rfl,rfl,rfl,rfl,by simp,by simp,by simp⟩
 .obtain⟨q',new,h1,h3,h4⟩:=X1i s p.1 0 s.queue s.runs k1 k2 k4 hs.jobs
  rw[h1]
  exact⟨_,new,rfl,rfl,rfl,rfl,rfl,rfl,rfl,rfl,fun x hx=>by
   obtain⟨e1,h,hh,e2⟩:=h3 x hx
   exact⟨e1,by rw[e2];exact k3 h hh⟩,h4⟩
structure DrS(n:Nat)(s:State):Prop where
 up:s.up.length<=100
 par:s.topo.parents.length<=100
 nodes:s.topo.nodes.length<=100
 jobs:s.queue.length+s.runs.length<=n
 ends:s.ends.length<=n
 run:∀x∈s.runs,x.nodes.length<=100
theorem DrS.small{n:Nat}{s:State}(h:DrS n s)(hn:n<=100000):SmallS s :=
  ⟨by have:=h.up;omega,by have:=h.par;omega,by have:=h.nodes;omega,by have:=h.jobs;omega,by have:=h.ends;omega,fun x hx=>by have:=h.run x hx;omega⟩
theorem DrS.mono{n m:Nat}{s:State}(h:DrS n s)(hn:n<=m):DrS m s:=⟨h.up,h.par,h.nodes,by have:=h.jobs;omega,by have:=h.ends;omega,h.run⟩
theorem Jn(n:Nat):DrS n (State.mk (Topo.mk [] []) [] (Vec.mk 0 0 0) 0 0 [] [] []):=⟨by simp,by simp,by simp,by simp,by simp,by simp⟩
theorem Z10{s:State}(h:stateOk s=true):DrS 300 s:=by
 have hP:=JG h
 have hq:=(V4 hP.queue).1
 unfold allJobs at hq
 simp only[yU,List.length_map]at hq
 exact⟨by have:=hP.up;have:=hP.topo.nodes;omega,by have:=hP.topo.tree.le;omega,by have:=hP.topo.nodes;omega,by omega,by have:=hP.ends;omega,fun x hx=>by
  obtain⟨h1,h2,_⟩:=hP.runs.job x hx
  have:=Md.1 h1;omega⟩
theorem X0c{n:Nat}{s:State}(h:DrS n s)(hn:n<=100000):∃s',O1 s=some s'/\DrS n s':=by
 obtain⟨s',new,e,hT⟩:=L0X (h.small hn)
 refine⟨s',e,by rw[hT.up];exact h.up,by rw[hT.topo];exact h.par,by rw[hT.topo];exact h.nodes,by rw[hT.len];exact h.jobs,by rw[hT.ends];exact h.ends,fun x hx=>?_⟩
 rw[hT.runs]at hx
 rcases List.mem_append.1 hx with hx|hx
 .exact h.run x hx
 .have:=(hT.fresh x hx).2;omega
theorem O1a(t:Int){n:Nat}(h300:300<=n)(hn:n<=100000):∀(m:Nat) (s:State) (f:Nat),DrS n s->s.queue.length+s.runs.length<=m->m<f->∃r,whl (Qk t) f (s,nextF s)=some r/\DrS n r.1:=by
 intro m
 induction m with
 |zero =>
  intro s f hs hm hf
  obtain⟨f,rfl⟩:∃g,f=g+1:=⟨f-1,by omega⟩
  rw[whl,LM t (hs.small hn)]
  cases hc:(decide (0<=nextF s)&&decide (nextF s<=t))with
  |false=>exact⟨_,rfl,hs.up,hs.par,hs.nodes,hs.jobs,hs.ends,hs.run⟩
  |true =>
   simp only[yD,yO]at hc
   obtain⟨x,hx,_⟩:=Jm hc.1
   have:=List.length_pos_of_mem hx
   omega
 |succ m ih =>
  intro s f hs hm hf
  obtain⟨f,rfl⟩:∃g,f=g+1:=⟨f-1,by omega⟩
  rw[whl,LM t (hs.small hn)]
  cases hc:(decide (0<=nextF s)&&decide (nextF s<=t))with
  |false=>exact⟨_,rfl,hs.up,hs.par,hs.nodes,hs.jobs,hs.ends,hs.run⟩
  |true =>
   simp only[yD,yO]at hc
   obtain⟨x,hx,he⟩:=Jm hc.1
   have hk:=Q0I hx he
   simp only[yN]
   by_cases h3:300<((endF s (nextF s)).ends.length:Int)
   .rw[decide_eq_true h3];exact⟨_,rfl,Jn n⟩
   .rw[decide_eq_false h3]
    simp only[yM]
    have kl:(keepF (nextF s) s.runs).length<=s.runs.length:=List.length_filter_le ..
    have hE:DrS n (endF s (nextF s)):=⟨hs.up,hs.par,hs.nodes,by have:=hs.jobs;simp only[endF];omega,by omega,fun x hx=>hs.run x (List.mem_filter.1 hx).1⟩
    obtain⟨s',e1,hS⟩:=X0c hE hn
    obtain⟨s'',new,e2,hT⟩:=L0X (hE.small hn)
    rw[e1]at e2;cases e2
    rw[e1,bS]
    have hl:=hT.len
    have:(endF s (nextF s)).queue.length+(endF s (nextF s)).runs.length=s.queue.length+(keepF (nextF s) s.runs).length:=rfl
    exact ih s' f hS (by omega) (by omega)
theorem X1E{s:State}{n:Nat}(hs:DrS n s)(hn:n<=100000)(t:Int):∃r,Wk s t=some r/\DrS 300 r.1:=by
 unfold Wk
 rw[(Oe (hs.small hn).jobs).1,bS]
 cases hS:stateOk s with
 |false=>exact⟨_,rfl,Jn _⟩
 |true =>
  have hD:=Z10 hS
  simp only[yL,Bool.false_or]
  cases(!M2 t)||decide (t<s.now)with
  |true=>exact⟨_,rfl,Jn _⟩
  |false =>
   rw[yM,Xb (hs.small hn),bS,Yv,bS]
   exact O1a t (yV _) (by omega) (s.queue.length+s.runs.length) s _ hD (yV _) (by have:=hD.jobs;omega)
theorem X19(l:List Job)(id:Int):∃y,Yb l id=some y:=by
 unfold Yb
 refine Y8 (fun _ (_:Unit)=>True) (fun o=>∃y,o=some y) (fun i x b k hx hI hk=>?_) (fun _ _=>⟨_,rfl⟩) trivial
 unfold Xe
 cases x.id==id with
 |true=>exact⟨_,rfl⟩
 |false=>exact hk () trivial
theorem Y1C(s:State)(j:Job):∃b,Ux s j=some b:=by
 unfold Ux
 rw[Q02,bS]
 generalize (bif topoOk s.topo&&decide (s.up.length=s.topo.nodes.length)&&W0 s.lic then(OH s.topo s.up s.lic,true)else noRoom)=y
 refine Y8 (fun _ (v:List Bool)=>v.length=y.1.up.length) (fun o=>∃b,o=some b) (fun i x v k hx hI hk=>?_) (fun v _=>?_) rfl
 .have hi:=(yB hx).1
  unfold QB
  rw[L6,yA (by omega),bS]
  exact hk _ (by simp[hI])
 .unfold UB
  rw[YJ]
  exact⟨_,rfl⟩
abbrev DrR(o:Option (State×Int)):Prop:=∃r,o=some r/\DrS 400 r.1
theorem M1a{s:State}{n:Nat}(hs:DrS n s)(hn:n<=100000)(j:Job):DrR (XC s j):=by
 unfold XC
 rw[(Oe (hs.small hn).jobs).1,bS]
 cases hS:stateOk s with
 |false=>exact⟨_,rfl,Jn _⟩
 |true =>
  have hD:=Z10 hS
  simp only[yL,Bool.false_or]
  cases !X1 j with
  |true=>exact⟨_,rfl,Jn _⟩
  |false =>
   obtain⟨y,hy⟩:=X19 (allJobs s) j.id
   obtain⟨b,hb⟩:=Y1C s j
   rw[yM,MN (hs.small hn).jobs,bS,hy,bS,hb]
   cases y.2 with
   |true=>exact⟨_,rfl,Jn _⟩
   |false =>
    cases decide (60<=((allJobs s).length:Int))with
    |true=>exact⟨_,rfl,Jn _⟩
    |false =>
     cases b with
     |false=>exact⟨_,rfl,Jn _⟩
     |true =>
      have:=hD.jobs
      simp only[yM,bS,yL,Xb (hs.small hn)]
      rw[M0 (by simp;omega),bS]
      obtain⟨s',e,h'⟩:=X0c (n:=400) (s:=State.mk s.topo s.up s.lic s.depth s.now (s.queue++[j]) s.runs s.ends) ⟨hD.up,hD.par,hD.nodes,by simp;omega,by have:=hD.ends;simp only;omega,hD.run⟩ (by omega)
      rw[e]
      exact⟨_,rfl,h'⟩
theorem L1B{s:State}(_:s.queue.length<=361)(hr:s.runs.length<=300)(he:s.ends.length<=301)(why id node:Int):∃rs es,J7 s why id node=some (State.mk s.topo s.up s.lic s.depth s.now s.queue rs es)/\(∀x∈rs,x∈s.runs)/\rs.length<=s.runs.length/\es.length<=s.ends.length+s.runs.length:=by
  unfold J7
  refine Y8 (fun i (v:List End×List Run)=>(∀x∈v.2,x∈s.runs)/\v.2.length<=i/\v.1.length<=s.ends.length+i) (fun(o:Option State)=>∃rs es,o=some (State.mk s.topo s.up s.lic s.depth s.now s.queue rs es)/\(∀x∈rs,x∈s.runs)/\rs.length<=s.runs.length/\es.length<=s.ends.length+s.runs.length) (fun i x v k hx hI hk=>?_) (fun v hI=>⟨v.2,v.1,rfl,hI⟩) (by simp)
  have hi:=(yB hx).1
  obtain⟨h1,h2,h3⟩:=hI
  unfold Xj
  rw[W8]
  cases x.job.id==id<;>cases x.nodes.contains node<;>simp only[yN,yM,bS,Bool.or_self,Bool.or_true,Bool.true_or]<;>rw[M0 (by simp;omega),bS]<;>refine hk _ ⟨fun y hy=>?_,by simp;omega,by simp;omega⟩
  all_goals first
    |exact h1 y hy
    | (rcases List.mem_append.1 hy with hy|hy
       · exact h1 y hy
       · rw[List.mem_singleton.1 hy];exact yE hx)
theorem Z1F(l:List Job)(id:Int)(hl:l.length<=100000):∃l',Ol l id=some l'/\l'.length<=l.length:=by
 unfold Ol
 rw[U5 (bd:=Jw id) (bs:=88) (p:=fun x=>x.id != id) (f:=fun x=>x) (fun x _ i b k=>rfl) (by simp;omega)]
 exact⟨_,rfl,by simp;exact List.length_filter_le ..⟩
theorem Q1f{s:State}{n:Nat}(hs:DrS n s)(hn:n<=100000)(id why:Int):DrR (QC s id why):=by
 unfold QC
 rw[(Oe (hs.small hn).jobs).1,bS]
 cases hS:stateOk s with
 |false=>exact⟨_,rfl,Jn _⟩
 |true =>
  have hD:=Z10 hS
  simp only[yL,Bool.false_or]
  cases(why != 2)&&(why != 3)with
  |true=>exact⟨_,rfl,Jn _⟩
  |false =>
   obtain⟨y,hy⟩:=X19 s.queue id
   obtain⟨z,hz⟩:=X19 (allJobs s) id
   rw[yM,hy,bS,MN (hs.small hn).jobs,bS,hz,bS]
   cases(!z.2)||y.2&&why==2 with
   |true=>exact⟨_,rfl,Jn _⟩
   |false =>
    cases decide (300<=(s.ends.length:Int))with
    |true=>exact⟨_,rfl,Jn _⟩
    |false =>
     have d1:=hD.jobs;have d2:=hD.ends
     have j36:∀v:List Job×List End,v.1.length<=s.queue.length->v.2.length<=s.ends.length+1->DrR (Oh id why s v):=fun v h1 h2=>by
      unfold Oh
      have hS:=JG hS
      have hq:=(V4 hS.queue).1
      unfold allJobs at hq
      simp only[yU,List.length_map]at hq
      obtain⟨rs,es,e,q1,q2,q3⟩:=L1B (s:=State.mk s.topo s.up s.lic s.depth s.now v.1 s.runs v.2) (by simp only;omega) (by simp only;omega) (by simp only;omega) why id (-1)
      simp only at q1 q2 q3
      rw[e,bS]
      obtain⟨s',e',h'⟩:=X0c (n:=400) (s:=State.mk s.topo s.up s.lic s.depth s.now v.1 rs es) ⟨hD.up,hD.par,hD.nodes,by simp only;omega,by simp only;omega,fun x hx=>hD.run x (q1 x hx)⟩ (by omega)
      simp only
      rw[e']
      exact⟨_,rfl,h'⟩
     simp only[yM,bS,Xb (hs.small hn)]
     cases y.2 with
     |false=>exact j36 _ (yV _) (by simp)
     |true =>
      obtain⟨l',e,hl⟩:=Z1F s.queue id (by omega)
      rw[yN,e,bS,M0 (by simp;omega),bS]
      exact j36 _ hl (by simp)
theorem J1v{s:State}{n:Nat}(hs:DrS n s)(hn:n<=100000)(k:Int):DrR (VO s k):=by
 unfold VO
 rw[(Oe (hs.small hn).jobs).1,bS]
 cases hS:stateOk s with
 |false=>exact⟨_,rfl,Jn _⟩
 |true =>
  have hD:=Z10 hS
  have hu:=(JG hS).up
  simp only[yL,yM]
  cases hk:L8 s k with
  |false=>exact⟨_,rfl,Jn _⟩
  |true =>
   unfold L8 at hk
   simp only[yD,yO]at hk
   obtain⟨x,ex,_⟩:=Qf (l:=s.up) hk.1 (by omega)
   simp only[yL,yM,ex,bS,Bool.false_or,Xb (hs.small hn)]
   cases x with
   |true=>exact⟨_,rfl,Jn _⟩
   |false =>
    obtain⟨s',e',h'⟩:=X0c (n:=400) (s:=State.mk s.topo (s.up.set k.toNat true) s.lic s.depth s.now s.queue s.runs s.ends) ⟨by simp;exact hD.up,hD.par,hD.nodes,by have:=hD.jobs;simp only;omega,by have:=hD.ends;simp only;omega,hD.run⟩ (by omega)
    rw[yM,e']
    exact⟨_,rfl,h'⟩
theorem Z1w{s:State}{n:Nat}(hs:DrS n s)(hn:n<=100000)(v:Vec):DrR (UO s v):=by
 unfold UO
 rw[(Oe (hs.small hn).jobs).1,bS]
 cases hS:stateOk s with
 |false=>exact⟨_,rfl,Jn _⟩
 |true =>
  have hD:=Z10 hS
  simp only[yL,Bool.false_or]
  cases !W0 v with
  |true=>exact⟨_,rfl,Jn _⟩
  |false =>
   obtain⟨q,hq,_⟩:=Yk (State.mk s.topo s.up v s.depth s.now s.queue s.runs s.ends)
   simp only[yM,Xb (hs.small hn),bS,hq]
   cases q.2 with
   |false=>exact⟨_,rfl,Jn _⟩
   |true =>
    obtain⟨s',e',h'⟩:=X0c (n:=400) (s:=State.mk s.topo s.up v s.depth s.now s.queue s.runs s.ends) ⟨hD.up,hD.par,hD.nodes,by have:=hD.jobs;simp only;omega,by have:=hD.ends;simp only;omega,hD.run⟩ (by omega)
    simp only[yL,yM]
    rw[e']
    exact⟨_,rfl,h'⟩
theorem Y1Q{s:State}{n:Nat}(hs:DrS n s)(hn:n<=100000)(k:Int):DrR (J06 s k):=by
 unfold J06
 rw[(Oe (hs.small hn).jobs).1,bS]
 cases hS:stateOk s with
 |false=>exact⟨_,rfl,Jn _⟩
 |true =>
  have hD:=Z10 hS
  have hP:=JG hS
  have hu:=hP.up
  have hq:=(V4 hP.queue).1
  unfold allJobs at hq
  simp only[yU,List.length_map]at hq
  simp only[yL,yM]
  cases hk:L8 s k with
  |false=>exact⟨_,rfl,Jn _⟩
  |true =>
   unfold L8 at hk
   simp only[yD,yO]at hk
   obtain⟨x,ex,_⟩:=Qf (l:=s.up) hk.1 (by omega)
   simp only[yL,yM,ex,bS,Bool.false_or,Xb (hs.small hn)]
   cases x with
   |false=>exact⟨_,rfl,Jn _⟩
   |true =>
    simp only[yL,yM]
    have d2:=hD.ends
    refine Y8 (fun i (v:List Job)=>v.length<=s.queue.length+i) (fun(o:Option (State×Int))=>DrR o) (fun i x v k' hx hI hk'=>?_) (fun v hI=>?_) (by simp)
    .have hi:=(yB hx).1
     unfold MY
     rw[W8,bS]
     cases x.nodes.contains k with
     |true=>rw[yN,M0 (by simp;omega),bS];exact hk' _ (by simp;omega)
     |false=>exact hk' _ (by omega)
    .unfold OY
     obtain⟨rs,es,e,q1,q2,q3⟩:=L1B (s:=State.mk s.topo s.up s.lic s.depth s.now v s.runs s.ends) (by simp only;omega) (by simp only;omega) (by simp only;omega) 4 0 k
     simp only at q1 q2 q3
     rw[e,bS]
     simp only
     cases decide (300<(es.length:Int))with
     |true=>exact⟨_,rfl,Jn _⟩
     |false =>
      obtain⟨s',e',h'⟩:=X0c (n:=400) (s:=State.mk s.topo (s.up.set k.toNat false) s.lic s.depth s.now v rs es) ⟨by simp;exact hD.up,hD.par,hD.nodes,by simp only;omega,by simp only;omega,fun x hx=>hD.run x (q1 x hx)⟩ (by omega)
      rw[yM,ex,bS,e']
      exact⟨_,rfl,h'⟩
def Dr{α:Type}(P:α->Prop)(o:Option (α×l01Cur)):Prop:=∃r,o=some r/\P r.1/\CurP r.2
theorem Dr.bind{α γ:Type}{P:α->Prop}{o:Option (α×l01Cur)}{f:α×l01Cur->Option γ}{Q:Option γ->Prop}(h:Dr P o)(k:∀r,P r.1->CurP r.2->Q (f r)):Q (o.bind f):=by
 obtain⟨r,rfl,h1,h2⟩:=h
 exact k r h1 h2
theorem U2{c:l01Cur}{n:Int}(h:CurP c)(hn:n<=1000000000:=by omega):Dr (fun v=>0<=v/\v<=max 0 (n-1)) (X0 c n):=by
 obtain⟨r,e,h0,h1,h2⟩:=W7 h hn
 exact⟨r,e,⟨h0,h1⟩,h2⟩
theorem V0Y{c:l01Cur}(h:CurP c):Dr (fun _=>True) (L4 c):=by
 obtain⟨r,e,h2⟩:=X0d h
 exact⟨r,e,trivial,h2⟩
theorem W1L{c:l01Cur}(h:CurP c):Dr (fun _=>True) (Vj c):=by
 obtain⟨r,e,h2⟩:=Z1s h
 exact⟨r,e,trivial,h2⟩
theorem J1J{c:l01Cur}(h:CurP c):Dr (fun _=>True) (Wo c):=by
 unfold Wo
 refine(U2 h).bind fun y2 _ h=>(U2 h).bind fun y3 _ h=>(U2 h).bind fun y4 _ h=>(U2 h).bind fun y5 _ h=>(U2 h).bind fun y6 _ h=>(U2 h).bind fun y7 _ h=>?_
 have:∃n,quoI .i64 y7.1 3=some n:=⟨_,by simp[quoI];rfl⟩
 obtain⟨n8,e8⟩:=this
 rw[e8,bS]
 refine(U2 h).bind fun y9 _ h=>(U2 h).bind fun y10 _ h=>(U2 h).bind fun y11 _ h=>?_
 cases y11.1==0 with
 |true=>exact(U2 h).bind fun y12 _ h=>(U2 h).bind fun y13 _ h=>⟨_,rfl,trivial,h⟩
 |false=>exact⟨_,rfl,trivial,h⟩
theorem Y1h{α:Type}{b:Bool}{x y:α}{Q:α->Prop}(h1:Q x)(h2:Q y):Q (bif b then x else y):=by cases b<;>assumption
abbrev TopS(t:Topo):Prop:=1<=t.parents.length/\t.parents.length<=20/\t.nodes.length<=20
theorem M1u{c:l01Cur}(h:CurP c):Dr TopS (Uk c):=by
 unfold Uk
 refine(U2 h).bind fun y2 h2 hc=>?_
 refine QN (fun _ (o:Option (Topo×l01Cur))=>Dr TopS o) (fun v:l01Cur×Int×List Int×List Int=>(y2.1-v.2.1).toNat) (fun v=>CurP v.1/\0<=v.2.1/\v.2.1<=max 0 y2.1/\1<=v.2.2.1.length/\v.2.2.1.length<=18/\1<=v.2.2.2.length/\v.2.2.2.length<=18) (fun v k hI hk=>?_) _ _ ⟨hc,by simp only;omega,by simp only;omega,by simp,by simp,by simp,by simp⟩ (by simp only;omega)
 obtain⟨g1,g2,g3,g4,g5,g6,g7⟩:=hI
 unfold Vy
 by_cases hlt:v.2.1<y2.1
 .rw[decide_eq_true hlt,yN]
  refine Y8 (fun i (w:l01Cur×List Int×List Int)=>CurP w.1/\1<=w.2.1.length/\w.2.1.length<=18/\w.2.2.length<=w.2.1.length) (fun(o:Option (Topo×l01Cur))=>Dr TopS o) (fun i x w k' hx hJ hk'=>?_) (fun w hJ=>?_) ⟨g1,g4,g5,by simp⟩
  .obtain⟨j1,j2,j3,j4⟩:=hJ
   unfold Uy
   refine(U2 j1).bind fun y6 h6 hc6=>?_
   refine QN (fun _ (o:Option (Topo×l01Cur))=>Dr TopS o) (fun u:Int×List Int×List Int=>u.1.toNat) (fun u=>u.1<=100/\1<=u.2.1.length/\u.2.1.length<=18/\u.2.2.length<=u.2.1.length) (fun u k'' hU hk''=>?_) _ _ ⟨by rw[X5 (by omega)];omega,j2,j3,j4⟩ (by simp only;rw[X5 (by omega)];omega)
   obtain⟨u1,u2,u3,u4⟩:=hU
   unfold Qy
   by_cases hu:0<u.1/\(u.2.1.length:Int)<18
   .rw[show(decide (0<u.1)&&decide ((u.2.1.length:Int)<18))=true by(rw[yD,yO,yO];exact hu),yN,M0 (by simp;omega),bS,M0 (by simp;omega),bS]
    have ew:w64 (u.1-1)=u.1-1:=X5 (by omega)
    exact hk'' _ ⟨by rw[ew];omega,by simp,by simp;omega,by simp;omega⟩ (by simp only;rw[ew];omega)
   .rw[show(decide (0<u.1)&&decide ((u.2.1.length:Int)<18))=false by(rw[Bool.eq_false_iff];intro q;rw[yD,yO,yO]at q;exact hu q),yM]
    exact hk' _ ⟨hc6,u2,u3,u4⟩
  .obtain⟨j1,j2,j3,j4⟩:=hJ
   unfold Yy
   have ew:w64 (v.2.1+1)=v.2.1+1:=X5 (by omega)
   by_cases hl:0<(w.2.2.length:Int)
   .rw[decide_eq_true hl,yN]
    exact hk _ ⟨j1,by simp only;rw[ew];omega,by simp only;rw[ew];omega,j2,j3,by simp only;omega,by simp only;omega⟩ (by simp only;rw[ew];omega)
   .rw[decide_eq_false hl,yM]
    exact hk _ ⟨j1,by simp only;rw[ew];omega,by simp only;rw[ew];omega,j2,j3,g6,g7⟩ (by simp only;rw[ew];omega)
 .rw[decide_eq_false hlt,yM]
  refine(U2 g1).bind fun y12 h12 hc12=>?_
  refine QN (fun _ (o:Option (Topo×l01Cur))=>Dr TopS o) (fun u:l01Cur×Int×List Node=>u.2.1.toNat) (fun u=>CurP u.1/\u.2.1<=10/\(u.2.2.length:Int)+max 0 u.2.1<=10) (fun u k'' hU hk''=>?_) _ _ ⟨hc12,by simp only;rw[X5 (by omega)];omega,by simp only;rw[X5 (by omega)];simp;omega⟩ (by simp only;rw[X5 (by omega)];omega)
  obtain⟨u1,u2,u3⟩:=hU
  unfold Xy
  by_cases hu:0<u.2.1
  .have ew:w64 (u.2.1-1)=u.2.1-1:=X5 (by omega)
   rw[decide_eq_true hu,yN]
   refine(U2 u1).bind fun y14 h14 hc14=>?_
   obtain⟨x,ex,_⟩:=Qf (l:=v.2.2.2) h14.1 (by omega)
   rw[ex,bS,Ll _ _ (by simp only;omega),bS]
   refine Y1h (Q:=Dr TopS) ?_ ?_
   .refine(U2 hc14).bind fun y18 _ h=>(U2 h).bind fun y19 _ h=>(U2 h).bind fun y20 _ h=>?_
    rw[M0 (by simp;omega),bS]
    exact hk'' _ ⟨h,by simp only;rw[ew];omega,by simp only;rw[ew];simp;omega⟩ (by simp only;rw[ew];omega)
   .exact hk'' _ ⟨hc14,by simp only;rw[ew];omega,by simp only;rw[ew];omega⟩ (by simp only;rw[ew];omega)
  .rw[decide_eq_false hu,yM]
   exact⟨_,rfl,⟨g4,by simp only;omega,by simp only;omega⟩,u1⟩
theorem Y1i{t:Topo}(h:TopS t)(v:Vec)(d:Int):∃r,Ly t v d=some r/\DrS 400 r.1:=by
 unfold Ly
 refine Y8 (fun i (u:List Bool)=>u.length=i) (fun o=>∃r:State×Bool,o=some r/\DrS 400 r.1) (fun i x u k hx hI hk=>?_) (fun u hI=>?_) rfl
 .have hi:=(yB hx).1
  unfold UC
  rw[M0 (by simp;omega),bS]
  exact hk _ (by simp[hI])
 .unfold VC
  have hD:DrS 400 (State.mk t u v d 0 [] [] []):=⟨by simp only;omega,by simp only;omega,by simp only;omega,by simp,by simp,by simp⟩
  rw[(Oe (by simp)).1,bS]
  cases stateOk (State.mk t u v d 0 [] [] [])with
  |false=>exact⟨_,rfl,Jn _⟩
  |true =>
   simp only[yL,yM,Xb (hD.small (by omega)),bS]
   exact⟨_,rfl,hD⟩
theorem M1X{c:l01Cur}(h:CurP c):Dr (DrS 400) (Yx c):=by
 unfold Yx
 refine(M1u h).bind fun y2 h2 h=>(U2 h).bind fun y3 _ h=>(U2 h).bind fun y4 _ h=>(U2 h).bind fun y5 _ h=>?_
 obtain⟨r,e,hr⟩:=Y1i h2 (Vec.mk y3.1 y4.1 1) y5.1
 rw[e,bS]
 exact⟨_,rfl,hr,h⟩
theorem Ow{s s':State}{c:l01Cur}{n:Nat}(hs:DrS n s)(hs':DrS n s')(hc:CurP c)(b:Bool):Dr (DrS n) (bif b then(some (s,c))else(some (s',c))):=by
 cases b with
 |true=>exact⟨_,rfl,hs,hc⟩
 |false=>exact⟨_,rfl,hs',hc⟩
theorem O1M{c:l01Cur}{s:State}{n:Nat}(hn:400<=n)(hn':n<=100000)(hs:DrS n s)(h:CurP c):Dr (DrS n) (M8 c s):=by
 have hnn:=hs.nodes;have hjj:=hs.jobs
 unfold M8
 refine(U2 h).bind fun y3 _ h3=>?_
 cases decide (y3.1<7)with
 |true =>
  refine(J1J h3).bind fun y4 _ h=>?_
  obtain⟨r,e,hr⟩:=M1a hs hn' y4.1
  rw[e,bS]
  exact Ow hs (hr.mono hn) h _
 |false =>
 cases decide (y3.1<9)with
 |true =>
  refine(U2 h3).bind fun y6 _ h=>?_
  obtain⟨r,e,hr⟩:=X1E hs hn' (w64 (s.now+y6.1))
  rw[e,bS]
  exact Y1h (Q:=Dr (DrS n)) (Ow hs (hr.mono (by omega)) h _) (Ow hs hs h _)
 |false =>
 cases y3.1==9 with
 |true =>
  refine(U2 h3).bind fun y8 _ h=>(U2 h).bind fun y9 _ h=>?_
  obtain⟨r,e,hr⟩:=Q1f hs hn' (w64 (1+y8.1)) (w64 (2+y9.1))
  rw[e,bS]
  exact Ow hs (hr.mono hn) h _
 |false =>
 cases y3.1==10 with
 |true =>
  rw[yN,Jr (by omega),bS]
  refine(U2 h3).bind fun y12 _ h=>?_
  obtain⟨r,e,hr⟩:=Y1Q hs hn' y12.1
  rw[e,bS]
  exact Ow hs (hr.mono hn) h _
 |false =>
 cases y3.1==11 with
 |true =>
  rw[yN,Jr (by omega),bS]
  refine(U2 h3).bind fun y15 _ h=>?_
  obtain⟨r,e,hr⟩:=J1v hs hn' y15.1
  rw[e,bS]
  exact Ow hs (hr.mono hn) h _
 |false =>
 cases y3.1==12 with
 |true =>
  refine(U2 h3).bind fun y17 _ h=>(U2 h).bind fun y18 _ h=>(U2 h).bind fun y19 _ h=>?_
  obtain⟨r,e,hr⟩:=Z1w hs hn' (Vec.mk y17.1 y18.1 y19.1)
  rw[e,bS]
  exact Ow hs (hr.mono hn) h _
 |false =>
 by_cases hl:0<(s.runs.length:Int)
 .simp only[yM]
  rw[decide_eq_true hl,yN]
  refine(U2 h3).bind fun y22 h22 h=>?_
  obtain⟨x,ex,_⟩:=Qf (l:=s.runs) h22.1 (by omega)
  rw[ex,bS]
  refine(U2 h).bind fun y24 _ h=>?_
  obtain⟨r,e,hr⟩:=Q1f hs hn' x.job.id (w64 (2+y24.1))
  rw[e,bS]
  exact Ow hs (hr.mono hn) h _
 .simp only[yM]
  rw[decide_eq_false hl,yM]
  exact Ow hs hs h3 _
theorem W1r{c:l01Cur}(h:CurP c):Dr (DrS 400) (Jq c 14):=by
 unfold Jq
 refine(M1X h).bind fun y3 h3 hc=>(U2 hc (by decide)).bind fun y4 h4 hc=>?_
 have e15:w64 (14+1)=15:=by decide
 rw[e15]at h4
 refine QN (fun _ (o:Option (State×l01Cur))=>Dr (DrS 400) o) (fun v:l01Cur×State×Int=>v.2.2.toNat) (fun v=>CurP v.1/\DrS 400 v.2.1/\v.2.2<=14) (fun v k hI hk=>?_) _ _ ⟨hc,h3,by simp only;omega⟩ (by simp only;omega)
 obtain⟨g1,g2,g3⟩:=hI
 unfold Vx
 by_cases hp:0<v.2.2
 .rw[decide_eq_true hp,yN]
  have ew:w64 (v.2.2-1)=v.2.2-1:=X5 (by omega)
  refine(O1M (yV _) (by omega) g2 g1).bind fun y6 h6 hc6=>hk _ ⟨hc6,h6,by simp only;rw[ew];omega⟩ (by simp only;rw[ew];omega)
 .rw[decide_eq_false hp]
  exact⟨_,rfl,g2,g1⟩
theorem M1M{c:l01Cur}(h:CurP c){t:Topo}(ht:t.nodes.length<=1000):Dr (fun l:List Int=>l.length<=100) (Xr c t):=by
 unfold Xr
 refine(U2 h).bind fun y3 h3 hc=>?_
 refine QN (fun _ (o:Option (List Int×l01Cur))=>Dr (fun l:List Int=>l.length<=100) o) (fun v:l01Cur×Int×List Int=>v.2.1.toNat) (fun v=>CurP v.1/\v.2.1<=10/\(v.2.2.length:Int)+max 0 v.2.1<=10) (fun v k hI hk=>?_) _ _ ⟨hc,by simp only;omega,by simp;omega⟩ (by simp only;omega)
 obtain⟨g1,g2,g3⟩:=hI
 unfold Jx
 by_cases hp:0<v.2.1
 .rw[decide_eq_true hp,yN]
  have ew:w64 (v.2.1-1)=v.2.1-1:=X5 (by omega)
  refine(U2 g1).bind fun y5 _ h=>?_
  rw[M0 (by simp;omega),bS]
  exact hk _ ⟨h,by simp only;rw[ew];omega,by simp only;rw[ew];simp;omega⟩ (by simp only;rw[ew];omega)
 .rw[decide_eq_false hp,yM]
  refine(U2 g1).bind fun y8 _ h=>?_
  cases y8.1==0 with
  |true =>
   refine(V0Y h).bind fun y9 _ h=>?_
   rw[M0 (by simp;omega)]
   exact⟨_,rfl,by simp;omega,h⟩
  |false=>exact⟨_,rfl,by simp only;omega,h⟩
theorem O1t{c:l01Cur}(h:CurP c):Dr (fun t:Topo=>t.parents.length<=100/\t.nodes.length<=100) (Wy c):=by
 unfold Wy
 refine(M1u h).bind fun y2 h2 hc=>(U2 hc).bind fun y3 _ hc=>?_
 obtain⟨t1,t2,t3⟩:=h2
 have j31:∀(v14:l01Cur×List Node) (v18:l01Cur×List Int),CurP v18.1->v14.2.length<=20->v18.2.length<=21->Dr (fun t:Topo=>t.parents.length<=100/\t.nodes.length<=100) (Jc y3 v14 v18):=fun v14 v18 hc h1 h2=>by
  unfold Jc Zh
  cases y3.1==4 with
  |true=>exact⟨_,rfl,⟨by simp,by simp only;omega⟩,hc⟩
  |false=>exact⟨_,rfl,⟨by simp only;omega,by simp only;omega⟩,hc⟩
 have j32:∀(v8:l01Cur×List Int) (v14:l01Cur×List Node),CurP v14.1->v14.2.length<=20->v8.2.length<=20->Dr (fun t:Topo=>t.parents.length<=100/\t.nodes.length<=100) (Lc y3 v8 v14):=fun v8 v14 hc h1 h2=>by
  unfold Lc
  cases y3.1==3 with
  |true =>
   rw[yN,Jr (by omega),bS]
   refine(U2 hc).bind fun y16 _ h=>?_
   rw[M0 (by simp;omega),bS]
   exact j31 _ _ h h1 (by simp;omega)
  |false=>exact j31 _ _ hc h1 (by simp only;omega)
 have j33:∀(v8:l01Cur×List Int) (v11:l01Cur×List Node),CurP v11.1->v11.2.length<=20->v8.2.length<=20->Dr (fun t:Topo=>t.parents.length<=100/\t.nodes.length<=100) (Mc y3 v8 v11):=fun v8 v11 hc h1 h2=>by
  unfold Mc
  by_cases hq:(y3.1==2)=true/\0<(v11.2.length:Int)
  .rw[show((y3.1==2)&&decide (0<(v11.2.length:Int)))=true by simp[hq];omega,yN]
   refine(W1L hc).bind fun y12 _ h=>?_
   obtain⟨x,ex,_⟩:=Qf (l:=v11.2) (i:=0) (by omega) hq.2
   rw[ex,bS]
   exact j32 _ _ h (by simp;omega) h2
  .rw[show((y3.1==2)&&decide (0<(v11.2.length:Int)))=false by rw[Bool.eq_false_iff];intro q;rw[yD,yO]at q;exact hq q,yM]
   exact j32 _ _ hc h1 h2
 have j34:∀(v8:l01Cur×List Int),CurP v8.1->v8.2.length<=20->Dr (fun t:Topo=>t.parents.length<=100/\t.nodes.length<=100) (Oc y2 y3 v8):=fun v8 hc h1=>by
  unfold Oc
  by_cases hq:(y3.1==1)=true/\0<(y2.1.nodes.length:Int)
  .rw[show((y3.1==1)&&decide (0<(y2.1.nodes.length:Int)))=true by simp[hq];omega,yN]
   refine(V0Y hc).bind fun y12 _ h=>?_
   obtain⟨x,ex,_⟩:=Qf (l:=y2.1.nodes) (i:=0) (by omega) hq.2
   rw[ex,bS]
   exact j33 _ _ h (by simp;omega) h1
  .rw[show((y3.1==1)&&decide (0<(y2.1.nodes.length:Int)))=false by rw[Bool.eq_false_iff];intro q;rw[yD,yO]at q;exact hq q,yM]
   exact j33 _ _ hc (by simp only;omega) h1
 cases y3.1==0 with
 |true =>
  rw[yN,Jr (by omega),bS]
  refine(U2 hc).bind fun y5 h5 h=>(V0Y h).bind fun y6 _ h=>?_
  obtain⟨x,ex,_⟩:=Qf (l:=y2.1.parents) h5.1 (by omega)
  rw[ex,bS]
  exact j34 _ h (by simp;omega)
 |false=>exact j34 _ hc (by simp only;omega)
theorem LQ{b:Bool}{p:Prop}[Decidable p]:(b&&decide p)=true/\b=true/\p\/(b&&decide p)=false:=by
 cases b<;>by_cases hp:p<;>simp[hp]
theorem Q1i{l:List Run}{n:Nat}(h:∀x∈l,x.nodes.length<=n){i:Nat}{y:Run}(hy:y.nodes.length<=n):∀x∈l.set i y,x.nodes.length<=n:=fun x hx=>by
 rcases List.mem_or_eq_of_mem_set hx with hx|rfl
 .exact h x hx
 .exact hy
theorem X1R{c:l01Cur}(h:CurP c):Dr (DrS 500) (Qx c):=by
 unfold Qx
 refine(W1r h).bind fun y2 h2 hc=>(U2 hc).bind fun y3 _ hc=>?_
 have d1:=h2.up;have d2:=h2.par;have d3:=h2.nodes;have d4:=h2.jobs;have d5:=h2.ends;have d6:=h2.run
 have j56:∀(v5:l01Cur×Int) (v7:List Bool) (v9:l01Cur×Int×Int×Int) (v15:List Job) (v20:l01Cur×List End) (v25:List Run) (v27:l01Cur×Int),CurP v27.1->v7.length<=100->v15.length+v25.length<=500->v20.2.length<=500->(∀x∈v25,x.nodes.length<=100)->Dr (DrS 500) (Wc y2 y3 v5 v7 v9 v15 v20 v25 v27):=fun v5 v7 v9 v15 v20 v25 v27 hc g1 g2 g3 g4=>by
  unfold Wc Mg
  cases y3.1==9 with
  |true=>exact(O1t hc).bind fun y28 h28 h=>⟨_,rfl,⟨g1,h28.1,h28.2,g2,g3,g4⟩,h⟩
  |false=>exact⟨_,rfl,⟨g1,d2,d3,g2,g3,g4⟩,hc⟩
 have j57:∀(v5:l01Cur×Int) (v7:List Bool) (v9:l01Cur×Int×Int×Int) (v15:List Job) (v20:l01Cur×List End) (v23:l01Cur×List Run) (v25:List Run),CurP v23.1->v7.length<=100->v15.length+v25.length<=500->v20.2.length<=500->(∀x∈v25,x.nodes.length<=100)->Dr (DrS 500) (Qc y2 y3 v5 v7 v9 v15 v20 v23 v25):=fun v5 v7 v9 v15 v20 v23 v25 hc g1 g2 g3 g4=>by
  unfold Qc
  cases y3.1==8 with
  |true=>exact(V0Y hc).bind fun y26 _ h=>j56 _ _ _ _ _ _ _ h g1 g2 g3 g4
  |false=>exact j56 _ _ _ _ _ _ _ hc g1 g2 g3 g4
 have j58:∀(v5:l01Cur×Int) (v7:List Bool) (v9:l01Cur×Int×Int×Int) (v15:List Job) (v20:l01Cur×List End) (v23:l01Cur×List Run),CurP v23.1->v7.length<=100->v15.length+v23.2.length<=500->v20.2.length<=500->(∀x∈v23.2,x.nodes.length<=100)->Dr (DrS 500) (Uc y2 y3 v5 v7 v9 v15 v20 v23):=fun v5 v7 v9 v15 v20 v23 hc g1 g2 g3 g4=>by
  unfold Uc
  rcases LQ (b:=y3.1==7) (p:=0<(v23.2.length:Int))with⟨e,_,hp⟩|e<;>rw[e]
  .obtain⟨x,ex,hx⟩:=Qf (l:=v23.2) (i:=0) (by omega) hp
   rw[yN,ex,bS]
   exact j57 _ _ _ _ _ _ _ hc g1 (by simp;omega) g3 (Q1i g4 (g4 x (yE hx)))
  .exact j57 _ _ _ _ _ _ _ hc g1 g2 g3 g4
 have j59:∀(v5:l01Cur×Int) (v7:List Bool) (v9:l01Cur×Int×Int×Int) (v12:l01Cur×List Run) (v15:List Job) (v20:l01Cur×List End),CurP v20.1->v7.length<=100->v15.length+v12.2.length<=500->v20.2.length<=500->(∀x∈v12.2,x.nodes.length<=100)->Dr (DrS 500) (Vc y2 y3 v5 v7 v9 v12 v15 v20):=fun v5 v7 v9 v12 v15 v20 hc g1 g2 g3 g4=>by
  unfold Vc
  rcases LQ (b:=y3.1==6) (p:=0<(v12.2.length:Int))with⟨e,_,hp⟩|e<;>rw[e]
  .refine(M1M hc (by omega)).bind fun y21 h21 h=>?_
   obtain⟨x,ex,hx⟩:=Qf (l:=v12.2) (i:=0) (by omega) hp
   rw[ex,bS]
   exact j58 _ _ _ _ _ _ h g1 (by simp;omega) g3 (Q1i g4 h21)
  .exact j58 _ _ _ _ _ _ hc g1 g2 g3 g4
 have j60:∀(v5:l01Cur×Int) (v7:List Bool) (v9:l01Cur×Int×Int×Int) (v12:l01Cur×List Run) (v15:List Job),CurP v12.1->v7.length<=100->v15.length+v12.2.length<=500->(∀x∈v12.2,x.nodes.length<=100)->Dr (DrS 500) (Xc y2 y3 v5 v7 v9 v12 v15):=fun v5 v7 v9 v12 v15 hc g1 g2 g4=>by
  unfold Xc
  cases y3.1==5 with
  |true =>
   refine(U2 hc).bind fun y16 _ h=>(U2 h).bind fun y17 _ h=>(U2 h).bind fun y18 _ h=>?_
   rw[M0 (by simp;omega),bS]
   exact j59 _ _ _ _ _ _ h g1 g2 (by simp;omega) g4
  |false=>exact j59 _ _ _ _ _ _ hc g1 g2 (by simp only;omega) g4
 have j61:∀(v5:l01Cur×Int) (v7:List Bool) (v9:l01Cur×Int×Int×Int) (v12:l01Cur×List Run),CurP v12.1->v7.length<=100->y2.1.queue.length+v12.2.length<=400->(∀x∈v12.2,x.nodes.length<=100)->Dr (DrS 500) (Yc y2 y3 v5 v7 v9 v12):=fun v5 v7 v9 v12 hc g1 g2 g4=>by
  unfold Yc
  rcases LQ (b:=y3.1==4) (p:=0<(v12.2.length:Int))with⟨e,_,hp⟩|e<;>rw[e]
  .obtain⟨x,ex,hx⟩:=Qf (l:=v12.2) (i:=0) (by omega) hp
   rw[yN,ex,bS,M0 (by simp;omega),bS]
   exact j60 _ _ _ _ _ hc g1 (by simp;omega) g4
  .exact j60 _ _ _ _ _ hc g1 (by omega) g4
 have j62:∀(v5:l01Cur×Int) (v7:List Bool) (v9:l01Cur×Int×Int×Int),CurP v9.1->v7.length<=100->Dr (DrS 500) (Jb y2 y3 v5 v7 v9):=fun v5 v7 v9 hc g1=>by
  unfold Jb
  rcases LQ (b:=y3.1==3) (p:=0<(y2.1.runs.length:Int))with⟨e,_,hp⟩|e<;>rw[e]
  .refine(V0Y hc).bind fun y10 _ h=>?_
   obtain⟨x,ex,hx⟩:=Qf (l:=y2.1.runs) (i:=0) (by omega) hp
   rw[ex,bS]
   exact j61 _ _ _ _ h g1 (by simp;omega) (Q1i d6 (d6 x (yE hx)))
  .exact j61 _ _ _ _ hc g1 (by simp only;omega) d6
 have j63:∀(v5:l01Cur×Int) (v7:List Bool),CurP v5.1->v7.length<=100->Dr (DrS 500) (Lb y2 y3 v5 v7):=fun v5 v7 hc g1=>by
  unfold Lb
  cases y3.1==2 with
  |true=>exact(W1L hc).bind fun y8 _ h=>j62 _ _ _ h g1
  |false=>exact j62 _ _ _ hc g1
 have j64:∀(v5:l01Cur×Int),CurP v5.1->Dr (DrS 500) (Mb y2 y3 v5):=fun v5 hc=>by
  unfold Mb
  rcases LQ (b:=y3.1==1) (p:=0<(y2.1.up.length:Int))with⟨e,_,hp⟩|e<;>rw[e]
  .obtain⟨x,ex,hx⟩:=Qf (l:=y2.1.up) (i:=0) (by omega) hp
   rw[yN,ex,bS]
   exact j63 _ _ hc (by simp;omega)
  .exact j63 _ _ hc d1
 cases y3.1==0 with
 |true=>exact(V0Y hc).bind fun y4 _ h=>j64 _ h
 |false=>exact j64 _ hc
theorem Q1r{c:l01Cur}(h:CurP c):Dr (DrS 500) (Lq c):=by
 unfold Lq
 refine(X1R h).bind fun y2 h2 hc=>(U2 hc).bind fun y3 h3 hc=>?_
 refine QN (fun _ (o:Option (State×l01Cur))=>Dr (DrS 500) o) (fun v:l01Cur×State×Int=>v.2.2.toNat) (fun v=>CurP v.1/\DrS 500 v.2.1/\v.2.2<=10) (fun v k hI hk=>?_) _ _ ⟨hc,h2,by simp only;omega⟩ (by simp only;omega)
 obtain⟨g1,g2,g3⟩:=hI
 have hend:Dr (DrS 500) ((X0 v.1 30).bind fun y8=>bif (y8.1==0)then(whl (Yl v y8) 9223372036854775807 [])else((W9 v y8) v.2.1.ends)):=by
  refine(U2 g1).bind fun y8 _ h=>?_
  cases y8.1==0 with
  |true =>
   rw[yN]
   refine QN (fun _ (o:Option (State×l01Cur))=>Dr (DrS 500) o) (fun u:List End=>(400-(u.length:Int)).toNat) (fun u=>u.length<=299) (fun u k' hU hk'=>?_) _ _ (by simp) (by simp only[List.length_nil];omega)
   unfold Yl W9
   by_cases hl:(u.length:Int)<299
   .rw[decide_eq_true hl,yN,M0 (by simp;omega),bS]
    exact hk' _ (by simp;omega) (by simp;omega)
   .rw[decide_eq_false hl]
    exact⟨_,rfl,⟨g2.up,g2.par,g2.nodes,g2.jobs,by simp only;omega,g2.run⟩,h⟩
  |false=>exact⟨_,rfl,⟨g2.up,g2.par,g2.nodes,g2.jobs,g2.ends,g2.run⟩,h⟩
 unfold Lw
 by_cases hp:0<v.2.2
 .rw[decide_eq_true hp,yN,(Oe (g2.small (by omega)).jobs).1,bS]
  cases stateOk v.2.1 with
  |false=>exact hend
  |true =>
   have ew:w64 (v.2.2-1)=v.2.2-1:=X5 (by omega)
   refine(J1J g1).bind fun y6 _ h=>?_
   obtain⟨r,e,hr⟩:=M1a g2 (by omega) y6.1
   rw[e,bS]
   cases r.2==0 with
   |true=>exact hk _ ⟨h,hr.mono (by omega),by simp only;rw[ew];omega⟩ (by simp only;rw[ew];omega)
   |false=>exact hk _ ⟨h,g2,by simp only;rw[ew];omega⟩ (by simp only;rw[ew];omega)
 .rw[decide_eq_false hp,yM,bS,Bool.false_and,yM]
  exact hend
theorem W19{bs:List Int}(h:bs.length<=1048576):∃s,Ur bs=some s/\DrS 500 s:=by
 unfold Ur
 obtain⟨c,ec,hc⟩:=L1r h
 rw[ec,bS]
 obtain⟨r,e,h1,_⟩:=Q1r hc
 rw[e]
 exact⟨_,rfl,h1⟩
set_option maxRecDepth 20000
noncomputable def O0U:L :=
 lf Tryz.prog Q0q [] [] [] [] [] [] []
def J07(n2 x4:Int)(_:Nat)(_:Unit)(k4:Unit->Option Bool):Option Bool :=
 bif (x4==n2)then(some true)else(k4 ())
def WP(_:Unit):Option Bool :=
 some false
def OP(l1:List Int)(n2:Int):Option Bool :=
 rgl (J07 n2) WP l1 0 ()
theorem J0S{l1:List Int}{n2:Int}{r:Bool}(H:OP l1 n2=some r):Snd Tryz.prog Q0q [rV 1 (l1.map eI),iV n2] (.bool r) []:=by
 refine wS O0U [.t 4] ?_
 unfold OP at H
 refine wG [.u 8 (.ln _ _ fun _=>lm l1 eI)] fun q3=>?_
 refine wR (fun(i4:Nat) (v4:Unit)=>⟨[(1,iV n2),(7,rV 1 (l1.map eI)),(8,iV (l1.length:Int)),(9,iV (i4:Int))],[],[],[]⟩) H (fun i4 x4 v4 I m k4 hxv4 hiv4 H N20=>?_) (fun v4 I m H=>?_)
 .unfold J07 at H
  refine wP ?_
  refine wt (ltT hiv4) ?_
  refine wG [.u 11 (.ix _ _ _ fun _=>Q0 eI (J0 hxv4))] fun _=>?_
  refine O0 H (fun H=>?_) fun H=>?_
  .obtain rfl:=sI H
   exact wP (wE [(4,.d)])
  .refine wG [.w 16 (wi .i64 rfl hiv4 q3.1)] fun _=>?_
   exact wT (N20 () H)
 .unfold WP at H
  refine wP ?_
  refine wf (ltF l1.length) ?_
  obtain rfl:=sI H
  exact wP (wE [(4,.d)])
noncomputable def W0N:L :=
 lf Tryz.prog LG [45] [] [] [] [(15,27),(19,33)] [] []
def VJ(y3:State)(x9:Seen)(_:Nat)(v9:(List Int))(k9:(List Int)->Option Bool):Option Bool :=
 (OP v9 x9.id).bind fun b10=>(bif (b10||(decide (x9.fin<=x9.start)))then some default else(Uf y3)).bind fun n11=>(bif ((b10||(decide (x9.fin<=x9.start)))||(decide (n11<x9.fin)))then some default else(U08 y3 x9.id)).bind fun n12=>bif (((b10||(decide (x9.fin<=x9.start)))||(decide (n11<x9.fin)))||(n12 != x9.start))then(some false)else((appL 8 v9 [x9.id]).bind fun xs13=>k9 xs13)
def XJ(y3:State)(y4:(List Seen)×Bool)(y6:State×Bool)(_:(List Int)):Option Bool :=
 (bif y6.2 then(lenQ y6.1.runs)else some default).bind fun _=>(bif (y6.2&&((y6.1.runs.length:Int)==0))then(OX y3)else some default).bind fun y15=>(bif (y6.2&&((y6.1.runs.length:Int)==0))then(lenQ y15)else some default).bind fun _=>(bif (y6.2&&((y6.1.runs.length:Int)==0))then(lenQ y6.1.queue)else some default).bind fun _=>(bif ((y6.2&&((y6.1.runs.length:Int)==0))&&((y15.length:Int)==(y6.1.queue.length:Int)))then(lenQ y6.1.queue)else some default).bind fun _=>(bif ((y6.2&&((y6.1.runs.length:Int)==0))&&((y15.length:Int)==(y6.1.queue.length:Int)))then(lenQ y3.runs)else some default).bind fun _=>(bif ((y6.2&&((y6.1.runs.length:Int)==0))&&((y15.length:Int)==(y6.1.queue.length:Int)))then(lenQ y3.queue)else some default).bind fun _=>some (((y6.2&&((y6.1.runs.length:Int)==0))&&((y15.length:Int)==(y6.1.queue.length:Int)))&&((w64 ((y4.1.length:Int)+(y6.1.queue.length:Int)))==(w64 ((y3.runs.length:Int)+(y3.queue.length:Int)))))
def ZS(code1:List Int):Option Bool :=
 bif (decide (1048576<(code1.length:Int)))then(some true)else((Ur code1).bind fun y3=>(Q0d y3).bind fun y4=>(V0c y3).bind fun y5=>bif (!(y4.2==y5.2))then(some false)else((Y0o y3).bind fun y6=>bif (!y4.2)then((bif (!y6.2)then(Uf y3)else some default).bind fun n7=>some ((!y6.2)&&(n7==(-1))))else(rgl (VJ y3) (XJ y3 y4 y6) y4.1 0 [])))
theorem Y0L{code1:List Int}{r:Bool}(H:ZS code1=some r):Snd Tryz.prog LG [rV 1 (code1.map eB)] (.bool r) []:=by
 refine wS W0N [.t 2] ?_
 unfold ZS at H
 refine wG [.u 14 (.ln _ _ fun _=>lm code1 eB)] fun q2=>?_
 refine O0 H (fun H=>?_) fun H=>?_
 .obtain rfl:=sI H
  exact wP (wE [(2,.d)])
 .obtain⟨y3,h3,H⟩:=bB H
  obtain⟨y4,h4,H⟩:=bB H
  obtain⟨y5,h5,H⟩:=bB H
  refine wG [.c 17 (L0s h3),.u 20 (.call _ _ _ _ _ (AEs.of (xs:=[.agg [rV 1 (y3.topo.parents.map eI),rV 4 (y3.topo.nodes.map Y1),rV 1 (y3.up.map eBo),iV y3.lic.a,iV y3.lic.b,iV y3.lic.c,iV y3.depth,iV y3.now,rV 11 (y3.queue.map eJob),rV 13 (y3.runs.map (Z1 .nw)),rV 3 (y3.ends.map eEnd)]]) (by simp)) (fun _=>Q18 h4)),.u 25 (.call _ _ _ _ _ (AEs.of (xs:=[.agg [rV 1 (y3.topo.parents.map eI),rV 4 (y3.topo.nodes.map Y1),rV 1 (y3.up.map eBo),iV y3.lic.a,iV y3.lic.b,iV y3.lic.c,iV y3.depth,iV y3.now,rV 11 (y3.queue.map eJob),rV 13 (y3.runs.map (Z1 .nw)),rV 3 (y3.ends.map eEnd)]]) (by simp)) (fun _=>J11 h5))] fun _=>?_
  refine O0 H (fun H=>?_) fun H=>?_
  .obtain rfl:=sI H
   exact wP (wE [(2,.d)])
  .obtain⟨y6,h6,H⟩:=bB H
   refine wG [.u 33 (.call _ _ _ _ _ (AEs.of (xs:=[.agg [rV 1 (y3.topo.parents.map eI),rV 4 (y3.topo.nodes.map Y1),rV 1 (y3.up.map eBo),iV y3.lic.a,iV y3.lic.b,iV y3.lic.c,iV y3.depth,iV y3.now,rV 11 (y3.queue.map eJob),rV 13 (y3.runs.map (Z1 .nw)),rV 3 (y3.ends.map eEnd)]]) (by simp)) (fun _=>M1e h6))] fun _=>?_
   refine O0 H (fun H=>?_) fun H=>?_
   .obtain⟨n7,h7,H⟩:=bB H
    refine wG [.g 42 [(_,true)] (.call _ _ _ _ _ (AEs.of (xs:=[.agg [rV 1 (y3.topo.parents.map eI),rV 4 (y3.topo.nodes.map Y1),rV 1 (y3.up.map eBo),iV y3.lic.a,iV y3.lic.b,iV y3.lic.c,iV y3.depth,iV y3.now,rV 11 (y3.queue.map eJob),rV 13 (y3.runs.map (Z1 .nw)),rV 3 (y3.ends.map eEnd)]]) (by simp)) (fun q=>X04 (bT q.1 h7)))] fun _=>?_
    replace H:=sI H;subst H
    exact wE [(2,.d)]
   .refine wG [.u 47 (.ln _ _ fun _=>lm y4.1 Wi)] fun q8=>?_
    refine wR (fun(i9:Nat) (v9:(List Int))=>⟨[(3,.ptr 3 0),(4,nV 3 (y4.1.map Wi)),(8,.ptr 8 0),(9,.bool y6.2),(10,.sref 45),(46,nV 3 (y4.1.map Wi)),(47,iV (y4.1.length:Int)),(48,iV (i9:Int))],[],[(3,(X2 .nw y3).cells),(8,(X2 .nw y6.1).cells)],[(45,⟨1,v9.map eI,false⟩)]⟩) H (fun i9 x9 v9 I m k9 hxv9 hiv9 H N48=>?_) (fun v9 I m H=>?_)
    .unfold VJ at H
     refine wP ?_
     refine wt (ltT hiv9) ?_
     obtain⟨b10,h10,H⟩:=bB H
     obtain⟨n11,h11,H⟩:=bB H
     obtain⟨n12,h12,H⟩:=bB H
     refine wG [.u 50 (.ix _ _ _ fun _=>Q0 Wi (J0 hxv9)),.c 55 (J0S h10),.g 67 [(_,false)] (.call _ _ _ _ _ (AEs.of (xs:=[.agg [rV 1 (y3.topo.parents.map eI),rV 4 (y3.topo.nodes.map Y1),rV 1 (y3.up.map eBo),iV y3.lic.a,iV y3.lic.b,iV y3.lic.c,iV y3.depth,iV y3.now,rV 11 (y3.queue.map eJob),rV 13 (y3.runs.map (Z1 .nw)),rV 3 (y3.ends.map eEnd)]]) (by simp)) (fun q=>X04 (bF q.1 h11))),.g 74 [(_,false)] (.call _ _ _ _ _ (AEs.of (xs:=[.agg [rV 1 (y3.topo.parents.map eI),rV 4 (y3.topo.nodes.map Y1),rV 1 (y3.up.map eBo),iV y3.lic.a,iV y3.lic.b,iV y3.lic.c,iV y3.depth,iV y3.now,rV 11 (y3.queue.map eJob),rV 13 (y3.runs.map (Z1 .nw)),rV 3 (y3.ends.map eEnd)],iV x9.id]) (by simp)) (fun q=>Q1e (bF q.1 h12)))] fun _=>?_
     refine O0 H (fun H=>?_) fun H=>?_
     .obtain rfl:=sI H
      exact wP (wE [(2,.d)])
     .obtain⟨xs13,h13,H⟩:=bB H
      refine wG [.u 83 (.ap _ _ _ _ fun _=>L0 eI h13),.w 84 (wi .i64 rfl hiv9 q8.1)] fun _=>?_
      exact wT (N48 _ H)
    .unfold XJ at H
     refine wP ?_
     refine wf (ltF y4.1.length) ?_
     obtain⟨u14,h14,H⟩:=bB H
     obtain⟨y15,h15,H⟩:=bB H
     obtain⟨u16,h16,H⟩:=bB H
     obtain⟨u17,h17,H⟩:=bB H
     obtain⟨u18,h18,H⟩:=bB H
     obtain⟨u19,h19,H⟩:=bB H
     obtain⟨u20,h20,H⟩:=bB H
     refine wG [.g 89 [(_,true)] (.le _ _ (fun q=>lm y6.1.runs (Z1 .nw)) (fun q=>LC (bT q.1 h14))),.g 94 [(_,true)] (.call _ _ _ _ _ (AEs.of (xs:=[.agg [rV 1 (y3.topo.parents.map eI),rV 4 (y3.topo.nodes.map Y1),rV 1 (y3.up.map eBo),iV y3.lic.a,iV y3.lic.b,iV y3.lic.c,iV y3.depth,iV y3.now,rV 11 (y3.queue.map eJob),rV 13 (y3.runs.map (Z1 .nw)),rV 3 (y3.ends.map eEnd)]]) (by simp)) (fun q=>U18 (bT q.1 h15))),.g 95 [(_,true)] (.le _ _ (fun q=>lm y15 eI) (fun q=>LC (bT q.1 h16))),.g 98 [(_,true)] (.le _ _ (fun q=>lm y6.1.queue eJob) (fun q=>LC (bT q.1 h17))),.g 103 [(((y6.2&&((y6.1.runs.length:Int)==0))&&((y15.length:Int)==(y6.1.queue.length:Int))),true)] (.le _ _ (fun _=>lm y4.1 Wi) (fun _=>q8.1)),.g 106 [(_,true)] (.le _ _ (fun q=>lm y6.1.queue eJob) (fun q=>LC (bT q.1 h18))),.g 110 [(_,true)] (.le _ _ (fun q=>lm y3.runs (Z1 .nw)) (fun q=>LC (bT q.1 h19))),.g 113 [(_,true)] (.le _ _ (fun q=>lm y3.queue eJob) (fun q=>LC (bT q.1 h20)))] fun _=>?_
     replace H:=sI H;subst H
     exact wE [(2,.d)]
end
structure AheadX(n0:Nat)(s:State)(l:List Seen):Prop where
 p:AheadP s l
 nodup:(l.map Seen.id).Nodup
 pos:∀x∈l,x.start<x.fin
 cnt:l.length+s.queue.length=n0
 ends:∀x∈s.runs,0<=endOf x
def J1L(n0:Nat)(r:List Seen×State×Bool):Prop:=r.2.2=true->(r.1.map Seen.id).Nodup/\(∀x∈r.1,x.start<x.fin)/\r.1.length+r.2.1.queue.length=n0/\r.2.1.runs=[]
theorem M1c{s:State}(h:∀x∈s.runs,0<=endOf x)(hn:¬ 0<=nextF s):s.runs=[]:=by
 cases hr:s.runs with
 |nil=>rfl
 |cons x r =>
  exfalso
  refine hn ?_
  have h0:∀y∈s.runs,0<=endOf y:=h
  unfold nextF
  rw[hr,List.foldl_cons]
  have hx:nextStep (-1) x=endOf x:=by unfold nextStep;simp
  rw[hx]
  rcases M13 r (endOf x)with q|⟨y,hy,q⟩
  .rw[q];exact h0 x (by rw[hr];simp)
  .rw[← q];exact h0 y (by rw[hr];simp[hy])
theorem U1s{l:List Seen}{id:Int}(h:VH l id=false):id∉l.map Seen.id:=fun q=>by
 obtain⟨x,hx,e⟩:=yY q
 have:VH l id=true:=by unfold VH;exact List.any_eq_true.2 ⟨x,hx,by simp[e]⟩
 rw[h]at this;cases this
theorem Q1B{s:State}(hP:StateP s){x:Run}(hx:x∈s.runs):endOf x=x.t+x.job.wall/\x.t<x.t+x.job.wall/\0<=x.t/\x.t+x.job.wall<=1000000000:=by
 obtain⟨h1,_,_,_,hx5⟩:=hP.runs.job x hx
 have hj:=Md.1 h1
 unfold W0J at hx5
 simp only[yD,yO]at hx5
 have b1:=U8.1 hx5.1.1.1
 have b3:=U8.1 hP.now
 refine⟨?_,by omega,by omega,by omega⟩
 unfold endOf;rw[X5 (by omega)]
theorem U1h{n0:Nat}{s:State}{l:List Seen}(h:AheadX n0 s l){s':State}{new:List Run}(hP:StateP s)(hn:0<=nextF s)(hT:StartP (endF s (nextF s)) s' new):AheadX n0 s' (l++new.map V0C):=by
 obtain⟨_,_,a3⟩:=Y0k h.p hP hn hT
 have hp:=hT.perm
 have hall:((s'.queue++new.map Run.job).map Job.id).Nodup:=(hp.map _).nodup_iff.2 h.p.uniq
 rw[List.map_append,List.map_map,List.nodup_append]at hall
 have hin:∀x∈new,x.job∈s.queue:=fun x hx=>hp.mem_iff.1 (List.mem_append_right _ (List.mem_map_of_mem hx))
 have hlen:=hp.length_eq
 simp only[yU,List.length_map,endF]at hlen
 have hnew:∀x∈new,endOf x=nextF s+x.job.wall/\1<=x.job.wall/\x.t=nextF s:=fun x hx=>by
  have ht:x.t=nextF s:=(hT.fresh x hx).1
  have hj:=Md.1 ((V4 hP.queue).2.1 x.job (List.mem_append_left _ (hin x hx)))
  obtain⟨y,hy,he⟩:=Jm hn
  have:=Q1B hP hy
  refine⟨?_,by omega,ht⟩
  unfold endOf;rw[ht,X5 (by omega)]
 refine⟨a3,?_,fun x hx=>?_,?_,fun x hx=>?_⟩
 .rw[List.map_append,List.nodup_append]
  refine⟨h.nodup,by rw[List.map_map];exact hall.2.1,fun a ha b hb e=>?_⟩
  obtain⟨y,hy,rfl⟩:=yY hb
  obtain⟨x,hx,rfl⟩:=yY hy
  exact U1s (h.p.free _ (hin x hx)) (by rw[← show a=x.job.id from e];exact ha)
 .rcases List.mem_append.1 hx with hx|hx
  .exact h.pos x hx
  .obtain⟨y,hy,rfl⟩:=yY hx
   have:=hnew y hy
   show y.t<endOf y
   omega
 .have:=h.cnt;simp;omega
 .rw[hT.runs]at hx
  rcases List.mem_append.1 hx with hx|hx
  .exact h.ends x (List.mem_filter.1 hx).1
  .have:=hnew x hx;omega
theorem Q1h{n0:Nat}:∀(m:Nat) (s:State) (l:List Seen) (f:Nat),AheadX n0 s l->s.queue.length+s.runs.length<=m->m<f->∃r,whl Qb f (s,l)=some r/\J1L n0 r:=by
 intro m
 induction m with
 |zero =>
  intro s l f h hm hf
  obtain⟨f,rfl⟩:∃g,f=g+1:=⟨f-1,by omega⟩
  rw[whl,Qb]
  simp only[UH,bS]
  by_cases hn:0<=nextF s
  .obtain⟨x,hx,_⟩:=Jm hn
   have:=List.length_pos_of_mem hx
   omega
  .rw[decide_eq_true (show nextF s<0 by omega)]
   exact⟨_,rfl,fun _=>⟨h.nodup,h.pos,h.cnt,M1c h.ends hn⟩⟩
 |succ m ih =>
  intro s l f h hm hf
  obtain⟨f,rfl⟩:∃g,f=g+1:=⟨f-1,by omega⟩
  rw[whl,Qb]
  simp only[UH,bS]
  by_cases hn:0<=nextF s
  .rw[decide_eq_false (show ¬ nextF s<0 by omega)]
   obtain⟨r,e1,e2,e3⟩:=W0X h.p.small hn
   simp only[e2,bS,yM]
   cases hr:r.2 with
   |false=>exact⟨_,rfl,fun e=>by cases e⟩
   |true =>
    obtain⟨hP,new,hT⟩:=e3 hr
    obtain⟨a1,a2,a3⟩:=Y0k h.p hP hn hT
    simp only[yL,yM,a2]
    have hl:=hT.len
    obtain⟨x,hx,he⟩:=Jm hn
    have hk:=Q0I hx he
    have:(endF s (nextF s)).queue.length+(endF s (nextF s)).runs.length=s.queue.length+(keepF (nextF s) s.runs).length:=rfl
    exact ih r.1 _ f (U1h h hP hn hT) (by omega) (by omega)
  .rw[decide_eq_true (show nextF s<0 by omega)]
   exact⟨_,rfl,fun _=>⟨h.nodup,h.pos,h.cnt,M1c h.ends hn⟩⟩
theorem M1t{s:State}(hj:s.queue.length+s.runs.length<=1048576):∃r,Ya s=some r/\J1L (s.runs.length+s.queue.length) r:=by
 obtain⟨h1,h2⟩:=Oe hj
 unfold Ya
 rw[h2,bS]
 cases hS:stateOk s with
 |false=>exact⟨_,rfl,fun e=>by cases e⟩
 |true =>
  have hP:=JG hS
  have hs:=hP.small
  obtain⟨q1,q2,q3⟩:=V4 hP.queue
  unfold allJobs at q1 q3
  rw[List.map_append,List.map_map,List.nodup_append]at q3
  simp only[yU,List.length_map]at q1
  simp only[yL,yM]
  rw[U5 (bd:=ZG) (bs:=24) (p:=fun _=>true) (f:=V0C) (fun x _ i b k=>rfl) (by simp;omega)]
  unfold LF
  rw[VS hs,bS]
  have e2:s.runs.filter (fun _=>true)=s.runs:=List.filter_eq_self.2 fun _ _=>rfl
  rw[e2,List.nil_append]
  refine Q1h (s.queue.length+s.runs.length) s _ _ ⟨⟨hs,fun x hx=>?_,fun j hj=>?_,q3.1,by simp;omega⟩,by rw[List.map_map];exact q3.2.1,fun x hx=>?_,by simp,fun x hx=>?_⟩ (yV _) (by omega)
  .exact(VN s.runs x.job.id).2 (List.mem_map_of_mem (f:=fun x:Run=>x.job.id) hx)
  .rw[← Bool.not_eq_true]
   intro e
   rw[VN]at e
   exact q3.2.2 j.id (List.mem_map_of_mem hj) j.id e rfl
  .obtain⟨y,hy,rfl⟩:=yY hx
   have:=Q1B hP hy
   show y.t<endOf y
   omega
  .have:=Q1B hP hx;omega
theorem V1A(l:List Int)(n:Int):OP l n=some (l.contains n):=by
 unfold OP
 rw[Wj (r:=some true) (p:=fun x=>x==n) (fun x _ i k=>rfl)]
 unfold WP
 have:l.contains n=l.any (fun x=>x==n):=by
  rw[Bool.eq_iff_iff]
  simp only[List.contains_iff_mem,List.any_eq_true,beq_iff_eq]
  exact⟨fun h=>⟨n,h,rfl⟩,fun⟨x,hx,e⟩=>e ▸ hx⟩
 rw[this]
 cases l.any fun x=>x==n<;>rfl
theorem L1n{l:List Seen}(h:(l.map Seen.id).Nodup){i j:Nat}{x y:Seen}(hx:l[i]?=some x)(hy:l[j]?=some y)(e:x.id=y.id):i=j:=by
 obtain⟨hi,rfl⟩:=yB hx
 obtain⟨hj,rfl⟩:=yB hy
 have hp:=List.pairwise_iff_getElem.1 h
 rcases Nat.lt_trichotomy i j with q|q|q
 .exact absurd (by rw[List.getElem_map,List.getElem_map];exact e) (hp i j (by simpa using hi) (by simpa using hj) q)
 .exact q
 .exact absurd (by rw[List.getElem_map,List.getElem_map];exact e.symm) (hp j i (by simpa using hj) (by simpa using hi) q)
theorem W1S{s:State}{r:List Seen×State×Bool}(hr:Ya s=some r)(hn:(r.1.map Seen.id).Nodup){i:Nat}{x:Seen}(hx:r.1[i]?=some x):U08 s x.id=some x.start:=by
 unfold U08
 rw[hr,bS]
 have hil:=(yB hx).1
 refine Y8 (fun j (_:Unit)=>j<=i) (fun(o:Option Int)=>o=some x.start) (fun j y _ k hj hI hk=>?_) (fun _ hI=>by omega) (Nat.zero_le _)
 unfold V00
 have hjl:=(yB hj).1
 by_cases e:y.id=x.id
 .have:j=i:=L1n hn hj hx e
  subst this
  rw[hx]at hj;cases hj
  simp
 .rw[beq_eq_false_iff_ne.2 e,yM]
  refine hk () ?_
  have:j≠i:=fun q=>by subst q;rw[hx]at hj;cases hj;exact e rfl
  omega
theorem Z1f(l:List Seen):∀(v:Int),v<=l.foldl (fun v x=>max v x.fin) v/\∀x∈l,x.fin<=l.foldl (fun v x=>max v x.fin) v:=by
 induction l with
 |nil=>intro v;exact⟨Int.le_refl _,fun x hx=>by simp at hx⟩
 |cons y l ih =>
  intro v
  obtain⟨h1,h2⟩:=ih (max v y.fin)
  refine⟨by rw[List.foldl_cons];omega,fun x hx=>?_⟩
  rw[List.foldl_cons]
  rcases yX hx with rfl|hx
  .omega
  .exact h2 x hx
theorem J1X{s:State}{r:List Seen×State×Bool}(hr:Ya s=some r)(h:r.2.2=true):Uf s=some (r.1.foldl (fun v x=>max v x.fin) s.now):=by
 unfold Uf
 rw[hr,bS,h]
 simp only[yL,yM]
 rw[Qr (bd:=ZE) (f:=fun(v:Int) (x:Seen)=>max v x.fin) (fun x _ i b k=>rfl)]
 rfl
theorem W1M{s:State}{r:List Seen×State×Bool}(hr:Ya s=some r)(h:r.2.2=true)(hq:r.2.1.queue.length<=1048576):OX s=some (r.2.1.queue.map Job.id):=by
 unfold OX
 rw[hr,bS,h]
 simp only[yL,yM]
 rw[U5 (bd:=YV) (bs:=8) (p:=fun _=>true) (f:=Job.id) (fun x _ i b k=>rfl) (by simp;omega)]
 unfold ZV
 rw[List.filter_eq_self.2 fun _ _=>rfl,List.nil_append]
theorem Y1f(code:List Int):ZS code=some true:=by
 unfold ZS
 by_cases hl:1048576<code.length
 .rw[show decide ((1048576:Int)<(code.length:Int))=true by simp;omega];rfl
 rw[show decide ((1048576:Int)<(code.length:Int))=false by simp;omega,yM]
 obtain⟨s,e3,hD⟩:=W19 (bs:=code) (by omega)
 have hS:=hD.small (by omega)
 obtain⟨r,h1,h2,hR⟩:=Q1H hS.jobs
 obtain⟨r',h2',hY⟩:=M1t hS.jobs
 rw[h2]at h2';cases h2'
 have hql:=hR.queue
 have hrl:=hR.len
 have d4:=hD.jobs
 rw[e3,bS]
 unfold Q0d V0c Y0o
 rw[h1,h2]
 simp only[bS,beq_self_eq_true,yL,yM]
 cases hb:r.2.2 with
 |false =>
  have hm:Uf s=some (-1):=by
   unfold Uf
   rw[h2,bS,hb];rfl
  rw[hm];rfl
 |true =>
  obtain⟨y1,y2,y3,y4⟩:=hY hb
  simp only[yL,yM]
  have hM:=J1X h2 hb
  refine Y8 (fun i (v:List Int)=>v=(r.1.take i).map Seen.id) (fun(o:Option Bool)=>o=some true) (fun i x v k hx hI hk=>?_) (fun v _=>?_) (by simp)
  .have hil:=(yB hx).1
   have hxm:=yE hx
   unfold VJ
   have hc:v.contains x.id=false:=by
    rw[Bool.eq_false_iff];intro q
    rw[List.contains_iff_mem,hI,List.mem_map]at q
    obtain⟨z,hz,e⟩:=q
    obtain⟨j,hj⟩:=List.getElem?_of_mem hz
    rw[List.getElem?_take]at hj
    split at hj
    .rename_i hji
     have hjl:=(yB hj).1
     have:j=i:=L1n y1 hj hx e
     omega
    .cases hj
   rw[V1A,hc,bS]
   have p1:=y2 x hxm
   have p2:=(Z1f r.1 s.now).2 x hxm
   rw[show decide (x.fin<=x.start)=false by simp;omega]
   simp only[Bool.or_self,yM,hM,bS]
   rw[show decide (r.1.foldl (fun v x=>max v x.fin) s.now<x.fin)=false by simp;omega]
   simp only[Bool.or_self,yM,W1S h2 y1 hx,bS,bne_self_eq_false]
   have hv:v.length<=i:=by rw[hI];simp;omega
   rw[M0 (by simp;omega),bS]
   refine hk _ ?_
   rw[hI,List.take_succ_eq_append_getElem hil,List.map_append]
   rw[yA hil]at hx;cases hx
   rfl
  .unfold XJ
   have hq:=W1M h2 hb hql
   simp only[y4,yN,Bool.true_and,List.length_nil,Int.natCast_zero,beq_self_eq_true,hq]
   rw[Jr (by simp),bS,bS,Jr (by simp;omega),bS,Jr (by omega),bS]
   simp only[List.length_map,beq_self_eq_true,yN,bS]
   rw[Jr (by omega),bS,Jr (by omega),bS]
   rw[show((r.1.length:Int)+(r.2.1.queue.length:Int))=((s.runs.length:Int)+(s.queue.length:Int)) by omega,beq_self_eq_true,Bool.and_self]
theorem V1H{a:AV}(h:(Ty.sl (.int .u8)).okV a):∃l:List Int,AV.wkA (fun _=>False) a (.sl .rd 1 (l.map eB)):=by
 simp only[Ty.okV,Ty.ok]at h
 rcases h with h|⟨es,h,_,h2⟩
 .exact⟨[],by rw[(List.cons.inj h).1];simp⟩
 .obtain⟨l,rfl⟩:=O1P eB fun x hx=>by
   obtain⟨_,h3,n,h4,_⟩:=h2 x hx
   simp only[Ty.isSt,yG,yc]at h3
   rw[M1g h3]at h4
   exact⟨n,(List.cons.inj h4).1⟩
  exact⟨l,by rw[(List.cons.inj h).1];simp[Ty.size]⟩
theorem Z1u(xs:List AV)(h:okVs [.sl (.int .u8)] xs):Snd Tryz.prog LG xs (.bool true) []:=by
 obtain⟨a,_,rfl,ha,rfl⟩:=h
 obtain⟨l,ha⟩:=V1H ha
 exact(Y0L (Y1f l)).wk ⟨ha,trivial⟩
end Go.Proofs.YtpgaganbacipnaaGreat
