/-
  Lemmas, part 12.
-/
import Derived.Test.YtpgaganbacipnaaGreatI11
namespace Go.Proofs.YtpgaganbacipnaaGreat
open Go Go.RowKit Eng
section
set_option maxRecDepth 20000
noncomputable def Y0w:L :=
 lf Tryz.prog Xc [] [] [] [] [(2,13),(3,10),(4,14)] [] [31]
def O0u:List Rv:=[.t 2]
theorem V0y:Qt Tryz.prog Xc 1 Y0w O0u=true:=by kernel_rfl
def Qa(c1:l01Cur)(v6:Int×Int):Option (Int×l01Cur) :=
 some (v6.2,(l01Cur.mk c1.b v6.1 (w64 ((w64 (c1.h*6364136223846793005))+1442695040888963407))))
def V9(c1:l01Cur):Option (Int×l01Cur) :=
 (shrI .i64 (w64 ((w64 (c1.h*6364136223846793005))+1442695040888963407)) 33).bind λn2=>(shrI .i64 (w64 ((w64 (c1.h*6364136223846793005))+1442695040888963407)) 45).bind λn3=>(lenQ c1.b).bind λ_=>bif decide (c1.i<(c1.b.length:Int))then((idx c1.b c1.i).bind λe5=>(Qa c1) ((w64 (c1.i+1)),(bAnd .i64 (w64 ((bAnd .i64 (bXor .i64 n2 n3) 255)+(IntKind.wrap .i64 e5))) 255)))else((Qa c1) (c1.i,(bAnd .i64 (bXor .i64 n2 n3) 255)))
set_option maxRecDepth 20000 in
theorem Vi{c1:l01Cur}{r:Int×l01Cur}(H:V9 c1=some r):ConD Tryz.prog Xc [.ptr 0 0] [(Y0 .rd c1).cells] [] (iV r.1) [(Y0 .rd r.2).cells] [] []:=by
 refine JW [] V0y rfl (by kernel_rfl) ?_
 unfold V9 at H
 obtain⟨n2,h2,n3,h3,u4,h4,H⟩:=bB3 H
 refine wH [.u 17 (.shr _ _ _ _ λ_=>h2),.u 22 (.shr _ _ _ _ λ_=>h3),.u 33 (.le _ _ (λ_=>lm c1.b eB) (λ_=>V0k h4))] ?_
 refine J3 (r:=r) (Qa c1) 0 (λv6:Int×Int=>⟨[(3,.int .i64 v6.2)],[],[(2000000000,(Y0 .rd (l01Cur.mk c1.b v6.1 (w64 ((w64 (c1.h*6364136223846793005))+1442695040888963407)))).cells)],[]⟩) (by kernel_rfl) (λv6 H=>?_) (λJ12=>?_)
 .unfold Qa at H
  refine wP ?_
  replace H:=sI H;subst H
  exact W3 [(2,.d)] [(2000000000,[])] [] [] [] (by kernel_rfl)
 .refine M0 H ?_ ?_<;>intro H
  .obtain⟨e5,h5,H⟩:=bB H
   exact wH [.u 44 (.ix _ _ _ λ_=>W0 eB h5)] (wT (J12 _ H))
  .refine wP ?_
   exact wT (J12 _ H)
noncomputable def Q0o:L :=
 lf Tryz.prog V0 [] [] [] [] [] [] []
def Y0n:List Rv:=[.t 4]
theorem Y0q:Qt Tryz.prog V0 2 Q0o Y0n=true:=by kernel_rfl
def X0(c1:l01Cur)(n2:Int):Option (Int×l01Cur) :=
 bif decide (n2<=0)then(some (0,c1))else(bif decide (n2<=256)then((V9 c1).bind λy3=>(remI y3.1 n2).bind λn4=>some (n4,y3.2))else((V9 c1).bind λy5=>(V9 y5.2).bind λy6=>(V9 y6.2).bind λy7=>(V9 y7.2).bind λy8=>(remI (w64 ((w64 ((w64 ((w64 (y5.1*16777216))+(w64 (y6.1*65536))))+(w64 (y7.1*256))))+y8.1)) n2).bind λn9=>some (n9,y8.2)))
set_option maxRecDepth 20000 in
theorem Z0{c1:l01Cur}{n2:Int}{r:Int×l01Cur}(H:X0 c1 n2=some r):ConD Tryz.prog V0 [.ptr 0 0,iV n2] [(Y0 .rd c1).cells] [] (iV r.1) [(Y0 .rd r.2).cells] [] []:=by
 refine JW [] Y0q rfl (by kernel_rfl) ?_
 unfold X0 at H
 refine wP ?_
 refine M0 H ?_ ?_<;>intro H
 .refine wP ?_
  replace H:=sI H;subst H
  exact W3 [(4,.d)] [(2000000000,[])] [] [] [] (by kernel_rfl)
 .refine wP ?_
  refine M0 H ?_ ?_<;>intro H
  .obtain⟨y3,h3,n4,h4,H⟩:=bB2 H
   refine wH [.u 14 (.cw Xc [2000000000] [] [(Y0 .rd c1).cells] [] [.ptr 0 0] _ _ _ _ _ (GEs.of [true] (by simp)) (by simp) (by simp) (by simp) (λ_=>Vi h3)),.u 16 (.rem _ _ _ λ_=>h4)] ?_
   replace H:=sI H;subst H
   exact W3 [(4,.d)] [(2000000000,[])] [] [] [] (by kernel_rfl)
  .obtain⟨y5,h5,y6,h6,y7,h7,H⟩:=bB3 H
   obtain⟨y8,h8,n9,h9,H⟩:=bB2 H
   refine wH [.u 18 (.cw Xc [2000000000] [] [(Y0 .rd c1).cells] [] [.ptr 0 0] _ _ _ _ _ (GEs.of [true] (by simp)) (by simp) (by simp) (by simp) (λ_=>Vi h5)),.u 20 (.cw Xc [2000000000] [] [(Y0 .rd y5.2).cells] [] [.ptr 0 0] _ _ _ _ _ (GEs.of [true] (by simp)) (by simp) (by simp) (by simp) (λ_=>Vi h6)),.u 22 (.cw Xc [2000000000] [] [(Y0 .rd y6.2).cells] [] [.ptr 0 0] _ _ _ _ _ (GEs.of [true] (by simp)) (by simp) (by simp) (by simp) (λ_=>Vi h7)),.u 24 (.cw Xc [2000000000] [] [(Y0 .rd y7.2).cells] [] [.ptr 0 0] _ _ _ _ _ (GEs.of [true] (by simp)) (by simp) (by simp) (by simp) (λ_=>Vi h8)),.u 36 (.rem _ _ _ λ_=>h9)] ?_
   replace H:=sI H;subst H
   exact W3 [(4,.d)] [(2000000000,[])] [] [] [] (by kernel_rfl)
noncomputable def Z0w:L :=
 lf Tryz.prog Ot [13,17,23] [] [] [] [] [(24,[],[],[0,2,4,6,12,18,9,10,15,16,21,22,24,26],14)] []
def W0u:List Rv:=[.c 2 2 true]
theorem X0y:Qt Tryz.prog Ot 1 Z0w W0u=true:=by kernel_rfl
def Qz(x5:Int)(k5:(l01Cur×(List Int)×(List Int))->Option (Topo×l01Cur))(y6:Int×l01Cur)(v7:Int×(List Int)×(List Int))(k7:(Int×(List Int)×(List Int))->Option (Topo×l01Cur)):Option (Topo×l01Cur) :=
 bif decide (0<v7.1)&&decide ((v7.2.1.length:Int)<18)then((appL 8 v7.2.1 [x5]).bind λxs8=>(appL 8 v7.2.2 [(w64 ((xs8.length:Int)-1))]).bind λxs9=>k7 ((w64 (v7.1-1)),xs8,xs9))else(k5 (y6.2,v7.2.1,v7.2.2))
def Uz(x5:Int)(_:Nat)(v5:l01Cur×(List Int)×(List Int))(k5:(l01Cur×(List Int)×(List Int))->Option (Topo×l01Cur)):Option (Topo×l01Cur) :=
 (X0 v5.1 3).bind λy6=>whl (Qz x5 k5 y6) 9223372036854775807 ((w64 (1+y6.1)),v5.2.1,v5.2.2)
def Zz(v3:l01Cur×Int×(List Int)×(List Int))(k3:(l01Cur×Int×(List Int)×(List Int))->Option (Topo×l01Cur))(v5:l01Cur×(List Int)×(List Int)):Option (Topo×l01Cur) :=
 bif decide (0<(v5.2.2.length:Int))then(k3 (v5.1,(w64 (v3.2.1+1)),v5.2.1,v5.2.2))else(k3 (v5.1,(w64 (v3.2.1+1)),v5.2.1,v3.2.2.2))
def Xz(v3:l01Cur×Int×(List Int)×(List Int))(v13:l01Cur×Int×(List Node))(k13:(l01Cur×Int×(List Node))->Option (Topo×l01Cur)):Option (Topo×l01Cur) :=
 bif decide (0<v13.2.1)then((X0 v13.1 (v3.2.2.2.length:Int)).bind λy14=>(idx v3.2.2.2 y14.1).bind λe15=>(Qj (Topo.mk v3.2.2.1 v13.2.2) e15).bind λy16=>bif (y16.length:Int)==0 then((X0 y14.2 5).bind λy18=>(X0 y18.2 9).bind λy19=>(X0 y19.2 3).bind λy20=>(appL 32 v13.2.2 [(Node.mk e15 (Vec.mk (w64 (4+y18.1)) (w64 (8+y19.1)) y20.1))]).bind λxs21=>k13 (y20.2,(w64 (v13.2.1-1)),xs21))else(k13 (y14.2,(w64 (v13.2.1-1)),v13.2.2)))else(some ((Topo.mk v3.2.2.1 v13.2.2),v13.1))
def Vz(y2:Int×l01Cur)(v3:l01Cur×Int×(List Int)×(List Int))(k3:(l01Cur×Int×(List Int)×(List Int))->Option (Topo×l01Cur)):Option (Topo×l01Cur) :=
 bif decide (v3.2.1<y2.1)then(rgl Uz (Zz v3 k3) v3.2.2.2 0 (v3.1,v3.2.2.1,[]))else((X0 v3.1 10).bind λy12=>whl (Xz v3) 9223372036854775807 (y12.2,(w64 (1+y12.1)),[]))
def Xl(c1:l01Cur):Option (Topo×l01Cur) :=
 (X0 c1 3).bind λy2=>whl (Vz y2) 9223372036854775807 (y2.2,0,[0],[0])
set_option maxRecDepth 20000 in
theorem LX{c1:l01Cur}{r:Topo×l01Cur}(H:Xl c1=some r):ConD Tryz.prog Ot [.ptr 0 0] [(Y0 .rd c1).cells] [] (.agg [.sref 0,.sref 1]) [(Y0 .rd r.2).cells] [] [(1,r.1.parents.map eI),(4,r.1.nodes.map V1)]:=by
 refine JW [] X0y rfl (by kernel_rfl) ?_
 unfold Xl at H
 obtain⟨y2,h2,H⟩:=bB H
 refine wH [.u 16 (.cw V0 [2000000000] [] [(Y0 .rd c1).cells] [] [.ptr 0 0,iV 3] _ _ _ _ _ (GEs.of [true,false] (by simp)) (by simp) (by simp) (by simp) (λ_=>Z0 h2))] ?_
 refine wW (λ(v3:l01Cur×Int×(List Int)×(List Int))=>⟨[(0,.ptr 2000000000 0),(2,.ptr 2 0),(3,.ptr 3 0),(4,iV y2.1),(5,.sref 17),(6,iV v3.2.1)],[],[(2000000000,(Y0 .rd v3.1).cells),(2,[.nl,.nl]),(3,[.sref 13,.nl])],[(13,⟨1,v3.2.2.1.map eI,false⟩),(17,⟨1,v3.2.2.2.map eI,false⟩)]⟩) H (λv3 I m k3 H N53=>?_)
 unfold Vz at H
 refine wP ?_
 refine M0 H ?_ ?_<;>intro H
 .refine wG [.u 25 (.ln _ _ λ_=>lm v3.2.2.2 eI)] λq4=>?_
  refine wR (λ(i5:Nat) (v5:l01Cur×(List Int)×(List Int))=>⟨[(0,.ptr 2000000000 0),(2,.ptr 2 0),(3,.ptr 3 0),(4,iV y2.1),(5,.sref 17),(6,iV v3.2.1),(7,.sref 23),(24,.sref 17),(25,iV (v3.2.2.2.length:Int)),(26,iV (i5:Int))],[],[(2000000000,(Y0 .rd v5.1).cells),(2,[.nl,.nl]),(3,[.sref 13,.nl])],[(13,⟨1,v5.2.1.map eI,false⟩),(17,⟨1,v3.2.2.2.map eI,false⟩),(23,⟨1,v5.2.2.map eI,false⟩)]⟩) H (λi5 x5 v5 I m k5 hxv5 hiv5 H N39=>?_) (λv5 I m H=>?_)
  .unfold Uz at H
   refine wP (wt (ltT hiv5) ?_)
   obtain⟨y6,h6,H⟩:=bB H
   refine wH [.u 28 (.ix _ _ _ λ_=>W0 eI (Y1 hxv5)),.u 29 (.el _ _ _ λ_=>gm eI (W4 (Y1 hxv5))),.u 31 (.cw V0 [2000000000] [] [(Y0 .rd v5.1).cells] [] [.ptr 0 0,iV 3] _ _ _ _ _ (GEs.of [true,false] (by simp)) (by simp) (by simp) (by simp) (λ_=>Z0 h6))] ?_
   refine wW (λ(v7:Int×(List Int)×(List Int))=>⟨[(0,.ptr 2000000000 0),(2,.ptr 2 0),(3,.ptr 3 0),(4,iV y2.1),(5,.sref 17),(6,iV v3.2.1),(7,.sref 23),(9,iV x5),(10,iV v7.1),(24,.sref 17),(25,iV (v3.2.2.2.length:Int)),(26,iV (i5:Int))],[],[(2000000000,(Y0 .rd y6.2).cells),(2,[.nl,.nl]),(3,[.sref 13,.nl])],[(13,⟨1,v7.2.1.map eI,false⟩),(17,⟨1,v3.2.2.2.map eI,false⟩),(23,⟨1,v7.2.2.map eI,false⟩)]⟩) H (λv7 I m k7 H N30=>?_)
   unfold Qz at H
   refine wH [.g 38 [((decide (0<v7.1)),true)] (.ln _ _ λ_=>lm v7.2.1 eI)] ?_
   refine M0 H ?_ ?_<;>intro H
   .obtain⟨xs8,h8,xs9,h9,H⟩:=bB2 H
    refine wG [.u 47 (.ap _ _ _ _ λ_=>L0 eI h8),.u 52 (.ln _ _ λ_=>lm xs8 eI),.u 55 (.ap _ _ _ _ λ_=>L0 eI h9)] λq10=>?_
    exact wT (N30 _ H)
   .exact wH [.w 56 (wi .i64 rfl hiv5 q4.1)] (wT (N39 _ H))
  .unfold Zz at H
   refine wP (wf (ltF v3.2.2.2.length) ?_)
   refine wG [.u 58 (.ln _ _ λ_=>lm v5.2.2 eI)] λq11=>?_
   refine M0 H ?_ ?_<;>intro H
   .refine wP ?_
    exact wU (N53 _ H) [] [] [(17,(some 23,0))] []
   .refine wP ?_
    exact wT (N53 _ H)
 .obtain⟨y12,h12,H⟩:=bB H
  refine wH [.u 62 (.cw V0 [2000000000] [] [(Y0 .rd v3.1).cells] [] [.ptr 0 0,iV 10] _ _ _ _ _ (GEs.of [true,false] (by simp)) (by simp) (by simp) (by simp) (λ_=>Z0 h12))] ?_
  refine W11 (λ(v13:l01Cur×Int×(List Node))=>⟨[(0,.ptr 2000000000 0),(2,.ptr 2 0),(3,.ptr 3 0),(5,.sref 17),(11,iV v13.2.1)],[],[(2000000000,(Y0 .rd v13.1).cells),(2,[.nl,.nl]),(3,[.sref 13,.sref 455001])],[(13,⟨1,v3.2.2.1.map eI,false⟩),(455001,⟨4,v13.2.2.map V1,false⟩),(17,⟨1,v3.2.2.2.map eI,false⟩)]⟩) [] [(3,[.d,.z 455001])] [(455001,(none,4))] [] (by kernel_rfl) (by kernel_rfl) H (λv13 I m k13 H N73=>?_)
  unfold Xz at H
  refine wP ?_
  refine M0 H ?_ ?_<;>intro H
  .obtain⟨y14,h14,e15,h15,y16,h16,H⟩:=bB3 H
   refine wG [.u 71 (.ln _ _ λ_=>lm v3.2.2.2 eI),.u 72 (.cw V0 [2000000000] [] [(Y0 .rd v13.1).cells] [] [.ptr 0 0,iV (v3.2.2.2.length:Int)] _ _ _ _ _ (GEs.of [true,false] (by simp)) (by simp) (by simp) (by simp) (λ_=>Z0 h14)),.u 73 (.ix _ _ _ λ_=>W0 eI h15),.u 74 (.el _ _ _ λ_=>gm eI (W4 h15)),.c 77 (Jy h16),.u 78 (.ln _ _ λ_=>lm y16 eI)] λq17=>?_
   refine M0 H ?_ ?_<;>intro H
   .obtain⟨y18,h18,y19,h19,y20,h20,H⟩:=bB3 H
    obtain⟨xs21,h21,H⟩:=bB H
    exact wH [.u 84 (.cz V0 [2000000000] [(Y0 .rd y14.2).cells] [.ptr 0 0,iV 5] _ _ _ (by simp) (by simp) (λ_=>by simp) (λ_=>Z0 h18)),.u 87 (.cz V0 [2000000000] [(Y0 .rd y18.2).cells] [.ptr 0 0,iV 9] _ _ _ (by simp) (by simp) (λ_=>by simp) (λ_=>Z0 h19)),.u 90 (.cz V0 [2000000000] [(Y0 .rd y19.2).cells] [.ptr 0 0,iV 3] _ _ _ (by simp) (by simp) (λ_=>by simp) (λ_=>Z0 h20)),.u 94 (.ap _ _ _ _ λ_=>L0 V1 h21)] (wT (N73 _ H))
   .refine wP ?_
    exact wT (N73 _ H)
  .refine wP ?_
   replace H:=sI H;subst H
   exact W3 [(2,.d)] [(2,[]),(2000000000,[])] [(13,some 13,0),(455001,some 455001,0)] [] [13,455001] (by kernel_rfl)
noncomputable def M0D:L :=
 lf Tryz.prog ZO [] [(15,1)] [] [] [] [] []
def L0C:List Rv:=[.c 2 11 true]
theorem V0H:Qt Tryz.prog ZO 1 M0D L0C=true:=by kernel_rfl
def Jx(c1:l01Cur):Option (State×l01Cur) :=
 (Xl c1).bind λy2=>(X0 y2.2 6).bind λy3=>(X0 y3.2 4).bind λy4=>(X0 y4.2 4).bind λy5=>(Lz y2.1 (Vec.mk y3.1 y4.1 1) y5.1).bind λy6=>some (y6.1,y5.2)
set_option maxRecDepth 20000 in
theorem Z0B{c1:l01Cur}{r:State×l01Cur}(H:Jx c1=some r):ConD Tryz.prog ZO [.ptr 0 0] [(Y0 .rd c1).cells] [] (.agg [nV 1 (r.1.topo.parents.map eI),nV 4 (r.1.topo.nodes.map V1),.sref 0,iV r.1.lic.a,iV r.1.lic.b,iV r.1.lic.c,iV r.1.depth,iV r.1.now,.sref 1,.sref 2,.sref 3]) [(Y0 .rd r.2).cells] [] [(1,r.1.up.map eBo),(11,r.1.queue.map eJob),(13,r.1.runs.map (Z1 .nw)),(3,r.1.ends.map eEnd)]:=by
 refine JW [] V0H rfl (by kernel_rfl) ?_
 unfold Jx at H
 obtain⟨y2,h2,y3,h3,y4,h4,H⟩:=bB3 H
 obtain⟨y5,h5,y6,h6,H⟩:=bB2 H
 refine wH [.u 7 (.cw Ot [2000000000] [] [(Y0 .rd c1).cells] [] [.ptr 0 0] _ _ _ _ _ (GEs.of [true] (by simp)) (by simp) (by simp) (by simp) (λ_=>LX h2)),.u 9 (.cw V0 [2000000000] [] [(Y0 .rd y2.2).cells] [] [.ptr 0 0,iV 6] _ _ _ _ _ (GEs.of [true,false] (by simp)) (by simp) (by simp) (by simp) (λ_=>Z0 h3)),.u 11 (.cw V0 [2000000000] [] [(Y0 .rd y3.2).cells] [] [.ptr 0 0,iV 4] _ _ _ _ _ (GEs.of [true,false] (by simp)) (by simp) (by simp) (by simp) (λ_=>Z0 h4)),.u 14 (.cw V0 [2000000000] [] [(Y0 .rd y4.2).cells] [] [.ptr 0 0,iV 4] _ _ _ _ _ (GEs.of [true,false] (by simp)) (by simp) (by simp) (by simp) (λ_=>Z0 h5)),.c 15 (U0C h6)] ?_
 replace H:=sI H;subst H
 exact W3 [(2,.d)] [(2,[]),(2000000000,[])] [(16000,some 16000,0),(16001,some 16001,0),(16002,some 16002,0),(16003,some 16003,0)] [] [16000,16001,16002,16003] (by kernel_rfl)
noncomputable def X0E:L :=
 lf Tryz.prog Jj [] [] [] [] [] [] [15]
def Z0D:List Rv:=[.c 2 11 true]
theorem Q0H:Qt Tryz.prog Jj 1 X0E Z0D=true:=by kernel_rfl
def Wu(y2 y3 y4 y5 y6:Int×l01Cur)(n8:Int)(y9 y10:Int×l01Cur)(v14:l01Cur×Int×Int):Option (Job×l01Cur) :=
 some ((Job.mk (w64 (1+y2.1)) y3.1 (w64 (1+y4.1)) (Vec.mk (w64 (1+y5.1)) y6.1 n8) (Vec.mk v14.2.1 v14.2.2 0) (w64 (1+y9.1)) y10.1),v14.1)
def Lf(c1:l01Cur):Option (Job×l01Cur) :=
 (X0 c1 30).bind λy2=>(X0 y2.2 5).bind λy3=>(X0 y3.2 3).bind λy4=>(X0 y4.2 5).bind λy5=>(X0 y5.2 9).bind λy6=>(X0 y6.2 4).bind λy7=>(quoI .i64 y7.1 3).bind λn8=>(X0 y7.2 20).bind λy9=>(X0 y9.2 3).bind λy10=>(X0 y10.2 3).bind λy11=>bif y11.1==0 then((X0 y11.2 3).bind λy12=>(X0 y12.2 2).bind λy13=>(Wu y2 y3 y4 y5 y6 n8 y9 y10) (y13.2,y12.1,y13.1))else((Wu y2 y3 y4 y5 y6 n8 y9 y10) (y11.2,0,0))
set_option maxRecDepth 20000 in
theorem Qu{c1:l01Cur}{r:Job×l01Cur}(H:Lf c1=some r):ConD Tryz.prog Jj [.ptr 0 0] [(Y0 .rd c1).cells] [] (eJob r.1) [(Y0 .rd r.2).cells] [] []:=by
 refine JW [] Q0H rfl (by kernel_rfl) ?_
 unfold Lf at H
 obtain⟨y2,h2,y3,h3,y4,h4,H⟩:=bB3 H
 obtain⟨y5,h5,y6,h6,y7,h7,H⟩:=bB3 H
 obtain⟨n8,h8,y9,h9,y10,h10,H⟩:=bB3 H
 obtain⟨y11,h11,H⟩:=bB H
 refine wH [.u 5 (.cw V0 [2000000000] [] [(Y0 .rd c1).cells] [] [.ptr 0 0,iV 30] _ _ _ _ _ (GEs.of [true,false] (by simp)) (by simp) (by simp) (by simp) (λ_=>Z0 h2)),.u 8 (.cw V0 [2000000000] [] [(Y0 .rd y2.2).cells] [] [.ptr 0 0,iV 5] _ _ _ _ _ (GEs.of [true,false] (by simp)) (by simp) (by simp) (by simp) (λ_=>Z0 h3)),.u 10 (.cw V0 [2000000000] [] [(Y0 .rd y3.2).cells] [] [.ptr 0 0,iV 3] _ _ _ _ _ (GEs.of [true,false] (by simp)) (by simp) (by simp) (by simp) (λ_=>Z0 h4)),.u 13 (.cw V0 [2000000000] [] [(Y0 .rd y4.2).cells] [] [.ptr 0 0,iV 5] _ _ _ _ _ (GEs.of [true,false] (by simp)) (by simp) (by simp) (by simp) (λ_=>Z0 h5)),.u 16 (.cw V0 [2000000000] [] [(Y0 .rd y5.2).cells] [] [.ptr 0 0,iV 9] _ _ _ _ _ (GEs.of [true,false] (by simp)) (by simp) (by simp) (by simp) (λ_=>Z0 h6)),.u 18 (.cw V0 [2000000000] [] [(Y0 .rd y6.2).cells] [] [.ptr 0 0,iV 4] _ _ _ _ _ (GEs.of [true,false] (by simp)) (by simp) (by simp) (by simp) (λ_=>Z0 h7)),.u 19 (.quo _ _ _ _ λ_=>h8),.u 22 (.cw V0 [2000000000] [] [(Y0 .rd y7.2).cells] [] [.ptr 0 0,iV 20] _ _ _ _ _ (GEs.of [true,false] (by simp)) (by simp) (by simp) (by simp) (λ_=>Z0 h9)),.u 25 (.cw V0 [2000000000] [] [(Y0 .rd y9.2).cells] [] [.ptr 0 0,iV 3] _ _ _ _ _ (GEs.of [true,false] (by simp)) (by simp) (by simp) (by simp) (λ_=>Z0 h10)),.u 28 (.cw V0 [2000000000] [] [(Y0 .rd y10.2).cells] [] [.ptr 0 0,iV 3] _ _ _ _ _ (GEs.of [true,false] (by simp)) (by simp) (by simp) (by simp) (λ_=>Z0 h11))] ?_
 refine J3 (r:=r) (Wu y2 y3 y4 y5 y6 n8 y9 y10) 0 (λv14:l01Cur×Int×Int=>⟨[(2,.ptr 2 0),(3,.ptr 3 0)],[],[(2000000000,(Y0 .rd v14.1).cells),(2,(eJob (Job.mk 0 0 0 (Vec.mk 0 0 0) (Vec.mk 0 0 0) 0 0)).cells),(3,(eJob (Job.mk (w64 (1+y2.1)) y3.1 (w64 (1+y4.1)) (Vec.mk (w64 (1+y5.1)) y6.1 n8) (Vec.mk v14.2.1 v14.2.2 0) (w64 (1+y9.1)) y10.1)).cells)],[]⟩) (by kernel_rfl) (λv14 H=>?_) (λJ9=>?_)
 .unfold Wu at H
  refine wP ?_
  replace H:=sI H;subst H
  exact W3 [(2,.d)] [(2,[]),(2000000000,[])] [] [] [] (by kernel_rfl)
 .refine M0 H ?_ ?_<;>intro H
  .obtain⟨y12,h12,y13,h13,H⟩:=bB2 H
   exact wH [.u 31 (.cw V0 [2000000000] [] [(Y0 .rd y11.2).cells] [] [.ptr 0 0,iV 3] _ _ _ _ _ (GEs.of [true,false] (by simp)) (by simp) (by simp) (by simp) (λ_=>Z0 h12)),.u 33 (.cw V0 [2000000000] [] [(Y0 .rd y12.2).cells] [] [.ptr 0 0,iV 2] _ _ _ _ _ (GEs.of [true,false] (by simp)) (by simp) (by simp) (by simp) (λ_=>Z0 h13))] (wT (J9 _ H))
  .refine wP ?_
   exact wT (J9 _ H)
noncomputable def OY:L :=
 lf Tryz.prog UI [] [(19,1),(31,1),(46,1),(59,1),(72,1),(86,1),(109,1)] [] [] [] [(5,[6],[],[0,2,5,7,9,12,11],7),(7,[],[10],[0,2,4,6,9,10,13,15,18,17],11),(11,[6],[],[0,2,8,5,6,11,12,15,17,20,19],11),(13,[6],[],[0,2,4,6,8,10,13,15,17,20,19],11),(15,[6],[],[0,2,4,6,8,10,13,15,17,20,19],11),(17,[6],[],[0,2,6,10,5,9,13,14,17,19,22,21],12),(19,[6],[],[0,2,4,6,8,10,12,24,15,16,18,20,22,27,28,31,33,36,35],19)] []
def XY:List Rv:=[.c 4 11 true]
theorem MZ:Qt Tryz.prog UI 2 OY XY=true:=by kernel_rfl
def W9(c1:l01Cur)(s2:State):Option (State×l01Cur) :=
 (X0 c1 14).bind λy3=>bif decide (y3.1<7)then((Lf y3.2).bind λy4=>(OD s2 y4.1).bind λy5=>bif y5.2 != 0 then(some (s2,y4.2))else(some (y5.1,y4.2)))else(bif decide (y3.1<9)then((X0 y3.2 12).bind λy6=>(JX s2 (w64 (s2.now+y6.1))).bind λy7=>bif y7.2 then(bif 0 != 0 then(some (s2,y6.2))else(some (y7.1,y6.2)))else(bif 0 != 0 then(some (s2,y6.2))else(some (s2,y6.2))))else(bif y3.1==9 then((X0 y3.2 30).bind λy8=>(X0 y8.2 2).bind λy9=>(JD s2 (w64 (1+y8.1)) (w64 (2+y9.1))).bind λy10=>bif y10.2 != 0 then(some (s2,y9.2))else(some (y10.1,y9.2)))else(bif y3.1==10 then((lenQ s2.topo.nodes).bind λ_=>(X0 y3.2 (s2.topo.nodes.length:Int)).bind λy12=>(M07 s2 y12.1).bind λy13=>bif y13.2 != 0 then(some (s2,y12.2))else(some (y13.1,y12.2)))else(bif y3.1==11 then((lenQ s2.topo.nodes).bind λ_=>(X0 y3.2 (s2.topo.nodes.length:Int)).bind λy15=>(UP s2 y15.1).bind λy16=>bif y16.2 != 0 then(some (s2,y15.2))else(some (y16.1,y15.2)))else(bif y3.1==12 then((X0 y3.2 6).bind λy17=>(X0 y17.2 4).bind λy18=>(X0 y18.2 2).bind λy19=>(QP s2 (Vec.mk y17.1 y18.1 y19.1)).bind λy20=>bif y20.2 != 0 then(some (s2,y19.2))else(some (y20.1,y19.2)))else(bif decide (0<(s2.runs.length:Int))then((X0 y3.2 (s2.runs.length:Int)).bind λy22=>(idx s2.runs y22.1).bind λe23=>(X0 y22.2 2).bind λy24=>(JD s2 e23.job.id (w64 (2+y24.1))).bind λy25=>bif y25.2 != 0 then(some (s2,y24.2))else(some (y25.1,y24.2)))else(bif 0 != 0 then(some (s2,y3.2))else(some (s2,y3.2)))))))))
set_option maxRecDepth 20000 in
theorem OX{c1:l01Cur}{s2:State}{r:State×l01Cur}(H:W9 c1 s2=some r):ConD Tryz.prog UI [.ptr 0 0,.agg [nV 1 (s2.topo.parents.map eI),nV 4 (s2.topo.nodes.map V1),.sref 0,iV s2.lic.a,iV s2.lic.b,iV s2.lic.c,iV s2.depth,iV s2.now,.sref 1,.sref 2,.sref 3]] [(Y0 .rd c1).cells] [(1,s2.up.map eBo),(11,s2.queue.map eJob),(13,s2.runs.map (Z1 .nw)),(3,s2.ends.map eEnd)] (.agg [nV 1 (r.1.topo.parents.map eI),nV 4 (r.1.topo.nodes.map V1),.sref 4,iV r.1.lic.a,iV r.1.lic.b,iV r.1.lic.c,iV r.1.depth,iV r.1.now,.sref 5,.sref 6,.sref 7]) [(Y0 .rd r.2).cells] [none,none,none,none] [(1,r.1.up.map eBo),(11,r.1.queue.map eJob),(13,r.1.runs.map (Z1 .nw)),(3,r.1.ends.map eEnd)]:=by
 refine JW [false,false,false,false] MZ rfl (by kernel_rfl) ?_
 unfold W9 at H
 obtain⟨y3,h3,H⟩:=bB H
 refine wH [.u 11 (.cw V0 [2000000000] [] [(Y0 .rd c1).cells] [] [.ptr 0 0,iV 14] _ _ _ _ _ (GEs.of [true,false] (by simp)) (by simp) (by simp) (by simp) (λ_=>Z0 h3))] ?_
 refine M0 H ?_ ?_<;>intro H
 .obtain⟨y4,h4,y5,h5,H⟩:=bB2 H
  refine wH [.u 18 (.cz Jj [2000000000] [(Y0 .rd y3.2).cells] [.ptr 0 0] _ _ _ (by simp) (by simp) (λ_=>by simp) (λ_=>Qu h4)),.u 19 (.call _ _ _ _ _ (AEs.of (xs:=[.agg [rV 1 (s2.topo.parents.map eI),rV 4 (s2.topo.nodes.map V1),rV 1 (s2.up.map eBo),iV s2.lic.a,iV s2.lic.b,iV s2.lic.c,iV s2.depth,iV s2.now,rV 11 (s2.queue.map eJob),rV 13 (s2.runs.map (Z1 .nw)),rV 3 (s2.ends.map eEnd)],.agg [iV y4.1.id,iV y4.1.prio,iV y4.1.nodes,iV y4.1.need.a,iV y4.1.need.b,iV y4.1.need.c,iV y4.1.lic.a,iV y4.1.lic.b,iV y4.1.lic.c,iV y4.1.wall,iV y4.1.level]]) (by simp)) (λ_=>J0f h5))] ?_
  refine M0 H ?_ ?_<;>intro H
  .refine wP ?_
   replace H:=sI H;subst H
   exact W3 [(4,.d)] [(4,[]),(2000000000,[])] [(500000000,some 500000000,0),(500000001,some 500000001,0),(500000002,some 500000002,0),(500000003,some 500000003,0)] [] [500000000,500000001,500000002,500000003] (by kernel_rfl)
  .refine wP ?_
   replace H:=sI H;subst H
   exact W3 [(4,.d)] [(4,[]),(2000000000,[])] [(20000,some 20000,0),(20001,some 20001,0),(20002,some 20002,0),(20003,some 20003,0)] [] [20000,20001,20002,20003] (by kernel_rfl)
 .refine wP ?_
  refine M0 H ?_ ?_<;>intro H
  .obtain⟨y6,h6,y7,h7,H⟩:=bB2 H
   refine wH [.u 29 (.cz V0 [2000000000] [(Y0 .rd y3.2).cells] [.ptr 0 0,iV 12] _ _ _ (by simp) (by simp) (λ_=>by simp) (λ_=>Z0 h6)),.u 31 (.call _ _ _ _ _ (AEs.of (xs:=[.agg [rV 1 (s2.topo.parents.map eI),rV 4 (s2.topo.nodes.map V1),rV 1 (s2.up.map eBo),iV s2.lic.a,iV s2.lic.b,iV s2.lic.c,iV s2.depth,iV s2.now,rV 11 (s2.queue.map eJob),rV 13 (s2.runs.map (Z1 .nw)),rV 3 (s2.ends.map eEnd)],iV (w64 (s2.now+y6.1))]) (by simp)) (λ_=>Q13 h7))] ?_
   refine M0 H ?_ ?_<;>intro H
   .refine wP ?_
    refine M0 H ?_ ?_<;>intro H
    .refine wP ?_
     replace H:=sI H;subst H
     exact W3 [(4,.d)] [(4,[]),(2000000000,[])] [(500000000,some 500000000,0),(500000001,some 500000001,0),(500000002,some 500000002,0),(500000003,some 500000003,0)] [] [500000000,500000001,500000002,500000003] (by kernel_rfl)
    .refine wP ?_
     replace H:=sI H;subst H
     exact W3 [(4,.d)] [(4,[]),(2000000000,[])] [(32000,some 32000,0),(32001,some 32001,0),(32002,some 32002,0),(32003,some 32003,0)] [] [32000,32001,32002,32003] (by kernel_rfl)
   .refine wP ?_
    refine M0 H ?_ ?_<;>intro H
    .refine wP ?_
     replace H:=sI H;subst H
     exact W3 [(4,.d)] [(4,[]),(2000000000,[])] [(500000000,some 500000000,0),(500000001,some 500000001,0),(500000002,some 500000002,0),(500000003,some 500000003,0)] [] [500000000,500000001,500000002,500000003] (by kernel_rfl)
    .refine wP ?_
     replace H:=sI H;subst H
     exact W3 [(4,.d)] [(4,[]),(2000000000,[])] [(500000000,some 500000000,0),(500000001,some 500000001,0),(500000002,some 500000002,0),(500000003,some 500000003,0)] [] [500000000,500000001,500000002,500000003] (by kernel_rfl)
  .refine wP ?_
   refine M0 H ?_ ?_<;>intro H
   .obtain⟨y8,h8,y9,h9,y10,h10,H⟩:=bB3 H
    refine wH [.u 41 (.cz V0 [2000000000] [(Y0 .rd y3.2).cells] [.ptr 0 0,iV 30] _ _ _ (by simp) (by simp) (λ_=>by simp) (λ_=>Z0 h8)),.u 44 (.cz V0 [2000000000] [(Y0 .rd y8.2).cells] [.ptr 0 0,iV 2] _ _ _ (by simp) (by simp) (λ_=>by simp) (λ_=>Z0 h9)),.u 46 (.call _ _ _ _ _ (AEs.of (xs:=[.agg [rV 1 (s2.topo.parents.map eI),rV 4 (s2.topo.nodes.map V1),rV 1 (s2.up.map eBo),iV s2.lic.a,iV s2.lic.b,iV s2.lic.c,iV s2.depth,iV s2.now,rV 11 (s2.queue.map eJob),rV 13 (s2.runs.map (Z1 .nw)),rV 3 (s2.ends.map eEnd)],iV (w64 (1+y8.1)),iV (w64 (2+y9.1))]) (by simp)) (λ_=>Z0g h10))] ?_
    refine M0 H ?_ ?_<;>intro H
    .refine wP ?_
     replace H:=sI H;subst H
     exact W3 [(4,.d)] [(4,[]),(2000000000,[])] [(500000000,some 500000000,0),(500000001,some 500000001,0),(500000002,some 500000002,0),(500000003,some 500000003,0)] [] [500000000,500000001,500000002,500000003] (by kernel_rfl)
    .refine wP ?_
     replace H:=sI H;subst H
     exact W3 [(4,.d)] [(4,[]),(2000000000,[])] [(47000,some 47000,0),(47001,some 47001,0),(47002,some 47002,0),(47003,some 47003,0)] [] [47000,47001,47002,47003] (by kernel_rfl)
   .refine wP ?_
    refine M0 H ?_ ?_<;>intro H
    .obtain⟨u11,h11,y12,h12,y13,h13,H⟩:=bB3 H
     refine wH [.u 57 (.le _ _ (λ_=>lm s2.topo.nodes V1) (λ_=>V0k h11)),.u 58 (.cz V0 [2000000000] [(Y0 .rd y3.2).cells] [.ptr 0 0,iV (s2.topo.nodes.length:Int)] _ _ _ (by simp) (by simp) (λ_=>by simp) (λ_=>Z0 h12)),.u 59 (.call _ _ _ _ _ (AEs.of (xs:=[.agg [rV 1 (s2.topo.parents.map eI),rV 4 (s2.topo.nodes.map V1),rV 1 (s2.up.map eBo),iV s2.lic.a,iV s2.lic.b,iV s2.lic.c,iV s2.depth,iV s2.now,rV 11 (s2.queue.map eJob),rV 13 (s2.runs.map (Z1 .nw)),rV 3 (s2.ends.map eEnd)],iV y12.1]) (by simp)) (λ_=>M1b h13))] ?_
     refine M0 H ?_ ?_<;>intro H
     .refine wP ?_
      replace H:=sI H;subst H
      exact W3 [(4,.d)] [(4,[]),(2000000000,[])] [(500000000,some 500000000,0),(500000001,some 500000001,0),(500000002,some 500000002,0),(500000003,some 500000003,0)] [] [500000000,500000001,500000002,500000003] (by kernel_rfl)
     .refine wP ?_
      replace H:=sI H;subst H
      exact W3 [(4,.d)] [(4,[]),(2000000000,[])] [(60000,some 60000,0),(60001,some 60001,0),(60002,some 60002,0),(60003,some 60003,0)] [] [60000,60001,60002,60003] (by kernel_rfl)
    .refine wP ?_
     refine M0 H ?_ ?_<;>intro H
     .obtain⟨u14,h14,y15,h15,y16,h16,H⟩:=bB3 H
      refine wH [.u 70 (.le _ _ (λ_=>lm s2.topo.nodes V1) (λ_=>V0k h14)),.u 71 (.cz V0 [2000000000] [(Y0 .rd y3.2).cells] [.ptr 0 0,iV (s2.topo.nodes.length:Int)] _ _ _ (by simp) (by simp) (λ_=>by simp) (λ_=>Z0 h15)),.u 72 (.call _ _ _ _ _ (AEs.of (xs:=[.agg [rV 1 (s2.topo.parents.map eI),rV 4 (s2.topo.nodes.map V1),rV 1 (s2.up.map eBo),iV s2.lic.a,iV s2.lic.b,iV s2.lic.c,iV s2.depth,iV s2.now,rV 11 (s2.queue.map eJob),rV 13 (s2.runs.map (Z1 .nw)),rV 3 (s2.ends.map eEnd)],iV y15.1]) (by simp)) (λ_=>Y0T h16))] ?_
      refine M0 H ?_ ?_<;>intro H
      .refine wP ?_
       replace H:=sI H;subst H
       exact W3 [(4,.d)] [(4,[]),(2000000000,[])] [(500000000,some 500000000,0),(500000001,some 500000001,0),(500000002,some 500000002,0),(500000003,some 500000003,0)] [] [500000000,500000001,500000002,500000003] (by kernel_rfl)
      .refine wP ?_
       replace H:=sI H;subst H
       exact W3 [(4,.d)] [(4,[]),(2000000000,[])] [(73000,some 73000,0),(73001,some 73001,0),(73002,some 73002,0),(73003,some 73003,0)] [] [73000,73001,73002,73003] (by kernel_rfl)
     .refine wP ?_
      refine M0 H ?_ ?_<;>intro H
      .obtain⟨y17,h17,y18,h18,y19,h19,H⟩:=bB3 H
       obtain⟨y20,h20,H⟩:=bB H
       refine wH [.u 80 (.cz V0 [2000000000] [(Y0 .rd y3.2).cells] [.ptr 0 0,iV 6] _ _ _ (by simp) (by simp) (λ_=>by simp) (λ_=>Z0 h17)),.u 82 (.cz V0 [2000000000] [(Y0 .rd y17.2).cells] [.ptr 0 0,iV 4] _ _ _ (by simp) (by simp) (λ_=>by simp) (λ_=>Z0 h18)),.u 84 (.cz V0 [2000000000] [(Y0 .rd y18.2).cells] [.ptr 0 0,iV 2] _ _ _ (by simp) (by simp) (λ_=>by simp) (λ_=>Z0 h19)),.u 86 (.call _ _ _ _ _ (AEs.of (xs:=[.agg [rV 1 (s2.topo.parents.map eI),rV 4 (s2.topo.nodes.map V1),rV 1 (s2.up.map eBo),iV s2.lic.a,iV s2.lic.b,iV s2.lic.c,iV s2.depth,iV s2.now,rV 11 (s2.queue.map eJob),rV 13 (s2.runs.map (Z1 .nw)),rV 3 (s2.ends.map eEnd)],.agg [iV y17.1,iV y18.1,iV y19.1]]) (by simp)) (λ_=>X0T h20))] ?_
       refine M0 H ?_ ?_<;>intro H
       .refine wP ?_
        replace H:=sI H;subst H
        exact W3 [(4,.d)] [(4,[]),(2000000000,[])] [(500000000,some 500000000,0),(500000001,some 500000001,0),(500000002,some 500000002,0),(500000003,some 500000003,0)] [] [500000000,500000001,500000002,500000003] (by kernel_rfl)
       .refine wP ?_
        replace H:=sI H;subst H
        exact W3 [(4,.d)] [(4,[]),(2000000000,[])] [(87000,some 87000,0),(87001,some 87001,0),(87002,some 87002,0),(87003,some 87003,0)] [] [87000,87001,87002,87003] (by kernel_rfl)
      .refine wG [.u 91 (.ln _ _ λ_=>lm s2.runs (Z1 .nw))] λq21=>?_
       refine M0 H ?_ ?_<;>intro H
       .obtain⟨y22,h22,e23,h23,y24,h24,H⟩:=bB3 H
        obtain⟨y25,h25,H⟩:=bB H
        refine wH [.u 100 (.le _ _ (λ_=>lm s2.runs (Z1 .nw)) (λ_=>q21.1)),.u 101 (.cz V0 [2000000000] [(Y0 .rd y3.2).cells] [.ptr 0 0,iV (s2.runs.length:Int)] _ _ _ (by simp) (by simp) (λ_=>by simp) (λ_=>Z0 h22)),.u 102 (.ix _ _ _ λ_=>W0 (Z1 .nw) h23),.u 105 (.el _ _ _ λ_=>gm (Z1 .nw) (W4 h23)),.u 107 (.cz V0 [2000000000] [(Y0 .rd y22.2).cells] [.ptr 0 0,iV 2] _ _ _ (by simp) (by simp) (λ_=>by simp) (λ_=>Z0 h24)),.u 109 (.call _ _ _ _ _ (AEs.of (xs:=[.agg [rV 1 (s2.topo.parents.map eI),rV 4 (s2.topo.nodes.map V1),rV 1 (s2.up.map eBo),iV s2.lic.a,iV s2.lic.b,iV s2.lic.c,iV s2.depth,iV s2.now,rV 11 (s2.queue.map eJob),rV 13 (s2.runs.map (Z1 .nw)),rV 3 (s2.ends.map eEnd)],iV e23.job.id,iV (w64 (2+y24.1))]) (by simp)) (λ_=>Z0g h25))] ?_
        refine M0 H ?_ ?_<;>intro H
        .refine wP ?_
         replace H:=sI H;subst H
         exact W3 [(4,.d)] [(4,[]),(2000000000,[])] [(500000000,some 500000000,0),(500000001,some 500000001,0),(500000002,some 500000002,0),(500000003,some 500000003,0)] [] [500000000,500000001,500000002,500000003] (by kernel_rfl)
        .refine wP ?_
         replace H:=sI H;subst H
         exact W3 [(4,.d)] [(4,[]),(2000000000,[])] [(110000,some 110000,0),(110001,some 110001,0),(110002,some 110002,0),(110003,some 110003,0)] [] [110000,110001,110002,110003] (by kernel_rfl)
       .refine wP ?_
        refine M0 H ?_ ?_<;>intro H
        .refine wP ?_
         replace H:=sI H;subst H
         exact W3 [(4,.d)] [(4,[]),(2000000000,[])] [(500000000,some 500000000,0),(500000001,some 500000001,0),(500000002,some 500000002,0),(500000003,some 500000003,0)] [] [500000000,500000001,500000002,500000003] (by kernel_rfl)
        .refine wP ?_
         replace H:=sI H;subst H
         exact W3 [(4,.d)] [(4,[]),(2000000000,[])] [(500000000,some 500000000,0),(500000001,some 500000001,0),(500000002,some 500000002,0),(500000003,some 500000003,0)] [] [500000000,500000001,500000002,500000003] (by kernel_rfl)
noncomputable def W0v:L :=
 lf Tryz.prog QI [] [] [] [] [] [] []
def U0u:List Rv:=[.c 4 11 true]
theorem Z0y:Qt Tryz.prog QI 2 W0v U0u=true:=by kernel_rfl
def Vy(v5:l01Cur×State×Int)(k5:(l01Cur×State×Int)->Option (State×l01Cur)):Option (State×l01Cur) :=
 bif decide (0<v5.2.2)then((W9 v5.1 v5.2.1).bind λy6=>k5 (y6.2,y6.1,(w64 (v5.2.2-1))))else(some (v5.2.1,v5.1))
def Ys(c1:l01Cur)(most2:Int):Option (State×l01Cur) :=
 (Jx c1).bind λy3=>(X0 y3.2 (w64 (most2+1))).bind λy4=>whl Vy 9223372036854775807 (y4.2,y3.1,y4.1)
set_option maxRecDepth 20000 in
theorem U0t{c1:l01Cur}{most2:Int}{r:State×l01Cur}(H:Ys c1 most2=some r):ConD Tryz.prog QI [.ptr 0 0,iV most2] [(Y0 .rd c1).cells] [] (.agg [nV 1 (r.1.topo.parents.map eI),nV 4 (r.1.topo.nodes.map V1),.sref 0,iV r.1.lic.a,iV r.1.lic.b,iV r.1.lic.c,iV r.1.depth,iV r.1.now,.sref 1,.sref 2,.sref 3]) [(Y0 .rd r.2).cells] [] [(1,r.1.up.map eBo),(11,r.1.queue.map eJob),(13,r.1.runs.map (Z1 .nw)),(3,r.1.ends.map eEnd)]:=by
 refine JW [] Z0y rfl (by kernel_rfl) ?_
 unfold Ys at H
 obtain⟨y3,h3,y4,h4,H⟩:=bB2 H
 refine wH [.u 8 (.cw ZO [2000000000] [] [(Y0 .rd c1).cells] [] [.ptr 0 0] _ _ _ _ _ (GEs.of [true] (by simp)) (by simp) (by simp) (by simp) (λ_=>Z0B h3)),.u 12 (.cw V0 [2000000000] [] [(Y0 .rd y3.2).cells] [] [.ptr 0 0,iV (w64 (most2+1))] _ _ _ _ _ (GEs.of [true,false] (by simp)) (by simp) (by simp) (by simp) (λ_=>Z0 h4))] ?_
 refine wW (λ(v5:l01Cur×State×Int)=>⟨[(0,.ptr 2000000000 0),(4,.ptr 4 0),(5,.ptr 5 0),(6,iV v5.2.2)],[],[(2000000000,(Y0 .rd v5.1).cells),(4,[.nl,.nl,.nl,iV 0,iV 0,iV 0,iV 0,iV 0,.nl,.nl,.nl]),(5,[nV 1 (v5.2.1.topo.parents.map eI),nV 4 (v5.2.1.topo.nodes.map V1),.sref 9000,iV v5.2.1.lic.a,iV v5.2.1.lic.b,iV v5.2.1.lic.c,iV v5.2.1.depth,iV v5.2.1.now,.sref 9001,.sref 9002,.sref 9003])],[(9000,⟨1,v5.2.1.up.map eBo,false⟩),(9001,⟨11,v5.2.1.queue.map eJob,false⟩),(9002,⟨13,v5.2.1.runs.map (Z1 .nw),false⟩),(9003,⟨3,v5.2.1.ends.map eEnd,false⟩)]⟩) H (λv5 I m k5 H N13=>?_)
 unfold Vy at H
 refine wP ?_
 refine M0 H ?_ ?_<;>intro H
 .obtain⟨y6,h6,H⟩:=bB H
  refine wH [.u 19 (.cw UI [2000000000] [9000,9001,9002,9003] [(Y0 .rd v5.1).cells] [(1,v5.2.1.up.map eBo),(11,v5.2.1.queue.map eJob),(13,v5.2.1.runs.map (Z1 .nw)),(3,v5.2.1.ends.map eEnd)] [.ptr 0 0,.agg [nV 1 (v5.2.1.topo.parents.map eI),nV 4 (v5.2.1.topo.nodes.map V1),.sref 0,iV v5.2.1.lic.a,iV v5.2.1.lic.b,iV v5.2.1.lic.c,iV v5.2.1.depth,iV v5.2.1.now,.sref 1,.sref 2,.sref 3]] _ _ _ _ _ (GEs.of [true,true] (by simp)) (by simp) (by simp) (by simp) (λ_=>OX h6))] ?_
  exact wU (N13 _ H) [] [] [(9000,(some 20000,0)),(9001,(some 20001,0)),(9002,(some 20002,0)),(9003,(some 20003,0))] []
 .refine wP ?_
  replace H:=sI H;subst H
  exact W3 [(4,.d)] [(4,[]),(2000000000,[])] [(9000,some 9000,0),(9001,some 9001,0),(9002,some 9002,0),(9003,some 9003,0)] [] [9000,9001,9002,9003] (by kernel_rfl)
noncomputable def M0E:L :=
 lf Tryz.prog L3 [] [] [] [] [] [] []
def V0D:List Rv:=[.t 2]
theorem M0H:Qt Tryz.prog L3 1 M0E V0D=true:=by kernel_rfl
def Z3(c1:l01Cur):Option (Int×l01Cur) :=
 (X0 c1 9).bind λy2=>bif decide (y2.1<4)then((X0 y2.2 24).bind λy3=>some ((w64 (y3.1-2)),y3.2))else(bif y2.1==4 then((X0 y2.2 3).bind λy4=>some ((w64 (999999+y4.1)),y4.2))else(bif y2.1==5 then((X0 y2.2 3).bind λy5=>some ((w64 (999999999+y5.1)),y5.2))else(bif y2.1==6 then((X0 y2.2 2).bind λy6=>some ((w64 (9223372036854775807-y6.1)),y6.2))else(bif y2.1==7 then((X0 y2.2 2).bind λy7=>some ((w64 ((-9223372036854775807)-y7.1)),y7.2))else((X0 y2.2 2000000).bind λy8=>some (y8.1,y8.2))))))
set_option maxRecDepth 20000 in
theorem V3{c1:l01Cur}{r:Int×l01Cur}(H:Z3 c1=some r):ConD Tryz.prog L3 [.ptr 0 0] [(Y0 .rd c1).cells] [] (iV r.1) [(Y0 .rd r.2).cells] [] []:=by
 refine JW [] M0H rfl (by kernel_rfl) ?_
 unfold Z3 at H
 obtain⟨y2,h2,H⟩:=bB H
 refine wH [.u 5 (.cw V0 [2000000000] [] [(Y0 .rd c1).cells] [] [.ptr 0 0,iV 9] _ _ _ _ _ (GEs.of [true,false] (by simp)) (by simp) (by simp) (by simp) (λ_=>Z0 h2))] ?_
 refine M0 H ?_ ?_<;>intro H
 .obtain⟨y3,h3,H⟩:=bB H
  refine wH [.u 9 (.cw V0 [2000000000] [] [(Y0 .rd y2.2).cells] [] [.ptr 0 0,iV 24] _ _ _ _ _ (GEs.of [true,false] (by simp)) (by simp) (by simp) (by simp) (λ_=>Z0 h3))] ?_
  replace H:=sI H;subst H
  exact W3 [(2,.d)] [(2000000000,[])] [] [] [] (by kernel_rfl)
 .refine wP ?_
  refine M0 H ?_ ?_<;>intro H
  .obtain⟨y4,h4,H⟩:=bB H
   refine wH [.u 14 (.cw V0 [2000000000] [] [(Y0 .rd y2.2).cells] [] [.ptr 0 0,iV 3] _ _ _ _ _ (GEs.of [true,false] (by simp)) (by simp) (by simp) (by simp) (λ_=>Z0 h4))] ?_
   replace H:=sI H;subst H
   exact W3 [(2,.d)] [(2000000000,[])] [] [] [] (by kernel_rfl)
  .refine wP ?_
   refine M0 H ?_ ?_<;>intro H
   .obtain⟨y5,h5,H⟩:=bB H
    refine wH [.u 19 (.cw V0 [2000000000] [] [(Y0 .rd y2.2).cells] [] [.ptr 0 0,iV 3] _ _ _ _ _ (GEs.of [true,false] (by simp)) (by simp) (by simp) (by simp) (λ_=>Z0 h5))] ?_
    replace H:=sI H;subst H
    exact W3 [(2,.d)] [(2000000000,[])] [] [] [] (by kernel_rfl)
   .refine wP ?_
    refine M0 H ?_ ?_<;>intro H
    .obtain⟨y6,h6,H⟩:=bB H
     refine wH [.u 24 (.cw V0 [2000000000] [] [(Y0 .rd y2.2).cells] [] [.ptr 0 0,iV 2] _ _ _ _ _ (GEs.of [true,false] (by simp)) (by simp) (by simp) (by simp) (λ_=>Z0 h6))] ?_
     replace H:=sI H;subst H
     exact W3 [(2,.d)] [(2000000000,[])] [] [] [] (by kernel_rfl)
    .refine wP ?_
     refine M0 H ?_ ?_<;>intro H
     .obtain⟨y7,h7,H⟩:=bB H
      refine wH [.u 29 (.cw V0 [2000000000] [] [(Y0 .rd y2.2).cells] [] [.ptr 0 0,iV 2] _ _ _ _ _ (GEs.of [true,false] (by simp)) (by simp) (by simp) (by simp) (λ_=>Z0 h7))] ?_
      replace H:=sI H;subst H
      exact W3 [(2,.d)] [(2000000000,[])] [] [] [] (by kernel_rfl)
     .obtain⟨y8,h8,H⟩:=bB H
      refine wH [.u 32 (.cw V0 [2000000000] [] [(Y0 .rd y2.2).cells] [] [.ptr 0 0,iV 2000000] _ _ _ _ _ (GEs.of [true,false] (by simp)) (by simp) (by simp) (by simp) (λ_=>Z0 h8))] ?_
      replace H:=sI H;subst H
      exact W3 [(2,.d)] [(2000000000,[])] [] [] [] (by kernel_rfl)
noncomputable def O0E:L :=
 lf Tryz.prog VO [] [] [] [] [] [] [15]
def X0D:List Rv:=[.c 2 3 true]
theorem O0H:Qt Tryz.prog VO 1 O0E X0D=true:=by kernel_rfl
def Vk(y2 y4:Int×l01Cur)(v7:l01Cur×Int):Option (Vec×l01Cur) :=
 some ((Vec.mk y2.1 v7.2 y4.1),v7.1)
def Oz(c1:l01Cur):Option (Vec×l01Cur) :=
 (X0 c1 9).bind λy2=>(X0 y2.2 17).bind λy3=>(X0 y3.2 3).bind λy4=>(X0 y4.2 14).bind λy5=>bif y5.1==0 then((X0 y5.2 2).bind λy6=>(Vk y2 y4) (y6.2,(w64 (1000000-y6.1))))else((Vk y2 y4) (y5.2,y3.1))
set_option maxRecDepth 20000 in
theorem O0B{c1:l01Cur}{r:Vec×l01Cur}(H:Oz c1=some r):ConD Tryz.prog VO [.ptr 0 0] [(Y0 .rd c1).cells] [] (eVec r.1) [(Y0 .rd r.2).cells] [] []:=by
 refine JW [] O0H rfl (by kernel_rfl) ?_
 unfold Oz at H
 obtain⟨y2,h2,y3,h3,y4,h4,H⟩:=bB3 H
 obtain⟨y5,h5,H⟩:=bB H
 refine wH [.u 5 (.cw V0 [2000000000] [] [(Y0 .rd c1).cells] [] [.ptr 0 0,iV 9] _ _ _ _ _ (GEs.of [true,false] (by simp)) (by simp) (by simp) (by simp) (λ_=>Z0 h2)),.u 7 (.cw V0 [2000000000] [] [(Y0 .rd y2.2).cells] [] [.ptr 0 0,iV 17] _ _ _ _ _ (GEs.of [true,false] (by simp)) (by simp) (by simp) (by simp) (λ_=>Z0 h3)),.u 9 (.cw V0 [2000000000] [] [(Y0 .rd y3.2).cells] [] [.ptr 0 0,iV 3] _ _ _ _ _ (GEs.of [true,false] (by simp)) (by simp) (by simp) (by simp) (λ_=>Z0 h4)),.u 12 (.cw V0 [2000000000] [] [(Y0 .rd y4.2).cells] [] [.ptr 0 0,iV 14] _ _ _ _ _ (GEs.of [true,false] (by simp)) (by simp) (by simp) (by simp) (λ_=>Z0 h5))] ?_
 refine J3 (r:=r) (Vk y2 y4) 0 (λv7:l01Cur×Int=>⟨[(2,.ptr 2 0),(3,.ptr 3 0)],[],[(2000000000,(Y0 .rd v7.1).cells),(2,(eVec (Vec.mk 0 0 0)).cells),(3,(eVec (Vec.mk y2.1 v7.2 y4.1)).cells)],[]⟩) (by kernel_rfl) (λv7 H=>?_) (λJ9=>?_)
 .unfold Vk at H
  refine wP ?_
  replace H:=sI H;subst H
  exact W3 [(2,.d)] [(2,[]),(2000000000,[])] [] [] [] (by kernel_rfl)
 .refine M0 H ?_ ?_<;>intro H
  .obtain⟨y6,h6,H⟩:=bB H
   exact wH [.u 15 (.cw V0 [2000000000] [] [(Y0 .rd y5.2).cells] [] [.ptr 0 0,iV 2] _ _ _ _ _ (GEs.of [true,false] (by simp)) (by simp) (by simp) (by simp) (λ_=>Z0 h6))] (wT (J9 _ H))
  .refine wP ?_
   exact wT (J9 _ H)
noncomputable def L0E:L :=
 lf Tryz.prog Qr [] [] [] [] [] [] [31,63,127]
def U0D:List Rv:=[.c 2 3 true]
theorem L0H:Qt Tryz.prog Qr 1 L0E U0D=true:=by kernel_rfl
def Ui(v5 v7 v9:l01Cur×Int):Option (Vec×l01Cur) :=
 some ((Vec.mk v5.2 v7.2 v9.2),v9.1)
def Wd(y2:Vec×l01Cur)(y3:Int×l01Cur)(v5 v7:l01Cur×Int):Option (Vec×l01Cur) :=
 bif y3.1==2 then((Z3 v7.1).bind λy8=>(Ui v5 v7) (y8.2,y8.1))else((Ui v5 v7) (v7.1,y2.1.c))
def Qd(y2:Vec×l01Cur)(y3:Int×l01Cur)(v5:l01Cur×Int):Option (Vec×l01Cur) :=
 bif y3.1==1 then((Z3 v5.1).bind λy6=>(Wd y2 y3 v5) (y6.2,y6.1))else((Wd y2 y3 v5) (v5.1,y2.1.b))
def Xg(c1:l01Cur):Option (Vec×l01Cur) :=
 (Oz c1).bind λy2=>(X0 y2.2 12).bind λy3=>bif y3.1==0 then((Z3 y3.2).bind λy4=>(Qd y2 y3) (y4.2,y4.1))else((Qd y2 y3) (y3.2,y2.1.a))
set_option maxRecDepth 20000 in
theorem VK{c1:l01Cur}{r:Vec×l01Cur}(H:Xg c1=some r):ConD Tryz.prog Qr [.ptr 0 0] [(Y0 .rd c1).cells] [] (eVec r.1) [(Y0 .rd r.2).cells] [] []:=by
 refine JW [] L0H rfl (by kernel_rfl) ?_
 unfold Xg at H
 obtain⟨y2,h2,y3,h3,H⟩:=bB2 H
 refine wH [.u 6 (.cw VO [2000000000] [] [(Y0 .rd c1).cells] [] [.ptr 0 0] _ _ _ _ _ (GEs.of [true] (by simp)) (by simp) (by simp) (by simp) (λ_=>O0B h2)),.u 8 (.cw V0 [2000000000] [] [(Y0 .rd y2.2).cells] [] [.ptr 0 0,iV 12] _ _ _ _ _ (GEs.of [true,false] (by simp)) (by simp) (by simp) (by simp) (λ_=>Z0 h3))] ?_
 refine J3 (r:=r) (Qd y2 y3) 0 (λv5:l01Cur×Int=>⟨[(0,.ptr 2000000000 0),(2,.ptr 2 0),(3,.ptr 3 0),(4,.int .i64 y3.1)],[],[(2000000000,(Y0 .rd v5.1).cells),(2,(eVec (Vec.mk 0 0 0)).cells),(3,(eVec (Vec.mk v5.2 y2.1.b y2.1.c)).cells)],[]⟩) (by kernel_rfl) (λv5 H=>?_) (λJ22=>?_)
 .unfold Qd at H
  refine wP ?_
  refine J3 (r:=r) (Wd y2 y3 v5) 0 (λv7:l01Cur×Int=>⟨[(0,.ptr 2000000000 0),(2,.ptr 2 0),(3,.ptr 3 0),(4,.int .i64 y3.1)],[],[(2000000000,(Y0 .rd v7.1).cells),(2,(eVec (Vec.mk 0 0 0)).cells),(3,(eVec (Vec.mk v5.2 v7.2 y2.1.c)).cells)],[]⟩) (by kernel_rfl) (λv7 H=>?_) (λJ21=>?_)
  .unfold Wd at H
   refine wP ?_
   refine J3 (r:=r) (Ui v5 v7) 0 (λv9:l01Cur×Int=>⟨[(2,.ptr 2 0),(3,.ptr 3 0)],[],[(2000000000,(Y0 .rd v9.1).cells),(2,(eVec (Vec.mk 0 0 0)).cells),(3,(eVec (Vec.mk v5.2 v7.2 v9.2)).cells)],[]⟩) (by kernel_rfl) (λv9 H=>?_) (λJ20=>?_)
   .unfold Ui at H
    refine wP ?_
    replace H:=sI H;subst H
    exact W3 [(2,.d)] [(2,[]),(2000000000,[])] [] [] [] (by kernel_rfl)
   .refine M0 H ?_ ?_<;>intro H
    .obtain⟨y8,h8,H⟩:=bB H
     exact wH [.u 22 (.cw L3 [2000000000] [] [(Y0 .rd v7.1).cells] [] [.ptr 0 0] _ _ _ _ _ (GEs.of [true] (by simp)) (by simp) (by simp) (by simp) (λ_=>V3 h8))] (wT (J20 _ H))
    .refine wP ?_
     exact wT (J20 _ H)
  .refine M0 H ?_ ?_<;>intro H
   .obtain⟨y6,h6,H⟩:=bB H
    exact wH [.u 17 (.cw L3 [2000000000] [] [(Y0 .rd v5.1).cells] [] [.ptr 0 0] _ _ _ _ _ (GEs.of [true] (by simp)) (by simp) (by simp) (by simp) (λ_=>V3 h6))] (wT (J21 _ H))
   .refine wP ?_
    exact wT (J21 _ H)
 .refine M0 H ?_ ?_<;>intro H
  .obtain⟨y4,h4,H⟩:=bB H
   exact wH [.u 12 (.cw L3 [2000000000] [] [(Y0 .rd y3.2).cells] [] [.ptr 0 0] _ _ _ _ _ (GEs.of [true] (by simp)) (by simp) (by simp) (by simp) (λ_=>V3 h4))] (wT (J22 _ H))
  .refine wP ?_
   exact wT (J22 _ H)
noncomputable def J0v:L :=
 lf Tryz.prog WI [7] [] [] [] [] [] [31]
def Q0u:List Rv:=[.t 4]
theorem Y0y:Qt Tryz.prog WI 2 J0v Q0u=true:=by kernel_rfl
def Jl(v11:l01Cur×(List Int)):Option ((List Int)×l01Cur) :=
 some (v11.2,v11.1)
def Ly(t2:Topo)(v4:l01Cur×Int×(List Int))(k4:(l01Cur×Int×(List Int))->Option ((List Int)×l01Cur)):Option ((List Int)×l01Cur) :=
 bif decide (0<v4.2.1)then((X0 v4.1 (t2.nodes.length:Int)).bind λy5=>(appL 8 v4.2.2 [y5.1]).bind λxs6=>k4 (y5.2,(w64 (v4.2.1-1)),xs6))else((X0 v4.1 10).bind λy8=>bif y8.1==0 then((Z3 y8.2).bind λy9=>(appL 8 v4.2.2 [y9.1]).bind λxs10=>Jl (y9.2,xs10))else(Jl (y8.2,v4.2.2)))
def Vs(c1:l01Cur)(t2:Topo):Option ((List Int)×l01Cur) :=
 (X0 c1 5).bind λy3=>whl (Ly t2) 9223372036854775807 (y3.2,y3.1,[])
set_option maxRecDepth 20000 in
theorem M0t{c1:l01Cur}{t2:Topo}{r:(List Int)×l01Cur}(H:Vs c1 t2=some r):ConD Tryz.prog WI [.ptr 0 0,M4 .rd t2] [(Y0 .rd c1).cells] [] (nV 1 (r.1.map eI)) [(Y0 .rd r.2).cells] [] []:=by
 refine JW [] Y0y rfl (by kernel_rfl) ?_
 unfold Vs at H
 obtain⟨y3,h3,H⟩:=bB H
 refine wH [.u 9 (.cw V0 [2000000000] [] [(Y0 .rd c1).cells] [] [.ptr 0 0,iV 5] _ _ _ _ _ (GEs.of [true,false] (by simp)) (by simp) (by simp) (by simp) (λ_=>Z0 h3))] ?_
 refine wW (λ(v4:l01Cur×Int×(List Int))=>⟨[(0,.ptr 2000000000 0),(3,.ptr 3 0),(5,.sref 7),(6,iV v4.2.1)],[],[(2000000000,(Y0 .rd v4.1).cells),(3,(M4 .rd t2).cells)],[(7,⟨1,v4.2.2.map eI,false⟩)]⟩) H (λv4 I m k4 H N13=>?_)
 unfold Ly at H
 refine wP ?_
 refine M0 H ?_ ?_<;>intro H
 .obtain⟨y5,h5,xs6,h6,H⟩:=bB2 H
  refine wG [.u 18 (.ln _ _ λ_=>lm t2.nodes V1),.u 19 (.cw V0 [2000000000] [] [(Y0 .rd v4.1).cells] [] [.ptr 0 0,iV (t2.nodes.length:Int)] _ _ _ _ _ (GEs.of [true,false] (by simp)) (by simp) (by simp) (by simp) (λ_=>Z0 h5)),.u 21 (.ap _ _ _ _ λ_=>L0 eI h6)] λq7=>?_
  exact wT (N13 _ H)
 .obtain⟨y8,h8,H⟩:=bB H
  refine wH [.u 23 (.cw V0 [2000000000] [] [(Y0 .rd v4.1).cells] [] [.ptr 0 0,iV 10] _ _ _ _ _ (GEs.of [true,false] (by simp)) (by simp) (by simp) (by simp) (λ_=>Z0 h8))] ?_
  refine J3 (r:=r) Jl 0 (λv11:l01Cur×(List Int)=>⟨[(5,.sref 7)],[],[(2000000000,(Y0 .rd v11.1).cells)],[(7,⟨1,v11.2.map eI,false⟩)]⟩) (by kernel_rfl) (λv11 H=>?_) (λJ23=>?_)
  .unfold Jl at H
   refine wP ?_
   replace H:=sI H;subst H
   exact W3 [(4,.f)] [(2000000000,[])] [] [7] [] (by kernel_rfl)
  .refine M0 H ?_ ?_<;>intro H
   .obtain⟨y9,h9,xs10,h10,H⟩:=bB2 H
    exact wH [.u 27 (.cw L3 [2000000000] [] [(Y0 .rd y8.2).cells] [] [.ptr 0 0] _ _ _ _ _ (GEs.of [true] (by simp)) (by simp) (by simp) (by simp) (λ_=>V3 h9)),.u 29 (.ap _ _ _ _ λ_=>L0 eI h10)] (wT (J23 _ H))
   .refine wP ?_
    exact wT (J23 _ H)
noncomputable def W0E:L :=
 lf Tryz.prog XO [] [] [] [] [] [(4,[],[],[0,2,4,6,8,10,14,13,17],9),(6,[],[],[0,2,4,7],4),(8,[],[],[0,2,4,7],4),(10,[],[],[0,2,4,6,8,10,13,14],8)] [31,63,127,255,511]
def Y0D:List Rv:=[.c 2 2 true]
theorem W0H:Qt Tryz.prog XO 1 W0E Y0D=true:=by kernel_rfl
def Yi(v14:l01Cur×(List Node))(v18:l01Cur×(List Int))(v19:List Int):Option (Topo×l01Cur) :=
 some ((Topo.mk v19 v14.2),v18.1)
def Ud(y3:Int×l01Cur)(v14:l01Cur×(List Node))(v18:l01Cur×(List Int)):Option (Topo×l01Cur) :=
 bif y3.1==4 then((Yi v14 v18) [])else((Yi v14 v18) v18.2)
def Vd(y3:Int×l01Cur)(v8:l01Cur×(List Int))(v14:l01Cur×(List Node)):Option (Topo×l01Cur) :=
 bif y3.1==3 then((lenQ v8.2).bind λ_=>(X0 v14.1 (v8.2.length:Int)).bind λy16=>(appL 8 v8.2 [y16.1]).bind λxs17=>(Ud y3 v14) (y16.2,xs17))else((Ud y3 v14) (v14.1,v8.2))
def Xd(y3:Int×l01Cur)(v8:l01Cur×(List Int))(v11:l01Cur×(List Node)):Option (Topo×l01Cur) :=
 bif (y3.1==2)&&decide (0<(v11.2.length:Int))then((Xg v11.1).bind λy12=>(idx v11.2 0).bind λe13=>(Vd y3 v8) (y12.2,(v11.2.set (0:Int).toNat (Node.mk e13.leaf y12.1))))else((Vd y3 v8) (v11.1,v11.2))
def Yd(y2:Topo×l01Cur)(y3:Int×l01Cur)(v8:l01Cur×(List Int)):Option (Topo×l01Cur) :=
 bif (y3.1==1)&&decide (0<(y2.1.nodes.length:Int))then((Z3 v8.1).bind λy9=>(idx y2.1.nodes 0).bind λe10=>(Xd y3 v8) (y9.2,(y2.1.nodes.set (0:Int).toNat (Node.mk y9.1 e10.cap))))else((Xd y3 v8) (v8.1,y2.1.nodes))
def Wz(c1:l01Cur):Option (Topo×l01Cur) :=
 (Xl c1).bind λy2=>(X0 y2.2 14).bind λy3=>bif y3.1==0 then((lenQ y2.1.parents).bind λ_=>(X0 y3.2 (y2.1.parents.length:Int)).bind λy5=>(Z3 y5.2).bind λy6=>(idx y2.1.parents y5.1).bind λ_=>(Yd y2 y3) (y6.2,(y2.1.parents.set y5.1.toNat y6.1)))else((Yd y2 y3) (y3.2,y2.1.parents))
set_option maxRecDepth 20000 in
theorem W0B{c1:l01Cur}{r:Topo×l01Cur}(H:Wz c1=some r):ConD Tryz.prog XO [.ptr 0 0] [(Y0 .rd c1).cells] [] (.agg [.sref 0,.sref 1]) [(Y0 .rd r.2).cells] [] [(1,r.1.parents.map eI),(4,r.1.nodes.map V1)]:=by
 refine JW [] W0H rfl (by kernel_rfl) ?_
 unfold Wz at H
 obtain⟨y2,h2,y3,h3,H⟩:=bB2 H
 refine wH [.u 6 (.cw Ot [2000000000] [] [(Y0 .rd c1).cells] [] [.ptr 0 0] _ _ _ _ _ (GEs.of [true] (by simp)) (by simp) (by simp) (by simp) (λ_=>LX h2)),.u 8 (.cw V0 [2000000000] [] [(Y0 .rd y2.2).cells] [] [.ptr 0 0,iV 14] _ _ _ _ _ (GEs.of [true,false] (by simp)) (by simp) (by simp) (by simp) (λ_=>Z0 h3))] ?_
 refine J3 (r:=r) (Yd y2 y3) 0 (λv8:l01Cur×(List Int)=>⟨[(0,.ptr 2000000000 0),(2,.ptr 2 0),(3,.ptr 3 0),(4,.int .i64 y3.1)],[],[(2000000000,(Y0 .rd v8.1).cells),(2,[.nl,.nl]),(3,[.sref 7000,.sref 7001])],[(7000,⟨1,v8.2.map eI,false⟩),(7001,⟨4,y2.1.nodes.map V1,false⟩)]⟩) (by kernel_rfl) (λv8 H=>?_) (λJ34=>?_)
 .unfold Yd at H
  refine wH [.g 26 [((y3.1==1),true)] (.ln _ _ λ_=>lm y2.1.nodes V1)] ?_
  refine J3 (r:=r) (Xd y3 v8) 0 (λv11:l01Cur×(List Node)=>⟨[(0,.ptr 2000000000 0),(2,.ptr 2 0),(3,.ptr 3 0),(4,.int .i64 y3.1)],[],[(2000000000,(Y0 .rd v11.1).cells),(2,[.nl,.nl]),(3,[.sref 7000,.sref 7001])],[(7000,⟨1,v8.2.map eI,false⟩),(7001,⟨4,v11.2.map V1,false⟩)]⟩) (by kernel_rfl) (λv11 H=>?_) (λJ33=>?_)
  .unfold Xd at H
   refine wH [.g 40 [((y3.1==2),true)] (.ln _ _ λ_=>lm v11.2 V1)] ?_
   refine J3 (r:=r) (Vd y3 v8) 0 (λv14:l01Cur×(List Node)=>⟨[(0,.ptr 2000000000 0),(2,.ptr 2 0),(3,.ptr 3 0),(4,.int .i64 y3.1)],[],[(2000000000,(Y0 .rd v14.1).cells),(2,[.nl,.nl]),(3,[.sref 7000,.sref 7001])],[(7000,⟨1,v8.2.map eI,false⟩),(7001,⟨4,v14.2.map V1,false⟩)]⟩) (by kernel_rfl) (λv14 H=>?_) (λJ32=>?_)
   .unfold Vd at H
    refine wP ?_
    refine J3 (r:=r) (Ud y3 v14) 0 (λv18:l01Cur×(List Int)=>⟨[(2,.ptr 2 0),(3,.ptr 3 0),(4,.int .i64 y3.1)],[],[(2000000000,(Y0 .rd v18.1).cells),(2,[.nl,.nl]),(3,[.sref 7000,.sref 7001])],[(7000,⟨1,v18.2.map eI,false⟩),(7001,⟨4,v14.2.map V1,false⟩)]⟩) (by kernel_rfl) (λv18 H=>?_) (λJ31=>?_)
    .unfold Ud at H
     refine wP ?_
     refine J3 (r:=r) (Yi v14 v18) 0 (λv19:(List Int)=>⟨[(2,.ptr 2 0),(3,.ptr 3 0)],[],[(2000000000,(Y0 .rd v18.1).cells),(2,[.nl,.nl]),(3,[.sref 530000,.sref 7001])],[(530000,⟨1,v19.map eI,false⟩),(7001,⟨4,v14.2.map V1,false⟩)]⟩) (by kernel_rfl) (λv19 H=>?_) (λJ30=>?_)
     .unfold Yi at H
      refine wP ?_
      replace H:=sI H;subst H
      exact W3 [(2,.d)] [(2,[]),(2000000000,[])] [(530000,some 530000,0),(7001,some 7001,0)] [] [530000,7001] (by kernel_rfl)
     .refine M0 H ?_ ?_<;>intro H
      .refine wP ?_
       exact wU (J30 _ H) [] [(3,[.z 530000,.d])] [(530000,(none,1))] []
      .refine wP ?_
       exact wU (J30 _ H) [] [] [(530000,(some 7000,0))] []
    .refine M0 H ?_ ?_<;>intro H
     .obtain⟨u15,h15,y16,h16,xs17,h17,H⟩:=bB3 H
      exact wH [.u 56 (.le _ _ (λ_=>lm v8.2 eI) (λ_=>V0k h15)),.u 57 (.cz V0 [2000000000] [(Y0 .rd v14.1).cells] [.ptr 0 0,iV (v8.2.length:Int)] _ _ _ (by simp) (by simp) (λ_=>by simp) (λ_=>Z0 h16)),.u 59 (.ap _ _ _ _ λ_=>L0 eI h17)] (wT (J31 _ H))
     .refine wP ?_
      exact wT (J31 _ H)
   .refine M0 H ?_ ?_<;>intro H
    .obtain⟨y12,h12,e13,h13,H⟩:=bB2 H
     exact wH [.u 46 (.cz Qr [2000000000] [(Y0 .rd v11.1).cells] [.ptr 0 0] _ _ _ (by simp) (by simp) (λ_=>by simp) (λ_=>VK h12)),.u 47 (.ix _ _ _ λ_=>W0 V1 h13),.u 1000000 (.sto _ _ _ (V1 (Node.mk e13.leaf y12.1)) _ (λ_=>gm V1 (W4 h13)) (λ_=>VE ..))] (wT (J32 _ H))
    .refine wP ?_
     exact wT (J32 _ H)
  .refine M0 H ?_ ?_<;>intro H
   .obtain⟨y9,h9,e10,h10,H⟩:=bB2 H
    exact wH [.u 32 (.cz L3 [2000000000] [(Y0 .rd v8.1).cells] [.ptr 0 0] _ _ _ (by simp) (by simp) (λ_=>by simp) (λ_=>V3 h9)),.u 33 (.ix _ _ _ λ_=>W0 V1 h10),.u 1000000 (.sto _ _ _ (V1 (Node.mk y9.1 e10.cap)) _ (λ_=>gm V1 (W4 h10)) (λ_=>VE ..))] (wT (J33 _ H))
   .refine wP ?_
    exact wT (J33 _ H)
 .refine M0 H ?_ ?_<;>intro H
  .obtain⟨u4,h4,y5,h5,y6,h6,H⟩:=bB3 H
   obtain⟨e7,h7,H⟩:=bB H
   exact wH [.u 16 (.le _ _ (λ_=>lm y2.1.parents eI) (λ_=>V0k h4)),.u 17 (.cz V0 [2000000000] [(Y0 .rd y3.2).cells] [.ptr 0 0,iV (y2.1.parents.length:Int)] _ _ _ (by simp) (by simp) (λ_=>by simp) (λ_=>Z0 h5)),.u 19 (.cz L3 [2000000000] [(Y0 .rd y5.2).cells] [.ptr 0 0] _ _ _ (by simp) (by simp) (λ_=>by simp) (λ_=>V3 h6)),.u 20 (.ix _ _ _ λ_=>W0 eI h7),.u 1000000 (.sto _ _ _ (eI y6.1) _ (λ_=>gm eI (W4 h7)) (λ_=>VE ..))] (wT (J34 _ H))
  .refine wP ?_
   exact wT (J34 _ H)
noncomputable def Z0E:L :=
 lf Tryz.prog YO [] [] [] [] [(6,8),(12,8)] [(10,[],[],[0,2,4,7],4),(14,[],[],[0,2,4,8,12,7,11,15,16,18],10),(16,[],[],[0,2,4,6,8,11],6)] [31,63,127,255,511,1023,2047,4095,8191,16383]
def J0C:List Rv:=[.c 2 11 true]
theorem U0H:Qt Tryz.prog YO 1 Z0E J0C=true:=by kernel_rfl
def Lh(v5:l01Cur×Int)(v7:List Bool)(v9:l01Cur×Int×Int×Int)(v15:List Job)(v20:l01Cur×(List End))(v25:List Run)(v27:l01Cur×Int)(v29:l01Cur×(List Int)×(List Node)):Option (State×l01Cur) :=
 some ((State.mk (Topo.mk v29.2.1 v29.2.2) v7 (Vec.mk v9.2.1 v9.2.2.1 v9.2.2.2) v27.2 v5.2 v15 v25 v20.2),v29.1)
def Zd(y2:State×l01Cur)(y3:Int×l01Cur)(v5:l01Cur×Int)(v7:List Bool)(v9:l01Cur×Int×Int×Int)(v15:List Job)(v20:l01Cur×(List End))(v25:List Run)(v27:l01Cur×Int):Option (State×l01Cur) :=
 bif y3.1==9 then((Wz v27.1).bind λy28=>(Lh v5 v7 v9 v15 v20 v25 v27) (y28.2,y28.1.parents,y28.1.nodes))else((Lh v5 v7 v9 v15 v20 v25 v27) (v27.1,y2.1.topo.parents,y2.1.topo.nodes))
def Jc(y2:State×l01Cur)(y3:Int×l01Cur)(v5:l01Cur×Int)(v7:List Bool)(v9:l01Cur×Int×Int×Int)(v15:List Job)(v20:l01Cur×(List End))(v23:l01Cur×(List Run))(v25:List Run):Option (State×l01Cur) :=
 bif y3.1==8 then((Z3 v23.1).bind λy26=>(Zd y2 y3 v5 v7 v9 v15 v20 v25) (y26.2,y26.1))else((Zd y2 y3 v5 v7 v9 v15 v20 v25) (v23.1,y2.1.depth))
def Lc(y2:State×l01Cur)(y3:Int×l01Cur)(v5:l01Cur×Int)(v7:List Bool)(v9:l01Cur×Int×Int×Int)(v15:List Job)(v20:l01Cur×(List End))(v23:l01Cur×(List Run)):Option (State×l01Cur) :=
 bif (y3.1==7)&&decide (0<(v23.2.length:Int))then((idx v23.2 0).bind λe24=>(Jc y2 y3 v5 v7 v9 v15 v20 v23) (v23.2.set (0:Int).toNat (Run.mk (Job.mk e24.job.id e24.job.prio e24.job.nodes e24.job.need e24.job.lic e24.job.wall 0) e24.t e24.nodes)))else((Jc y2 y3 v5 v7 v9 v15 v20 v23) v23.2)
def Mc(y2:State×l01Cur)(y3:Int×l01Cur)(v5:l01Cur×Int)(v7:List Bool)(v9:l01Cur×Int×Int×Int)(v12:l01Cur×(List Run))(v15:List Job)(v20:l01Cur×(List End)):Option (State×l01Cur) :=
 bif (y3.1==6)&&decide (0<(v12.2.length:Int))then((Vs v20.1 y2.1.topo).bind λy21=>(idx v12.2 0).bind λe22=>(Lc y2 y3 v5 v7 v9 v15 v20) (y21.2,(v12.2.set (0:Int).toNat (Run.mk e22.job e22.t y21.1))))else((Lc y2 y3 v5 v7 v9 v15 v20) (v20.1,v12.2))
def Oc(y2:State×l01Cur)(y3:Int×l01Cur)(v5:l01Cur×Int)(v7:List Bool)(v9:l01Cur×Int×Int×Int)(v12:l01Cur×(List Run))(v15:List Job):Option (State×l01Cur) :=
 bif y3.1==5 then((X0 v12.1 3).bind λy16=>(X0 y16.2 3).bind λy17=>(X0 y17.2 6).bind λy18=>(appL 24 y2.1.ends [(End.mk y16.1 y17.1 y18.1)]).bind λxs19=>(Mc y2 y3 v5 v7 v9 v12 v15) (y18.2,xs19))else((Mc y2 y3 v5 v7 v9 v12 v15) (v12.1,y2.1.ends))
def Wc(y2:State×l01Cur)(y3:Int×l01Cur)(v5:l01Cur×Int)(v7:List Bool)(v9:l01Cur×Int×Int×Int)(v12:l01Cur×(List Run)):Option (State×l01Cur) :=
 bif (y3.1==4)&&decide (0<(v12.2.length:Int))then((idx v12.2 0).bind λe13=>(appL 88 y2.1.queue [e13.job]).bind λxs14=>(Oc y2 y3 v5 v7 v9 v12) xs14)else((Oc y2 y3 v5 v7 v9 v12) y2.1.queue)
def Qc(y2:State×l01Cur)(y3:Int×l01Cur)(v5:l01Cur×Int)(v7:List Bool)(v9:l01Cur×Int×Int×Int):Option (State×l01Cur) :=
 bif (y3.1==3)&&decide (0<(y2.1.runs.length:Int))then((Z3 v9.1).bind λy10=>(idx y2.1.runs 0).bind λe11=>(Wc y2 y3 v5 v7 v9) (y10.2,(y2.1.runs.set (0:Int).toNat (Run.mk e11.job y10.1 e11.nodes))))else((Wc y2 y3 v5 v7 v9) (v9.1,y2.1.runs))
def Uc(y2:State×l01Cur)(y3:Int×l01Cur)(v5:l01Cur×Int)(v7:List Bool):Option (State×l01Cur) :=
 bif y3.1==2 then((Xg v5.1).bind λy8=>(Qc y2 y3 v5 v7) (y8.2,y8.1.a,y8.1.b,y8.1.c))else((Qc y2 y3 v5 v7) (v5.1,y2.1.lic.a,y2.1.lic.b,y2.1.lic.c))
def Vc(y2:State×l01Cur)(y3:Int×l01Cur)(v5:l01Cur×Int):Option (State×l01Cur) :=
 bif (y3.1==1)&&decide (0<(y2.1.up.length:Int))then((idx y2.1.up 0).bind λe6=>(Uc y2 y3 v5) (y2.1.up.set (0:Int).toNat (!e6)))else((Uc y2 y3 v5) y2.1.up)
def Qy(c1:l01Cur):Option (State×l01Cur) :=
 (Ys c1 14).bind λy2=>(X0 y2.2 20).bind λy3=>bif y3.1==0 then((Z3 y3.2).bind λy4=>(Vc y2 y3) (y4.2,y4.1))else((Vc y2 y3) (y3.2,y2.1.now))
set_option maxRecDepth 20000 in
theorem X0B{c1:l01Cur}{r:State×l01Cur}(H:Qy c1=some r):ConD Tryz.prog YO [.ptr 0 0] [(Y0 .rd c1).cells] [] (.agg [nV 1 (r.1.topo.parents.map eI),nV 4 (r.1.topo.nodes.map V1),.sref 0,iV r.1.lic.a,iV r.1.lic.b,iV r.1.lic.c,iV r.1.depth,iV r.1.now,.sref 1,.sref 2,.sref 3]) [(Y0 .rd r.2).cells] [] [(1,r.1.up.map eBo),(11,r.1.queue.map eJob),(13,r.1.runs.map (Z1 .nw)),(3,r.1.ends.map eEnd)]:=by
 refine JW [] U0H rfl (by kernel_rfl) ?_
 unfold Qy at H
 obtain⟨y2,h2,y3,h3,H⟩:=bB2 H
 refine wH [.u 6 (.cw QI [2000000000] [] [(Y0 .rd c1).cells] [] [.ptr 0 0,iV 14] _ _ _ _ _ (GEs.of [true,false] (by simp)) (by simp) (by simp) (by simp) (λ_=>U0t h2)),.u 8 (.cw V0 [2000000000] [] [(Y0 .rd y2.2).cells] [] [.ptr 0 0,iV 20] _ _ _ _ _ (GEs.of [true,false] (by simp)) (by simp) (by simp) (by simp) (λ_=>Z0 h3))] ?_
 refine J3 (r:=r) (Vc y2 y3) 0 (λv5:l01Cur×Int=>⟨[(0,.ptr 2000000000 0),(2,.ptr 2 0),(3,.ptr 3 0),(4,.int .i64 y3.1)],[],[(2000000000,(Y0 .rd v5.1).cells),(2,[.nl,.nl,.nl,.int .i64 0,.int .i64 0,.int .i64 0,.int .i64 0,.int .i64 0,.nl,.nl,.nl]),(3,[.sl .nw 1 (y2.1.topo.parents.map eI),.sl .nw 4 (y2.1.topo.nodes.map V1),.sref 7000,.int .i64 y2.1.lic.a,.int .i64 y2.1.lic.b,.int .i64 y2.1.lic.c,.int .i64 y2.1.depth,.int .i64 v5.2,.sref 7001,.sref 7002,.sref 7003])],[(7000,⟨1,y2.1.up.map eBo,false⟩),(7001,⟨11,y2.1.queue.map eJob,false⟩),(7002,⟨13,y2.1.runs.map (Z1 .nw),false⟩),(7003,⟨3,y2.1.ends.map eEnd,false⟩)]⟩) (by kernel_rfl) (λv5 H=>?_) (λJ64=>?_)
 .unfold Vc at H
  refine wH [.g 19 [((y3.1==1),true)] (.ln _ _ λ_=>lm y2.1.up eBo)] ?_
  refine J3 (r:=r) (Uc y2 y3 v5) 0 (λv7:(List Bool)=>⟨[(0,.ptr 2000000000 0),(2,.ptr 2 0),(3,.ptr 3 0),(4,.int .i64 y3.1)],[],[(2000000000,(Y0 .rd v5.1).cells),(2,[.nl,.nl,.nl,.int .i64 0,.int .i64 0,.int .i64 0,.int .i64 0,.int .i64 0,.nl,.nl,.nl]),(3,[.sl .nw 1 (y2.1.topo.parents.map eI),.sl .nw 4 (y2.1.topo.nodes.map V1),.sref 7000,.int .i64 y2.1.lic.a,.int .i64 y2.1.lic.b,.int .i64 y2.1.lic.c,.int .i64 y2.1.depth,.int .i64 v5.2,.sref 7001,.sref 7002,.sref 7003])],[(7000,⟨1,v7.map eBo,false⟩),(7001,⟨11,y2.1.queue.map eJob,false⟩),(7002,⟨13,y2.1.runs.map (Z1 .nw),false⟩),(7003,⟨3,y2.1.ends.map eEnd,false⟩)]⟩) (by kernel_rfl) (λv7 H=>?_) (λJ63=>?_)
  .unfold Uc at H
   refine wP ?_
   refine J3 (r:=r) (Qc y2 y3 v5 v7) 0 (λv9:l01Cur×Int×Int×Int=>⟨[(0,.ptr 2000000000 0),(2,.ptr 2 0),(3,.ptr 3 0),(4,.int .i64 y3.1)],[],[(2000000000,(Y0 .rd v9.1).cells),(2,[.nl,.nl,.nl,.int .i64 0,.int .i64 0,.int .i64 0,.int .i64 0,.int .i64 0,.nl,.nl,.nl]),(3,[.sl .nw 1 (y2.1.topo.parents.map eI),.sl .nw 4 (y2.1.topo.nodes.map V1),.sref 7000,.int .i64 v9.2.1,.int .i64 v9.2.2.1,.int .i64 v9.2.2.2,.int .i64 y2.1.depth,.int .i64 v5.2,.sref 7001,.sref 7002,.sref 7003])],[(7000,⟨1,v7.map eBo,false⟩),(7001,⟨11,y2.1.queue.map eJob,false⟩),(7002,⟨13,y2.1.runs.map (Z1 .nw),false⟩),(7003,⟨3,y2.1.ends.map eEnd,false⟩)]⟩) (by kernel_rfl) (λv9 H=>?_) (λJ62=>?_)
   .unfold Qc at H
    refine wH [.g 40 [((y3.1==3),true)] (.ln _ _ λ_=>lm y2.1.runs (Z1 .nw))] ?_
    refine J3 (r:=r) (Wc y2 y3 v5 v7 v9) 0 (λv12:l01Cur×(List Run)=>⟨[(0,.ptr 2000000000 0),(2,.ptr 2 0),(3,.ptr 3 0),(4,.int .i64 y3.1)],[],[(2000000000,(Y0 .rd v12.1).cells),(2,[.nl,.nl,.nl,.int .i64 0,.int .i64 0,.int .i64 0,.int .i64 0,.int .i64 0,.nl,.nl,.nl]),(3,[.sl .nw 1 (y2.1.topo.parents.map eI),.sl .nw 4 (y2.1.topo.nodes.map V1),.sref 7000,.int .i64 v9.2.1,.int .i64 v9.2.2.1,.int .i64 v9.2.2.2,.int .i64 y2.1.depth,.int .i64 v5.2,.sref 7001,.sref 7002,.sref 7003])],[(7000,⟨1,v7.map eBo,false⟩),(7001,⟨11,y2.1.queue.map eJob,false⟩),(7002,⟨13,v12.2.map (Z1 .nw),false⟩),(7003,⟨3,y2.1.ends.map eEnd,false⟩)]⟩) (by kernel_rfl) (λv12 H=>?_) (λJ61=>?_)
    .unfold Wc at H
     refine wH [.g 54 [((y3.1==4),true)] (.ln _ _ λ_=>lm v12.2 (Z1 .nw))] ?_
     refine J3 (r:=r) (Oc y2 y3 v5 v7 v9 v12) 0 (λv15:(List Job)=>⟨[(0,.ptr 2000000000 0),(2,.ptr 2 0),(3,.ptr 3 0),(4,.int .i64 y3.1)],[],[(2000000000,(Y0 .rd v12.1).cells),(2,[.nl,.nl,.nl,.int .i64 0,.int .i64 0,.int .i64 0,.int .i64 0,.int .i64 0,.nl,.nl,.nl]),(3,[.sl .nw 1 (y2.1.topo.parents.map eI),.sl .nw 4 (y2.1.topo.nodes.map V1),.sref 7000,.int .i64 v9.2.1,.int .i64 v9.2.2.1,.int .i64 v9.2.2.2,.int .i64 y2.1.depth,.int .i64 v5.2,.sref 7001,.sref 7002,.sref 7003])],[(7000,⟨1,v7.map eBo,false⟩),(7001,⟨11,v15.map eJob,false⟩),(7002,⟨13,v12.2.map (Z1 .nw),false⟩),(7003,⟨3,y2.1.ends.map eEnd,false⟩)]⟩) (by kernel_rfl) (λv15 H=>?_) (λJ60=>?_)
     .unfold Oc at H
      refine wP ?_
      refine J3 (r:=r) (Mc y2 y3 v5 v7 v9 v12 v15) 0 (λv20:l01Cur×(List End)=>⟨[(0,.ptr 2000000000 0),(2,.ptr 2 0),(3,.ptr 3 0),(4,.int .i64 y3.1)],[],[(2000000000,(Y0 .rd v20.1).cells),(2,[.nl,.nl,.nl,.int .i64 0,.int .i64 0,.int .i64 0,.int .i64 0,.int .i64 0,.nl,.nl,.nl]),(3,[.sl .nw 1 (y2.1.topo.parents.map eI),.sl .nw 4 (y2.1.topo.nodes.map V1),.sref 7000,.int .i64 v9.2.1,.int .i64 v9.2.2.1,.int .i64 v9.2.2.2,.int .i64 y2.1.depth,.int .i64 v5.2,.sref 7001,.sref 7002,.sref 7003])],[(7000,⟨1,v7.map eBo,false⟩),(7001,⟨11,v15.map eJob,false⟩),(7002,⟨13,v12.2.map (Z1 .nw),false⟩),(7003,⟨3,v20.2.map eEnd,false⟩)]⟩) (by kernel_rfl) (λv20 H=>?_) (λJ59=>?_)
      .unfold Mc at H
       refine wH [.g 86 [((y3.1==6),true)] (.ln _ _ λ_=>lm v12.2 (Z1 .nw))] ?_
       refine J3 (r:=r) (Lc y2 y3 v5 v7 v9 v15 v20) 0 (λv23:l01Cur×(List Run)=>⟨[(0,.ptr 2000000000 0),(2,.ptr 2 0),(3,.ptr 3 0),(4,.int .i64 y3.1)],[],[(2000000000,(Y0 .rd v23.1).cells),(2,[.nl,.nl,.nl,.int .i64 0,.int .i64 0,.int .i64 0,.int .i64 0,.int .i64 0,.nl,.nl,.nl]),(3,[.sl .nw 1 (y2.1.topo.parents.map eI),.sl .nw 4 (y2.1.topo.nodes.map V1),.sref 7000,.int .i64 v9.2.1,.int .i64 v9.2.2.1,.int .i64 v9.2.2.2,.int .i64 y2.1.depth,.int .i64 v5.2,.sref 7001,.sref 7002,.sref 7003])],[(7000,⟨1,v7.map eBo,false⟩),(7001,⟨11,v15.map eJob,false⟩),(7002,⟨13,v23.2.map (Z1 .nw),false⟩),(7003,⟨3,v20.2.map eEnd,false⟩)]⟩) (by kernel_rfl) (λv23 H=>?_) (λJ58=>?_)
       .unfold Lc at H
        refine wH [.g 102 [((y3.1==7),true)] (.ln _ _ λ_=>lm v23.2 (Z1 .nw))] ?_
        refine J3 (r:=r) (Jc y2 y3 v5 v7 v9 v15 v20 v23) 0 (λv25:(List Run)=>⟨[(0,.ptr 2000000000 0),(2,.ptr 2 0),(3,.ptr 3 0),(4,.int .i64 y3.1)],[],[(2000000000,(Y0 .rd v23.1).cells),(2,[.nl,.nl,.nl,.int .i64 0,.int .i64 0,.int .i64 0,.int .i64 0,.int .i64 0,.nl,.nl,.nl]),(3,[.sl .nw 1 (y2.1.topo.parents.map eI),.sl .nw 4 (y2.1.topo.nodes.map V1),.sref 7000,.int .i64 v9.2.1,.int .i64 v9.2.2.1,.int .i64 v9.2.2.2,.int .i64 y2.1.depth,.int .i64 v5.2,.sref 7001,.sref 7002,.sref 7003])],[(7000,⟨1,v7.map eBo,false⟩),(7001,⟨11,v15.map eJob,false⟩),(7002,⟨13,v25.map (Z1 .nw),false⟩),(7003,⟨3,v20.2.map eEnd,false⟩)]⟩) (by kernel_rfl) (λv25 H=>?_) (λJ57=>?_)
        .unfold Jc at H
         refine wP ?_
         refine J3 (r:=r) (Zd y2 y3 v5 v7 v9 v15 v20 v25) 0 (λv27:l01Cur×Int=>⟨[(0,.ptr 2000000000 0),(2,.ptr 2 0),(3,.ptr 3 0),(4,.int .i64 y3.1)],[],[(2000000000,(Y0 .rd v27.1).cells),(2,[.nl,.nl,.nl,.int .i64 0,.int .i64 0,.int .i64 0,.int .i64 0,.int .i64 0,.nl,.nl,.nl]),(3,[.sl .nw 1 (y2.1.topo.parents.map eI),.sl .nw 4 (y2.1.topo.nodes.map V1),.sref 7000,.int .i64 v9.2.1,.int .i64 v9.2.2.1,.int .i64 v9.2.2.2,.int .i64 v27.2,.int .i64 v5.2,.sref 7001,.sref 7002,.sref 7003])],[(7000,⟨1,v7.map eBo,false⟩),(7001,⟨11,v15.map eJob,false⟩),(7002,⟨13,v25.map (Z1 .nw),false⟩),(7003,⟨3,v20.2.map eEnd,false⟩)]⟩) (by kernel_rfl) (λv27 H=>?_) (λJ56=>?_)
         .unfold Zd at H
          refine wP ?_
          refine J3 (r:=r) (Lh v5 v7 v9 v15 v20 v25 v27) 0 (λv29:l01Cur×(List Int)×(List Node)=>⟨[(2,.ptr 2 0),(3,.ptr 3 0)],[],[(2000000000,(Y0 .rd v29.1).cells),(2,[.nl,.nl,.nl,.int .i64 0,.int .i64 0,.int .i64 0,.int .i64 0,.int .i64 0,.nl,.nl,.nl]),(3,[.sl .nw 1 (v29.2.1.map eI),.sl .nw 4 (v29.2.2.map V1),.sref 7000,.int .i64 v9.2.1,.int .i64 v9.2.2.1,.int .i64 v9.2.2.2,.int .i64 v27.2,.int .i64 v5.2,.sref 7001,.sref 7002,.sref 7003])],[(7000,⟨1,v7.map eBo,false⟩),(7001,⟨11,v15.map eJob,false⟩),(7002,⟨13,v25.map (Z1 .nw),false⟩),(7003,⟨3,v20.2.map eEnd,false⟩)]⟩) (by kernel_rfl) (λv29 H=>?_) (λJ55=>?_)
          .unfold Lh at H
           refine wP ?_
           replace H:=sI H;subst H
           exact W3 [(2,.d)] [(2,[]),(2000000000,[])] [(7000,some 7000,0),(7001,some 7001,0),(7002,some 7002,0),(7003,some 7003,0)] [] [7000,7001,7002,7003] (by kernel_rfl)
          .refine M0 H ?_ ?_<;>intro H
           .obtain⟨y28,h28,H⟩:=bB H
            refine wH [.u 118 (.cw XO [2000000000] [] [(Y0 .rd v27.1).cells] [] [.ptr 0 0] _ _ _ _ _ (GEs.of [true] (by simp)) (by simp) (by simp) (by simp) (λ_=>W0B h28))] ?_
            exact wU (J55 _ H) [] [(3,[.f,.f,.d,.d,.d,.d,.d,.d,.d,.d,.d])] [] [119000,119001]
           .refine wP ?_
            exact wT (J55 _ H)
         .refine M0 H ?_ ?_<;>intro H
          .obtain⟨y26,h26,H⟩:=bB H
           exact wH [.u 113 (.cw L3 [2000000000] [] [(Y0 .rd v23.1).cells] [] [.ptr 0 0] _ _ _ _ _ (GEs.of [true] (by simp)) (by simp) (by simp) (by simp) (λ_=>V3 h26))] (wT (J56 _ H))
          .refine wP ?_
           exact wT (J56 _ H)
        .refine M0 H ?_ ?_<;>intro H
         .obtain⟨e24,h24,H⟩:=bB H
          exact wH [.u 107 (.ix _ _ _ λ_=>W0 (Z1 .nw) h24),.u 1000000 (.sto _ _ _ (Z1 .nw (Run.mk (Job.mk e24.job.id e24.job.prio e24.job.nodes e24.job.need e24.job.lic e24.job.wall 0) e24.t e24.nodes)) _ (λ_=>gm (Z1 .nw) (W4 h24)) (λ_=>VE ..))] (wT (J57 _ H))
         .refine wP ?_
          exact wT (J57 _ H)
       .refine M0 H ?_ ?_<;>intro H
        .obtain⟨y21,h21,e22,h22,H⟩:=bB2 H
         exact wH [.u 94 (.cz WI [2000000000] [(Y0 .rd v20.1).cells] [.ptr 0 0,M4 .nw y2.1.topo] _ _ _ (by simp) (by simp) (λ_=>by simp) (λ_=>M0t h21)),.u 95 (.ix _ _ _ λ_=>W0 (Z1 .nw) h22),.u 1000000 (.sto _ _ _ (Z1 .nw (Run.mk e22.job e22.t y21.1)) _ (λ_=>gm (Z1 .nw) (W4 h22)) (λ_=>VE ..))] (wT (J58 _ H))
        .refine wP ?_
         exact wT (J58 _ H)
      .refine M0 H ?_ ?_<;>intro H
       .obtain⟨y16,h16,y17,h17,y18,h18,H⟩:=bB3 H
        obtain⟨xs19,h19,H⟩:=bB H
        exact wH [.u 72 (.cz V0 [2000000000] [(Y0 .rd v12.1).cells] [.ptr 0 0,iV 3] _ _ _ (by simp) (by simp) (λ_=>by simp) (λ_=>Z0 h16)),.u 74 (.cz V0 [2000000000] [(Y0 .rd y16.2).cells] [.ptr 0 0,iV 3] _ _ _ (by simp) (by simp) (λ_=>by simp) (λ_=>Z0 h17)),.u 76 (.cz V0 [2000000000] [(Y0 .rd y17.2).cells] [.ptr 0 0,iV 6] _ _ _ (by simp) (by simp) (λ_=>by simp) (λ_=>Z0 h18)),.u 79 (.ap _ _ _ _ λ_=>L0 eEnd h19)] (wT (J59 _ H))
       .refine wP ?_
        exact wT (J59 _ H)
     .refine M0 H ?_ ?_<;>intro H
      .obtain⟨e13,h13,xs14,h14,H⟩:=bB2 H
       exact wH [.u 61 (.ix _ _ _ λ_=>W0 (Z1 .nw) h13),.u 63 (.el _ _ _ λ_=>gm (Z1 .nw) (W4 h13)),.u 65 (.ap _ _ _ _ λ_=>L0 eJob h14)] (wT (J60 _ H))
      .refine wP ?_
       exact wT (J60 _ H)
    .refine M0 H ?_ ?_<;>intro H
     .obtain⟨y10,h10,e11,h11,H⟩:=bB2 H
      exact wH [.u 46 (.cz L3 [2000000000] [(Y0 .rd v9.1).cells] [.ptr 0 0] _ _ _ (by simp) (by simp) (λ_=>by simp) (λ_=>V3 h10)),.u 47 (.ix _ _ _ λ_=>W0 (Z1 .nw) h11),.u 1000000 (.sto _ _ _ (Z1 .nw (Run.mk e11.job y10.1 e11.nodes)) _ (λ_=>gm (Z1 .nw) (W4 h11)) (λ_=>VE ..))] (wT (J61 _ H))
     .refine wP ?_
      exact wT (J61 _ H)
   .refine M0 H ?_ ?_<;>intro H
    .obtain⟨y8,h8,H⟩:=bB H
     exact wH [.u 33 (.cw Qr [2000000000] [] [(Y0 .rd v5.1).cells] [] [.ptr 0 0] _ _ _ _ _ (GEs.of [true] (by simp)) (by simp) (by simp) (by simp) (λ_=>VK h8))] (wT (J62 _ H))
    .refine wP ?_
     exact wT (J62 _ H)
  .refine M0 H ?_ ?_<;>intro H
   .obtain⟨e6,h6,H⟩:=bB H
    exact wH [.u 26 (.ix _ _ _ λ_=>W0 eBo h6),.u 27 (.el _ _ _ λ_=>gm eBo (W4 h6)),.u 29 (.ix _ _ _ λ_=>W0 eBo h6),.u 1000000 (.sto _ _ _ (eBo (!e6)) _ (λ_=>gm eBo (W4 h6)) (λ_=>VE ..))] (wT (J63 _ H))
   .refine wP ?_
    exact wT (J63 _ H)
 .refine M0 H ?_ ?_<;>intro H
  .obtain⟨y4,h4,H⟩:=bB H
   exact wH [.u 12 (.cw L3 [2000000000] [] [(Y0 .rd y3.2).cells] [] [.ptr 0 0] _ _ _ _ _ (GEs.of [true] (by simp)) (by simp) (by simp) (by simp) (λ_=>V3 h4))] (wT (J64 _ H))
  .refine wP ?_
   exact wT (J64 _ H)
noncomputable def Q0v:L :=
 lf Tryz.prog VI [] [] [] [] [] [(5,[],[7],[0,2,5,6,8,10,12],8)] [31]
def V0u:List Rv:=[.c 2 11 true]
theorem J0x:Qt Tryz.prog VI 1 Q0v V0u=true:=by kernel_rfl
def Xa(v4:l01Cur×State×Int)(y8:Int×l01Cur)(v12:List End):Option (State×l01Cur) :=
 some ((State.mk v4.2.1.topo v4.2.1.up v4.2.1.lic v4.2.1.depth v4.2.1.now v4.2.1.queue v4.2.1.runs v12),y8.2)
def Ml(v4:l01Cur×State×Int)(y8:Int×l01Cur)(v9:List End)(k9:List End->Option (State×l01Cur)):Option (State×l01Cur) :=
 bif decide ((v9.length:Int)<299)then((appL 24 v9 [(End.mk 1 0 2)]).bind λxs11=>k9 xs11)else((Xa v4 y8) v9)
def Mx(v4:l01Cur×State×Int)(k4:(l01Cur×State×Int)->Option (State×l01Cur)):Option (State×l01Cur) :=
 (bif decide (0<v4.2.2)then(X6 v4.2.1)else some default).bind λb5=>bif decide (0<v4.2.2)&&b5 then((Lf v4.1).bind λy6=>(OD v4.2.1 y6.1).bind λy7=>bif y7.2==0 then(k4 (y6.2,y7.1,(w64 (v4.2.2-1))))else(k4 (y6.2,v4.2.1,(w64 (v4.2.2-1)))))else((X0 v4.1 30).bind λy8=>bif y8.1==0 then(whl (Ml v4 y8) 9223372036854775807 [])else((Xa v4 y8) v4.2.1.ends))
def Zs(c1:l01Cur):Option (State×l01Cur) :=
 (Qy c1).bind λy2=>(X0 y2.2 5).bind λy3=>whl Mx 9223372036854775807 (y3.2,y2.1,y3.1)
set_option maxRecDepth 20000 in
theorem X0t{c1:l01Cur}{r:State×l01Cur}(H:Zs c1=some r):ConD Tryz.prog VI [.ptr 0 0] [(Y0 .rd c1).cells] [] (V2 .nw r.1) [(Y0 .rd r.2).cells] [] []:=by
 refine JW [] J0x rfl (by kernel_rfl) ?_
 unfold Zs at H
 obtain⟨y2,h2,y3,h3,H⟩:=bB2 H
 refine wH [.u 8 (.cw YO [2000000000] [] [(Y0 .rd c1).cells] [] [.ptr 0 0] _ _ _ _ _ (GEs.of [true] (by simp)) (by simp) (by simp) (by simp) (λ_=>X0B h2)),.u 10 (.cw V0 [2000000000] [] [(Y0 .rd y2.2).cells] [] [.ptr 0 0,iV 5] _ _ _ _ _ (GEs.of [true,false] (by simp)) (by simp) (by simp) (by simp) (λ_=>Z0 h3))] ?_
 refine W11 (λ(v4:l01Cur×State×Int)=>⟨[(0,.ptr 2000000000 0),(2,.ptr 2 0),(3,.ptr 3 0),(4,iV v4.2.2)],[],[(2000000000,(Y0 .rd v4.1).cells),(2,[.nl,.nl,.nl,iV 0,iV 0,iV 0,iV 0,iV 0,.nl,.nl,.nl]),(3,(V2 .nw v4.2.1).cells)],[]⟩) [] [(3,[.d,.d,.f,.d,.d,.d,.d,.d,.f,.f,.f])] [] [9000,9001,9002,9003] (by kernel_rfl) (by kernel_rfl) H (λv4 I m k4 H N19=>?_)
 unfold Mx at H
 obtain⟨b5,h5,H⟩:=bB H
 refine wH [.g 15 [(_,true)] (.call _ _ _ _ _ (AEs.of (xs:=[.agg [rV 1 (v4.2.1.topo.parents.map eI),rV 4 (v4.2.1.topo.nodes.map V1),rV 1 (v4.2.1.up.map eBo),iV v4.2.1.lic.a,iV v4.2.1.lic.b,iV v4.2.1.lic.c,iV v4.2.1.depth,iV v4.2.1.now,rV 11 (v4.2.1.queue.map eJob),rV 13 (v4.2.1.runs.map (Z1 .nw)),rV 3 (v4.2.1.ends.map eEnd)]]) (by simp)) (λq=>Q6 (bT q.1 h5)))] ?_
 refine M0 H ?_ ?_<;>intro H
 .obtain⟨y6,h6,y7,h7,H⟩:=bB2 H
  refine wH [.u 22 (.cz Jj [2000000000] [(Y0 .rd v4.1).cells] [.ptr 0 0] _ _ _ (by simp) (by simp) (λ_=>by simp) (λ_=>Qu h6)),.u 23 (.call _ _ _ _ _ (AEs.of (xs:=[.agg [rV 1 (v4.2.1.topo.parents.map eI),rV 4 (v4.2.1.topo.nodes.map V1),rV 1 (v4.2.1.up.map eBo),iV v4.2.1.lic.a,iV v4.2.1.lic.b,iV v4.2.1.lic.c,iV v4.2.1.depth,iV v4.2.1.now,rV 11 (v4.2.1.queue.map eJob),rV 13 (v4.2.1.runs.map (Z1 .nw)),rV 3 (v4.2.1.ends.map eEnd)],.agg [iV y6.1.id,iV y6.1.prio,iV y6.1.nodes,iV y6.1.need.a,iV y6.1.need.b,iV y6.1.need.c,iV y6.1.lic.a,iV y6.1.lic.b,iV y6.1.lic.c,iV y6.1.wall,iV y6.1.level]]) (by simp)) (λ_=>J0f h7))] ?_
  refine M0 H ?_ ?_<;>intro H
  .refine wP ?_
   exact wT (N19 _ H)
  .refine wP ?_
   exact wT (N19 _ H)
 .obtain⟨y8,h8,H⟩:=bB H
  refine wH [.u 30 (.cw V0 [2000000000] [] [(Y0 .rd v4.1).cells] [] [.ptr 0 0,iV 30] _ _ _ _ _ (GEs.of [true,false] (by simp)) (by simp) (by simp) (by simp) (λ_=>Z0 h8))] ?_
  refine J3 (r:=r) (Xa v4 y8) 0 (λv12:(List End)=>⟨[(2,.ptr 2 0),(3,.ptr 3 0)],[],[(2000000000,(Y0 .rd y8.2).cells),(2,[.nl,.nl,.nl,.int .i64 0,.int .i64 0,.int .i64 0,.int .i64 0,.int .i64 0,.nl,.nl,.nl]),(3,(V2 .nw (State.mk v4.2.1.topo v4.2.1.up v4.2.1.lic v4.2.1.depth v4.2.1.now v4.2.1.queue v4.2.1.runs v12)).cells)],[]⟩) (by kernel_rfl) (λv12 H=>?_) (λJ40=>?_)
  .unfold Xa at H
   refine wP ?_
   replace H:=sI H;subst H
   exact W3 [(2,.d)] [(2,[]),(2000000000,[])] [] [] [] (by kernel_rfl)
  .refine M0 H ?_ ?_<;>intro H
   .refine wP ?_
    refine W11 (λ(v9:List End)=>⟨[(2,.ptr 2 0),(3,.ptr 3 0)],[],[(2000000000,(Y0 .rd y8.2).cells),(2,[.nl,.nl,.nl,iV 0,iV 0,iV 0,iV 0,iV 0,.nl,.nl,.nl]),(3,[nV 1 (v4.2.1.topo.parents.map eI),nV 4 (v4.2.1.topo.nodes.map V1),nV 1 (v4.2.1.up.map eBo),iV v4.2.1.lic.a,iV v4.2.1.lic.b,iV v4.2.1.lic.c,iV v4.2.1.depth,iV v4.2.1.now,nV 11 (v4.2.1.queue.map eJob),nV 13 (v4.2.1.runs.map (Z1 .nw)),.sref 456000])],[(456000,⟨3,v9.map eEnd,false⟩)]⟩) [] [(3,[.d,.d,.d,.d,.d,.d,.d,.d,.d,.d,.z 456000])] [(456000,(none,3))] [] (by kernel_rfl) (by kernel_rfl) H (λv9 I m k9 H N32=>?_)
    unfold Ml at H
    refine wG [.u 35 (.ln _ _ λ_=>lm v9 eEnd)] λq10=>?_
    refine M0 H ?_ ?_<;>intro H
    .obtain⟨xs11,h11,H⟩:=bB H
     exact wH [.u 41 (.ap _ _ _ _ λ_=>L0 eEnd h11)] (wT (N32 _ H))
    .refine wP ?_
     exact wU (J40 _ H) [] [(3,[.d,.d,.d,.d,.d,.d,.d,.d,.d,.d,.f])] [] [456000]
   .refine wP ?_
    exact wT (J40 _ H)
noncomputable def O0D:L :=
 lf Tryz.prog JN [] [] [] [] [] [] [31]
def M0C:List Rv:=[.c 2 11 true]
theorem X0H:Qt Tryz.prog JN 1 O0D M0C=true:=by kernel_rfl
def Yp(y2:Job×l01Cur)(y3:Int×l01Cur)(v6:l01Cur×Int):Option (Job×l01Cur) :=
 some ((Job.mk v6.2 (w64 (2+y3.1)) y2.1.nodes y2.1.need y2.1.lic y2.1.wall y2.1.level),v6.1)
def Ox(c1:l01Cur):Option (Job×l01Cur) :=
 (Lf c1).bind λy2=>(X0 y2.2 5).bind λy3=>(X0 y3.2 2).bind λy4=>bif y4.1==0 then((X0 y4.2 9).bind λy5=>(Yp y2 y3) (y5.2,(w64 (40+y5.1))))else((Yp y2 y3) (y4.2,y2.1.id))
set_option maxRecDepth 20000 in
theorem J0A{c1:l01Cur}{r:Job×l01Cur}(H:Ox c1=some r):ConD Tryz.prog JN [.ptr 0 0] [(Y0 .rd c1).cells] [] (eJob r.1) [(Y0 .rd r.2).cells] [] []:=by
 refine JW [] X0H rfl (by kernel_rfl) ?_
 unfold Ox at H
 obtain⟨y2,h2,y3,h3,y4,h4,H⟩:=bB3 H
 refine wH [.u 5 (.cw Jj [2000000000] [] [(Y0 .rd c1).cells] [] [.ptr 0 0] _ _ _ _ _ (GEs.of [true] (by simp)) (by simp) (by simp) (by simp) (λ_=>Qu h2)),.u 7 (.cw V0 [2000000000] [] [(Y0 .rd y2.2).cells] [] [.ptr 0 0,iV 5] _ _ _ _ _ (GEs.of [true,false] (by simp)) (by simp) (by simp) (by simp) (λ_=>Z0 h3)),.u 11 (.cw V0 [2000000000] [] [(Y0 .rd y3.2).cells] [] [.ptr 0 0,iV 2] _ _ _ _ _ (GEs.of [true,false] (by simp)) (by simp) (by simp) (by simp) (λ_=>Z0 h4))] ?_
 refine J3 (r:=r) (Yp y2 y3) 0 (λv6:l01Cur×Int=>⟨[(2,.ptr 2 0),(3,.ptr 3 0)],[],[(2000000000,(Y0 .rd v6.1).cells),(2,(eJob (Job.mk 0 0 0 (Vec.mk 0 0 0) (Vec.mk 0 0 0) 0 0)).cells),(3,(eJob (Job.mk v6.2 (w64 (2+y3.1)) y2.1.nodes y2.1.need y2.1.lic y2.1.wall y2.1.level)).cells)],[]⟩) (by kernel_rfl) (λv6 H=>?_) (λJ10=>?_)
 .unfold Yp at H
  refine wP ?_
  replace H:=sI H;subst H
  exact W3 [(2,.d)] [(2,[]),(2000000000,[])] [] [] [] (by kernel_rfl)
 .refine M0 H ?_ ?_<;>intro H
  .obtain⟨y5,h5,H⟩:=bB H
   exact wH [.u 14 (.cw V0 [2000000000] [] [(Y0 .rd y4.2).cells] [] [.ptr 0 0,iV 9] _ _ _ _ _ (GEs.of [true,false] (by simp)) (by simp) (by simp) (by simp) (λ_=>Z0 h5))] (wT (J10 _ H))
  .refine wP ?_
   exact wT (J10 _ H)
noncomputable def W0k:L :=
 lf Tryz.prog Ov [] [] [] [] [] [] [31,63,127,255,511,1023]
def Z0k:List Rv:=[.c 2 11 true]
theorem W0l:Qt Tryz.prog Ov 1 W0k Z0k=true:=by kernel_rfl
def Vb(y2:Job×l01Cur)(v5 v7:l01Cur×Int)(v9:l01Cur×Int×Int×Int)(v11 v13 v15:l01Cur×Int):Option (Job×l01Cur) :=
 some ((Job.mk v5.2 v15.2 v7.2 (Vec.mk v9.2.1 v9.2.2.1 v9.2.2.2) y2.1.lic v11.2 v13.2),v15.1)
def V8(y2:Job×l01Cur)(y3:Int×l01Cur)(v5 v7:l01Cur×Int)(v9:l01Cur×Int×Int×Int)(v11 v13:l01Cur×Int):Option (Job×l01Cur) :=
 bif y3.1==5 then((Z3 v13.1).bind λy14=>(Vb y2 v5 v7 v9 v11 v13) (y14.2,y14.1))else((Vb y2 v5 v7 v9 v11 v13) (v13.1,y2.1.prio))
def X8(y2:Job×l01Cur)(y3:Int×l01Cur)(v5 v7:l01Cur×Int)(v9:l01Cur×Int×Int×Int)(v11:l01Cur×Int):Option (Job×l01Cur) :=
 bif y3.1==4 then((Z3 v11.1).bind λy12=>(V8 y2 y3 v5 v7 v9 v11) (y12.2,y12.1))else((V8 y2 y3 v5 v7 v9 v11) (v11.1,y2.1.level))
def Y8(y2:Job×l01Cur)(y3:Int×l01Cur)(v5 v7:l01Cur×Int)(v9:l01Cur×Int×Int×Int):Option (Job×l01Cur) :=
 bif y3.1==3 then((Z3 v9.1).bind λy10=>(X8 y2 y3 v5 v7 v9) (y10.2,y10.1))else((X8 y2 y3 v5 v7 v9) (v9.1,y2.1.wall))
def Z8(y2:Job×l01Cur)(y3:Int×l01Cur)(v5 v7:l01Cur×Int):Option (Job×l01Cur) :=
 bif y3.1==2 then((Xg v7.1).bind λy8=>(Y8 y2 y3 v5 v7) (y8.2,y8.1.a,y8.1.b,y8.1.c))else((Y8 y2 y3 v5 v7) (v7.1,y2.1.need.a,y2.1.need.b,y2.1.need.c))
def J7(y2:Job×l01Cur)(y3:Int×l01Cur)(v5:l01Cur×Int):Option (Job×l01Cur) :=
 bif y3.1==1 then((Z3 v5.1).bind λy6=>(Z8 y2 y3 v5) (y6.2,y6.1))else((Z8 y2 y3 v5) (v5.1,y2.1.nodes))
def Yk(c1:l01Cur):Option (Job×l01Cur) :=
 (Lf c1).bind λy2=>(X0 y2.2 16).bind λy3=>bif y3.1==0 then((Z3 y3.2).bind λy4=>(J7 y2 y3) (y4.2,y4.1))else((J7 y2 y3) (y3.2,y2.1.id))
set_option maxRecDepth 20000 in
theorem O0j{c1:l01Cur}{r:Job×l01Cur}(H:Yk c1=some r):ConD Tryz.prog Ov [.ptr 0 0] [(Y0 .rd c1).cells] [] (eJob r.1) [(Y0 .rd r.2).cells] [] []:=by
 refine JW [] W0l rfl (by kernel_rfl) ?_
 unfold Yk at H
 obtain⟨y2,h2,y3,h3,H⟩:=bB2 H
 refine wH [.u 6 (.cw Jj [2000000000] [] [(Y0 .rd c1).cells] [] [.ptr 0 0] _ _ _ _ _ (GEs.of [true] (by simp)) (by simp) (by simp) (by simp) (λ_=>Qu h2)),.u 8 (.cw V0 [2000000000] [] [(Y0 .rd y2.2).cells] [] [.ptr 0 0,iV 16] _ _ _ _ _ (GEs.of [true,false] (by simp)) (by simp) (by simp) (by simp) (λ_=>Z0 h3))] ?_
 refine J3 (r:=r) (J7 y2 y3) 0 (λv5:l01Cur×Int=>⟨[(0,.ptr 2000000000 0),(2,.ptr 2 0),(3,.ptr 3 0),(4,.int .i64 y3.1)],[],[(2000000000,(Y0 .rd v5.1).cells),(2,(eJob (Job.mk 0 0 0 (Vec.mk 0 0 0) (Vec.mk 0 0 0) 0 0)).cells),(3,(eJob (Job.mk v5.2 y2.1.prio y2.1.nodes y2.1.need y2.1.lic y2.1.wall y2.1.level)).cells)],[]⟩) (by kernel_rfl) (λv5 H=>?_) (λJ40=>?_)
 .unfold J7 at H
  refine wP ?_
  refine J3 (r:=r) (Z8 y2 y3 v5) 0 (λv7:l01Cur×Int=>⟨[(0,.ptr 2000000000 0),(2,.ptr 2 0),(3,.ptr 3 0),(4,.int .i64 y3.1)],[],[(2000000000,(Y0 .rd v7.1).cells),(2,(eJob (Job.mk 0 0 0 (Vec.mk 0 0 0) (Vec.mk 0 0 0) 0 0)).cells),(3,(eJob (Job.mk v5.2 y2.1.prio v7.2 y2.1.need y2.1.lic y2.1.wall y2.1.level)).cells)],[]⟩) (by kernel_rfl) (λv7 H=>?_) (λJ39=>?_)
  .unfold Z8 at H
   refine wP ?_
   refine J3 (r:=r) (Y8 y2 y3 v5 v7) 0 (λv9:l01Cur×Int×Int×Int=>⟨[(0,.ptr 2000000000 0),(2,.ptr 2 0),(3,.ptr 3 0),(4,.int .i64 y3.1)],[],[(2000000000,(Y0 .rd v9.1).cells),(2,(eJob (Job.mk 0 0 0 (Vec.mk 0 0 0) (Vec.mk 0 0 0) 0 0)).cells),(3,(eJob (Job.mk v5.2 y2.1.prio v7.2 (Vec.mk v9.2.1 v9.2.2.1 v9.2.2.2) y2.1.lic y2.1.wall y2.1.level)).cells)],[]⟩) (by kernel_rfl) (λv9 H=>?_) (λJ38=>?_)
   .unfold Y8 at H
    refine wP ?_
    refine J3 (r:=r) (X8 y2 y3 v5 v7 v9) 0 (λv11:l01Cur×Int=>⟨[(0,.ptr 2000000000 0),(2,.ptr 2 0),(3,.ptr 3 0),(4,.int .i64 y3.1)],[],[(2000000000,(Y0 .rd v11.1).cells),(2,(eJob (Job.mk 0 0 0 (Vec.mk 0 0 0) (Vec.mk 0 0 0) 0 0)).cells),(3,(eJob (Job.mk v5.2 y2.1.prio v7.2 (Vec.mk v9.2.1 v9.2.2.1 v9.2.2.2) y2.1.lic v11.2 y2.1.level)).cells)],[]⟩) (by kernel_rfl) (λv11 H=>?_) (λJ37=>?_)
    .unfold X8 at H
     refine wP ?_
     refine J3 (r:=r) (V8 y2 y3 v5 v7 v9 v11) 0 (λv13:l01Cur×Int=>⟨[(0,.ptr 2000000000 0),(2,.ptr 2 0),(3,.ptr 3 0),(4,.int .i64 y3.1)],[],[(2000000000,(Y0 .rd v13.1).cells),(2,(eJob (Job.mk 0 0 0 (Vec.mk 0 0 0) (Vec.mk 0 0 0) 0 0)).cells),(3,(eJob (Job.mk v5.2 y2.1.prio v7.2 (Vec.mk v9.2.1 v9.2.2.1 v9.2.2.2) y2.1.lic v11.2 v13.2)).cells)],[]⟩) (by kernel_rfl) (λv13 H=>?_) (λJ36=>?_)
     .unfold V8 at H
      refine wP ?_
      refine J3 (r:=r) (Vb y2 v5 v7 v9 v11 v13) 0 (λv15:l01Cur×Int=>⟨[(2,.ptr 2 0),(3,.ptr 3 0)],[],[(2000000000,(Y0 .rd v15.1).cells),(2,(eJob (Job.mk 0 0 0 (Vec.mk 0 0 0) (Vec.mk 0 0 0) 0 0)).cells),(3,(eJob (Job.mk v5.2 v15.2 v7.2 (Vec.mk v9.2.1 v9.2.2.1 v9.2.2.2) y2.1.lic v11.2 v13.2)).cells)],[]⟩) (by kernel_rfl) (λv15 H=>?_) (λJ35=>?_)
      .unfold Vb at H
       refine wP ?_
       replace H:=sI H;subst H
       exact W3 [(2,.d)] [(2,[]),(2000000000,[])] [] [] [] (by kernel_rfl)
      .refine M0 H ?_ ?_<;>intro H
       .obtain⟨y14,h14,H⟩:=bB H
        exact wH [.u 37 (.cw L3 [2000000000] [] [(Y0 .rd v13.1).cells] [] [.ptr 0 0] _ _ _ _ _ (GEs.of [true] (by simp)) (by simp) (by simp) (by simp) (λ_=>V3 h14))] (wT (J35 _ H))
       .refine wP ?_
        exact wT (J35 _ H)
     .refine M0 H ?_ ?_<;>intro H
      .obtain⟨y12,h12,H⟩:=bB H
       exact wH [.u 32 (.cw L3 [2000000000] [] [(Y0 .rd v11.1).cells] [] [.ptr 0 0] _ _ _ _ _ (GEs.of [true] (by simp)) (by simp) (by simp) (by simp) (λ_=>V3 h12))] (wT (J36 _ H))
      .refine wP ?_
       exact wT (J36 _ H)
    .refine M0 H ?_ ?_<;>intro H
     .obtain⟨y10,h10,H⟩:=bB H
      exact wH [.u 27 (.cw L3 [2000000000] [] [(Y0 .rd v9.1).cells] [] [.ptr 0 0] _ _ _ _ _ (GEs.of [true] (by simp)) (by simp) (by simp) (by simp) (λ_=>V3 h10))] (wT (J37 _ H))
     .refine wP ?_
      exact wT (J37 _ H)
   .refine M0 H ?_ ?_<;>intro H
    .obtain⟨y8,h8,H⟩:=bB H
     exact wH [.u 22 (.cw Qr [2000000000] [] [(Y0 .rd v7.1).cells] [] [.ptr 0 0] _ _ _ _ _ (GEs.of [true] (by simp)) (by simp) (by simp) (by simp) (λ_=>VK h8))] (wT (J38 _ H))
    .refine wP ?_
     exact wT (J38 _ H)
  .refine M0 H ?_ ?_<;>intro H
   .obtain⟨y6,h6,H⟩:=bB H
    exact wH [.u 17 (.cw L3 [2000000000] [] [(Y0 .rd v5.1).cells] [] [.ptr 0 0] _ _ _ _ _ (GEs.of [true] (by simp)) (by simp) (by simp) (by simp) (λ_=>V3 h6))] (wT (J39 _ H))
   .refine wP ?_
    exact wT (J39 _ H)
 .refine M0 H ?_ ?_<;>intro H
  .obtain⟨y4,h4,H⟩:=bB H
   exact wH [.u 12 (.cw L3 [2000000000] [] [(Y0 .rd y3.2).cells] [] [.ptr 0 0] _ _ _ _ _ (GEs.of [true] (by simp)) (by simp) (by simp) (by simp) (λ_=>V3 h4))] (wT (J40 _ H))
  .refine wP ?_
   exact wT (J40 _ H)
noncomputable def O0k:L :=
 lf Tryz.prog MU [] [(8,3)] [] [] [] [(6,[2],[],[0,2],2)] [63]
def Mh(y3:State×l01Cur)(v7:Job):Option (State×Job) :=
 some (y3.1,v7)
def Mk(code1:List Int):Option (State×Job) :=
 (W0M code1).bind λc2=>(Zs c2).bind λy3=>(Ox y3.2).bind λy4=>(X0 y4.2 12).bind λy5=>bif y5.1==0 then((Yk y5.2).bind λy6=>(Mh y3) y6.1)else((Mh y3) y4.1)
theorem M0j{code1:List Int}{r:State×Job}(H:Mk code1=some r):Snd Tryz.prog MU [rV 1 (code1.map eB)] (.tup [V2 .nw r.1,eJob r.2]) []:=by
 refine wS O0k [.c 2 11 true,.c 3 11 true] ?_
 unfold Mk at H
 obtain⟨c2,h2,y3,h3,y4,h4,H⟩:=bB3 H
 obtain⟨y5,h5,H⟩:=bB H
 refine wH [.u 8 (.bn W02 [rV 1 (code1.map eB)] [rV 1 (code1.map eB)] _ ((Y0 .rd c2).cells) (λ_=>by simp) (λ_=>by simp) (λ_=>W1t h2)),.u 10 (.cw VI [8] [] [(Y0 .rd c2).cells] [] [.ptr 0 0] _ _ _ _ _ (GEs.of [true] (by simp)) (by simp) (by simp) (by simp) (λ_=>X0t h3)),.u 12 (.cw JN [8] [] [(Y0 .rd y3.2).cells] [] [.ptr 0 0] _ _ _ _ _ (GEs.of [true] (by simp)) (by simp) (by simp) (by simp) (λ_=>J0A h4)),.u 14 (.cw V0 [8] [] [(Y0 .rd y4.2).cells] [] [.ptr 0 0,iV 12] _ _ _ _ _ (GEs.of [true,false] (by simp)) (by simp) (by simp) (by simp) (λ_=>Z0 h5))] ?_
 refine J3 (r:=r) (Mh y3) 0 (λv7:Job=>⟨[(2,.ptr 2 0),(3,.ptr 3 0),(5,.ptr 5 0),(6,.ptr 6 0)],[],[(2,[.nl,.nl,.nl,.int .i64 0,.int .i64 0,.int .i64 0,.int .i64 0,.int .i64 0,.nl,.nl,.nl]),(3,(eJob (Job.mk 0 0 0 (Vec.mk 0 0 0) (Vec.mk 0 0 0) 0 0)).cells),(5,(V2 .nw y3.1).cells),(6,(eJob v7).cells)],[]⟩) (by kernel_rfl) (λv7 H=>?_) (λJ11=>?_)
 .unfold Mh at H
  refine wP ?_
  replace H:=sI H;subst H
  exact wN [(2,.d),(3,.d)] [(2,[]),(3,[])] [] [] [] [⟨_,nw_I y3.1.topo.parents⟩,⟨_,L2 y3.1.topo.nodes⟩,⟨_,Mr y3.1.up⟩,⟨_,VC y3.1.queue⟩,⟨_,UE y3.1.runs⟩,⟨_,VY y3.1.ends⟩]
 .refine M0 H ?_ ?_<;>intro H
  .obtain⟨y6,h6,H⟩:=bB H
   exact wH [.u 17 (.cw Ov [8] [] [(Y0 .rd y5.2).cells] [] [.ptr 0 0] _ _ _ _ _ (GEs.of [true] (by simp)) (by simp) (by simp) (by simp) (λ_=>O0j h6))] (wT (J11 _ H))
  .refine wP ?_
   exact wT (J11 _ H)
end
section
structure CurP(c:l01Cur):Prop where
 i0:0<=c.i
 i1:c.i<=c.b.length
 len:c.b.length<=1048576
theorem U0q(a:Int):0<=bAnd .i64 a 255/\bAnd .i64 a 255<=255:=by
 have h:(BitVec.ofInt 64 a &&& BitVec.ofInt 64 255).toNat<=255:=by
  rw[BitVec.toNat_and]
  exact Nat.le_trans Nat.and_le_right (by decide)
 show 0<=IntKind.i64.wrap _/\IntKind.i64.wrap _<=255
 have e:((BitVec.ofInt IntKind.i64.bits a &&& BitVec.ofInt IntKind.i64.bits 255).toNat:Int)=((BitVec.ofInt 64 a &&& BitVec.ofInt 64 255).toNat:Int):=rfl
 rw[e,W1h (by omega) (by omega)]
 omega
theorem L08{α:Type}{l:List α}(h:l.length<=9223372036854775807):lenQ l=some ():=by simp[lenQ,h]
theorem Q1t{bs:List Int}(h:bs.length<=1048576):∃c,W0M bs=some c/\CurP c:=⟨⟨bs,0,newH bs⟩,by simp[W0M,h],by simp,by simp,h⟩
theorem MQ{c:l01Cur}(h:CurP c):∃r,V9 c=some r/\0<=r.1/\r.1<=255/\CurP r.2:=by
 unfold V9
 simp only[shrI,L08 (show c.b.length<=9223372036854775807 by have:=h.len;omega)]
 have h0:=h.i0;have h1:=h.i1;have h2:=h.len
 by_cases hlt:c.i<c.b.length
 .obtain⟨x,hx,_⟩:=Mb h0 hlt
  refine⟨_,by simp[hx,hlt,Qa];rfl,?_⟩
  simp
  refine⟨(U0q _).1,(U0q _).2,?_,?_,h2⟩<;>simp<;>rw[Q5 (by omega)]<;>omega
 .refine⟨_,by simp[hlt,Qa];rfl,?_⟩
  simp
  exact⟨(U0q _).1,(U0q _).2,h0,h1,h2⟩
theorem W8{c:l01Cur}{n:Int}(h:CurP c)(hn:n<=1000000000):∃r,X0 c n=some r/\0<=r.1/\r.1<=max 0 (n-1)/\CurP r.2:=by
 unfold X0
 by_cases h0:n<=0
 .exact⟨(0,c),by simp[h0],by simp,by simp;omega,h⟩
 have hne:¬ n=0:=by omega
 by_cases h256:n<=256
 .obtain⟨r,e,r0,r1,hc⟩:=MQ h
  have q0:=Int.tmod_nonneg n r0
  have q1:=Int.tmod_lt_of_pos r.1 (show 0<n by omega)
  exact⟨(r.1.tmod n,r.2),by simp[h0,h256,e,remI,hne],q0,by simp only;omega,hc⟩
 .obtain⟨a,ea,a0,a1,ha⟩:=MQ h
  obtain⟨b,eb,b0,b1,hb⟩:=MQ ha
  obtain⟨d,ed,d0,d1,hd⟩:=MQ hb
  obtain⟨e,ee,e0,e1,he⟩:=MQ hd
  have es:w64 ((w64 ((w64 ((w64 (a.1*16777216))+(w64 (b.1*65536))))+(w64 (d.1*256))))+e.1)=a.1*16777216+b.1*65536+d.1*256+e.1:=by
   rw[Q5 (n:=a.1*16777216) (by omega),Q5 (n:=b.1*65536) (by omega),Q5 (n:=d.1*256) (by omega),Q5 (n:=a.1*16777216+b.1*65536) (by omega),Q5 (n:=a.1*16777216+b.1*65536+d.1*256) (by omega),Q5 (by omega)]
  have q0:=Int.tmod_nonneg n (show 0<=a.1*16777216+b.1*65536+d.1*256+e.1 by omega)
  have q1:=Int.tmod_lt_of_pos (a.1*16777216+b.1*65536+d.1*256+e.1) (show 0<n by omega)
  exact⟨((a.1*16777216+b.1*65536+d.1*256+e.1).tmod n,e.2),by simp[h0,h256,ea,eb,ed,ee,es,remI,hne],q0,by simp only;omega,he⟩
theorem J0d{c:l01Cur}(h:CurP c):∃r,Z3 c=some r/\CurP r.2:=by
 unfold Z3
 obtain⟨y2,e2,_,_,h2⟩:=W8 h (n:=9) (by omega)
 obtain⟨y3,e3,_,_,h3⟩:=W8 h2 (n:=24) (by omega)
 obtain⟨y4,e4,_,_,h4⟩:=W8 h2 (n:=3) (by omega)
 obtain⟨y5,e5,_,_,h5⟩:=W8 h2 (n:=2) (by omega)
 obtain⟨y6,e6,_,_,h6⟩:=W8 h2 (n:=2000000) (by omega)
 simp only[e2,e3,e4,e5,e6,bS]
 cases decide (y2.1<4)<;>cases y2.1==4<;>cases y2.1==5<;>cases y2.1==6<;>cases y2.1==7<;>exact⟨_,rfl,by assumption⟩
theorem U1t{c:l01Cur}(h:CurP c):∃r,Oz c=some r/\CurP r.2:=by
 unfold Oz
 obtain⟨y2,e2,_,_,h2⟩:=W8 h (n:=9) (by omega)
 obtain⟨y3,e3,_,_,h3⟩:=W8 h2 (n:=17) (by omega)
 obtain⟨y4,e4,_,_,h4⟩:=W8 h3 (n:=3) (by omega)
 obtain⟨y5,e5,_,_,h5⟩:=W8 h4 (n:=14) (by omega)
 obtain⟨y6,e6,_,_,h6⟩:=W8 h5 (n:=2) (by omega)
 simp only[e2,e3,e4,e5,e6,bS,Vk]
 cases y5.1==0<;>exact⟨_,rfl,by assumption⟩
theorem O1t{c:l01Cur}(h:CurP c):∃r,Xg c=some r/\CurP r.2:=by
 unfold Xg
 obtain⟨y2,e2,h2⟩:=U1t h
 obtain⟨y3,e3,_,_,h3⟩:=W8 h2 (n:=12) (by omega)
 obtain⟨y4,e4,h4⟩:=J0d h3
 have j21:∀v5 v7:l01Cur×Int,CurP v7.1->∃r,Wd y2 y3 v5 v7=some r/\CurP r.2:=λv5 v7 hv=>by
  obtain⟨y8,e8,h8⟩:=J0d hv
  simp only[Wd,Ui,e8,bS]
  cases y3.1==2<;>exact⟨_,rfl,by assumption⟩
 have j22:∀v5:l01Cur×Int,CurP v5.1->∃r,Qd y2 y3 v5=some r/\CurP r.2:=λv5 hv=>by
  obtain⟨y6,e6,h6⟩:=J0d hv
  simp only[Qd,e6,bS]
  cases y3.1==1
  .exact j21 _ _ hv
  .exact j21 _ _ h6
 simp only[e2,e3,e4,bS]
 cases y3.1==0
 .exact j22 _ h3
 .exact j22 _ h4
def endOf(x:Run):Int:=w64 (x.t+x.job.wall)
def nextStep(v:Int)(x:Run):Int:=bif decide (v<0)||decide (endOf x<v)then endOf x else v
def OQ(s:State):Int:=s.runs.foldl nextStep (-1)
theorem Y0z(s:State):Uw s=some (OQ s):=by
 unfold Uw OQ
 rw[LI (f:=nextStep) (λx _ i b k=>by
  unfold WJ nextStep endOf
  cases(decide (b<0)||decide (w64 (x.t+x.job.wall)<b))<;>rfl)]
 rfl
theorem J1o:∀(l:List Run) (v:Int),l.foldl nextStep v=v\/∃x∈l,endOf x=l.foldl nextStep v
 |[],v=>.inl rfl
 |x::l,v=>by
  rw[List.foldl_cons]
  have step:nextStep v x=v\/nextStep v x=endOf x:=by
   unfold nextStep
   cases(decide (v<0)||decide (endOf x<v))with
   |true=>exact .inr rfl
   |false=>exact .inl rfl
  rcases J1o l (nextStep v x)with h|⟨y,hy,h⟩
  .rw[h]
   rcases step with e|e
   .exact .inl e
   .exact .inr ⟨x,yJ ..,e.symm⟩
  .exact .inr ⟨y,yH _ hy,h⟩
theorem W1d{s:State}(h:0<=OQ s):∃x∈s.runs,endOf x=OQ s:=by
 rcases J1o s.runs (-1)with e|e
 .unfold OQ at h;omega
 .exact e
def keepF(n:Int)(l:List Run):List Run:=l.filter λx=>!(endOf x==n)
def doneF(n:Int)(l:List Run):List End:=(l.filter λx=>endOf x==n).map λx=>End.mk x.job.id n 1
def endF(s:State)(n:Int):State:=State.mk s.topo s.up s.lic s.depth n s.queue (keepF n s.runs) (s.ends++doneF n s.runs)
theorem Y1x(v:State×Int)(k:List End×List Run->Option (State×Bool))(l:List Run):∀(i:Nat) (es:List End) (rs:List Run),es.length+l.length<=3000000->rs.length+l.length<=3000000 ->
  rgl (WG v) k l i (es,rs)=k (es++doneF v.2 l,rs++keepF v.2 l):=by
 induction l with
 |nil=>intro i es rs _ _;simp[rgl,doneF,keepF]
 |cons x l ih =>
  intro i es rs h1 h2
  simp only[yT]at h1 h2
  rw[rgl,WG]
  have e0:w64 (x.t+x.job.wall)=endOf x:=rfl
  simp only[e0]
  cases hx:(endOf x==v.2)with
  |true =>
   rw[yN,O0 (by simp;omega),bS,ih (i+1) _ _ (by simp;omega) (by omega)]
   simp[doneF,keepF,hx]
  |false =>
   rw[yM,O0 (by simp;omega),bS,ih (i+1) _ _ (by omega) (by simp;omega)]
   simp[doneF,keepF,hx]
theorem Z1J{n:Int}{l:List Run}{x:Run}(hx:x∈l)(he:endOf x=n):(keepF n l).length<l.length:=by
 unfold keepF
 refine Nat.lt_of_le_of_ne (List.length_filter_le ..) λe=>?_
 have:=List.length_filter_eq_length_iff.1 e x hx
 simp[he]at this
def badS:State×Bool:=(State.mk (Topo.mk [] []) [] (Vec.mk 0 0 0) 0 0 [] [] [],false)
def atT(s:State)(t:Int):State:=State.mk s.topo s.up s.lic s.depth t s.queue s.runs s.ends
theorem Z0Z(t:Int){s:State}(h:SmallS s)(k:State×Int->Option (State×Bool)):Us t (s,OQ s) k=bif decide (0<=OQ s)&&decide (OQ s<=t)then(bif decide (300<((endF s (OQ s)).ends.length:Int))then some badS else(U2 (endF s (OQ s))).bind λy=>k (y,OQ y))else some (atT s t,true):=by
 have h1:=h.jobs
 have h2:=h.ends
 unfold Us
 simp only
 rw[Y1x (s,OQ s) _ s.runs 0 s.ends [] (by omega) (by simp;omega)]
 unfold UV
 simp only[Y0z,bS]
 rfl
theorem Z1H(r:Room)(now:Int)(l:List Job)(d:Int):∃p,Qi r now l d=some p/\(p.1=[]\/(queueOk l=true/\HeldsOk (ordF l) p.1)):=by
 unfold Qi
 rw[MG,OP,bS]
 cases hr:roomOk r with
 |false=>exact⟨_,rfl,.inl rfl⟩
 |true =>
  simp only[yL,yM,bS,Bool.false_or]
  cases hq:queueOk l with
  |false=>exact⟨_,rfl,.inl rfl⟩
  |true =>
   simp only[yL,Bool.false_or]
   cases(((!M3 now)||decide (d<0))||decide (60<d))with
   |true=>exact⟨_,rfl,.inl rfl⟩
   |false =>
    simp only[yM,O13 hq,bS]
    obtain⟨p,h1,h2⟩:=Y1z (r:=r) (now:=now) (d:=d) (L:=ordF l) (by rw[(O0L l).length_eq];exact(Qb hq).1)
    exact⟨p,h1,.inr ⟨by simp,h2⟩⟩
theorem V1i(s:State)(hs:List Held):∀(i:Nat) (q:List Job) (rs:List Run),(hs.map Held.id).Nodup->(∀h∈hs,∃j∈q,j.id=h.id)->(q.map Job.id).Nodup->q.length+rs.length<=1048576 ->
  ∃q' new,(∀k,rgl (Va s) k hs i (q,rs)=k (q',rs++new)) /\
   (∀x∈new,x.t=s.now/\∃h∈hs,x.nodes=h.nodes)/\(q'++new.map Run.job).Perm q:=by
 induction hs with
 |nil=>intro i q rs _ _ _ _;exact⟨q,[],λk=>by simp[rgl],by simp,by simp⟩
 |cons h hs ih =>
  intro i q rs hn hm hq hl
  obtain⟨j,hj,hid⟩:=hm h (yJ ..)
  obtain⟨a,b,rfl⟩:=List.append_of_mem hj
  have hq2:(j.id::((a++b).map Job.id)).Nodup:=by
   have:((a++j::b).map Job.id).Perm ((j::(a++b)).map Job.id):=List.perm_middle.map _
   exact(this.nodup_iff.1 hq)
  rw[List.nodup_cons]at hq2
  have hab:∀x∈a++b,x.id≠h.id:=λx hx e=>hq2.1 (by rw[hid,← e];exact List.mem_map_of_mem hx)
  have ha:∀x∈a,x.id≠h.id:=λx hx=>hab x (List.mem_append_left _ hx)
  have hb:∀x∈b,x.id≠h.id:=λx hx=>hab x (List.mem_append_right _ hx)
  simp only[yU,yT]at hl
  rw[List.map_cons,List.nodup_cons]at hn
  obtain⟨q',new,h1,h3,h4⟩:=ih (i+1) (a++b) (rs++[Run.mk j s.now h.nodes]) hn.2 (λh' hh'=>by
   obtain⟨j',hj',hid'⟩:=hm h' (yH _ hh')
   have hne:j'.id≠j.id:=λe=>hn.1 (by rw[← hid,← e,hid'];exact List.mem_map_of_mem hh')
   rcases List.mem_append.1 hj' with q|q
   .exact⟨j',List.mem_append_left _ q,hid'⟩
   .rcases yX q with q|q
    .exact absurd (by rw[q]) hne
    .exact⟨j',List.mem_append_right _ q,hid'⟩) hq2.2 (by simp;omega)
  refine⟨q',Run.mk j s.now h.nodes::new,λk=>?_,λx hx=>?_,?_⟩
  .rw[rgl,Va]
   unfold Q8
   simp only
   rw[Z1E j b h.id hid a 0 ha,bS,U20 (by omega) hid ha hb,bS,O0 (by simp;omega),bS,h1 k]
   simp
  .rcases yX hx with rfl|hx
   .exact⟨rfl,h,yJ ..,rfl⟩
   .obtain⟨e1,h',hh',e2⟩:=h3 x hx
    exact⟨e1,h',yH _ hh',e2⟩
  .rw[List.map_cons]
   refine List.perm_middle.trans ?_
   exact(h4.cons j).trans List.perm_middle.symm
theorem L0Y{s:State}(hs:SmallS s):∃s' new,U2 s=some s'/\StartP s s' new:=by
 obtain⟨r,hr,_⟩:=Uk s
 obtain⟨p,p1,p3⟩:=Z1H r.1 s.now s.queue s.depth
 unfold U2
 rw[hr,bS,p1,bS]
 have key:(p.1.map Held.id).Nodup/\(∀h∈p.1,∃j∈s.queue,j.id=h.id)/\(∀h∈p.1,h.nodes.length<=24)/\(p.1=[]\/(s.queue.map Job.id).Nodup):=by
  rcases p3 with p3|⟨p3,p4⟩
  .rw[p3];exact⟨by simp,by simp,by simp,.inl rfl⟩
  .have hn:=(Qb p3).2.2
   have ho:((ordF s.queue).map Job.id).Nodup:=((O0L s.queue).map _).nodup_iff.2 hn
   refine⟨ho.sublist p4.sub,λh hh=>?_,p4.nodes,.inr hn⟩
   have:h.id∈(ordF s.queue).map Job.id:=p4.sub.subset (List.mem_map_of_mem hh)
   obtain⟨j,hj,e⟩:=yY this
   exact⟨j,(O0L s.queue).mem_iff.1 hj,e⟩
 obtain⟨k1,k2,k3,k4⟩:=key
 rcases k4 with k4|k4
 .rw[k4]
  exact⟨s,[],rfl,rfl,rfl,rfl,rfl,rfl,rfl,by simp,by simp,by simp⟩
 .obtain⟨q',new,h1,h3,h4⟩:=V1i s p.1 0 s.queue s.runs k1 k2 k4 hs.jobs
  rw[h1]
  exact⟨_,new,rfl,rfl,rfl,rfl,rfl,rfl,rfl,rfl,λx hx=>by
   obtain⟨e1,h,hh,e2⟩:=h3 x hx
   exact⟨e1,by rw[e2];exact k3 h hh⟩,h4⟩
structure DrS(n:Nat)(s:State):Prop where
 up:s.up.length<=100
 par:s.topo.parents.length<=100
 nodes:s.topo.nodes.length<=100
 jobs:s.queue.length+s.runs.length<=n
 ends:s.ends.length<=n
 run:∀x∈s.runs,x.nodes.length<=100
theorem DrS.small{n:Nat}{s:State}(h:DrS n s)(hn:n<=100000):SmallS s :=
  ⟨by have:=h.up;omega,by have:=h.par;omega,by have:=h.nodes;omega,by have:=h.jobs;omega,by have:=h.ends;omega,λx hx=>by have:=h.run x hx;omega⟩
theorem DrS.mono{n m:Nat}{s:State}(h:DrS n s)(hn:n<=m):DrS m s:=⟨h.up,h.par,h.nodes,by have:=h.jobs;omega,by have:=h.ends;omega,h.run⟩
theorem Lo(n:Nat):DrS n (State.mk (Topo.mk [] []) [] (Vec.mk 0 0 0) 0 0 [] [] []):=⟨by simp,by simp,by simp,by simp,by simp,by simp⟩
theorem L10{s:State}(h:stateOk s=true):DrS 300 s:=by
 have hP:=Xm h
 have hq:=(Qb hP.queue).1
 unfold allJobs at hq
 simp only[yU,List.length_map]at hq
 exact⟨by have:=hP.up;have:=hP.topo.nodes;omega,by have:=hP.topo.tree.le;omega,by have:=hP.topo.nodes;omega,by omega,by have:=hP.ends;omega,λx hx=>by
  obtain⟨h1,h2,_⟩:=hP.runs.job x hx
  have:=Zo.1 h1;omega⟩
theorem L0c{n:Nat}{s:State}(h:DrS n s)(hn:n<=100000):∃s',U2 s=some s'/\DrS n s':=by
 obtain⟨s',new,e,hT⟩:=L0Y (h.small hn)
 refine⟨s',e,by rw[hT.up];exact h.up,by rw[hT.topo];exact h.par,by rw[hT.topo];exact h.nodes,by rw[hT.len];exact h.jobs,by rw[hT.ends];exact h.ends,λx hx=>?_⟩
 rw[hT.runs]at hx
 rcases List.mem_append.1 hx with hx|hx
 .exact h.run x hx
 .have:=(hT.fresh x hx).2;omega
theorem Y1b(t:Int){n:Nat}(h300:300<=n)(hn:n<=100000):∀(m:Nat) (s:State) (f:Nat),DrS n s->s.queue.length+s.runs.length<=m->m<f->∃r,whl (Us t) f (s,OQ s)=some r/\DrS n r.1:=by
 intro m
 induction m with
 |zero =>
  intro s f hs hm hf
  obtain⟨f,rfl⟩:∃g,f=g+1:=⟨f-1,by omega⟩
  rw[whl,Z0Z t (hs.small hn)]
  cases hc:(decide (0<=OQ s)&&decide (OQ s<=t))with
  |false=>exact⟨_,rfl,hs.up,hs.par,hs.nodes,hs.jobs,hs.ends,hs.run⟩
  |true =>
   simp only[yD,yO]at hc
   obtain⟨x,hx,_⟩:=W1d hc.1
   have:=List.length_pos_of_mem hx
   omega
 |succ m ih =>
  intro s f hs hm hf
  obtain⟨f,rfl⟩:∃g,f=g+1:=⟨f-1,by omega⟩
  rw[whl,Z0Z t (hs.small hn)]
  cases hc:(decide (0<=OQ s)&&decide (OQ s<=t))with
  |false=>exact⟨_,rfl,hs.up,hs.par,hs.nodes,hs.jobs,hs.ends,hs.run⟩
  |true =>
   simp only[yD,yO]at hc
   obtain⟨x,hx,he⟩:=W1d hc.1
   have hk:=Z1J hx he
   simp only[yN]
   by_cases h3:300<((endF s (OQ s)).ends.length:Int)
   .rw[decide_eq_true h3];exact⟨_,rfl,Lo n⟩
   .rw[decide_eq_false h3]
    simp only[yM]
    have kl:(keepF (OQ s) s.runs).length<=s.runs.length:=List.length_filter_le ..
    have hE:DrS n (endF s (OQ s)):=⟨hs.up,hs.par,hs.nodes,by have:=hs.jobs;simp only[endF];omega,by omega,λx hx=>hs.run x (List.mem_filter.1 hx).1⟩
    obtain⟨s',e1,hS⟩:=L0c hE hn
    obtain⟨s'',new,e2,hT⟩:=L0Y (hE.small hn)
    rw[e1]at e2;cases e2
    rw[e1,bS]
    have hl:=hT.len
    have:(endF s (OQ s)).queue.length+(endF s (OQ s)).runs.length=s.queue.length+(keepF (OQ s) s.runs).length:=rfl
    exact ih s' f hS (by omega) (by omega)
theorem M1H{s:State}{n:Nat}(hs:DrS n s)(hn:n<=100000)(t:Int):∃r,JX s t=some r/\DrS 300 r.1:=by
 unfold JX
 rw[(Wf (hs.small hn).jobs).1,bS]
 cases hS:stateOk s with
 |false=>exact⟨_,rfl,Lo _⟩
 |true =>
  have hD:=L10 hS
  simp only[yL,Bool.false_or]
  cases(!M3 t)||decide (t<s.now)with
  |true=>exact⟨_,rfl,Lo _⟩
  |false =>
   rw[yM,Om (hs.small hn),bS,Y0z,bS]
   exact Y1b t (yV _) (by omega) (s.queue.length+s.runs.length) s _ hD (yV _) (by have:=hD.jobs;omega)
theorem M19(l:List Job)(id:Int):∃y,Q8 l id=some y:=by
 unfold Q8
 refine X7 (λ_ (_:Unit)=>True) (λo=>∃y,o=some y) (λi x b k hx hI hk=>?_) (λ_ _=>⟨_,rfl⟩) trivial
 unfold Oa
 cases x.id==id with
 |true=>exact⟨_,rfl⟩
 |false=>exact hk () trivial
theorem Y1F(s:State)(j:Job):∃b,Uy s j=some b:=by
 unfold Uy
 rw[L03,bS]
 generalize (bif topoOk s.topo&&decide (s.up.length=s.topo.nodes.length)&&Q0 s.lic then(Ut s.topo s.up s.lic,true)else Oh)=y
 refine X7 (λ_ (v:List Bool)=>v.length=y.1.up.length) (λo=>∃b,o=some b) (λi x v k hx hI hk=>?_) (λv _=>?_) rfl
 .have hi:=(yB hx).1
  unfold JC
  rw[Y7,yA (by omega),bS]
  exact hk _ (by simp[hI])
 .unfold LC
  rw[Wk]
  exact⟨_,rfl⟩
abbrev DrR(o:Option (State×Int)):Prop:=∃r,o=some r/\DrS 400 r.1
theorem V1b{s:State}{n:Nat}(hs:DrS n s)(hn:n<=100000)(j:Job):DrR (OD s j):=by
 unfold OD
 rw[(Wf (hs.small hn).jobs).1,bS]
 cases hS:stateOk s with
 |false=>exact⟨_,rfl,Lo _⟩
 |true =>
  have hD:=L10 hS
  simp only[yL,Bool.false_or]
  cases !X1 j with
  |true=>exact⟨_,rfl,Lo _⟩
  |false =>
   obtain⟨y,hy⟩:=M19 (allJobs s) j.id
   obtain⟨b,hb⟩:=Y1F s j
   rw[yM,Yy (hs.small hn).jobs,bS,hy,bS,hb]
   cases y.2 with
   |true=>exact⟨_,rfl,Lo _⟩
   |false =>
    cases decide (60<=((allJobs s).length:Int))with
    |true=>exact⟨_,rfl,Lo _⟩
    |false =>
     cases b with
     |false=>exact⟨_,rfl,Lo _⟩
     |true =>
      have:=hD.jobs
      simp only[yM,bS,yL,Om (hs.small hn)]
      rw[O0 (by simp;omega),bS]
      obtain⟨s',e,h'⟩:=L0c (n:=400) (s:=State.mk s.topo s.up s.lic s.depth s.now (s.queue++[j]) s.runs s.ends) ⟨hD.up,hD.par,hD.nodes,by simp;omega,by have:=hD.ends;simp only;omega,hD.run⟩ (by omega)
      rw[e]
      exact⟨_,rfl,h'⟩
theorem W1E{s:State}(_:s.queue.length<=361)(hr:s.runs.length<=300)(he:s.ends.length<=301)(why id node:Int):∃rs es,L8 s why id node=some (State.mk s.topo s.up s.lic s.depth s.now s.queue rs es)/\(∀x∈rs,x∈s.runs)/\rs.length<=s.runs.length/\es.length<=s.ends.length+s.runs.length:=by
  unfold L8
  refine X7 (λi (v:List End×List Run)=>(∀x∈v.2,x∈s.runs)/\v.2.length<=i/\v.1.length<=s.ends.length+i) (λ(o:Option State)=>∃rs es,o=some (State.mk s.topo s.up s.lic s.depth s.now s.queue rs es)/\(∀x∈rs,x∈s.runs)/\rs.length<=s.runs.length/\es.length<=s.ends.length+s.runs.length) (λi x v k hx hI hk=>?_) (λv hI=>⟨v.2,v.1,rfl,hI⟩) (by simp)
  have hi:=(yB hx).1
  obtain⟨h1,h2,h3⟩:=hI
  unfold Oj
  rw[U7]
  cases x.job.id==id<;>cases x.nodes.contains node<;>simp only[yN,yM,bS,Bool.or_self,Bool.or_true,Bool.true_or]<;>rw[O0 (by simp;omega),bS]<;>refine hk _ ⟨λy hy=>?_,by simp;omega,by simp;omega⟩
  all_goals first
    |exact h1 y hy
    | (rcases List.mem_append.1 hy with hy|hy
       · exact h1 y hy
       · rw[List.mem_singleton.1 hy];exact yE hx)
theorem V1I(l:List Job)(id:Int)(hl:l.length<=100000):∃l',Vm l id=some l'/\l'.length<=l.length:=by
 unfold Vm
 rw[V6 (bd:=Lx id) (bs:=88) (p:=λx=>x.id != id) (f:=λx=>x) (λx _ i b k=>rfl) (by simp;omega)]
 exact⟨_,rfl,by simp;exact List.length_filter_le ..⟩
theorem U1f{s:State}{n:Nat}(hs:DrS n s)(hn:n<=100000)(id why:Int):DrR (JD s id why):=by
 unfold JD
 rw[(Wf (hs.small hn).jobs).1,bS]
 cases hS:stateOk s with
 |false=>exact⟨_,rfl,Lo _⟩
 |true =>
  have hD:=L10 hS
  simp only[yL,Bool.false_or]
  cases(why != 2)&&(why != 3)with
  |true=>exact⟨_,rfl,Lo _⟩
  |false =>
   obtain⟨y,hy⟩:=M19 s.queue id
   obtain⟨z,hz⟩:=M19 (allJobs s) id
   rw[yM,hy,bS,Yy (hs.small hn).jobs,bS,hz,bS]
   cases(!z.2)||y.2&&why==2 with
   |true=>exact⟨_,rfl,Lo _⟩
   |false =>
    cases decide (300<=(s.ends.length:Int))with
    |true=>exact⟨_,rfl,Lo _⟩
    |false =>
     have d1:=hD.jobs;have d2:=hD.ends
     have j36:∀v:List Job×List End,v.1.length<=s.queue.length->v.2.length<=s.ends.length+1->DrR (Mi id why s v):=λv h1 h2=>by
      unfold Mi
      have hS:=Xm hS
      have hq:=(Qb hS.queue).1
      unfold allJobs at hq
      simp only[yU,List.length_map]at hq
      obtain⟨rs,es,e,q1,q2,q3⟩:=W1E (s:=State.mk s.topo s.up s.lic s.depth s.now v.1 s.runs v.2) (by simp only;omega) (by simp only;omega) (by simp only;omega) why id (-1)
      simp only at q1 q2 q3
      rw[e,bS]
      obtain⟨s',e',h'⟩:=L0c (n:=400) (s:=State.mk s.topo s.up s.lic s.depth s.now v.1 rs es) ⟨hD.up,hD.par,hD.nodes,by simp only;omega,by simp only;omega,λx hx=>hD.run x (q1 x hx)⟩ (by omega)
      simp only
      rw[e']
      exact⟨_,rfl,h'⟩
     simp only[yM,bS,Om (hs.small hn)]
     cases y.2 with
     |false=>exact j36 _ (yV _) (by simp)
     |true =>
      obtain⟨l',e,hl⟩:=V1I s.queue id (by omega)
      rw[yN,e,bS,O0 (by simp;omega),bS]
      exact j36 _ hl (by simp)
theorem X1y{s:State}{n:Nat}(hs:DrS n s)(hn:n<=100000)(k:Int):DrR (UP s k):=by
 unfold UP
 rw[(Wf (hs.small hn).jobs).1,bS]
 cases hS:stateOk s with
 |false=>exact⟨_,rfl,Lo _⟩
 |true =>
  have hD:=L10 hS
  have hu:=(Xm hS).up
  simp only[yL,yM]
  cases hk:O9 s k with
  |false=>exact⟨_,rfl,Lo _⟩
  |true =>
   unfold O9 at hk
   simp only[yD,yO]at hk
   obtain⟨x,ex,_⟩:=Mb (l:=s.up) hk.1 (by omega)
   simp only[yL,yM,ex,bS,Bool.false_or,Om (hs.small hn)]
   cases x with
   |true=>exact⟨_,rfl,Lo _⟩
   |false =>
    obtain⟨s',e',h'⟩:=L0c (n:=400) (s:=State.mk s.topo (s.up.set k.toNat true) s.lic s.depth s.now s.queue s.runs s.ends) ⟨by simp;exact hD.up,hD.par,hD.nodes,by have:=hD.jobs;simp only;omega,by have:=hD.ends;simp only;omega,hD.run⟩ (by omega)
    rw[yM,e']
    exact⟨_,rfl,h'⟩
theorem V1y{s:State}{n:Nat}(hs:DrS n s)(hn:n<=100000)(v:Vec):DrR (QP s v):=by
 unfold QP
 rw[(Wf (hs.small hn).jobs).1,bS]
 cases hS:stateOk s with
 |false=>exact⟨_,rfl,Lo _⟩
 |true =>
  have hD:=L10 hS
  simp only[yL,Bool.false_or]
  cases !Q0 v with
  |true=>exact⟨_,rfl,Lo _⟩
  |false =>
   obtain⟨q,hq,_⟩:=Uk (State.mk s.topo s.up v s.depth s.now s.queue s.runs s.ends)
   simp only[yM,Om (hs.small hn),bS,hq]
   cases q.2 with
   |false=>exact⟨_,rfl,Lo _⟩
   |true =>
    obtain⟨s',e',h'⟩:=L0c (n:=400) (s:=State.mk s.topo s.up v s.depth s.now s.queue s.runs s.ends) ⟨hD.up,hD.par,hD.nodes,by have:=hD.jobs;simp only;omega,by have:=hD.ends;simp only;omega,hD.run⟩ (by omega)
    simp only[yL,yM]
    rw[e']
    exact⟨_,rfl,h'⟩
theorem W1T{s:State}{n:Nat}(hs:DrS n s)(hn:n<=100000)(k:Int):DrR (M07 s k):=by
 unfold M07
 rw[(Wf (hs.small hn).jobs).1,bS]
 cases hS:stateOk s with
 |false=>exact⟨_,rfl,Lo _⟩
 |true =>
  have hD:=L10 hS
  have hP:=Xm hS
  have hu:=hP.up
  have hq:=(Qb hP.queue).1
  unfold allJobs at hq
  simp only[yU,List.length_map]at hq
  simp only[yL,yM]
  cases hk:O9 s k with
  |false=>exact⟨_,rfl,Lo _⟩
  |true =>
   unfold O9 at hk
   simp only[yD,yO]at hk
   obtain⟨x,ex,_⟩:=Mb (l:=s.up) hk.1 (by omega)
   simp only[yL,yM,ex,bS,Bool.false_or,Om (hs.small hn)]
   cases x with
   |false=>exact⟨_,rfl,Lo _⟩
   |true =>
    simp only[yL,yM]
    have d2:=hD.ends
    refine X7 (λi (v:List Job)=>v.length<=s.queue.length+i) (λ(o:Option (State×Int))=>DrR o) (λi x v k' hx hI hk'=>?_) (λv hI=>?_) (by simp)
    .have hi:=(yB hx).1
     unfold W00
     rw[U7,bS]
     cases x.nodes.contains k with
     |true=>rw[yN,O0 (by simp;omega),bS];exact hk' _ (by simp;omega)
     |false=>exact hk' _ (by omega)
    .unfold Q00
     obtain⟨rs,es,e,q1,q2,q3⟩:=W1E (s:=State.mk s.topo s.up s.lic s.depth s.now v s.runs s.ends) (by simp only;omega) (by simp only;omega) (by simp only;omega) 4 0 k
     simp only at q1 q2 q3
     rw[e,bS]
     simp only
     cases decide (300<(es.length:Int))with
     |true=>exact⟨_,rfl,Lo _⟩
     |false =>
      obtain⟨s',e',h'⟩:=L0c (n:=400) (s:=State.mk s.topo (s.up.set k.toNat false) s.lic s.depth s.now v rs es) ⟨by simp;exact hD.up,hD.par,hD.nodes,by simp only;omega,by simp only;omega,λx hx=>hD.run x (q1 x hx)⟩ (by omega)
      rw[yM,ex,bS,e']
      exact⟨_,rfl,h'⟩
def Dr{α:Type}(P:α->Prop)(o:Option (α×l01Cur)):Prop:=∃r,o=some r/\P r.1/\CurP r.2
theorem Dr.bind{α γ:Type}{P:α->Prop}{o:Option (α×l01Cur)}{f:α×l01Cur->Option γ}{Q:Option γ->Prop}(h:Dr P o)(k:∀r,P r.1->CurP r.2->Q (f r)):Q (o.bind f):=by
 obtain⟨r,rfl,h1,h2⟩:=h
 exact k r h1 h2
theorem O1{c:l01Cur}{n:Int}(h:CurP c)(hn:n<=1000000000:=by omega):Dr (λv=>0<=v/\v<=max 0 (n-1)) (X0 c n):=by
 obtain⟨r,e,h0,h1,h2⟩:=W8 h hn
 exact⟨r,e,⟨h0,h1⟩,h2⟩
theorem V08{c:l01Cur}(h:CurP c):Dr (λ_=>True) (Z3 c):=by
 obtain⟨r,e,h2⟩:=J0d h
 exact⟨r,e,trivial,h2⟩
theorem M1G{c:l01Cur}(h:CurP c):Dr (λ_=>True) (Xg c):=by
 obtain⟨r,e,h2⟩:=O1t h
 exact⟨r,e,trivial,h2⟩
theorem O1p{c:l01Cur}(h:CurP c):Dr (λ_=>True) (Lf c):=by
 unfold Lf
 refine(O1 h).bind λy2 _ h=>(O1 h).bind λy3 _ h=>(O1 h).bind λy4 _ h=>(O1 h).bind λy5 _ h=>(O1 h).bind λy6 _ h=>(O1 h).bind λy7 _ h=>?_
 have:∃n,quoI .i64 y7.1 3=some n:=⟨_,by simp[quoI];rfl⟩
 obtain⟨n8,e8⟩:=this
 rw[e8,bS]
 refine(O1 h).bind λy9 _ h=>(O1 h).bind λy10 _ h=>(O1 h).bind λy11 _ h=>?_
 cases y11.1==0 with
 |true=>exact(O1 h).bind λy12 _ h=>(O1 h).bind λy13 _ h=>⟨_,rfl,trivial,h⟩
 |false=>exact⟨_,rfl,trivial,h⟩
theorem UJ{α:Type}{b:Bool}{x y:α}{Q:α->Prop}(h1:Q x)(h2:Q y):Q (bif b then x else y):=by cases b<;>assumption
abbrev TopS(t:Topo):Prop:=1<=t.parents.length/\t.parents.length<=20/\t.nodes.length<=20
theorem X1w{c:l01Cur}(h:CurP c):Dr TopS (Xl c):=by
 unfold Xl
 refine(O1 h).bind λy2 h2 hc=>?_
 refine QO (λ_ (o:Option (Topo×l01Cur))=>Dr TopS o) (λv:l01Cur×Int×List Int×List Int=>(y2.1-v.2.1).toNat) (λv=>CurP v.1/\0<=v.2.1/\v.2.1<=max 0 y2.1/\1<=v.2.2.1.length/\v.2.2.1.length<=18/\1<=v.2.2.2.length/\v.2.2.2.length<=18) (λv k hI hk=>?_) _ _ ⟨hc,by simp only;omega,by simp only;omega,by simp,by simp,by simp,by simp⟩ (by simp only;omega)
 obtain⟨g1,g2,g3,g4,g5,g6,g7⟩:=hI
 unfold Vz
 by_cases hlt:v.2.1<y2.1
 .rw[decide_eq_true hlt,yN]
  refine X7 (λi (w:l01Cur×List Int×List Int)=>CurP w.1/\1<=w.2.1.length/\w.2.1.length<=18/\w.2.2.length<=w.2.1.length) (λ(o:Option (Topo×l01Cur))=>Dr TopS o) (λi x w k' hx hJ hk'=>?_) (λw hJ=>?_) ⟨g1,g4,g5,by simp⟩
  .obtain⟨j1,j2,j3,j4⟩:=hJ
   unfold Uz
   refine(O1 j1).bind λy6 h6 hc6=>?_
   refine QO (λ_ (o:Option (Topo×l01Cur))=>Dr TopS o) (λu:Int×List Int×List Int=>u.1.toNat) (λu=>u.1<=100/\1<=u.2.1.length/\u.2.1.length<=18/\u.2.2.length<=u.2.1.length) (λu k'' hU hk''=>?_) _ _ ⟨by rw[Q5 (by omega)];omega,j2,j3,j4⟩ (by simp only;rw[Q5 (by omega)];omega)
   obtain⟨u1,u2,u3,u4⟩:=hU
   unfold Qz
   by_cases hu:0<u.1/\(u.2.1.length:Int)<18
   .rw[show(decide (0<u.1)&&decide ((u.2.1.length:Int)<18))=true by(rw[yD,yO,yO];exact hu),yN,O0 (by simp;omega),bS,O0 (by simp;omega),bS]
    have ew:w64 (u.1-1)=u.1-1:=Q5 (by omega)
    exact hk'' _ ⟨by rw[ew];omega,by simp,by simp;omega,by simp;omega⟩ (by simp only;rw[ew];omega)
   .rw[show(decide (0<u.1)&&decide ((u.2.1.length:Int)<18))=false by(rw[Bool.eq_false_iff];intro q;rw[yD,yO,yO]at q;exact hu q),yM]
    exact hk' _ ⟨hc6,u2,u3,u4⟩
  .obtain⟨j1,j2,j3,j4⟩:=hJ
   unfold Zz
   have ew:w64 (v.2.1+1)=v.2.1+1:=Q5 (by omega)
   by_cases hl:0<(w.2.2.length:Int)
   .rw[decide_eq_true hl,yN]
    exact hk _ ⟨j1,by simp only;rw[ew];omega,by simp only;rw[ew];omega,j2,j3,by simp only;omega,by simp only;omega⟩ (by simp only;rw[ew];omega)
   .rw[decide_eq_false hl,yM]
    exact hk _ ⟨j1,by simp only;rw[ew];omega,by simp only;rw[ew];omega,j2,j3,g6,g7⟩ (by simp only;rw[ew];omega)
 .rw[decide_eq_false hlt,yM]
  refine(O1 g1).bind λy12 h12 hc12=>?_
  refine QO (λ_ (o:Option (Topo×l01Cur))=>Dr TopS o) (λu:l01Cur×Int×List Node=>u.2.1.toNat) (λu=>CurP u.1/\u.2.1<=10/\(u.2.2.length:Int)+max 0 u.2.1<=10) (λu k'' hU hk''=>?_) _ _ ⟨hc12,by simp only;rw[Q5 (by omega)];omega,by simp only;rw[Q5 (by omega)];simp;omega⟩ (by simp only;rw[Q5 (by omega)];omega)
  obtain⟨u1,u2,u3⟩:=hU
  unfold Xz
  by_cases hu:0<u.2.1
  .have ew:w64 (u.2.1-1)=u.2.1-1:=Q5 (by omega)
   rw[decide_eq_true hu,yN]
   refine(O1 u1).bind λy14 h14 hc14=>?_
   obtain⟨x,ex,_⟩:=Mb (l:=v.2.2.2) h14.1 (by omega)
   rw[ex,bS,Wm _ _ (by simp only;omega),bS]
   refine UJ (Q:=Dr TopS) ?_ ?_
   .refine(O1 hc14).bind λy18 _ h=>(O1 h).bind λy19 _ h=>(O1 h).bind λy20 _ h=>?_
    rw[O0 (by simp;omega),bS]
    exact hk'' _ ⟨h,by simp only;rw[ew];omega,by simp only;rw[ew];simp;omega⟩ (by simp only;rw[ew];omega)
   .exact hk'' _ ⟨hc14,by simp only;rw[ew];omega,by simp only;rw[ew];omega⟩ (by simp only;rw[ew];omega)
  .rw[decide_eq_false hu,yM]
   exact⟨_,rfl,⟨g4,by simp only;omega,by simp only;omega⟩,u1⟩
theorem X1i{t:Topo}(h:TopS t)(v:Vec)(d:Int):∃r,Lz t v d=some r/\DrS 400 r.1:=by
 unfold Lz
 refine X7 (λi (u:List Bool)=>u.length=i) (λo=>∃r:State×Bool,o=some r/\DrS 400 r.1) (λi x u k hx hI hk=>?_) (λu hI=>?_) rfl
 .have hi:=(yB hx).1
  unfold LD
  rw[O0 (by simp;omega),bS]
  exact hk _ (by simp[hI])
 .unfold MD
  have hD:DrS 400 (State.mk t u v d 0 [] [] []):=⟨by simp only;omega,by simp only;omega,by simp only;omega,by simp,by simp,by simp⟩
  rw[(Wf (by simp)).1,bS]
  cases stateOk (State.mk t u v d 0 [] [] [])with
  |false=>exact⟨_,rfl,Lo _⟩
  |true =>
   simp only[yL,yM,Om (hD.small (by omega)),bS]
   exact⟨_,rfl,hD⟩
theorem V21{c:l01Cur}(h:CurP c):Dr (DrS 400) (Jx c):=by
 unfold Jx
 refine(X1w h).bind λy2 h2 h=>(O1 h).bind λy3 _ h=>(O1 h).bind λy4 _ h=>(O1 h).bind λy5 _ h=>?_
 obtain⟨r,e,hr⟩:=X1i h2 (Vec.mk y3.1 y4.1 1) y5.1
 rw[e,bS]
 exact⟨_,rfl,hr,h⟩
theorem Wx{s s':State}{c:l01Cur}{n:Nat}(hs:DrS n s)(hs':DrS n s')(hc:CurP c)(b:Bool):Dr (DrS n) (bif b then(some (s,c))else(some (s',c))):=by
 cases b with
 |true=>exact⟨_,rfl,hs,hc⟩
 |false=>exact⟨_,rfl,hs',hc⟩
theorem M1P{c:l01Cur}{s:State}{n:Nat}(hn:400<=n)(hn':n<=100000)(hs:DrS n s)(h:CurP c):Dr (DrS n) (W9 c s):=by
 have hnn:=hs.nodes;have hjj:=hs.jobs
 unfold W9
 refine(O1 h).bind λy3 _ h3=>?_
 cases decide (y3.1<7)with
 |true =>
  refine(O1p h3).bind λy4 _ h=>?_
  obtain⟨r,e,hr⟩:=V1b hs hn' y4.1
  rw[e,bS]
  exact Wx hs (hr.mono hn) h _
 |false =>
 cases decide (y3.1<9)with
 |true =>
  refine(O1 h3).bind λy6 _ h=>?_
  obtain⟨r,e,hr⟩:=M1H hs hn' (w64 (s.now+y6.1))
  rw[e,bS]
  exact UJ (Q:=Dr (DrS n)) (Wx hs (hr.mono (by omega)) h _) (Wx hs hs h _)
 |false =>
 cases y3.1==9 with
 |true =>
  refine(O1 h3).bind λy8 _ h=>(O1 h).bind λy9 _ h=>?_
  obtain⟨r,e,hr⟩:=U1f hs hn' (w64 (1+y8.1)) (w64 (2+y9.1))
  rw[e,bS]
  exact Wx hs (hr.mono hn) h _
 |false =>
 cases y3.1==10 with
 |true =>
  rw[yN,L08 (by omega),bS]
  refine(O1 h3).bind λy12 _ h=>?_
  obtain⟨r,e,hr⟩:=W1T hs hn' y12.1
  rw[e,bS]
  exact Wx hs (hr.mono hn) h _
 |false =>
 cases y3.1==11 with
 |true =>
  rw[yN,L08 (by omega),bS]
  refine(O1 h3).bind λy15 _ h=>?_
  obtain⟨r,e,hr⟩:=X1y hs hn' y15.1
  rw[e,bS]
  exact Wx hs (hr.mono hn) h _
 |false =>
 cases y3.1==12 with
 |true =>
  refine(O1 h3).bind λy17 _ h=>(O1 h).bind λy18 _ h=>(O1 h).bind λy19 _ h=>?_
  obtain⟨r,e,hr⟩:=V1y hs hn' (Vec.mk y17.1 y18.1 y19.1)
  rw[e,bS]
  exact Wx hs (hr.mono hn) h _
 |false =>
 by_cases hl:0<(s.runs.length:Int)
 .simp only[yM]
  rw[decide_eq_true hl,yN]
  refine(O1 h3).bind λy22 h22 h=>?_
  obtain⟨x,ex,_⟩:=Mb (l:=s.runs) h22.1 (by omega)
  rw[ex,bS]
  refine(O1 h).bind λy24 _ h=>?_
  obtain⟨r,e,hr⟩:=U1f hs hn' x.job.id (w64 (2+y24.1))
  rw[e,bS]
  exact Wx hs (hr.mono hn) h _
 .simp only[yM]
  rw[decide_eq_false hl,yM]
  exact Wx hs hs h3 _
theorem X1t{c:l01Cur}(h:CurP c):Dr (DrS 400) (Ys c 14):=by
 unfold Ys
 refine(V21 h).bind λy3 h3 hc=>(O1 hc (by decide)).bind λy4 h4 hc=>?_
 have e15:w64 (14+1)=15:=by decide
 rw[e15]at h4
 refine QO (λ_ (o:Option (State×l01Cur))=>Dr (DrS 400) o) (λv:l01Cur×State×Int=>v.2.2.toNat) (λv=>CurP v.1/\DrS 400 v.2.1/\v.2.2<=14) (λv k hI hk=>?_) _ _ ⟨hc,h3,by simp only;omega⟩ (by simp only;omega)
 obtain⟨g1,g2,g3⟩:=hI
 unfold Vy
 by_cases hp:0<v.2.2
 .rw[decide_eq_true hp,yN]
  have ew:w64 (v.2.2-1)=v.2.2-1:=Q5 (by omega)
  refine(M1P (yV _) (by omega) g2 g1).bind λy6 h6 hc6=>hk _ ⟨hc6,h6,by simp only;rw[ew];omega⟩ (by simp only;rw[ew];omega)
 .rw[decide_eq_false hp]
  exact⟨_,rfl,g2,g1⟩
theorem J1P{c:l01Cur}(h:CurP c){t:Topo}(ht:t.nodes.length<=1000):Dr (λl:List Int=>l.length<=100) (Vs c t):=by
 unfold Vs
 refine(O1 h).bind λy3 h3 hc=>?_
 refine QO (λ_ (o:Option (List Int×l01Cur))=>Dr (λl:List Int=>l.length<=100) o) (λv:l01Cur×Int×List Int=>v.2.1.toNat) (λv=>CurP v.1/\v.2.1<=10/\(v.2.2.length:Int)+max 0 v.2.1<=10) (λv k hI hk=>?_) _ _ ⟨hc,by simp only;omega,by simp;omega⟩ (by simp only;omega)
 obtain⟨g1,g2,g3⟩:=hI
 unfold Ly
 by_cases hp:0<v.2.1
 .rw[decide_eq_true hp,yN]
  have ew:w64 (v.2.1-1)=v.2.1-1:=Q5 (by omega)
  refine(O1 g1).bind λy5 _ h=>?_
  rw[O0 (by simp;omega),bS]
  exact hk _ ⟨h,by simp only;rw[ew];omega,by simp only;rw[ew];simp;omega⟩ (by simp only;rw[ew];omega)
 .rw[decide_eq_false hp,yM]
  refine(O1 g1).bind λy8 _ h=>?_
  cases y8.1==0 with
  |true =>
   refine(V08 h).bind λy9 _ h=>?_
   rw[O0 (by simp;omega)]
   exact⟨_,rfl,by simp;omega,h⟩
  |false=>exact⟨_,rfl,by simp only;omega,h⟩
theorem V1v{c:l01Cur}(h:CurP c):Dr (λt:Topo=>t.parents.length<=100/\t.nodes.length<=100) (Wz c):=by
 unfold Wz
 refine(X1w h).bind λy2 h2 hc=>(O1 hc).bind λy3 _ hc=>?_
 obtain⟨t1,t2,t3⟩:=h2
 have j31:∀(v14:l01Cur×List Node) (v18:l01Cur×List Int),CurP v18.1->v14.2.length<=20->v18.2.length<=21->Dr (λt:Topo=>t.parents.length<=100/\t.nodes.length<=100) (Ud y3 v14 v18):=λv14 v18 hc h1 h2=>by
  unfold Ud Yi
  cases y3.1==4 with
  |true=>exact⟨_,rfl,⟨by simp,by simp only;omega⟩,hc⟩
  |false=>exact⟨_,rfl,⟨by simp only;omega,by simp only;omega⟩,hc⟩
 have j32:∀(v8:l01Cur×List Int) (v14:l01Cur×List Node),CurP v14.1->v14.2.length<=20->v8.2.length<=20->Dr (λt:Topo=>t.parents.length<=100/\t.nodes.length<=100) (Vd y3 v8 v14):=λv8 v14 hc h1 h2=>by
  unfold Vd
  cases y3.1==3 with
  |true =>
   rw[yN,L08 (by omega),bS]
   refine(O1 hc).bind λy16 _ h=>?_
   rw[O0 (by simp;omega),bS]
   exact j31 _ _ h h1 (by simp;omega)
  |false=>exact j31 _ _ hc h1 (by simp only;omega)
 have j33:∀(v8:l01Cur×List Int) (v11:l01Cur×List Node),CurP v11.1->v11.2.length<=20->v8.2.length<=20->Dr (λt:Topo=>t.parents.length<=100/\t.nodes.length<=100) (Xd y3 v8 v11):=λv8 v11 hc h1 h2=>by
  unfold Xd
  by_cases hq:(y3.1==2)=true/\0<(v11.2.length:Int)
  .rw[show((y3.1==2)&&decide (0<(v11.2.length:Int)))=true by simp[hq];omega,yN]
   refine(M1G hc).bind λy12 _ h=>?_
   obtain⟨x,ex,_⟩:=Mb (l:=v11.2) (i:=0) (by omega) hq.2
   rw[ex,bS]
   exact j32 _ _ h (by simp;omega) h2
  .rw[show((y3.1==2)&&decide (0<(v11.2.length:Int)))=false by rw[Bool.eq_false_iff];intro q;rw[yD,yO]at q;exact hq q,yM]
   exact j32 _ _ hc h1 h2
 have j34:∀(v8:l01Cur×List Int),CurP v8.1->v8.2.length<=20->Dr (λt:Topo=>t.parents.length<=100/\t.nodes.length<=100) (Yd y2 y3 v8):=λv8 hc h1=>by
  unfold Yd
  by_cases hq:(y3.1==1)=true/\0<(y2.1.nodes.length:Int)
  .rw[show((y3.1==1)&&decide (0<(y2.1.nodes.length:Int)))=true by simp[hq];omega,yN]
   refine(V08 hc).bind λy12 _ h=>?_
   obtain⟨x,ex,_⟩:=Mb (l:=y2.1.nodes) (i:=0) (by omega) hq.2
   rw[ex,bS]
   exact j33 _ _ h (by simp;omega) h1
  .rw[show((y3.1==1)&&decide (0<(y2.1.nodes.length:Int)))=false by rw[Bool.eq_false_iff];intro q;rw[yD,yO]at q;exact hq q,yM]
   exact j33 _ _ hc (by simp only;omega) h1
 cases y3.1==0 with
 |true =>
  rw[yN,L08 (by omega),bS]
  refine(O1 hc).bind λy5 h5 h=>(V08 h).bind λy6 _ h=>?_
  obtain⟨x,ex,_⟩:=Mb (l:=y2.1.parents) h5.1 (by omega)
  rw[ex,bS]
  exact j34 _ h (by simp;omega)
 |false=>exact j34 _ hc (by simp only;omega)
theorem ZS{b:Bool}{p:Prop}[Decidable p]:(b&&decide p)=true/\b=true/\p\/(b&&decide p)=false:=by
 cases b<;>by_cases hp:p<;>simp[hp]
theorem O1i{l:List Run}{n:Nat}(h:∀x∈l,x.nodes.length<=n){i:Nat}{y:Run}(hy:y.nodes.length<=n):∀x∈l.set i y,x.nodes.length<=n:=λx hx=>by
 rcases List.mem_or_eq_of_mem_set hx with hx|rfl
 .exact h x hx
 .exact hy
theorem O1U{c:l01Cur}(h:CurP c):Dr (DrS 500) (Qy c):=by
 unfold Qy
 refine(X1t h).bind λy2 h2 hc=>(O1 hc).bind λy3 _ hc=>?_
 have d1:=h2.up;have d2:=h2.par;have d3:=h2.nodes;have d4:=h2.jobs;have d5:=h2.ends;have d6:=h2.run
 have j56:∀(v5:l01Cur×Int) (v7:List Bool) (v9:l01Cur×Int×Int×Int) (v15:List Job) (v20:l01Cur×List End) (v25:List Run) (v27:l01Cur×Int),CurP v27.1->v7.length<=100->v15.length+v25.length<=500->v20.2.length<=500->(∀x∈v25,x.nodes.length<=100)->Dr (DrS 500) (Zd y2 y3 v5 v7 v9 v15 v20 v25 v27):=λv5 v7 v9 v15 v20 v25 v27 hc g1 g2 g3 g4=>by
  unfold Zd Lh
  cases y3.1==9 with
  |true=>exact(V1v hc).bind λy28 h28 h=>⟨_,rfl,⟨g1,h28.1,h28.2,g2,g3,g4⟩,h⟩
  |false=>exact⟨_,rfl,⟨g1,d2,d3,g2,g3,g4⟩,hc⟩
 have j57:∀(v5:l01Cur×Int) (v7:List Bool) (v9:l01Cur×Int×Int×Int) (v15:List Job) (v20:l01Cur×List End) (v23:l01Cur×List Run) (v25:List Run),CurP v23.1->v7.length<=100->v15.length+v25.length<=500->v20.2.length<=500->(∀x∈v25,x.nodes.length<=100)->Dr (DrS 500) (Jc y2 y3 v5 v7 v9 v15 v20 v23 v25):=λv5 v7 v9 v15 v20 v23 v25 hc g1 g2 g3 g4=>by
  unfold Jc
  cases y3.1==8 with
  |true=>exact(V08 hc).bind λy26 _ h=>j56 _ _ _ _ _ _ _ h g1 g2 g3 g4
  |false=>exact j56 _ _ _ _ _ _ _ hc g1 g2 g3 g4
 have j58:∀(v5:l01Cur×Int) (v7:List Bool) (v9:l01Cur×Int×Int×Int) (v15:List Job) (v20:l01Cur×List End) (v23:l01Cur×List Run),CurP v23.1->v7.length<=100->v15.length+v23.2.length<=500->v20.2.length<=500->(∀x∈v23.2,x.nodes.length<=100)->Dr (DrS 500) (Lc y2 y3 v5 v7 v9 v15 v20 v23):=λv5 v7 v9 v15 v20 v23 hc g1 g2 g3 g4=>by
  unfold Lc
  rcases ZS (b:=y3.1==7) (p:=0<(v23.2.length:Int))with⟨e,_,hp⟩|e<;>rw[e]
  .obtain⟨x,ex,hx⟩:=Mb (l:=v23.2) (i:=0) (by omega) hp
   rw[yN,ex,bS]
   exact j57 _ _ _ _ _ _ _ hc g1 (by simp;omega) g3 (O1i g4 (g4 x (yE hx)))
  .exact j57 _ _ _ _ _ _ _ hc g1 g2 g3 g4
 have j59:∀(v5:l01Cur×Int) (v7:List Bool) (v9:l01Cur×Int×Int×Int) (v12:l01Cur×List Run) (v15:List Job) (v20:l01Cur×List End),CurP v20.1->v7.length<=100->v15.length+v12.2.length<=500->v20.2.length<=500->(∀x∈v12.2,x.nodes.length<=100)->Dr (DrS 500) (Mc y2 y3 v5 v7 v9 v12 v15 v20):=λv5 v7 v9 v12 v15 v20 hc g1 g2 g3 g4=>by
  unfold Mc
  rcases ZS (b:=y3.1==6) (p:=0<(v12.2.length:Int))with⟨e,_,hp⟩|e<;>rw[e]
  .refine(J1P hc (by omega)).bind λy21 h21 h=>?_
   obtain⟨x,ex,hx⟩:=Mb (l:=v12.2) (i:=0) (by omega) hp
   rw[ex,bS]
   exact j58 _ _ _ _ _ _ h g1 (by simp;omega) g3 (O1i g4 h21)
  .exact j58 _ _ _ _ _ _ hc g1 g2 g3 g4
 have j60:∀(v5:l01Cur×Int) (v7:List Bool) (v9:l01Cur×Int×Int×Int) (v12:l01Cur×List Run) (v15:List Job),CurP v12.1->v7.length<=100->v15.length+v12.2.length<=500->(∀x∈v12.2,x.nodes.length<=100)->Dr (DrS 500) (Oc y2 y3 v5 v7 v9 v12 v15):=λv5 v7 v9 v12 v15 hc g1 g2 g4=>by
  unfold Oc
  cases y3.1==5 with
  |true =>
   refine(O1 hc).bind λy16 _ h=>(O1 h).bind λy17 _ h=>(O1 h).bind λy18 _ h=>?_
   rw[O0 (by simp;omega),bS]
   exact j59 _ _ _ _ _ _ h g1 g2 (by simp;omega) g4
  |false=>exact j59 _ _ _ _ _ _ hc g1 g2 (by simp only;omega) g4
 have j61:∀(v5:l01Cur×Int) (v7:List Bool) (v9:l01Cur×Int×Int×Int) (v12:l01Cur×List Run),CurP v12.1->v7.length<=100->y2.1.queue.length+v12.2.length<=400->(∀x∈v12.2,x.nodes.length<=100)->Dr (DrS 500) (Wc y2 y3 v5 v7 v9 v12):=λv5 v7 v9 v12 hc g1 g2 g4=>by
  unfold Wc
  rcases ZS (b:=y3.1==4) (p:=0<(v12.2.length:Int))with⟨e,_,hp⟩|e<;>rw[e]
  .obtain⟨x,ex,hx⟩:=Mb (l:=v12.2) (i:=0) (by omega) hp
   rw[yN,ex,bS,O0 (by simp;omega),bS]
   exact j60 _ _ _ _ _ hc g1 (by simp;omega) g4
  .exact j60 _ _ _ _ _ hc g1 (by omega) g4
 have j62:∀(v5:l01Cur×Int) (v7:List Bool) (v9:l01Cur×Int×Int×Int),CurP v9.1->v7.length<=100->Dr (DrS 500) (Qc y2 y3 v5 v7 v9):=λv5 v7 v9 hc g1=>by
  unfold Qc
  rcases ZS (b:=y3.1==3) (p:=0<(y2.1.runs.length:Int))with⟨e,_,hp⟩|e<;>rw[e]
  .refine(V08 hc).bind λy10 _ h=>?_
   obtain⟨x,ex,hx⟩:=Mb (l:=y2.1.runs) (i:=0) (by omega) hp
   rw[ex,bS]
   exact j61 _ _ _ _ h g1 (by simp;omega) (O1i d6 (d6 x (yE hx)))
  .exact j61 _ _ _ _ hc g1 (by simp only;omega) d6
 have j63:∀(v5:l01Cur×Int) (v7:List Bool),CurP v5.1->v7.length<=100->Dr (DrS 500) (Uc y2 y3 v5 v7):=λv5 v7 hc g1=>by
  unfold Uc
  cases y3.1==2 with
  |true=>exact(M1G hc).bind λy8 _ h=>j62 _ _ _ h g1
  |false=>exact j62 _ _ _ hc g1
 have j64:∀(v5:l01Cur×Int),CurP v5.1->Dr (DrS 500) (Vc y2 y3 v5):=λv5 hc=>by
  unfold Vc
  rcases ZS (b:=y3.1==1) (p:=0<(y2.1.up.length:Int))with⟨e,_,hp⟩|e<;>rw[e]
  .obtain⟨x,ex,hx⟩:=Mb (l:=y2.1.up) (i:=0) (by omega) hp
   rw[yN,ex,bS]
   exact j63 _ _ hc (by simp;omega)
  .exact j63 _ _ hc d1
 cases y3.1==0 with
 |true=>exact(V08 hc).bind λy4 _ h=>j64 _ h
 |false=>exact j64 _ hc
theorem Y1t{c:l01Cur}(h:CurP c):Dr (DrS 500) (Zs c):=by
 unfold Zs
 refine(O1U h).bind λy2 h2 hc=>(O1 hc).bind λy3 h3 hc=>?_
 refine QO (λ_ (o:Option (State×l01Cur))=>Dr (DrS 500) o) (λv:l01Cur×State×Int=>v.2.2.toNat) (λv=>CurP v.1/\DrS 500 v.2.1/\v.2.2<=10) (λv k hI hk=>?_) _ _ ⟨hc,h2,by simp only;omega⟩ (by simp only;omega)
 obtain⟨g1,g2,g3⟩:=hI
 have hend:Dr (DrS 500) ((X0 v.1 30).bind λy8=>bif y8.1==0 then(whl (Ml v y8) 9223372036854775807 [])else((Xa v y8) v.2.1.ends)):=by
  refine(O1 g1).bind λy8 _ h=>?_
  cases y8.1==0 with
  |true =>
   rw[yN]
   refine QO (λ_ (o:Option (State×l01Cur))=>Dr (DrS 500) o) (λu:List End=>(400-(u.length:Int)).toNat) (λu=>u.length<=299) (λu k' hU hk'=>?_) _ _ (by simp) (by simp only[List.length_nil];omega)
   unfold Ml Xa
   by_cases hl:(u.length:Int)<299
   .rw[decide_eq_true hl,yN,O0 (by simp;omega),bS]
    exact hk' _ (by simp;omega) (by simp;omega)
   .rw[decide_eq_false hl]
    exact⟨_,rfl,⟨g2.up,g2.par,g2.nodes,g2.jobs,by simp only;omega,g2.run⟩,h⟩
  |false=>exact⟨_,rfl,⟨g2.up,g2.par,g2.nodes,g2.jobs,g2.ends,g2.run⟩,h⟩
 unfold Mx
 by_cases hp:0<v.2.2
 .rw[decide_eq_true hp,yN,(Wf (g2.small (by omega)).jobs).1,bS]
  cases stateOk v.2.1 with
  |false=>exact hend
  |true =>
   have ew:w64 (v.2.2-1)=v.2.2-1:=Q5 (by omega)
   refine(O1p g1).bind λy6 _ h=>?_
   obtain⟨r,e,hr⟩:=V1b g2 (by omega) y6.1
   rw[e,bS]
   cases r.2==0 with
   |true=>exact hk _ ⟨h,hr.mono (by omega),by simp only;rw[ew];omega⟩ (by simp only;rw[ew];omega)
   |false=>exact hk _ ⟨h,g2,by simp only;rw[ew];omega⟩ (by simp only;rw[ew];omega)
 .rw[decide_eq_false hp,yM,bS,Bool.false_and,yM]
  exact hend
set_option maxRecDepth 20000
noncomputable def X0w:L :=
 lf Tryz.prog Mv [49] [] [] [] [(14,5),(23,6)] [(13,[],[],[2,4,6,10,12,14,16,1,9],9)] []
def JA(y3:State×Job)(x8:Int)(x16:Run)(_:Nat)(_:Unit)(k16:Unit->Option Bool):Option Bool :=
 bif (x16.job.id==x8)&&decide (y3.2.prio<=x16.job.prio)then(some false)else(k16 ())
def OA(k8:Unit->Option Bool)(_:Unit):Option Bool :=
 k8 ()
def MA(y3:State×Job)(y4:(List Int)×Bool)(x8:Int)(i8:Nat)(_:Unit)(k8:Unit->Option Bool):Option Bool :=
 (cutL y4.1 none (some (i8:Int))).bind λxs9=>(cutL y4.1 (some ((i8+1:Nat):Int)) none).bind λxs10=>(appL 8 ([]:List Int) xs9).bind λxs11=>(appL 8 xs11 xs10).bind λxs12=>(Xx y3.1 xs12).bind λy13=>(Qh y13 y3.2).bind λb14=>bif b14 then(some false)else(rgl (JA y3 x8) (OA k8) y3.1.runs 0 ())
def WA(y3:State×Job)(y4:(List Int)×Bool)(_:Unit):Option Bool :=
 (Xx y3.1 y4.1).bind λy17=>(Qh y17 y3.2).bind λb18=>some b18
def QH(code1:List Int):Option Bool :=
 bif decide (1048576<(code1.length:Int))then(some true)else((Mk code1).bind λy3=>(XJ y3.1 y3.2).bind λy4=>(MI y3.1 y3.2).bind λy5=>bif !(y4.2==y5.2)then(some false)else(bif !y4.2 then(some ((y4.1.length:Int)==0))else(rgl (MA y3 y4) (WA y3 y4) y4.1 0 ())))
theorem X0v{code1:List Int}{r:Bool}(H:QH code1=some r):Snd Tryz.prog Mv [rV 1 (code1.map eB)] (.bool r) []:=by
 refine wS X0w [.t 2] ?_
 unfold QH at H
 refine wG [.u 15 (.ln _ _ λ_=>lm code1 eB)] λq2=>?_
 refine M0 H ?_ ?_<;>intro H
 .obtain rfl:=sI H
  exact wP (wE [(2,.d)])
 .obtain⟨y3,h3,y4,h4,y5,h5,H⟩:=bB3 H
  refine wH [.c 19 (M0j h3),.u 25 (.call _ _ _ _ _ (AEs.of (xs:=[.agg [rV 1 (y3.1.topo.parents.map eI),rV 4 (y3.1.topo.nodes.map V1),rV 1 (y3.1.up.map eBo),iV y3.1.lic.a,iV y3.1.lic.b,iV y3.1.lic.c,iV y3.1.depth,iV y3.1.now,rV 11 (y3.1.queue.map eJob),rV 13 (y3.1.runs.map (Z1 .nw)),rV 3 (y3.1.ends.map eEnd)],.agg [iV y3.2.id,iV y3.2.prio,iV y3.2.nodes,iV y3.2.need.a,iV y3.2.need.b,iV y3.2.need.c,iV y3.2.lic.a,iV y3.2.lic.b,iV y3.2.lic.c,iV y3.2.wall,iV y3.2.level]]) (by simp)) (λ_=>Z0Q h4)),.u 31 (.call _ _ _ _ _ (AEs.of (xs:=[.agg [rV 1 (y3.1.topo.parents.map eI),rV 4 (y3.1.topo.nodes.map V1),rV 1 (y3.1.up.map eBo),iV y3.1.lic.a,iV y3.1.lic.b,iV y3.1.lic.c,iV y3.1.depth,iV y3.1.now,rV 11 (y3.1.queue.map eJob),rV 13 (y3.1.runs.map (Z1 .nw)),rV 3 (y3.1.ends.map eEnd)],.agg [iV y3.2.id,iV y3.2.prio,iV y3.2.nodes,iV y3.2.need.a,iV y3.2.need.b,iV y3.2.need.c,iV y3.2.lic.a,iV y3.2.lic.b,iV y3.2.lic.c,iV y3.2.wall,iV y3.2.level]]) (by simp)) (λ_=>X0K h5))] ?_
  refine M0 H ?_ ?_<;>intro H
  .obtain rfl:=sI H
   exact wP (wE [(2,.d)])
  .refine wP ?_
   refine M0 H ?_ ?_<;>intro H
   .refine wG [.u 40 (.ln _ _ λ_=>lm y4.1 eI)] λq6=>?_
    replace H:=sI H;subst H
    exact wE [(2,.d)]
   .refine wG [.u 43 (.ln _ _ λ_=>lm y4.1 eI)] λq7=>?_
    refine wR (λ(i8:Nat) (v8:Unit)=>⟨[(3,.ptr 3 0),(4,.ptr 4 0),(5,nV 1 (y4.1.map eI)),(42,nV 1 (y4.1.map eI)),(43,iV (y4.1.length:Int)),(44,iV (i8:Int))],[],[(3,(V2 .nw y3.1).cells),(4,(eJob y3.2).cells)],[]⟩) H (λi8 x8 v8 I m k8 hxv8 hiv8 H N69=>?_) (λv8 I m H=>?_)
    .unfold MA at H
     refine wP (wt (ltT hiv8) ?_)
     obtain⟨xs9,h9,xs10,h10,xs11,h11,H⟩:=bB3 H
     obtain⟨xs12,h12,y13,h13,b14,h14,H⟩:=bB3 H
     refine wH [.u 47 (.ix _ _ _ λ_=>W0 eI (Y1 hxv8)),.u 52 (.sc _ _ _ _ λ_=>Y02 eI h9),.w 56 (wi .i64 rfl hiv8 q7.1),.u 57 (.sc _ _ _ _ λ_=>Y02 eI h10),.u 53 (.ap _ _ _ _ λ_=>L0 eI h11),.u 58 (.ap _ _ _ _ λ_=>L0 eI h12),.u 61 (.call _ _ _ _ _ (AEs.of (xs:=[.agg [rV 1 (y3.1.topo.parents.map eI),rV 4 (y3.1.topo.nodes.map V1),rV 1 (y3.1.up.map eBo),iV y3.1.lic.a,iV y3.1.lic.b,iV y3.1.lic.c,iV y3.1.depth,iV y3.1.now,rV 11 (y3.1.queue.map eJob),rV 13 (y3.1.runs.map (Z1 .nw)),rV 3 (y3.1.ends.map eEnd)],rV 1 (xs12.map eI)]) (by simp)) (λ_=>Z09 h13)),.u 63 (.call _ _ _ _ _ (AEs.of (xs:=[.agg [rV 1 (y13.topo.parents.map eI),rV 4 (y13.topo.nodes.map V1),rV 1 (y13.up.map eBo),iV y13.lic.a,iV y13.lic.b,iV y13.lic.c,iV y13.depth,iV y13.now,rV 11 (y13.queue.map eJob),rV 13 (y13.runs.map (Z1 .nw)),rV 3 (y13.ends.map eEnd)],.agg [iV y3.2.id,iV y3.2.prio,iV y3.2.nodes,iV y3.2.need.a,iV y3.2.need.b,iV y3.2.need.c,iV y3.2.lic.a,iV y3.2.lic.b,iV y3.2.lic.c,iV y3.2.wall,iV y3.2.level]]) (by simp)) (λ_=>YI h14))] ?_
     refine M0 H ?_ ?_<;>intro H
     .obtain rfl:=sI H
      exact wP (wE [(2,.d)])
     .refine wG [.u 66 (.ln _ _ λ_=>lm y3.1.runs (Z1 .nw))] λq15=>?_
      refine wR (λ(i16:Nat) (v16:Unit)=>⟨[(3,.ptr 3 0),(4,.ptr 4 0),(5,nV 1 (y4.1.map eI)),(10,iV x8),(42,nV 1 (y4.1.map eI)),(43,iV (y4.1.length:Int)),(44,iV (i8:Int)),(65,nV 13 (y3.1.runs.map (Z1 .nw))),(66,iV (y3.1.runs.length:Int)),(67,iV (i16:Int))],[],[(3,(V2 .nw y3.1).cells),(4,(eJob y3.2).cells)],[]⟩) H (λi16 x16 v16 I m k16 hxv16 hiv16 H N58=>?_) (λv16 I m H=>?_)
      .unfold JA at H
       refine wP (wt (ltT hiv16) ?_)
       refine wH [.u 69 (.ix _ _ _ λ_=>W0 (Z1 .nw) (Y1 hxv16))] ?_
       refine M0 H ?_ ?_<;>intro H
       .obtain rfl:=sI H
        exact wP (wE [(2,.d)])
       .exact wH [.w 84 (wi .i64 rfl hiv16 q15.1)] (wT (N58 () H))
      .unfold OA at H
       refine wP (wf (ltF y3.1.runs.length) ?_)
       exact wH [.w 85 (wi .i64 rfl hiv8 q7.1)] (wT (N69 () H))
    .unfold WA at H
     refine wP (wf (ltF y4.1.length) ?_)
     obtain⟨y17,h17,b18,h18,H⟩:=bB2 H
     refine wH [.u 88 (.call _ _ _ _ _ (AEs.of (xs:=[.agg [rV 1 (y3.1.topo.parents.map eI),rV 4 (y3.1.topo.nodes.map V1),rV 1 (y3.1.up.map eBo),iV y3.1.lic.a,iV y3.1.lic.b,iV y3.1.lic.c,iV y3.1.depth,iV y3.1.now,rV 11 (y3.1.queue.map eJob),rV 13 (y3.1.runs.map (Z1 .nw)),rV 3 (y3.1.ends.map eEnd)],rV 1 (y4.1.map eI)]) (by simp)) (λ_=>Z09 h17)),.u 90 (.call _ _ _ _ _ (AEs.of (xs:=[.agg [rV 1 (y17.topo.parents.map eI),rV 4 (y17.topo.nodes.map V1),rV 1 (y17.up.map eBo),iV y17.lic.a,iV y17.lic.b,iV y17.lic.c,iV y17.depth,iV y17.now,rV 11 (y17.queue.map eJob),rV 13 (y17.runs.map (Z1 .nw)),rV 3 (y17.ends.map eEnd)],.agg [iV y3.2.id,iV y3.2.prio,iV y3.2.nodes,iV y3.2.need.a,iV y3.2.need.b,iV y3.2.need.c,iV y3.2.lic.a,iV y3.2.lic.b,iV y3.2.lic.c,iV y3.2.wall,iV y3.2.level]]) (by simp)) (λ_=>YI h18))] ?_
     replace H:=sI H;subst H
     exact wE [(2,.d)]
end
theorem U1i(s:State)(j:Job):∀(r v:List Int),(spL s j r v).Sublist v
 |[],v=>.refl v
 |x::r,v=>by
  rw[spL]
  refine(U1i s j r _).trans ?_
  split
  .exact List.filter_sublist
  .exact .refl v
theorem U1x(s:State)(j:Job):∀(r v:List Int),canB (woS s v) j=true->canB (woS s (spL s j r v)) j=true
 |[],_,h=>h
 |x::r,v,h=>by
  rw[spL]
  refine U1x s j r _ ?_
  split
  .assumption
  .exact h
theorem X1x{s:State}(hs:s.queue.length+s.runs.length<=1048576){j:Job}:∀(r v:List Int),∀x∈r,x∈spL s j r v->canB (woS s ((spL s j r v).filter λy=>y != x)) j=false
 |[],_,x,h,_=>by cases h
 |x::r,v,y,hy,hm=>by
  rw[spL]at hm ⊢
  rcases yX hy with rfl|hy
  .have hsub:=U1i s j r (if canB (woS s (v.filter λz=>z != y)) j=true then v.filter λz=>z != y else v)
   by_cases hc:canB (woS s (v.filter λz=>z != y)) j=true
   .rw[yd hc]at hsub hm
    have:=hsub.subset hm
    simp at this
   .rw[ye hc]at hsub hm ⊢
    rw[Bool.eq_false_iff]
    intro q
    exact hc (O1H hs (λz hz=>by
     obtain⟨z1,z2⟩:=List.mem_filter.1 hz
     exact List.mem_filter.2 ⟨hsub.subset z1,z2⟩) q)
  .exact X1x hs r _ y hy hm
theorem M1v{s:State}{j:Job}{x:Run}(h:x∈Y0m s j):x∈s.runs/\x.job.prio<j.prio:=by
 have hp:=(Z1b (s.runs.filter λx=>!decide (j.prio<=x.job.prio)) []).1
 rw[List.append_nil]at hp
 obtain⟨h1,h2⟩:=List.mem_filter.1 (hp.mem_iff.1 h)
 refine⟨h1,?_⟩
 simp at h2
 exact h2
theorem Q1l{s:State}(hs:s.queue.length+s.runs.length<=1048576)(j:Job):∃p:List Int×Bool,MI s j=some p/\XJ s j=some p/\p.1.length<=60/\(p.2=false->p.1=[]) /\
  (p.2=true->stateOk s=true/\∃t:List Int,p.1=spL s j t t/\t.Nodup/\canB (woS s t) j=true/\∀id∈t,∃x∈s.runs,x.job.id=id/\x.job.prio<j.prio):=by
 obtain⟨h1,h2⟩:=Wf hs
 obtain⟨y,hy1,hy2⟩:=V1W (allJobs s) j.id
 obtain⟨q,hq1,hq2⟩:=v_at (allJobs s) j.id
 unfold MI XJ
 rw[VZ,Yy hs,bS,hy1,bS,h1,h2,bS,bS,hy2]
 cases hok:stateOk s with
 |false=>exact⟨([],false),by simp,by simp,by simp,by simp,by simp⟩
 |true =>
 cases hj:X1 j with
 |false=>exact⟨([],false),by simp,by simp[Zr,hj],by simp,by simp,by simp⟩
 |true =>
 simp only[yL,Bool.false_or,Bool.or_self,yM,Zr,hj,bS,hq1,hq2]
 cases hk:vHas (allJobs s) j.id with
 |true=>exact⟨([],false),by simp,by simp,by simp,by simp,by simp⟩
 |false =>
 simp only[yM]
 have hP:=Xm hok
 have hS:=hP.small
 obtain⟨hn,hr⟩:=Z0d hP.queue
 have hW:=M1h hP.queue j
 have hWl:(Y0m s j).length<=60:=by
  have:=(Z1b (s.runs.filter λx=>!decide (j.prio<=x.job.prio)) []).1.length_eq
  have h2:=List.length_filter_le (λx:Run=>!decide (j.prio<=x.job.prio)) s.runs
  unfold Y0m
  rw[this];simp only[List.append_nil];omega
 have htl:=W1w s j (Y0m s j) []
 simp only[List.length_nil,Nat.zero_add]at htl
 rw[Q1b (by omega),bS,Z1x hs _ 0 [] (by simp;omega)]
 rw[Q0z hS,bS,Q0l (f:=λx=>decide (j.prio<=x.job.prio)) (λx=>by rw[Js]),bS,Q1x hP.queue j,bS,M1C hS (Y0m s j) (by omega) (Y0m s j) [] _ (by omega) (by simp) (by simp)]
 obtain⟨m,hm⟩:=Q1w s j (Y0m s j) []
 have hnd:(tkL s j (Y0m s j) []).Nodup:=by
  rw[hm,List.nil_append]
  exact hW.sublist (List.take_sublist _ _)
 have hids:∀id∈tkL s j (Y0m s j) [],∃x∈s.runs,x.job.id=id/\x.job.prio<j.prio:=by
  intro id hid
  rw[hm,List.nil_append]at hid
  obtain⟨x,hx,rfl⟩:=yY (List.mem_of_mem_take hid)
  obtain⟨w1,w2⟩:=M1v hx
  exact⟨x,w1,rfl,w2⟩
 generalize tkL s j (Y0m s j) []=t at htl hnd hids
 unfold Vf
 rw[WO (by omega),bS,(J0l (YT hs _) j).1,bS]
 cases hb:canB (woS s t) j with
 |false=>exact⟨([],false),by simp,by simp,by simp,by simp,by simp⟩
 |true =>
  simp only[yL,yM,yN]
  rw[O0 (by simp;omega),bS,List.nil_append,X1s hs t 0 t (by omega)]
  have:=Y1u (j:=j) hS t [] 9223372036854775807 (by omega) (by simp;omega) (by simpa using hnd)
  simp only[List.length_nil,List.nil_append,Int.natCast_zero]at this
  rw[this]
  exact⟨_,rfl,rfl,by have:=V1x s j t t;simp only;omega,(λh=>by cases h),λ_=>⟨trivial,t,rfl,hnd,hb,hids⟩⟩
theorem O1B{c:l01Cur}(h:CurP c):Dr (λ_=>True) (Ox c):=by
 unfold Ox
 refine(O1p h).bind λy2 _ h=>(O1 h).bind λy3 _ h=>(O1 h).bind λy4 _ h=>?_
 cases y4.1==0 with
 |true=>exact(O1 h).bind λy5 _ h=>⟨_,rfl,trivial,h⟩
 |false=>exact⟨_,rfl,trivial,h⟩
theorem W1e{c:l01Cur}(h:CurP c):Dr (λ_=>True) (Yk c):=by
 unfold Yk
 refine(O1p h).bind λy2 _ h=>(O1 h).bind λy3 _ h=>?_
 have s6:∀v5 v7 v9 v11 v13 v15,CurP v15.1->Dr (λ_=>True) (Vb y2 v5 v7 v9 v11 v13 v15):=λv5 v7 v9 v11 v13 v15 h=>⟨_,rfl,trivial,h⟩
 have s5:∀v5 v7 v9 v11 v13,CurP v13.1->Dr (λ_=>True) (V8 y2 y3 v5 v7 v9 v11 v13):=λv5 v7 v9 v11 v13 h=>by
  unfold V8
  exact UJ ((V08 h).bind λy _ h=>s6 _ _ _ _ _ _ h) (s6 _ _ _ _ _ _ h)
 have s4:∀v5 v7 v9 v11,CurP v11.1->Dr (λ_=>True) (X8 y2 y3 v5 v7 v9 v11):=λv5 v7 v9 v11 h=>by
  unfold X8
  exact UJ ((V08 h).bind λy _ h=>s5 _ _ _ _ _ h) (s5 _ _ _ _ _ h)
 have s3:∀v5 v7 v9,CurP v9.1->Dr (λ_=>True) (Y8 y2 y3 v5 v7 v9):=λv5 v7 v9 h=>by
  unfold Y8
  exact UJ ((V08 h).bind λy _ h=>s4 _ _ _ _ h) (s4 _ _ _ _ h)
 have s2:∀v5 v7,CurP v7.1->Dr (λ_=>True) (Z8 y2 y3 v5 v7):=λv5 v7 h=>by
  unfold Z8
  exact UJ ((M1G h).bind λy _ h=>s3 _ _ _ h) (s3 _ _ _ h)
 have s1:∀v5,CurP v5.1->Dr (λ_=>True) (J7 y2 y3 v5):=λv5 h=>by
  unfold J7
  exact UJ ((V08 h).bind λy _ h=>s2 _ _ h) (s2 _ _ h)
 exact UJ ((V08 h).bind λy _ h=>s1 _ h) (s1 _ h)
theorem Q0R{bs:List Int}(h:bs.length<=1048576):∃p:State×Job,Mk bs=some p/\DrS 500 p.1:=by
 unfold Mk
 obtain⟨c,ec,hc⟩:=Q1t h
 rw[ec,bS]
 obtain⟨y3,e3,h3,hc⟩:=Y1t hc
 rw[e3,bS]
 obtain⟨y4,e4,_,hc⟩:=O1B hc
 rw[e4,bS]
 obtain⟨y5,e5,_,hc⟩:=O1 hc (n:=12)
 rw[e5,bS]
 cases y5.1==0 with
 |true =>
  obtain⟨y6,e6,_,hc⟩:=W1e hc
  rw[yN,e6,bS]
  exact⟨_,rfl,h3⟩
 |false=>exact⟨_,rfl,h3⟩
theorem O0J{s:State}(hok:stateOk s=true)(hs:s.queue.length+s.runs.length<=1048576)(ids:List Int)(j:Job){γ:Type}(f:Bool->Option γ):((Xx s ids).bind λy=>(Qh y j).bind f)=f (canB (woS s ids) j):=by
 unfold Xx
 rw[(Wf hs).2,bS,hok,yL,yM,YB (Xm hok).small,bS,bS,(J0l (YT hs _) j).2,bS]
theorem V0Y(code:List Int):QH code=some true:=by
 unfold QH
 by_cases hl:1048576<code.length
 .rw[show decide ((1048576:Int)<(code.length:Int))=true by simp;omega];rfl
 rw[show decide ((1048576:Int)<(code.length:Int))=false by simp;omega,yM]
 obtain⟨⟨s,j⟩,e,hs⟩:=Q0R (bs:=code) (by omega)
 have hj:s.queue.length+s.runs.length<=1048576:=by have:=hs.jobs;simp only at this;omega
 obtain⟨⟨ids,ok⟩,v1,v2,v3,v4,v5⟩:=Q1l hj j
 rw[e,bS]
 dsimp only at v1 v2 v3 v4 v5 ⊢
 rw[v2,bS,v1,bS]
 dsimp only
 rw[beq_self_eq_true,yL,yM]
 cases ok with
 |false=>rw[v4 rfl];rfl
 |true =>
  obtain⟨hok,t,rfl,hnd,hc,hids⟩:=v5 rfl
  have hsub:=U1i s j t t
  have hnd2:=hnd.sublist hsub
  simp only[yL,yM]
  refine X7 (λ_ _=>True) (λ(o:Option Bool)=>o=some true) (λi x b k hx _ hk=>?_) (λb _=>?_) trivial
  .obtain⟨hi,rfl⟩:=yB hx
   unfold MA
   dsimp only
   have c1:cutL (spL s j t t) none (some (i:Int))=some ((spL s j t t).take i):=Y0J (by omega)
   have c2:cutL (spL s j t t) (some ((i+1:Nat):Int)) none=some ((spL s j t t).drop (i+1)):=by
    have:(0:Int)<=((i+1:Nat):Int)/\((i+1:Nat):Int)<=((spL s j t t).length:Int):=by omega
    simp only[cutL,bhi,blo,yd this,List.take_length,yZ]
   have e3:(spL s j t t).take i++(spL s j t t).drop (i+1)=(spL s j t t).filter λy=>y != (spL s j t t)[i]:=by
    have e4:spL s j t t=(spL s j t t).take i++(spL s j t t)[i]::(spL s j t t).drop (i+1):=by
     rw[← List.drop_eq_getElem_cons hi,List.take_append_drop]
    have:=O10 (kept:=(spL s j t t).take i) (r:=(spL s j t t).drop (i+1)) (x:=(spL s j t t)[i]) (by rw[← e4];exact hnd2)
    rw[← e4]at this
    exact this.symm
   rw[c1,bS,c2,bS,O0 (by simp;omega),bS,O0 (by simp;omega),bS,List.nil_append,e3,O0J hok hj,
    X1x hj t t _ (hsub.subset (List.getElem_mem hi)) (List.getElem_mem hi),yM]
   refine X7 (λ_ _=>True) (λ(o:Option Bool)=>o=some true) (λi2 x b k' hx2 _ hk'=>?_) (λb _=>?_) trivial
   .unfold JA
    dsimp only
    have:(x.job.id==(spL s j t t)[i]&&decide (j.prio<=x.job.prio))=false:=by
     rw[Bool.eq_false_iff]
     intro q
     rw[yD,beq_iff_eq,yO]at q
     obtain⟨y,hy,hy2,hy3⟩:=hids _ (hsub.subset (List.getElem_mem hi))
     have hxm:=yE hx2
     have hn:=(Z0d (Xm hok).queue).1
     have:x=y:=by
      obtain⟨a,ha,rfl⟩:=List.getElem_of_mem hxm
      obtain⟨b,hb,rfl⟩:=List.getElem_of_mem hy
      have hp:=List.pairwise_iff_getElem.1 hn
      have ea:(s.runs.map (·.job.id))[a]'(by simpa using ha)=(s.runs.map (·.job.id))[b]'(by simpa using hb):=by rw[List.getElem_map,List.getElem_map,q.1,hy2]
      rcases Nat.lt_trichotomy a b with h|h|h
      .exact absurd ea (hp a b (by simpa using ha) (by simpa using hb) h)
      .subst h;rfl
      .exact absurd ea.symm (hp b a (by simpa using hb) (by simpa using ha) h)
     subst this
     omega
    rw[this,yM]
    exact hk' () trivial
   .unfold OA
    exact hk () trivial
  .unfold WA
   dsimp only
   rw[O0J hok hj,U1x s j t t hc]
theorem J1K{a:AV}(h:(Ty.sl (.int .u8)).okV a):∃l:List Int,AV.wkA (λ_=>False) a (.sl .rd 1 (l.map eB)):=by
 simp only[Ty.okV,Ty.ok]at h
 rcases h with h|⟨es,h,_,h2⟩
 .exact⟨[],by rw[(List.cons.inj h).1];simp⟩
 .obtain⟨l,rfl⟩:=Z1T eB λx hx=>by
   obtain⟨_,h3,n,h4,_⟩:=h2 x hx
   simp only[Ty.isSt,yG,yc]at h3
   rw[L1g h3]at h4
   exact⟨n,(List.cons.inj h4).1⟩
  exact⟨l,by rw[(List.cons.inj h).1];simp[Ty.size]⟩
theorem U1h(xs:List AV)(h:okVs [.sl (.int .u8)] xs):Snd Tryz.prog Mv xs (.bool true) []:=by
 obtain⟨a,_,rfl,ha,rfl⟩:=h
 obtain⟨l,ha⟩:=J1K ha
 exact(X0v (V0Y l)).wk ⟨ha,trivial⟩
end Go.Proofs.YtpgaganbacipnaaGreat
