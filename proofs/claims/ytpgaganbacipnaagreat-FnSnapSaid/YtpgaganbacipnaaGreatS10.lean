/-
  Lemmas, part 10.
-/
import Derived.Test.YtpgaganbacipnaaGreatS9
namespace Go.Proofs.YtpgaganbacipnaaGreat
open Go Go.RowKit Eng
def M1m(cnt zs:List Int):Prop:=(∀z∈zs,0<=z/\z<(cnt.length:Int))/\cnt.length<=24/\(∀c∈cnt,0<=c/\c<=1000000)/\zs.length<4611686018427387904
instance(cnt zs:List Int):Decidable (M1m cnt zs):=by unfold M1m;infer_instance
noncomputable def M15:L :=
 lf Tryz.prog Y0f [] [] [] [] [] [] []
def JV(j1:Job):Option Bool :=
 bif ((((((decide (j1.id<1))||(decide (999<j1.id)))||(decide (j1.prio<0)))||(decide (999<j1.prio)))||(decide (j1.nodes<1)))||(decide (24<j1.nodes)))then(some false)else(some ((((((W0 j1.need)&&(W0 j1.lic))&&(decide (1<=j1.wall)))&&(decide (j1.wall<=1000000)))&&(decide (0<=j1.level)))&&(decide (j1.level<=24))))
theorem M0K{j1:Job}{r:Bool}(H:JV j1=some r):Snd Tryz.prog Y0f [eJob j1] (.bool r) []:=by
 refine wS M15 [.t 2] ?_
 unfold JV at H
 refine wP ?_
 refine O0 H (fun H=>?_) fun H=>?_
 .obtain rfl:=sI H
  exact wP (wE [(2,.d)])
 .refine wG [.c 33 (L5 j1.need),.g 37 [((W0 j1.need),true)] (.call _ _ _ _ _ (AEs.refl _) (fun _=>L5 j1.lic))] fun _=>?_
  replace H:=sI H;subst H
  exact wE [(2,.d)]
def U1(j1:Job):Bool :=
 bif ((((((decide (j1.id<1))||(decide (999<j1.id)))||(decide (j1.prio<0)))||(decide (999<j1.prio)))||(decide (j1.nodes<1)))||(decide (24<j1.nodes)))then(false)else(((((((W0 j1.need)&&(W0 j1.lic))&&(decide (1<=j1.wall)))&&(decide (j1.wall<=1000000)))&&(decide (0<=j1.level)))&&(decide (j1.level<=24))))
theorem X1a(j1:Job):JV j1=some (U1 j1):=by
 unfold JV U1
 first|rfl|simp only[O8]
theorem WP(j1:Job):Snd Tryz.prog Y0f [eJob j1] (.bool (U1 j1)) []:=M0K (X1a j1)
noncomputable def V0V:L :=
 lf Tryz.prog Q0s [] [] [] [] [] [] []
def ZS(x5:List Pt)(_:Nat)(_:Unit)(k5:Unit->Option Bool):Option Bool :=
 (Qc x5).bind fun b6=>bif (!b6)then(some false)else(k5 ())
def M0a(_:Unit):Option Bool :=
 some true
def Qp(r1:Room):Option Bool :=
 (Vj r1.topo).bind fun b2=>(bif (((!b2)||((r1.up.length:Int)!=(r1.topo.nodes.length:Int)))||((r1.profs.length:Int)!=(r1.topo.nodes.length:Int)))then some default else(Qc r1.lics)).bind fun b3=>bif ((((!b2)||((r1.up.length:Int)!=(r1.topo.nodes.length:Int)))||((r1.profs.length:Int)!=(r1.topo.nodes.length:Int)))||(!b3))then(some false)else(rgl ZS M0a r1.profs 0 ())
theorem VJ{r1:Room}{r:Bool}(H:Qp r1=some r):Snd Tryz.prog Q0s [Lo .rd r1] (.bool r) []:=by
 refine wS V0V [.t 2] ?_
 unfold Qp at H
 obtain⟨b2,h2,H⟩:=bB H
 obtain⟨b3,h3,H⟩:=bB H
 refine wG [.c 7 (WY h2),.g 12 [((!b2),false)] (.ln _ _ fun _=>lm r1.up eBo),.g 16 [((!b2),false)] (.ln _ _ fun _=>lm r1.topo.nodes V1),.g 22 [(((!b2)||((r1.up.length:Int)!=(r1.topo.nodes.length:Int))),false)] (.ln _ _ fun _=>lm r1.profs (Z3 .rd)),.g 26 [(((!b2)||((r1.up.length:Int)!=(r1.topo.nodes.length:Int))),false)] (.ln _ _ fun _=>lm r1.topo.nodes V1),.g 32 [(_,false)] (.call _ _ _ _ _ (AEs.refl _) (fun q=>QJ (bF q.1 h3)))] fun _=>?_
 refine O0 H (fun H=>?_) fun H=>?_
 .obtain rfl:=sI H
  exact wP (wE [(2,.d)])
 .refine wG [.u 37 (.ln _ _ fun _=>lm r1.profs (Z3 .rd))] fun q4=>?_
  refine wR (fun(i5:Nat) (v5:Unit)=>⟨[(36,rV 1 (r1.profs.map (Z3 .rd))),(37,iV (r1.profs.length:Int)),(38,iV (i5:Int))],[],[],[]⟩) H (fun i5 x5 v5 I m k5 hxv5 hiv5 H N27=>?_) (fun v5 I m H=>?_)
  .unfold ZS at H
   refine wP ?_
   refine wt (ltT hiv5) ?_
   obtain⟨b6,h6,H⟩:=bB H
   refine wG [.u 40 (.ix _ _ _ fun _=>V0 (Z3 .rd) (Z1 hxv5)),.c 43 (QJ h6)] fun _=>?_
   refine O0 H (fun H=>?_) fun H=>?_
   .obtain rfl:=sI H
    exact wP (wE [(2,.d)])
   .refine wG [.w 45 (wi .i64 rfl hiv5 q4.1)] fun _=>?_
    exact wT (N27 () H)
  .unfold M0a at H
   refine wP ?_
   refine wf (ltF r1.profs.length) ?_
   obtain rfl:=sI H
   exact wP (wE [(2,.d)])
noncomputable def J0F:L :=
 lf Tryz.prog X0f [13] [] [] [] [] [] []
def Xs(r1:Room)(need2:Vec)(from3 to4:Int)(x7:List Pt)(i7:Nat)(v7:(List Int))(k7:(List Int)->Option (List Int)):Option (List Int) :=
 (Lp x7 from3 to4).bind fun y8=>(bif y8.2 then(idx r1.up (i7:Int))else some default).bind fun e9=>bif ((y8.2&&e9)&&(Q5 need2 y8.1))then((appL 8 v7 [(i7:Int)]).bind fun xs10=>k7 xs10)else(k7 v7)
def M00(v7:(List Int)):Option (List Int) :=
 some v7
def XC(r1:Room)(need2:Vec)(from3 to4:Int):Option (List Int) :=
 (Qp r1).bind fun b5=>bif (!b5)then(some [])else(rgl (Xs r1 need2 from3 to4) M00 r1.profs 0 [])
theorem Q0D{r1:Room}{need2:Vec}{from3 to4:Int}{r:(List Int)}(H:XC r1 need2 from3 to4=some r):Snd Tryz.prog X0f [Lo .rd r1,eVec need2,iV from3,iV to4] (nV 1 (r.map eI)) []:=by
 refine wS J0F [.t 8] ?_
 unfold XC at H
 obtain⟨b5,h5,H⟩:=bB H
 refine wG [.c 15 (VJ h5)] fun _=>?_
 refine O0 H (fun H=>?_) fun H=>?_
 .refine wP ?_
  replace H:=sI H;subst H
  exact wN [(8,.f)] [] [] [13] [] [⟨_,nw_I ([]:List Int)⟩]
 .refine wG [.u 20 (.ln _ _ fun _=>lm r1.profs (Z3 .rd))] fun q6=>?_
  refine wR (fun(i7:Nat) (v7:(List Int))=>⟨[(2,iV from3),(3,iV to4),(4,.ptr 4 0),(5,.ptr 5 0),(9,.sref 13),(20,iV (r1.profs.length:Int)),(21,iV (i7:Int))],[],[(4,(Lo .rd r1).cells),(5,(eVec need2).cells)],[(13,⟨1,v7.map eI,false⟩)]⟩) H (fun i7 x7 v7 I m k7 hxv7 hiv7 H N28=>?_) (fun v7 I m H=>?_)
  .unfold Xs at H
   refine wP ?_
   refine wt (ltT hiv7) ?_
   obtain⟨y8,h8,H⟩:=bB H
   obtain⟨e9,h9,H⟩:=bB H
   refine wG [.u 28 (.ix _ _ _ fun _=>V0 (Z3 .rd) (Z1 hxv7)),.c 32 (WS h8),.g 40 [(_,true)] (.ix _ _ _ fun q=>V0 eBo (bT q.1 h9)),.g 46 [((y8.2&&e9),true)] (.call _ _ _ _ _ (AEs.refl _) (fun _=>MR need2 y8.1))] fun _=>?_
   refine O0 H (fun H=>?_) fun H=>?_
   .obtain⟨xs10,h10,H⟩:=bB H
    refine wG [.u 51 (.ap _ _ _ _ fun _=>L0 eI h10),.w 52 (wi .i64 rfl hiv7 q6.1)] fun _=>?_
    exact wT (N28 _ H)
   .refine wG [.w 52 (wi .i64 rfl hiv7 q6.1)] fun _=>?_
    exact wT (N28 _ H)
  .unfold M00 at H
   refine wP ?_
   refine wf (ltF r1.profs.length) ?_
   refine wP ?_
   replace H:=sI H;subst H
   exact wN [(8,.f)] [] [] [13] [] [⟨_,nw_I v7⟩]
noncomputable def X15:L :=
 lf Tryz.prog L0A [10] [] [] [] [(5,10)] [] []
def ZY(t1:Topo)(s3 x5:Int)(_:Nat)(v5:(List Int))(k5:(List Int)->Option (List Int)):Option (List Int) :=
 (idx t1.nodes x5).bind fun e6=>(Qy t1 e6.leaf).bind fun y7=>(Vc y7 s3).bind fun b8=>bif b8 then((appL 8 v5 [x5]).bind fun xs9=>k5 xs9)else(k5 v5)
def JX(v5:(List Int)):Option (List Int) :=
 some v5
def Zk(t1:Topo)(nodes2:List Int)(s3:Int):Option (List Int) :=
 rgl (ZY t1 s3) JX nodes2 0 []
theorem Qr{t1:Topo}{nodes2:List Int}{s3:Int}{r:(List Int)}(H:Zk t1 nodes2 s3=some r):Snd Tryz.prog L0A [U5 .rd t1,rV 1 (nodes2.map eI),iV s3] (nV 1 (r.map eI)) []:=by
 refine wS X15 [.t 6] ?_
 unfold Zk at H
 refine wG [.u 12 (.ln _ _ fun _=>lm nodes2 eI)] fun q4=>?_
 refine wR (fun(i5:Nat) (v5:(List Int))=>⟨[(2,iV s3),(3,.ptr 3 0),(7,.sref 10),(11,rV 1 (nodes2.map eI)),(12,iV (nodes2.length:Int)),(13,iV (i5:Int))],[],[(3,(U5 .rd t1).cells)],[(10,⟨1,v5.map eI,false⟩)]⟩) H (fun i5 x5 v5 I m k5 hxv5 hiv5 H N19=>?_) (fun v5 I m H=>?_)
 .unfold ZY at H
  refine wP ?_
  refine wt (ltT hiv5) ?_
  obtain⟨e6,h6,H⟩:=bB H
  obtain⟨y7,h7,H⟩:=bB H
  obtain⟨b8,h8,H⟩:=bB H
  refine wG [.u 15 (.ix _ _ _ fun _=>V0 eI (Z1 hxv5)),.u 21 (.ix _ _ _ fun _=>V0 V1 h6),.c 24 (Z0p h7),.c 26 (Xj h8)] fun _=>?_
  refine O0 H (fun H=>?_) fun H=>?_
  .obtain⟨xs9,h9,H⟩:=bB H
   refine wG [.u 30 (.ap _ _ _ _ fun _=>L0 eI h9),.w 31 (wi .i64 rfl hiv5 q4.1)] fun _=>?_
   exact wT (N19 _ H)
  .refine wG [.w 31 (wi .i64 rfl hiv5 q4.1)] fun _=>?_
   exact wT (N19 _ H)
 .unfold JX at H
  refine wP ?_
  refine wf (ltF nodes2.length) ?_
  refine wP ?_
  replace H:=sI H;subst H
  exact wN [(6,.f)] [] [] [10] [] [⟨_,nw_I v5⟩]
noncomputable def X0w:L :=
 lf Tryz.prog V08 [] [] [] [] [] [] []
def QA(t1:Topo)(nodes2:List Int)(n3 level4 _:Int)(i6:Nat)(v6:Int)(k6:Int->Option Int):Option Int :=
 (Zk t1 nodes2 (i6:Int)).bind fun y7=>(Ua t1 (i6:Int)).bind fun n8=>bif ((decide ((y7.length:Int)<n3))||(decide (level4<n8)))then(k6 v6)else((bif (decide (v6<0))then some default else(Ua t1 v6)).bind fun n10=>(bif ((decide (v6<0))||(decide (n8<n10)))then some default else(Ua t1 v6)).bind fun n11=>(bif ((decide (v6<0))||(decide (n8<n10)))then some default else(bif (n8==n11)then(Zk t1 nodes2 v6)else some default)).bind fun y12=>bif (((decide (v6<0))||(decide (n8<n10)))||((n8==n11)&&(decide ((y7.length:Int)<(y12.length:Int)))))then(k6 (i6:Int))else(k6 v6))
def MV(v6:Int):Option Int :=
 some v6
def Zu(t1:Topo)(nodes2:List Int)(n3 level4:Int):Option Int :=
 rgl (QA t1 nodes2 n3 level4) MV t1.parents 0 (-1)
theorem W0u{t1:Topo}{nodes2:List Int}{n3 level4 r:Int}(H:Zu t1 nodes2 n3 level4=some r):Snd Tryz.prog V08 [U5 .rd t1,rV 1 (nodes2.map eI),iV n3,iV level4] (iV r) []:=by
 refine wS X0w [.t 8] ?_
 unfold Zu at H
 refine wG [.u 15 (.ln _ _ fun _=>lm t1.parents eI)] fun q5=>?_
 refine wR (fun(i6:Nat) (v6:Int)=>⟨[(1,rV 1 (nodes2.map eI)),(2,iV n3),(3,iV level4),(4,.ptr 4 0),(9,iV v6),(15,iV (t1.parents.length:Int)),(16,iV (i6:Int))],[],[(4,(U5 .rd t1).cells)],[]⟩) H (fun i6 x6 v6 I m k6 hxv6 hiv6 H N29=>?_) (fun v6 I m H=>?_)
 .unfold QA at H
  refine wP ?_
  refine wt (ltT hiv6) ?_
  obtain⟨y7,h7,H⟩:=bB H
  obtain⟨n8,h8,H⟩:=bB H
  refine wG [.c 22 (Qr h7),.u 23 (.ln _ _ fun _=>lm y7 eI),.c 26 (Xc h8)] fun q9=>?_
  refine O0 H (fun H=>?_) fun H=>?_
  .refine wG [.w 61 (wi .i64 rfl hiv6 q5.1)] fun _=>?_
   exact wT (N29 _ H)
  .obtain⟨n10,h10,H⟩:=bB H
   obtain⟨n11,h11,H⟩:=bB H
   obtain⟨y12,h12,H⟩:=bB H
   refine wG [.g 41 [(_,false)] (.call _ _ _ _ _ (AEs.refl _) (fun q=>Xc (bF q.1 h10))),.g 48 [(_,false)] (.call _ _ _ _ _ (AEs.refl _) (fun q=>Xc (bF q.1 h11))),.g 55 [(_,true),(_,false)] (.call _ _ _ _ _ (AEs.refl _) (fun q=>Qr (bT q.1 (bF q.2.1 h12)))),.g 56 [((n8==n11),true),(((decide (v6<0))||(decide (n8<n10))),false)] (.ln _ _ fun _=>lm y12 eI)] fun _=>?_
   refine O0 H (fun H=>?_) fun H=>?_
   .refine wG [.w 61 (wi .i64 rfl hiv6 q5.1)] fun _=>?_
    exact wT (N29 _ H)
   .refine wG [.w 61 (wi .i64 rfl hiv6 q5.1)] fun _=>?_
    exact wT (N29 _ H)
 .unfold MV at H
  refine wP ?_
  refine wf (ltF t1.parents.length) ?_
  obtain rfl:=sI H
  exact wP (wE [(8,.d)])
noncomputable def O0N:L :=
 lf Tryz.prog X0l [] [] [] [] [] [] []
def Yw(t1:Topo)(nodes2 taken3:List Int)(_:Int)(i5:Nat)(v5:Int)(k5:Int->Option Int):Option Int :=
 (Zk t1 nodes2 (i5:Int)).bind fun y6=>(bif ((y6.length:Int)==0)then some default else(Ym t1 (i5:Int))).bind fun y7=>(bif (((y6.length:Int)==0)||(decide (0<(y7.length:Int))))then some default else(Vc taken3 (i5:Int))).bind fun b8=>bif ((((y6.length:Int)==0)||(decide (0<(y7.length:Int))))||b8)then(k5 v5)else((bif (decide (v5<0))then some default else(Zk t1 nodes2 v5)).bind fun y10=>bif ((decide (v5<0))||(decide ((y10.length:Int)<(y6.length:Int))))then(k5 (i5:Int))else(k5 v5))
def W06(v5:Int):Option Int :=
 some v5
def Zp(t1:Topo)(nodes2 taken3:List Int):Option Int :=
 rgl (Yw t1 nodes2 taken3) W06 t1.parents 0 (-1)
theorem W0K{t1:Topo}{nodes2 taken3:List Int}{r:Int}(H:Zp t1 nodes2 taken3=some r):Snd Tryz.prog X0l [U5 .rd t1,rV 1 (nodes2.map eI),rV 1 (taken3.map eI)] (iV r) []:=by
 refine wS O0N [.t 6] ?_
 unfold Zp at H
 refine wG [.u 12 (.ln _ _ fun _=>lm t1.parents eI)] fun q4=>?_
 refine wR (fun(i5:Nat) (v5:Int)=>⟨[(1,rV 1 (nodes2.map eI)),(2,rV 1 (taken3.map eI)),(3,.ptr 3 0),(7,iV v5),(12,iV (t1.parents.length:Int)),(13,iV (i5:Int))],[],[(3,(U5 .rd t1).cells)],[]⟩) H (fun i5 x5 v5 I m k5 hxv5 hiv5 H N27=>?_) (fun v5 I m H=>?_)
 .unfold Yw at H
  refine wP ?_
  refine wt (ltT hiv5) ?_
  obtain⟨y6,h6,H⟩:=bB H
  obtain⟨y7,h7,H⟩:=bB H
  obtain⟨b8,h8,H⟩:=bB H
  refine wG [.c 19 (Qr h6),.u 20 (.ln _ _ fun _=>lm y6 eI),.g 26 [(_,false)] (.call _ _ _ _ _ (AEs.refl _) (fun q=>JA (bF q.1 h7))),.g 27 [(((y6.length:Int)==0),false)] (.ln _ _ fun _=>lm y7 eI),.g 33 [(_,false)] (.call _ _ _ _ _ (AEs.refl _) (fun q=>Xj (bF q.1 h8)))] fun q9=>?_
  refine O0 H (fun H=>?_) fun H=>?_
  .refine wG [.w 47 (wi .i64 rfl hiv5 q4.1)] fun _=>?_
   exact wT (N27 _ H)
  .obtain⟨y10,h10,H⟩:=bB H
   refine wG [.g 42 [(_,false)] (.call _ _ _ _ _ (AEs.refl _) (fun q=>Qr (bF q.1 h10))),.g 43 [((decide (v5<0)),false)] (.ln _ _ fun _=>lm y10 eI)] fun _=>?_
   refine O0 H (fun H=>?_) fun H=>?_
   .refine wG [.w 47 (wi .i64 rfl hiv5 q4.1)] fun _=>?_
    exact wT (N27 _ H)
   .refine wG [.w 47 (wi .i64 rfl hiv5 q4.1)] fun _=>?_
    exact wT (N27 _ H)
 .unfold W06 at H
  refine wP ?_
  refine wf (ltF t1.parents.length) ?_
  obtain rfl:=sI H
  exact wP (wE [(6,.d)])
noncomputable def Q0N:L :=
 lf Tryz.prog Z0l [9] [] [] [] [] [] [15667,63]
def Zw(x4:Int)(k4:(Bool×(List Int))->Option (List Int))(v6:Bool×(List Int)):Option (List Int) :=
 (appL 8 v6.2 [x4]).bind fun xs7=>k4 (v6.1,xs7)
def Uh(v9:(List Int)):Option (List Int) :=
 some v9
def Yn(n2 x4:Int)(_:Nat)(v4:Bool×(List Int))(k4:(Bool×(List Int))->Option (List Int)):Option (List Int) :=
 bif ((!v4.1)&&(decide (n2<x4)))then((appL 8 v4.2 [n2]).bind fun xs5=>(Zw x4 k4) (true,xs5))else((Zw x4 k4) (v4.1,v4.2))
def Xh(n2:Int)(v4:Bool×(List Int)):Option (List Int) :=
 bif (!v4.1)then((appL 8 v4.2 [n2]).bind fun xs8=>Uh xs8)else(Uh v4.2)
def Yy(l1:List Int)(n2:Int):Option (List Int) :=
 rgl (Yn n2) (Xh n2) l1 0 (false,[])
theorem Y0a{l1:List Int}{n2:Int}{r:(List Int)}(H:Yy l1 n2=some r):Snd Tryz.prog Z0l [rV 1 (l1.map eI),iV n2] (nV 1 (r.map eI)) []:=by
 refine wS Q0N [.t 4] ?_
 unfold Yy at H
 refine wG [.u 11 (.ln _ _ fun _=>lm l1 eI)] fun q3=>?_
 refine wR (fun(i4:Nat) (v4:Bool×(List Int))=>⟨[(1,iV n2),(5,.sref 9),(6,.bool v4.1),(10,rV 1 (l1.map eI)),(11,iV (l1.length:Int)),(12,iV (i4:Int))],[],[],[(9,⟨1,v4.2.map eI,false⟩)]⟩) H (fun i4 x4 v4 I m k4 hxv4 hiv4 H N24=>?_) (fun v4 I m H=>?_)
 .unfold Yn at H
  refine wP ?_
  refine wt (ltT hiv4) ?_
  refine wG [.u 14 (.ix _ _ _ fun _=>V0 eI (Z1 hxv4))] fun _=>?_
  refine Q6 (r:=r) (Zw x4 k4) 0 (fun v6:Bool×(List Int)=>⟨[(1,.int .i64 n2),(5,.sref 9),(6,.bool v6.1),(8,.int .i64 x4),(10,.sl .rd 1 (l1.map eI)),(11,.int .i64 (l1.length:Int)),(12,.int .i64 (i4:Int))],[],[],[(9,⟨1,v6.2.map eI,false⟩)]⟩) (by kernel_rfl) (fun v6 H=>?_) (fun J16=>?_)
  .unfold Zw at H
   obtain⟨xs7,h7,H⟩:=bB H
   refine wG [.u 30 (.ap _ _ _ _ fun _=>L0 eI h7),.w 31 (wi .i64 rfl hiv4 q3.1)] fun _=>?_
   exact wT (N24 _ H)
  .refine O0 H (fun H=>?_) fun H=>?_
   .obtain⟨xs5,h5,H⟩:=bB H
    refine wG [.u 26 (.ap _ _ _ _ fun _=>L0 eI h5)] fun _=>?_
    exact wT (J16 _ H)
   .refine wP ?_
    exact wT (J16 _ H)
 .unfold Xh at H
  refine wP ?_
  refine wf (ltF l1.length) ?_
  refine wP ?_
  refine Q6 (r:=r) Uh 0 (fun v9:(List Int)=>⟨[(5,.sref 9)],[],[],[(9,⟨1,v9.map eI,false⟩)]⟩) (by kernel_rfl) (fun v9 H=>?_) (fun J34=>?_)
  .unfold Uh at H
   refine wP ?_
   replace H:=sI H;subst H
   exact wN [(4,.f)] [] [] [9] [] [⟨_,nw_I v9⟩]
  .refine O0 H (fun H=>?_) fun H=>?_
   .obtain⟨xs8,h8,H⟩:=bB H
    refine wG [.u 37 (.ap _ _ _ _ fun _=>L0 eI h8)] fun _=>?_
    exact wT (J34 _ H)
   .refine wP ?_
    exact wT (J34 _ H)
noncomputable def J0V:L :=
 lf Tryz.prog Y0t [57,58] [] [] [] [(6,14)] [] []
def VC(n3 x17:Int)(_:Nat)(v17:(List Int))(k17:(List Int)->Option ((List Int)×Bool)):Option ((List Int)×Bool) :=
 bif (decide ((v17.length:Int)<n3))then((Yy v17 x17).bind fun y19=>k17 y19)else(k17 v17)
def OS(k11:((List Int)×(List Int))->Option ((List Int)×Bool))(xs14:List Int)(v17:(List Int)):Option ((List Int)×Bool) :=
 k11 (v17,xs14)
def Yq(t1:Topo)(n3:Int)(y10:(List Int))(v11:(List Int)×(List Int))(k11:((List Int)×(List Int))->Option ((List Int)×Bool)):Option ((List Int)×Bool) :=
 bif (decide ((v11.1.length:Int)<n3))then((Zp t1 y10 v11.2).bind fun n13=>(appL 8 v11.2 [n13]).bind fun xs14=>(Zk t1 y10 n13).bind fun y15=>rgl (VC n3) (OS k11 xs14) y15 0 v11.1)else(some (v11.1,true))
def JS(nodes2:List Int)(x7:Int)(i7:Nat)(_:Unit)(k7:Unit->Option ((List Int)×Bool)):Option ((List Int)×Bool) :=
 (bif (decide (0<(i7:Int)))then(idx nodes2 (w64 ((i7:Int)-1)))else some default).bind fun e8=>bif ((decide (0<(i7:Int)))&&(decide (x7<=e8)))then(some ([],false))else(k7 ())
def MS(t1:Topo)(nodes2:List Int)(n3 level4:Int)(_:Unit):Option ((List Int)×Bool) :=
 (Zu t1 nodes2 n3 level4).bind fun n9=>bif (decide (n9<0))then(some ([],false))else((Zk t1 nodes2 n9).bind fun y10=>whl (Yq t1 n3 y10) 9223372036854775807 ([],[]))
def ZT(t1:Topo)(nodes2:List Int)(n3 level4:Int):Option ((List Int)×Bool) :=
 (Zi t1 nodes2).bind fun b5=>bif ((!b5)||(decide (n3<1)))then(some ([],false))else(rgl (JS nodes2) (MS t1 nodes2 n3 level4) nodes2 0 ())
theorem W0T{t1:Topo}{nodes2:List Int}{n3 level4:Int}{r:(List Int)×Bool}(H:ZT t1 nodes2 n3 level4=some r):Snd Tryz.prog Y0t [U5 .rd t1,rV 1 (nodes2.map eI),iV n3,iV level4] (.tup [nV 1 (r.1.map eI),.bool r.2]) []:=by
 refine wS J0V [.t 8,.t 9] ?_
 unfold ZT at H
 obtain⟨b5,h5,H⟩:=bB H
 refine wG [.c 20 (XM h5)] fun _=>?_
 refine O0 H (fun H=>?_) fun H=>?_
 .refine wP ?_
  replace H:=sI H;subst H
  exact wN [(8,.n 1),(9,.d)] [] [] [] [] [⟨_,nw_I ([]:List Int)⟩]
 .refine wG [.u 27 (.ln _ _ fun _=>lm nodes2 eI)] fun q6=>?_
  refine wR (fun(i7:Nat) (v7:Unit)=>⟨[(1,rV 1 (nodes2.map eI)),(2,iV n3),(3,iV level4),(4,.ptr 4 0),(27,iV (nodes2.length:Int)),(28,iV (i7:Int))],[],[(4,(U5 .rd t1).cells)],[]⟩) H (fun i7 x7 v7 I m k7 hxv7 hiv7 H N27=>?_) (fun v7 I m H=>?_)
  .unfold JS at H
   refine wP ?_
   refine wt (ltT hiv7) ?_
   obtain⟨e8,h8,H⟩:=bB H
   refine wG [.g 37 [(_,true)] (.ix _ _ _ fun q=>V0 eI (bT q.1 h8)),.g 41 [((decide (0<(i7:Int))),true)] (.ix _ _ _ fun _=>V0 eI (Z1 hxv7))] fun _=>?_
   refine O0 H (fun H=>?_) fun H=>?_
   .refine wP ?_
    replace H:=sI H;subst H
    exact wN [(8,.n 1),(9,.d)] [] [] [] [] [⟨_,nw_I ([]:List Int)⟩]
   .refine wG [.w 45 (wi .i64 rfl hiv7 q6.1)] fun _=>?_
    exact wT (N27 () H)
  .unfold MS at H
   refine wP ?_
   refine wf (ltF nodes2.length) ?_
   obtain⟨n9,h9,H⟩:=bB H
   refine wG [.c 50 (W0u h9)] fun _=>?_
   refine O0 H (fun H=>?_) fun H=>?_
   .refine wP ?_
    replace H:=sI H;subst H
    exact wN [(8,.n 1),(9,.d)] [] [] [] [] [⟨_,nw_I ([]:List Int)⟩]
   .obtain⟨y10,h10,H⟩:=bB H
    refine wG [.c 56 (Qr h10)] fun _=>?_
    refine O1o (fun(v11:(List Int)×(List Int))=>⟨[(2,.int .i64 n3),(4,.ptr 4 0),(12,.sl .nw 1 (y10.map eI)),(13,.sl .nw 1 (v11.1.map eI)),(14,.sref 58)],[],[(4,(U5 .rd t1).cells)],[(58,⟨1,v11.2.map eI,false⟩)]⟩) [(13,.f)] [] [] [57] (by kernel_rfl) (by kernel_rfl) H (fun v11 I m k11 H N72=>?_)
    unfold Yq at H
    refine wG [.u 60 (.ln _ _ fun _=>lm v11.1 eI)] fun q12=>?_
    refine O0 H (fun H=>?_) fun H=>?_
    .obtain⟨n13,h13,H⟩:=bB H
     obtain⟨xs14,h14,H⟩:=bB H
     obtain⟨y15,h15,H⟩:=bB H
     refine wG [.c 66 (W0K h13),.u 70 (.ap _ _ _ _ fun _=>L0 eI h14),.c 74 (Qr h15),.u 75 (.ln _ _ fun _=>lm y15 eI)] fun q16=>?_
     refine wR (fun(i17:Nat) (v17:(List Int))=>⟨[(2,iV n3),(4,.ptr 4 0),(12,nV 1 (y10.map eI)),(13,nV 1 (v17.map eI)),(14,.sref 58),(74,nV 1 (y15.map eI)),(75,iV (y15.length:Int)),(76,iV (i17:Int))],[],[(4,(U5 .rd t1).cells)],[(58,⟨1,xs14.map eI,false⟩)]⟩) H (fun i17 x17 v17 I m k17 hxv17 hiv17 H N65=>?_) (fun v17 I m H=>?_)
     .unfold VC at H
      refine wP ?_
      refine wt (ltT hiv17) ?_
      refine wG [.u 78 (.ix _ _ _ fun _=>V0 eI (Z1 hxv17)),.u 81 (.ln _ _ fun _=>lm v17 eI)] fun q18=>?_
      refine O0 H (fun H=>?_) fun H=>?_
      .obtain⟨y19,h19,H⟩:=bB H
       refine wG [.c 86 (Y0a h19),.w 87 (wi .i64 rfl hiv17 q16.1)] fun _=>?_
       exact wT (N65 _ H)
      .refine wG [.w 87 (wi .i64 rfl hiv17 q16.1)] fun _=>?_
       exact wT (N65 _ H)
     .unfold OS at H
      refine wP ?_
      refine wf (ltF y15.length) ?_
      refine wP ?_
      exact wT (N72 _ H)
    .refine wP ?_
     replace H:=sI H;subst H
     exact wN [(8,.d),(9,.d)] [] [] [] [] [⟨_,nw_I v11.1⟩]
noncomputable def J0E:L :=
 lf Tryz.prog W0e [11,12] [] [] [20] [] [(2,[],[],[2,4,8,10,12,18,1,7,15,17],10)] []
def Ur(from2:Int)(x8:Pt)(_:Nat)(v8:(List Int))(k8:(List Int)->Option (List Int)):Option (List Int) :=
 (bif (decide (from2<x8.t))then(Vc v8 x8.t)else some default).bind fun b9=>bif ((decide (from2<x8.t))&&(!b9))then((Yy v8 x8.t).bind fun y10=>k8 y10)else(k8 v8)
def ZG(k6:(List Int)->Option (List Int))(v8:(List Int)):Option (List Int) :=
 k6 v8
def Vr(from2:Int)(x6:List Pt)(_:Nat)(v6:(List Int))(k6:(List Int)->Option (List Int)):Option (List Int) :=
 rgl (Ur from2) (ZG k6) x6 0 v6
def JF(v6:(List Int)):Option (List Int) :=
 some v6
def UA(r1:Room)(from2:Int):Option (List Int) :=
 (appL 24 ([]:List (List Pt)) r1.profs).bind fun xs3=>(appL 24 xs3 [r1.lics]).bind fun xs4=>(lenQ xs4).bind fun _=>rgl (Vr from2) JF xs4 0 [from2]
theorem U0C{r1:Room}{from2:Int}{r:(List Int)}(H:UA r1 from2=some r):Snd Tryz.prog W0e [Lo .rd r1,iV from2] (nV 1 (r.map eI)) []:=by
 refine wS J0E [.t 4] ?_
 unfold UA at H
 obtain⟨xs3,h3,H⟩:=bB H
 obtain⟨xs4,h4,H⟩:=bB H
 obtain⟨u5,h5,H⟩:=bB H
 refine wG [.u 15 (.ap _ _ _ _ fun _=>L0 (Z3 .rd) h3),.u 19 (.ap _ _ _ _ fun _=>L0 (Z3 .rd) h4),.u 20 (.le _ _ (fun _=>lm xs4 (Z3 .rd)) (fun _=>OT h5))] fun _=>?_
 refine X08 (fun(i6:Nat) (v6:(List Int))=>⟨[(1,.int .i64 from2),(5,.sl .nw 1 (v6.map eI)),(19,.sref 12),(20,.int .i64 (xs4.length:Int)),(21,.int .i64 (i6:Int))],[],[],[(12,⟨1,xs4.map (Z3 .rd),false⟩)]⟩) [(5,.f)] [] [] [11] (by kernel_rfl) (by kernel_rfl) H (fun i6 x6 v6 I m k6 hxv6 hiv6 H N34=>?_) (fun v6 I m H=>?_)
 .unfold Vr at H
  refine wP ?_
  refine wt (ltT hiv6) ?_
  refine wG [.u 23 (.ix _ _ _ fun _=>V0 (Z3 .rd) (Z1 hxv6)),.u 24 (.el _ _ _ fun _=>gm (Z3 .rd) (Q7 (Z1 hxv6))),.u 27 (.ln _ _ fun _=>lm x6 ePt)] fun q7=>?_
  refine wR (fun(i8:Nat) (v8:(List Int))=>⟨[(1,iV from2),(5,nV 1 (v8.map eI)),(19,.sref 12),(20,iV (xs4.length:Int)),(21,iV (i6:Int)),(26,rV 4 (x6.map ePt)),(27,iV (x6.length:Int)),(28,iV (i8:Int))],[],[],[(12,⟨1,xs4.map (Z3 .rd),false⟩)]⟩) H (fun i8 x8 v8 I m k8 hxv8 hiv8 H N25=>?_) (fun v8 I m H=>?_)
  .unfold Ur at H
   refine wP ?_
   refine wt (ltT hiv8) ?_
   obtain⟨b9,h9,H⟩:=bB H
   refine wG [.u 30 (.ix _ _ _ fun _=>V0 ePt (Z1 hxv8)),.g 40 [(_,true)] (.call _ _ _ _ _ (AEs.refl _) (fun q=>Xj (bT q.1 h9)))] fun _=>?_
   refine O0 H (fun H=>?_) fun H=>?_
   .obtain⟨y10,h10,H⟩:=bB H
    refine wG [.c 46 (Y0a h10),.w 47 (wi .i64 rfl hiv8 q7.1)] fun _=>?_
    exact wT (N25 _ H)
   .refine wG [.w 47 (wi .i64 rfl hiv8 q7.1)] fun _=>?_
    exact wT (N25 _ H)
  .unfold ZG at H
   refine wP ?_
   refine wf (ltF x6.length) ?_
   refine wG [.w 48 (wi .i64 rfl hiv6 (OT h5))] fun _=>?_
   exact wT (N34 _ H)
 .unfold JF at H
  refine wP ?_
  refine wf (ltF xs4.length) ?_
  refine wP ?_
  replace H:=sI H;subst H
  exact wN [(4,.d)] [] [] [] [] [⟨_,nw_I v6⟩]
noncomputable def Q0U:L :=
 lf Tryz.prog Y0s [] [] [] [] [(4,20)] [] []
def WR(r1:Room)(j2:Job)(t3:Int):Option ((List Int)×Bool) :=
 (Lp r1.lics t3 (w64 (t3+j2.wall))).bind fun y4=>bif ((!y4.2)||(!(Q5 j2.lic y4.1)))then(some ([],false))else((XC r1 j2.need t3 (w64 (t3+j2.wall))).bind fun y5=>(ZT r1.topo y5 j2.nodes j2.level).bind fun y6=>some (y6.1,y6.2))
theorem W0S{r1:Room}{j2:Job}{t3:Int}{r:(List Int)×Bool}(H:WR r1 j2 t3=some r):Snd Tryz.prog Y0s [Lo .rd r1,eJob j2,iV t3] (.tup [nV 1 (r.1.map eI),.bool r.2]) []:=by
 refine wS Q0U [.t 6,.t 7] ?_
 unfold WR at H
 obtain⟨y4,h4,H⟩:=bB H
 refine wG [.c 18 (WS h4),.g 27 [((!y4.2),false)] (.call _ _ _ _ _ (AEs.refl _) (fun _=>MR j2.lic y4.1))] fun _=>?_
 refine O0 H (fun H=>?_) fun H=>?_
 .refine wP ?_
  replace H:=sI H;subst H
  exact wN [(6,.n 1),(7,.d)] [] [] [] [] [⟨_,nw_I ([]:List Int)⟩]
 .obtain⟨y5,h5,H⟩:=bB H
  obtain⟨y6,h6,H⟩:=bB H
  refine wG [.c 40 (Q0D h5),.c 45 (W0T h6)] fun _=>?_
  replace H:=sI H;subst H
  exact wN [(6,.d),(7,.d)] [] [] [] [] [⟨_,nw_I y6.1⟩]
noncomputable def Z0G:L :=
 lf Tryz.prog V0f [] [] [] [] [] [] []
def ZH(r1:Room)(j2:Job)(x7:Int)(_:Nat)(_:Unit)(k7:Unit->Option (Int×(List Int)×Bool)):Option (Int×(List Int)×Bool) :=
 (WR r1 j2 x7).bind fun y8=>bif y8.2 then(some (x7,y8.1,true))else(k7 ())
def JG(_:Unit):Option (Int×(List Int)×Bool) :=
 some (0,[],false)
def Vs(r1:Room)(j2:Job)(from3:Int):Option (Int×(List Int)×Bool) :=
 (Qp r1).bind fun b4=>bif (((!b4)||(!(U1 j2)))||(!(Z4 from3)))then(some (0,[],false))else((UA r1 from3).bind fun y5=>rgl (ZH r1 j2) JG y5 0 ())
theorem V07{r1:Room}{j2:Job}{from3:Int}{r:Int×(List Int)×Bool}(H:Vs r1 j2 from3=some r):Snd Tryz.prog V0f [Lo .rd r1,eJob j2,iV from3] (.tup [iV r.1,nV 1 (r.2.1.map eI),.bool r.2.2]) []:=by
 refine wS Z0G [.t 6,.t 7,.t 8] ?_
 unfold Vs at H
 obtain⟨b4,h4,H⟩:=bB H
 refine wG [.c 14 (VJ h4),.g 18 [((!b4),false)] (.call _ _ _ _ _ (AEs.refl _) (fun _=>WP j2)),.g 23 [(((!b4)||(!(U1 j2))),false)] (.call _ _ _ _ _ (AEs.refl _) (fun _=>Z9 from3))] fun _=>?_
 refine O0 H (fun H=>?_) fun H=>?_
 .refine wP ?_
  replace H:=sI H;subst H
  exact wN [(6,.d),(7,.n 1),(8,.d)] [] [] [] [] [⟨_,nw_I ([]:List Int)⟩]
 .obtain⟨y5,h5,H⟩:=bB H
  refine wG [.c 28 (U0C h5),.u 29 (.ln _ _ fun _=>lm y5 eI)] fun q6=>?_
  refine wR (fun(i7:Nat) (v7:Unit)=>⟨[(3,.ptr 3 0),(4,.ptr 4 0),(28,nV 1 (y5.map eI)),(29,iV (y5.length:Int)),(30,iV (i7:Int))],[],[(3,(Lo .rd r1).cells),(4,(eJob j2).cells)],[]⟩) H (fun i7 x7 v7 I m k7 hxv7 hiv7 H N29=>?_) (fun v7 I m H=>?_)
  .unfold ZH at H
   refine wP ?_
   refine wt (ltT hiv7) ?_
   obtain⟨y8,h8,H⟩:=bB H
   refine wG [.u 32 (.ix _ _ _ fun _=>V0 eI (Z1 hxv7)),.c 38 (W0S h8)] fun _=>?_
   refine O0 H (fun H=>?_) fun H=>?_
   .refine wP ?_
    replace H:=sI H;subst H
    exact wN [(6,.d),(7,.d),(8,.d)] [] [] [] [] [⟨_,nw_I y8.1⟩]
   .refine wG [.w 44 (wi .i64 rfl hiv7 q6.1)] fun _=>?_
    exact wT (N29 () H)
  .unfold JG at H
   refine wP ?_
   refine wf (ltF y5.length) ?_
   refine wP ?_
   replace H:=sI H;subst H
   exact wN [(6,.d),(7,.n 1),(8,.d)] [] [] [] [] [⟨_,nw_I ([]:List Int)⟩]
noncomputable def W0N:L :=
 lf Tryz.prog Y0l [3] [] [] [] [] [] []
def Xy(p1:List Pt):Option (List Pt) :=
 (appL 32 ([]:List Pt) p1).bind fun xs2=>some xs2
theorem X0a{p1:List Pt}{r:(List Pt)}(H:Xy p1=some r):Snd Tryz.prog Y0l [.agg [rV 4 (p1.map ePt)]] (Z3 .nw r) []:=by
 refine wS W0N [.c 2 1 true] ?_
 unfold Xy at H
 obtain⟨xs2,h2,H⟩:=bB H
 refine wG [.u 6 (.ap _ _ _ _ fun _=>L0 ePt h2)] fun _=>?_
 replace H:=sI H;subst H
 exact wN [(2,.d)] [(2,[.f])] [] [3] [] [⟨_,Vo xs2⟩]
noncomputable def L0N:L :=
 lf Tryz.prog U0l [6] [(14,0),(18,0),(19,0),(23,0)] [] [] [(2,12),(6,5)] [(1,[],[8],[2,4,8,10,1,7,12,15],9)] []
def Vw(x7:List Pt)(_:Nat)(v7:(List (List Pt)))(k7:(List (List Pt))->Option Room):Option Room :=
 (Xy x7).bind fun y8=>(appL 24 v7 [y8]).bind fun xs9=>k7 xs9
def YM(xs2:List Bool)(y3:(List Pt))(xs4:List Int)(xs5:List Node)(v7:(List (List Pt))):Option Room :=
 some (Room.mk (Topo.mk xs4 xs5) xs2 v7 y3)
def Uy(r1:Room):Option Room :=
 (appL 1 ([]:List Bool) r1.up).bind fun xs2=>(Xy r1.lics).bind fun y3=>(appL 8 ([]:List Int) r1.topo.parents).bind fun xs4=>(appL 32 ([]:List Node) r1.topo.nodes).bind fun xs5=>rgl Vw (YM xs2 y3 xs4 xs5) r1.profs 0 []
theorem Q0a{r1 r:Room}(H:Uy r1=some r):Snd Tryz.prog U0l [Lo .rd r1] (.agg [nV 1 (r.topo.parents.map eI),nV 4 (r.topo.nodes.map V1),.sref 0,.sref 1,nV 4 (r.lics.map ePt)]) [⟨1,r.up.map eBo,false⟩,⟨1,r.profs.map (Z3 .nw),false⟩]:=by
 refine wS L0N [.c 2 5 true] ?_
 unfold Uy at H
 obtain⟨xs2,h2,H⟩:=bB H
 obtain⟨y3,h3,H⟩:=bB H
 obtain⟨xs4,h4,H⟩:=bB H
 obtain⟨xs5,h5,H⟩:=bB H
 refine wG [.u 9 (.ap _ _ _ _ fun _=>L0 eBo h2),.c 12 (X0a h3),.u 18 (.ap _ _ _ _ fun _=>L0 eI h4),.u 23 (.ap _ _ _ _ fun _=>L0 V1 h5),.u 28 (.ln _ _ fun _=>lm r1.profs (Z3 .rd))] fun q6=>?_
 refine X08 (fun(i7:Nat) (v7:(List (List Pt)))=>⟨[(2,.ptr 2 0),(3,.ptr 3 0),(27,.sl .rd 1 (r1.profs.map (Z3 .rd))),(28,.int .i64 (r1.profs.length:Int)),(29,.int .i64 (i7:Int))],[],[(2,[.nl,.nl,.nl,.nl,.nl]),(3,[.sl .nw 1 (xs4.map eI),.sl .nw 4 (xs5.map V1),.sref 6,.sref 386001,.sl .nw 4 (y3.map ePt)])],[(6,⟨1,xs2.map eBo,false⟩),(386001,⟨1,v7.map (Z3 .nw),false⟩)]⟩) [] [(3,[.d,.d,.d,.z 386001,.d])] [(386001,(none,1))] [] (by kernel_rfl) (by kernel_rfl) H (fun i7 x7 v7 I m k7 hxv7 hiv7 H N16=>?_) (fun v7 I m H=>?_)
 .unfold Vw at H
  refine wP ?_
  refine wt (ltT hiv7) ?_
  obtain⟨y8,h8,H⟩:=bB H
  obtain⟨xs9,h9,H⟩:=bB H
  refine wG [.u 31 (.ix _ _ _ fun _=>V0 (Z3 .rd) (Z1 hxv7)),.c 36 (X0a h8),.u 38 (.ap _ _ _ _ fun _=>L0 (Z3 .nw) h9),.w 40 (wi .i64 rfl hiv7 q6.1)] fun _=>?_
  exact wT (N16 _ H)
 .unfold YM at H
  refine wP ?_
  refine wf (ltF r1.profs.length) ?_
  refine wP ?_
  replace H:=sI H;subst H
  exact wN [(2,.d)] [(2,[])] [(6,some 6,0),(386001,some 386001,0)] [] [some 6,some 386001] [⟨_,nw_I xs4⟩,⟨_,O2 xs5⟩,⟨_,Vo y3⟩,⟨_,Qs xs2⟩,⟨_,Wa v7⟩]
noncomputable def M0N:L :=
 lf Tryz.prog V0l [] [] [] [] [] [] []
def ZM(nodes3:List Int)(x7:Int)(i7:Nat)(_:Unit)(k7:Unit->Option Bool):Option Bool :=
 (cutL nodes3 none (some (i7:Int))).bind fun xs8=>(Vc xs8 x7).bind fun b9=>bif b9 then(some false)else(k7 ())
def O06(_:Unit):Option Bool :=
 some true
def Vy(r1:Room)(j2:Job)(nodes3:List Int):Option Bool :=
 (Qp r1).bind fun b4=>(bif (((!b4)||(!(U1 j2)))||((nodes3.length:Int)!=j2.nodes))then some default else(Zi r1.topo nodes3)).bind fun b5=>bif ((((!b4)||(!(U1 j2)))||((nodes3.length:Int)!=j2.nodes))||(!b5))then(some false)else(rgl (ZM nodes3) O06 nodes3 0 ())
theorem V0a{r1:Room}{j2:Job}{nodes3:List Int}{r:Bool}(H:Vy r1 j2 nodes3=some r):Snd Tryz.prog V0l [Lo .rd r1,eJob j2,rV 1 (nodes3.map eI)] (.bool r) []:=by
 refine wS M0N [.t 6] ?_
 unfold Vy at H
 obtain⟨b4,h4,H⟩:=bB H
 obtain⟨b5,h5,H⟩:=bB H
 refine wG [.c 10 (VJ h4),.g 14 [((!b4),false)] (.call _ _ _ _ _ (AEs.refl _) (fun _=>WP j2)),.g 19 [(((!b4)||(!(U1 j2))),false)] (.ln _ _ fun _=>lm nodes3 eI),.g 28 [(_,false)] (.call _ _ _ _ _ (AEs.refl _) (fun q=>XM (bF q.1 h5)))] fun _=>?_
 refine O0 H (fun H=>?_) fun H=>?_
 .obtain rfl:=sI H
  exact wP (wE [(6,.d)])
 .refine wG [.u 32 (.ln _ _ fun _=>lm nodes3 eI)] fun q6=>?_
  refine wR (fun(i7:Nat) (v7:Unit)=>⟨[(2,rV 1 (nodes3.map eI)),(31,rV 1 (nodes3.map eI)),(32,iV (nodes3.length:Int)),(33,iV (i7:Int))],[],[],[]⟩) H (fun i7 x7 v7 I m k7 hxv7 hiv7 H N27=>?_) (fun v7 I m H=>?_)
  .unfold ZM at H
   refine wP ?_
   refine wt (ltT hiv7) ?_
   obtain⟨xs8,h8,H⟩:=bB H
   obtain⟨b9,h9,H⟩:=bB H
   refine wG [.u 36 (.ix _ _ _ fun _=>V0 eI (Z1 hxv7)),.u 40 (.sc _ _ _ _ fun _=>UX eI h8),.c 42 (Xj h9)] fun _=>?_
   refine O0 H (fun H=>?_) fun H=>?_
   .obtain rfl:=sI H
    exact wP (wE [(6,.d)])
   .refine wG [.w 43 (wi .i64 rfl hiv7 q6.1)] fun _=>?_
    exact wT (N27 () H)
  .unfold O06 at H
   refine wP ?_
   refine wf (ltF nodes3.length) ?_
   obtain rfl:=sI H
   exact wP (wE [(6,.d)])
noncomputable def V0O:L :=
 lf Tryz.prog O0l [] [(29,1)] [] [] [] [(7,[],[16],[0,4,10,12,14,16,18,20,22,3,7,9,24,26,28,30],17)] []
def Z07(j2:Job)(at3 x8:Int)(_:Nat)(v8:(List (List Pt)))(k8:(List (List Pt))->Option (Room×Bool)):Option (Room×Bool) :=
 (idx v8 x8).bind fun e9=>(Yd e9 at3 (w64 (at3+j2.wall)) j2.need).bind fun y10=>bif (!y10.2)then(some ((Room.mk (Topo.mk [] []) [] [] []),false))else(k8 (v8.set x8.toNat y10.1))
def J06(j2:Job)(at3:Int)(y6:Room)(v8:(List (List Pt))):Option (Room×Bool) :=
 (Yd y6.lics at3 (w64 (at3+j2.wall)) j2.lic).bind fun y11=>bif (!y11.2)then(some ((Room.mk (Topo.mk [] []) [] [] []),false))else(some ((Room.mk y6.topo y6.up v8 y11.1),true))
def Wp(r1:Room)(j2:Job)(at3:Int)(nodes4:List Int):Option (Room×Bool) :=
 (Vy r1 j2 nodes4).bind fun b5=>bif ((!b5)||(!(Z4 at3)))then(some ((Room.mk (Topo.mk [] []) [] [] []),false))else((Uy r1).bind fun y6=>rgl (Z07 j2 at3) (J06 j2 at3 y6) nodes4 0 y6.profs)
theorem J0a{r1:Room}{j2:Job}{at3:Int}{nodes4:List Int}{r:Room×Bool}(H:Wp r1 j2 at3 nodes4=some r):Snd Tryz.prog O0l [Lo .rd r1,eJob j2,iV at3,rV 1 (nodes4.map eI)] (.tup [Lo .nw r.1,.bool r.2]) []:=by
 refine wS V0O [.c 8 5 true,.t 9] ?_
 unfold Wp at H
 obtain⟨b5,h5,H⟩:=bB H
 refine wG [.c 20 (V0a h5),.g 24 [((!b5),false)] (.call _ _ _ _ _ (AEs.refl _) (fun _=>Z9 at3))] fun _=>?_
 refine O0 H (fun H=>?_) fun H=>?_
 .refine wP ?_
  replace H:=sI H;subst H
  exact wN [(8,.d),(9,.d)] [(8,[.n 1,.n 4,.n 1,.n 1,.n 4])] [] [] [] [⟨_,nw_I ([]:List Int)⟩,⟨_,O2 ([]:List Node)⟩,⟨_,Qs ([]:List Bool)⟩,⟨_,Wa ([]:List (List Pt))⟩,⟨_,Vo ([]:List Pt)⟩]
 .obtain⟨y6,h6,H⟩:=bB H
  refine wG [.c 29 (Q0a h6),.u 31 (.ln _ _ fun _=>lm nodes4 eI)] fun q7=>?_
  refine wR (fun(i8:Nat) (v8:(List (List Pt)))=>⟨[(2,iV at3),(5,.ptr 5 0),(8,.ptr 8 0),(10,.ptr 10 0),(30,rV 1 (nodes4.map eI)),(31,iV (nodes4.length:Int)),(32,iV (i8:Int))],[],[(5,(eJob j2).cells),(8,[.nl,.nl,.nl,.nl,.nl]),(10,[nV 1 (y6.topo.parents.map eI),nV 4 (y6.topo.nodes.map V1),.sref 30000,.sref 30001,nV 4 (y6.lics.map ePt)])],[(30000,⟨1,y6.up.map eBo,false⟩),(30001,⟨1,v8.map (Z3 .nw),false⟩)]⟩) H (fun i8 x8 v8 I m k8 hxv8 hiv8 H N32=>?_) (fun v8 I m H=>?_)
  .unfold Z07 at H
   refine wP ?_
   refine wt (ltT hiv8) ?_
   obtain⟨e9,h9,H⟩:=bB H
   obtain⟨y10,h10,H⟩:=bB H
   refine wG [.u 34 (.ix _ _ _ fun _=>V0 eI (Z1 hxv8)),.u 40 (.ix _ _ _ fun _=>V0 (Z3 .nw) h9),.u 41 (.el _ _ _ fun _=>gm (Z3 .nw) (Q7 h9)),.c 49 (Y07 h10)] fun _=>?_
   refine O0 H (fun H=>?_) fun H=>?_
   .refine wP ?_
    replace H:=sI H;subst H
    exact wN [(8,.d),(9,.d)] [(8,[.n 1,.n 4,.n 1,.n 1,.n 4])] [] [] [] [⟨_,nw_I ([]:List Int)⟩,⟨_,O2 ([]:List Node)⟩,⟨_,Qs ([]:List Bool)⟩,⟨_,Wa ([]:List (List Pt))⟩,⟨_,Vo ([]:List Pt)⟩]
   .refine wG [.u 59 (.ix _ _ _ fun _=>V0 (Z3 .nw) h9),.u 1000000 (.sto _ _ _ (Z3 .nw y10.1) _ (fun _=>gm (Z3 .nw) (Q7 h9)) (fun _=>YH ..)),.w 60 (wi .i64 rfl hiv8 q7.1)] fun _=>?_
    exact wT (N32 _ H)
  .unfold J06 at H
   refine wP ?_
   refine wf (ltF nodes4.length) ?_
   obtain⟨y11,h11,H⟩:=bB H
   refine wG [.c 71 (Y07 h11)] fun _=>?_
   refine O0 H (fun H=>?_) fun H=>?_
   .refine wP ?_
    replace H:=sI H;subst H
    exact wN [(8,.d),(9,.d)] [(8,[.n 1,.n 4,.n 1,.n 1,.n 4])] [] [] [] [⟨_,nw_I ([]:List Int)⟩,⟨_,O2 ([]:List Node)⟩,⟨_,Qs ([]:List Bool)⟩,⟨_,Wa ([]:List (List Pt))⟩,⟨_,Vo ([]:List Pt)⟩]
   .refine wP ?_
    replace H:=sI H;subst H
    exact wN [(8,.d),(9,.d)] [(8,[.d,.d,.f,.f,.d])] [] [30000,30001] [] [⟨_,nw_I y6.topo.parents⟩,⟨_,O2 y6.topo.nodes⟩,⟨_,Qs y6.up⟩,⟨_,Wa v8⟩,⟨_,Vo y11.1⟩]
noncomputable def U0G:L :=
 lf Tryz.prog M0f [] [] [] [] [(5,5)] [(1,[],[10],[0,2,4,6,8,12,14,11,16,19],11)] []
def Js(x6:List Pt)(_:Nat)(v6:(List (List Pt)))(k6:(List (List Pt))->Option Room):Option Room :=
 (Zt x6).bind fun y7=>(appL 24 v6 [y7]).bind fun xs8=>k6 xs8
def OH(y2:Topo)(xs3:List Bool)(y4:(List Pt))(v6:(List (List Pt))):Option Room :=
 some (Room.mk y2 xs3 v6 y4)
def QD(r1:Room):Option Room :=
 (Qi r1.topo).bind fun y2=>(appL 1 ([]:List Bool) r1.up).bind fun xs3=>(Zt r1.lics).bind fun y4=>rgl Js (OH y2 xs3 y4) r1.profs 0 []
theorem V0H{r1 r:Room}(H:QD r1=some r):Snd Tryz.prog M0f [Lo .rd r1] (.agg [nV 1 (r.topo.parents.map eI),nV 4 (r.topo.nodes.map V1),nV 1 (r.up.map eBo),.sref 0,nV 4 (r.lics.map ePt)]) [⟨1,r.profs.map (Z3 .nw),false⟩]:=by
 refine wS U0G [.c 2 5 true] ?_
 unfold QD at H
 obtain⟨y2,h2,H⟩:=bB H
 obtain⟨xs3,h3,H⟩:=bB H
 obtain⟨y4,h4,H⟩:=bB H
 refine wG [.c 8 (JM h2),.u 11 (.ap _ _ _ _ fun _=>L0 eBo h3),.c 14 (W07 h4),.u 18 (.ln _ _ fun _=>lm r1.profs (Z3 .rd))] fun q5=>?_
 refine X08 (fun(i6:Nat) (v6:(List (List Pt)))=>⟨[(2,.ptr 2 0),(3,.ptr 3 0),(17,.sl .rd 1 (r1.profs.map (Z3 .rd))),(18,.int .i64 (r1.profs.length:Int)),(19,.int .i64 (i6:Int))],[],[(2,[.nl,.nl,.nl,.nl,.nl]),(3,[.sl .nw 1 (y2.parents.map eI),.sl .nw 4 (y2.nodes.map V1),.sref 11,.sref 386001,.sl .nw 4 (y4.map ePt)])],[(11,⟨1,xs3.map eBo,false⟩),(386001,⟨1,v6.map (Z3 .nw),false⟩)]⟩) [] [(3,[.d,.d,.d,.z 386001,.d])] [(386001,(none,1))] [] (by kernel_rfl) (by kernel_rfl) H (fun i6 x6 v6 I m k6 hxv6 hiv6 H N15=>?_) (fun v6 I m H=>?_)
 .unfold Js at H
  refine wP ?_
  refine wt (ltT hiv6) ?_
  obtain⟨y7,h7,H⟩:=bB H
  obtain⟨xs8,h8,H⟩:=bB H
  refine wG [.u 21 (.ix _ _ _ fun _=>V0 (Z3 .rd) (Z1 hxv6)),.c 26 (W07 h7),.u 28 (.ap _ _ _ _ fun _=>L0 (Z3 .nw) h8),.w 30 (wi .i64 rfl hiv6 q5.1)] fun _=>?_
  exact wT (N15 _ H)
 .unfold OH at H
  refine wP ?_
  refine wf (ltF r1.profs.length) ?_
  refine wP ?_
  replace H:=sI H;subst H
  exact wN [(2,.d)] [(2,[.d,.d,.f,.d,.d])] [(386001,some 386001,0)] [11] [some 386001] [⟨_,nw_I y2.parents⟩,⟨_,O2 y2.nodes⟩,⟨_,Qs xs3⟩,⟨_,Vo y4⟩,⟨_,Wa v6⟩]
noncomputable def O16:L :=
 lf Tryz.prog U0g [] [] [] [] [] [] []
def XX(j1:Job):Option Bool :=
 some (((((((Y0 j1.id 1 999)&&(Y0 j1.prio 0 999))&&(Y0 j1.nodes 1 24))&&(Y2 j1.need))&&(Y2 j1.lic))&&(Y0 j1.wall 1 1000000))&&(Y0 j1.level 0 24))
theorem W0Q{j1:Job}{r:Bool}(H:XX j1=some r):Snd Tryz.prog U0g [eJob j1] (.bool r) []:=by
 refine wS O16 [.t 2] ?_
 unfold XX at H
 refine wG [.c 5 (V2 j1.id 1 999),.g 9 [((Y0 j1.id 1 999),true)] (.call _ _ _ _ _ (AEs.refl _) (fun _=>V2 j1.prio 0 999)),.g 14 [(((Y0 j1.id 1 999)&&(Y0 j1.prio 0 999)),true)] (.call _ _ _ _ _ (AEs.refl _) (fun _=>V2 j1.nodes 1 24)),.g 19 [((((Y0 j1.id 1 999)&&(Y0 j1.prio 0 999))&&(Y0 j1.nodes 1 24)),true)] (.call _ _ _ _ _ (AEs.refl _) (fun _=>L7 j1.need)),.g 24 [(((((Y0 j1.id 1 999)&&(Y0 j1.prio 0 999))&&(Y0 j1.nodes 1 24))&&(Y2 j1.need)),true)] (.call _ _ _ _ _ (AEs.refl _) (fun _=>L7 j1.lic)),.g 29 [((((((Y0 j1.id 1 999)&&(Y0 j1.prio 0 999))&&(Y0 j1.nodes 1 24))&&(Y2 j1.need))&&(Y2 j1.lic)),true)] (.call _ _ _ _ _ (AEs.refl _) (fun _=>V2 j1.wall 1 1000000)),.g 34 [(((((((Y0 j1.id 1 999)&&(Y0 j1.prio 0 999))&&(Y0 j1.nodes 1 24))&&(Y2 j1.need))&&(Y2 j1.lic))&&(Y0 j1.wall 1 1000000)),true)] (.call _ _ _ _ _ (AEs.refl _) (fun _=>V2 j1.level 0 24))] fun _=>?_
 replace H:=sI H;subst H
 exact wE [(2,.d)]
def Zg(j1:Job):Bool :=
 (((((((Y0 j1.id 1 999)&&(Y0 j1.prio 0 999))&&(Y0 j1.nodes 1 24))&&(Y2 j1.need))&&(Y2 j1.lic))&&(Y0 j1.wall 1 1000000))&&(Y0 j1.level 0 24))
theorem Q1d(j1:Job):XX j1=some (Zg j1):=by
 unfold XX Zg
 first|rfl|simp only[O8]
theorem U04(j1:Job):Snd Tryz.prog U0g [eJob j1] (.bool (Zg j1)) []:=W0Q (Q1d j1)
noncomputable def J0W:L :=
 lf Tryz.prog O0t [] [] [] [] [] [] []
def WU(x4:List Pt)(_:Nat)(_:Unit)(k4:Unit->Option Bool):Option Bool :=
 (Mx x4).bind fun b5=>bif (!b5)then(some false)else(k4 ())
def QU(r1:Room)(_:Unit):Option Bool :=
 (Mx r1.lics).bind fun b6=>some b6
def OU(r1:Room):Option Bool :=
 (Qj r1.topo).bind fun b2=>bif (((!b2)||((r1.up.length:Int)!=(r1.topo.nodes.length:Int)))||((r1.profs.length:Int)!=(r1.topo.nodes.length:Int)))then(some false)else(rgl WU (QU r1) r1.profs 0 ())
theorem J0X{r1:Room}{r:Bool}(H:OU r1=some r):Snd Tryz.prog O0t [Lo .rd r1] (.bool r) []:=by
 refine wS J0W [.t 2] ?_
 unfold OU at H
 obtain⟨b2,h2,H⟩:=bB H
 refine wG [.c 7 (Ju h2),.g 12 [((!b2),false)] (.ln _ _ fun _=>lm r1.up eBo),.g 16 [((!b2),false)] (.ln _ _ fun _=>lm r1.topo.nodes V1),.g 22 [(((!b2)||((r1.up.length:Int)!=(r1.topo.nodes.length:Int))),false)] (.ln _ _ fun _=>lm r1.profs (Z3 .rd)),.g 26 [(((!b2)||((r1.up.length:Int)!=(r1.topo.nodes.length:Int))),false)] (.ln _ _ fun _=>lm r1.topo.nodes V1)] fun _=>?_
 refine O0 H (fun H=>?_) fun H=>?_
 .obtain rfl:=sI H
  exact wP (wE [(2,.d)])
 .refine wG [.u 31 (.ln _ _ fun _=>lm r1.profs (Z3 .rd))] fun q3=>?_
  refine wR (fun(i4:Nat) (v4:Unit)=>⟨[(1,.ptr 1 0),(30,rV 1 (r1.profs.map (Z3 .rd))),(31,iV (r1.profs.length:Int)),(32,iV (i4:Int))],[],[(1,(Lo .rd r1).cells)],[]⟩) H (fun i4 x4 v4 I m k4 hxv4 hiv4 H N27=>?_) (fun v4 I m H=>?_)
  .unfold WU at H
   refine wP ?_
   refine wt (ltT hiv4) ?_
   obtain⟨b5,h5,H⟩:=bB H
   refine wG [.u 34 (.ix _ _ _ fun _=>V0 (Z3 .rd) (Z1 hxv4)),.c 37 (WZ h5)] fun _=>?_
   refine O0 H (fun H=>?_) fun H=>?_
   .obtain rfl:=sI H
    exact wP (wE [(2,.d)])
   .refine wG [.w 39 (wi .i64 rfl hiv4 q3.1)] fun _=>?_
    exact wT (N27 () H)
  .unfold QU at H
   refine wP ?_
   refine wf (ltF r1.profs.length) ?_
   obtain⟨b6,h6,H⟩:=bB H
   refine wG [.c 42 (WZ h6)] fun _=>?_
   replace H:=sI H;subst H
   exact wE [(2,.d)]
noncomputable def M0i:L :=
 lf Tryz.prog YV [] [] [] [] [(4,10)] [] []
def Yb(l1:List Int)(v2:Int)(k2:Int->Option Bool):Option Bool :=
 bif (decide (v2<(l1.length:Int)))then((idx l1 (w64 (v2-1))).bind fun e4=>(idx l1 v2).bind fun e5=>bif (decide (e5<=e4))then(some false)else(k2 (w64 (v2+1))))else(some true)
def Vl(l1:List Int):Option Bool :=
 whl (Yb l1) 9223372036854775807 1
theorem L0i{l1:List Int}{r:Bool}(H:Vl l1=some r):Snd Tryz.prog YV [rV 1 (l1.map eI)] (.bool r) []:=by
 refine wS M0i [.t 2] ?_
 unfold Vl at H
 refine wP ?_
 refine wW (fun(v2:Int)=>⟨[(0,rV 1 (l1.map eI)),(3,iV v2)],[],[],[]⟩) H (fun v2 I m k2 H N18=>?_)
 unfold Yb at H
 refine wG [.u 6 (.ln _ _ fun _=>lm l1 eI)] fun q3=>?_
 refine O0 H (fun H=>?_) fun H=>?_
 .obtain⟨e4,h4,H⟩:=bB H
  obtain⟨e5,h5,H⟩:=bB H
  refine wG [.u 13 (.ix _ _ _ fun _=>V0 eI h4),.u 17 (.ix _ _ _ fun _=>V0 eI h5)] fun _=>?_
  refine O0 H (fun H=>?_) fun H=>?_
  .obtain rfl:=sI H
   exact wP (wE [(2,.d)])
  .refine wP ?_
   exact wT (N18 _ H)
 .obtain rfl:=sI H
  exact wP (wE [(2,.d)])
noncomputable def W0n:L :=
 lf Tryz.prog MX [] [] [] [] [] [] []
def Lt(nodes3:List Int)(x5:Int)(i5:Nat)(_:Unit)(k5:Unit->Option Bool):Option Bool :=
 (cutL nodes3 none (some (i5:Int))).bind fun xs6=>(M6 xs6 x5).bind fun b7=>bif b7 then(some false)else(k5 ())
def Mt(t1:Topo)(j2:Job)(nodes3:List Int)(_:Unit):Option Bool :=
 (Yt t1 nodes3).bind fun b8=>some (b8&&((nodes3.length:Int)==j2.nodes))
def Wn(t1:Topo)(j2:Job)(nodes3:List Int):Option Bool :=
 rgl (Lt nodes3) (Mt t1 j2 nodes3) nodes3 0 ()
theorem M0n{t1:Topo}{j2:Job}{nodes3:List Int}{r:Bool}(H:Wn t1 j2 nodes3=some r):Snd Tryz.prog MX [U5 .rd t1,eJob j2,rV 1 (nodes3.map eI)] (.bool r) []:=by
 refine wS W0n [.t 6] ?_
 unfold Wn at H
 refine wG [.u 10 (.ln _ _ fun _=>lm nodes3 eI)] fun q4=>?_
 refine wR (fun(i5:Nat) (v5:Unit)=>⟨[(2,rV 1 (nodes3.map eI)),(3,.ptr 3 0),(4,.ptr 4 0),(9,rV 1 (nodes3.map eI)),(10,iV (nodes3.length:Int)),(11,iV (i5:Int))],[],[(3,(U5 .rd t1).cells),(4,(eJob j2).cells)],[]⟩) H (fun i5 x5 v5 I m k5 hxv5 hiv5 H N20=>?_) (fun v5 I m H=>?_)
 .unfold Lt at H
  refine wP ?_
  refine wt (ltT hiv5) ?_
  obtain⟨xs6,h6,H⟩:=bB H
  obtain⟨b7,h7,H⟩:=bB H
  refine wG [.u 14 (.ix _ _ _ fun _=>V0 eI (Z1 hxv5)),.u 18 (.sc _ _ _ _ fun _=>UX eI h6),.c 20 (Ot h7)] fun _=>?_
  refine O0 H (fun H=>?_) fun H=>?_
  .obtain rfl:=sI H
   exact wP (wE [(6,.d)])
  .refine wG [.w 21 (wi .i64 rfl hiv5 q4.1)] fun _=>?_
   exact wT (N20 () H)
 .unfold Mt at H
  refine wP ?_
  refine wf (ltF nodes3.length) ?_
  obtain⟨b8,h8,H⟩:=bB H
  refine wG [.c 24 (M07 h8),.g 27 [(b8,true)] (.ln _ _ fun _=>lm nodes3 eI)] fun _=>?_
  replace H:=sI H;subst H
  exact wE [(6,.d)]
noncomputable def LT:L :=
 lf Tryz.prog U0B [] [(39,1)] [] [] [] [(7,[],[14],[0,2,6,12,14,16,18,5,9,11,20,22,24,26],15)] []
def Vd(j2:Job)(from3 to4 x10:Int)(_:Nat)(v10:(List (List Pt)))(k10:(List (List Pt))->Option (Room×Bool)):Option (Room×Bool) :=
 (idx v10 x10).bind fun e11=>(Qt e11 from3 to4 j2.need).bind fun y12=>bif (!y12.2)then(some ((Room.mk (Topo.mk [] []) [] [] []),false))else(k10 (v10.set x10.toNat y12.1))
def Xd(j2:Job)(from3 to4:Int)(y8:Room)(v10:(List (List Pt))):Option (Room×Bool) :=
 (Qt y8.lics from3 to4 j2.lic).bind fun y13=>bif (!y13.2)then(some ((Room.mk (Topo.mk [] []) [] [] []),false))else(some ((Room.mk y8.topo y8.up v10 y13.1),true))
def U8(r1:Room)(j2:Job)(from3 to4:Int)(nodes5:List Int):Option (Room×Bool) :=
 (OU r1).bind fun b6=>(bif ((!b6)||(!(Zg j2)))then some default else(Wn r1.topo j2 nodes5)).bind fun b7=>bif (((!b6)||(!(Zg j2)))||(!b7))then(some ((Room.mk (Topo.mk [] []) [] [] []),false))else((QD r1).bind fun y8=>rgl (Vd j2 from3 to4) (Xd j2 from3 to4 y8) nodes5 0 y8.profs)
theorem XU{r1:Room}{j2:Job}{from3 to4:Int}{nodes5:List Int}{r:Room×Bool}(H:U8 r1 j2 from3 to4 nodes5=some r):Snd Tryz.prog U0B [Lo .rd r1,eJob j2,iV from3,iV to4,rV 1 (nodes5.map eI),.fn Yr []] (.tup [Lo .nw r.1,.bool r.2]) []:=by
 refine wS LT [.c 12 5 true,.t 13] ?_
 unfold U8 at H
 obtain⟨b6,h6,H⟩:=bB H
 obtain⟨b7,h7,H⟩:=bB H
 refine wG [.c 22 (J0X h6),.g 26 [((!b6),false)] (.call _ _ _ _ _ (AEs.refl _) (fun _=>U04 j2)),.g 34 [(_,false)] (.call _ _ _ _ _ (AEs.refl _) (fun q=>M0n (bF q.1 h7)))] fun _=>?_
 refine O0 H (fun H=>?_) fun H=>?_
 .refine wP ?_
  replace H:=sI H;subst H
  exact wN [(12,.d),(13,.d)] [(12,[.n 1,.n 4,.n 1,.n 1,.n 4])] [] [] [] [⟨_,nw_I ([]:List Int)⟩,⟨_,O2 ([]:List Node)⟩,⟨_,Qs ([]:List Bool)⟩,⟨_,Wa ([]:List (List Pt))⟩,⟨_,Vo ([]:List Pt)⟩]
 .obtain⟨y8,h8,H⟩:=bB H
  refine wG [.c 39 (V0H h8),.u 41 (.ln _ _ fun _=>lm nodes5 eI)] fun q9=>?_
  refine wR (fun(i10:Nat) (v10:(List (List Pt)))=>⟨[(2,iV from3),(3,iV to4),(5,.fn Yr []),(7,.ptr 7 0),(12,.ptr 12 0),(14,.ptr 14 0),(40,rV 1 (nodes5.map eI)),(41,iV (nodes5.length:Int)),(42,iV (i10:Int))],[],[(7,(eJob j2).cells),(12,[.nl,.nl,.nl,.nl,.nl]),(14,[nV 1 (y8.topo.parents.map eI),nV 4 (y8.topo.nodes.map V1),nV 1 (y8.up.map eBo),.sref 40000,nV 4 (y8.lics.map ePt)])],[(40000,⟨1,v10.map (Z3 .nw),false⟩)]⟩) H (fun i10 x10 v10 I m k10 hxv10 hiv10 H N32=>?_) (fun v10 I m H=>?_)
  .unfold Vd at H
   refine wP ?_
   refine wt (ltT hiv10) ?_
   obtain⟨e11,h11,H⟩:=bB H
   obtain⟨y12,h12,H⟩:=bB H
   refine wG [.u 44 (.ix _ _ _ fun _=>V0 eI (Z1 hxv10)),.u 51 (.ix _ _ _ fun _=>V0 (Z3 .nw) h11),.u 52 (.el _ _ _ fun _=>gm (Z3 .nw) (Q7 h11)),.u 57 (.clsr _ _ _ _ _ (AEs.refl _) (by kernel_rfl) (fun _=>Z08 h12))] fun _=>?_
   refine O0 H (fun H=>?_) fun H=>?_
   .refine wP ?_
    replace H:=sI H;subst H
    exact wN [(12,.d),(13,.d)] [(12,[.n 1,.n 4,.n 1,.n 1,.n 4])] [] [] [] [⟨_,nw_I ([]:List Int)⟩,⟨_,O2 ([]:List Node)⟩,⟨_,Qs ([]:List Bool)⟩,⟨_,Wa ([]:List (List Pt))⟩,⟨_,Vo ([]:List Pt)⟩]
   .refine wG [.u 67 (.ix _ _ _ fun _=>V0 (Z3 .nw) h11),.u 1000000 (.sto _ _ _ (Z3 .nw y12.1) _ (fun _=>gm (Z3 .nw) (Q7 h11)) (fun _=>YH ..)),.w 68 (wi .i64 rfl hiv10 q9.1)] fun _=>?_
    exact wT (N32 _ H)
  .unfold Xd at H
   refine wP ?_
   refine wf (ltF nodes5.length) ?_
   obtain⟨y13,h13,H⟩:=bB H
   refine wG [.u 77 (.clsr _ _ _ _ _ (AEs.refl _) (by kernel_rfl) (fun _=>Z08 h13))] fun _=>?_
   refine O0 H (fun H=>?_) fun H=>?_
   .refine wP ?_
    replace H:=sI H;subst H
    exact wN [(12,.d),(13,.d)] [(12,[.n 1,.n 4,.n 1,.n 1,.n 4])] [] [] [] [⟨_,nw_I ([]:List Int)⟩,⟨_,O2 ([]:List Node)⟩,⟨_,Qs ([]:List Bool)⟩,⟨_,Wa ([]:List (List Pt))⟩,⟨_,Vo ([]:List Pt)⟩]
   .refine wP ?_
    replace H:=sI H;subst H
    exact wN [(12,.d),(13,.d)] [(12,[.d,.d,.d,.f,.d])] [] [40000] [] [⟨_,nw_I y8.topo.parents⟩,⟨_,O2 y8.topo.nodes⟩,⟨_,Qs y8.up⟩,⟨_,Wa v10⟩,⟨_,Vo y13.1⟩]
theorem Qn{j:Job}:U1 j=true↔(1<=j.id/\j.id<=999)/\(0<=j.prio/\j.prio<=999)/\(1<=j.nodes/\j.nodes<=24)/\W0 j.need=true/\W0 j.lic=true/\(1<=j.wall/\j.wall<=1000000)/\(0<=j.level/\j.level<=24):=by
 unfold U1
 by_cases h:(1<=j.id/\j.id<=999)/\(0<=j.prio/\j.prio<=999)/\(1<=j.nodes/\j.nodes<=24)
 .rw[show((((((decide (j.id<1))||(decide (999<j.id)))||(decide (j.prio<0)))||(decide (999<j.prio)))||(decide (j.nodes<1)))||(decide (24<j.nodes)))=false by simp;omega]
  simp only[yM,yD,yO]
  constructor
  .intro q;exact⟨h.1,h.2.1,h.2.2,q.1.1.1.1.1,q.1.1.1.1.2,⟨q.1.1.1.2,q.1.1.2⟩,q.1.2,q.2⟩
  .intro q;exact⟨⟨⟨⟨⟨q.2.2.2.1,q.2.2.2.2.1⟩,q.2.2.2.2.2.1.1⟩,q.2.2.2.2.2.1.2⟩,q.2.2.2.2.2.2.1⟩,q.2.2.2.2.2.2.2⟩
 .rw[show((((((decide (j.id<1))||(decide (999<j.id)))||(decide (j.prio<0)))||(decide (999<j.prio)))||(decide (j.nodes<1)))||(decide (24<j.nodes)))=true by
   simp only[Bool.or_eq_true,yO];omega]
  simp only[yN]
  exact Ll fun q=>h ⟨q.1,q.2.1,q.2.2.1⟩
theorem Q04(j:Job):Zg j=U1 j:=by
 rw[Bool.eq_iff_iff,Qn]
 unfold Zg Y0
 simp only[Zn,yD,yO,and_assoc]
structure RoomP(r:Room):Prop where
 topo:TopoP r.topo
 up:r.up.length=r.topo.nodes.length
 profs:r.profs.length=r.topo.nodes.length
 prof:∀p∈r.profs,ProfP p
 lics:ProfP r.lics
noncomputable def roomOk(r:Room):Bool:=topoOk r.topo&&decide (r.up.length=r.topo.nodes.length)&&decide (r.profs.length=r.topo.nodes.length)&&profOk r.lics&&r.profs.all profOk
theorem J00{r:Room}:roomOk r=true↔RoomP r:=by
 unfold roomOk
 simp only[yD,yO,List.all_eq_true,Lj,ZR]
 exact⟨fun h=>⟨h.1.1.1.1,h.1.1.1.2,h.1.1.2,h.2,h.1.2⟩,fun h=>⟨⟨⟨⟨h.topo,h.up⟩,h.profs⟩,h.lics⟩,h.prof⟩⟩
theorem X14(a b:Nat):((a:Int)!=(b:Int)) = !decide (a=b):=by
 by_cases h:a=b
 .simp[h]
 .rw[show((a:Int)!=(b:Int))=true by simp;omega];simp[h]
theorem UJ(r:Room):Qp r=some (roomOk r):=by
 unfold Qp roomOk
 rw[Qd,bS]
 simp only[X14,Wd]
 rw[Xq (r:=some false) (p:=fun p=>!profOk p) (fun x _ i k=>by unfold ZS;rw[Wd,bS]),← List.not_all_eq_any_not]
 cases topoOk r.topo<;>cases decide (r.up.length=r.topo.nodes.length)<;>cases decide (r.profs.length=r.topo.nodes.length)<;>cases profOk r.lics<;>cases r.profs.all profOk<;>rfl
theorem Z0Y(r:Room):OU r=some (roomOk r):=by
 unfold OU roomOk
 rw[Xo,Qd,bS]
 simp only[X14]
 rw[Xq (r:=some false) (p:=fun p=>!profOk p) (fun x _ i k=>by unfold WU;rw[OZ,Wd,bS]),← List.not_all_eq_any_not]
 unfold QU
 rw[OZ,Wd,bS]
 cases topoOk r.topo<;>cases decide (r.up.length=r.topo.nodes.length)<;>cases decide (r.profs.length=r.topo.nodes.length)<;>cases profOk r.lics<;>cases r.profs.all profOk<;>rfl
structure RoomS(r:Room):Prop where
 up:r.up.length<=1048576
 par:r.topo.parents.length<=1048576
 nodes:r.topo.nodes.length<=1048576
 profs:r.profs.length<=1048576
 prof:∀p∈r.profs,p.length<=1048576
 lics:r.lics.length<=1048576
theorem RoomP.small{r:Room}(h:RoomP r):RoomS r :=
  ⟨by have:=h.up;have:=h.topo.nodes;omega,by have:=h.topo.tree.le;omega,by have:=h.topo.nodes;omega,by have:=h.profs;have:=h.topo.nodes;omega,fun p hp=>by have:=(h.prof p hp).le;omega,by have:=h.lics.le;omega⟩
theorem W0a{r:Room}(h:RoomS r):Uy r=some r:=by
 unfold Uy Xy
 have:=h.up;have:=h.lics;have:=h.par;have:=h.nodes;have:=h.profs
 rw[M0 (by simp;omega),bS,M0 (by simp;omega),bS,bS,M0 (by simp;omega),bS,M0 (by simp;omega),bS]
 rw[V8 (bd:=Vw) (bs:=24) (p:=fun _=>true) (f:=id) (fun x hx i b k=>by
  have:=h.prof x hx
  unfold Vw Xy
  rw[M0 (by simp;omega),bS,bS];simp) (by simp;omega)]
 unfold YM
 simp[List.filter_eq_self.2]
theorem U0H{r:Room}(h:RoomS r):QD r=some r:=by
 unfold QD Qi Wi Zt
 have:=h.up;have:=h.lics;have:=h.par;have:=h.nodes;have:=h.profs
 rw[M0 (by simp;omega),bS,bS,M0 (by simp;omega),bS,bS,M0 (by simp;omega),bS,M0 (by simp;omega),bS,bS]
 rw[V8 (bd:=Js) (bs:=24) (p:=fun _=>true) (f:=id) (fun x hx i b k=>by
  have:=h.prof x hx
  unfold Js Zt
  rw[M0 (by simp;omega),bS,bS];simp) (by simp;omega)]
 unfold OH
 simp[List.filter_eq_self.2]
theorem L0J{α:Type}{l:List α}{i:Nat}(h:i<=l.length):cutL l none (some (i:Int))=some (l.take i):=by
 unfold cutL bhi blo
 simp[h]
theorem M0Z{l:List Int}{i:Nat}{x:Int}(hx:l[i]?=some x):(l.take (i+1)).Nodup↔(l.take i).Nodup/\x∉l.take i:=by
 obtain⟨hi,rfl⟩:=yB hx
 rw[List.take_succ_eq_append_getElem hi,List.nodup_append]
 constructor
 .intro h;exact⟨h.1,fun hm=>h.2.2 _ hm _ (List.mem_singleton.2 rfl) rfl⟩
 .intro h;exact⟨h.1,by simp,fun a ha b hb e=>by rw[List.mem_singleton.1 hb]at e;subst e;exact h.2 ha⟩
theorem L0Z{γ:Type}{bd:Int->Nat->Unit->(Unit->Option γ)->Option γ}{kk:Unit->Option γ}{r:Option γ}{l:List Int}
  (hb:∀i x k,i<=l.length->bd x i () k=bif (l.take i).contains x then r else k ()):rgl bd kk l 0 ()=bif decide l.Nodup then kk ()else r:=by
 refine Mc (fun i (_:Unit)=>(l.take i).Nodup) (fun o=>o=bif decide l.Nodup then kk ()else r) (fun i x b k hx hI hk=>?_) (fun b hI=>?_) (by simp)
 .have hil:=(yB hx).1
  rw[hb i x k (by omega)]
  cases hc:(l.take i).contains x with
  |true =>
   have hm:=List.contains_iff_mem.1 hc
   have:¬ l.Nodup:=fun q=>((M0Z hx).1 (q.sublist (List.take_sublist _ _))).2 hm
   simp[this]
  |false=>exact hk () ((M0Z hx).2 ⟨hI,fun hm=>by rw[List.contains_iff_mem.2 hm]at hc;cases hc⟩)
 .rw[List.take_of_length_le (yV _)]at hI
  simp[hI]
noncomputable def diffOk(r:Room)(j:Job)(nodes:List Int):Bool:=roomOk r&&U1 j&&decide ((nodes.length:Int)=j.nodes)&&U7 r.topo nodes&&decide nodes.Nodup
theorem U0a(r:Room)(j:Job)(nodes:List Int):Vy r j nodes=some (diffOk r j nodes):=by
 unfold Vy diffOk
 rw[UJ,bS]
 have e:((nodes.length:Int)!=j.nodes) = !decide ((nodes.length:Int)=j.nodes):=by
  by_cases h:(nodes.length:Int)=j.nodes<;>simp[h]
 simp only[e,Uw]
 rw[L0Z (r:=some false) (fun i x k hi=>by unfold ZM;rw[L0J hi,bS,Ud,bS])]
 cases roomOk r<;>cases U1 j<;>cases decide ((nodes.length:Int)=j.nodes)<;>cases U7 r.topo nodes<;>cases decide nodes.Nodup<;>rfl
theorem L0n{t:Topo}(ht:t.nodes.length<=1048576)(j:Job)(nodes:List Int):Wn t j nodes=some (decide ((nodes.length:Int)=j.nodes)&&U7 t nodes&&decide nodes.Nodup):=by
 unfold Wn
 rw[L0Z (r:=some false) (fun i x k hi=>by unfold Lt;rw[L0J hi,bS,ZW,bS])]
 unfold Mt
 rw[L07 t nodes ht,bS]
 have e:((nodes.length:Int)==j.nodes)=decide ((nodes.length:Int)=j.nodes):=by
  by_cases h:(nodes.length:Int)=j.nodes<;>simp[h]
 rw[e]
 cases decide ((nodes.length:Int)=j.nodes)<;>cases U7 t nodes<;>cases decide nodes.Nodup<;>rfl
def Qu:Room×Bool:=(⟨⟨[],[]⟩,[],[],[]⟩,false)
def Q0g(r:Room)(need lic:Vec)(from_ to_:Int)(nodes:List Int):Option (Room×Bool) :=
 rgl (fun x _ v k=>(idx v x).bind fun e=>(Yd e from_ to_ need).bind fun y=>bif !y.2 then some Qu else k (v.set x.toNat y.1))
  (fun v=>(Yd r.lics from_ to_ lic).bind fun y=>bif !y.2 then some Qu else some (⟨r.topo,r.up,v,y.1⟩,true)) nodes 0 r.profs
theorem O0o{r:Room}(hr:RoomP r)(need lic:Vec)(from_ to_:Int){nodes:List Int}(hn:U7 r.topo nodes=true) :
  ∃q,Q0g r need lic from_ to_ nodes=some q/\(q.2=true->RoomP q.1/\q.1.topo=r.topo/\q.1.up=r.up):=by
 have hn:=(Y8.1 hn).2
 unfold Q0g
 refine Mc (fun i (v:List (List Pt))=>v.length=r.topo.nodes.length/\∀p∈v,ProfP p) (fun o=>∃q:Room×Bool,o=some q/\(q.2=true->RoomP q.1/\q.1.topo=r.topo/\q.1.up=r.up)) (fun i x v k hx hI hk=>?_) (fun v hI=>?_) ⟨hr.profs,hr.prof⟩
 .have hx':=hn x (yE hx)
  obtain⟨e,q1,q2⟩:=Ji (l:=v) (i:=x) hx'.1 (by rw[hI.1];exact hx'.2)
  obtain⟨y,h1,h2⟩:=(Q0o e from_ to_ need).2
  rw[q1,bS,h1,bS]
  cases hy:y.2 with
  |false=>exact⟨Qu,rfl,fun h=>by cases h⟩
  |true =>
   refine hk _ ⟨by simp[hI.1],fun p hp=>?_⟩
   rcases List.mem_or_eq_of_mem_set hp with hp|rfl
   .exact hI.2 p hp
   .exact h2 hy
 .obtain⟨y,h1,h2⟩:=(Q0o r.lics from_ to_ lic).2
  rw[h1,bS]
  cases hy:y.2 with
  |false=>exact⟨Qu,rfl,fun h=>by cases h⟩
  |true=>exact⟨_,rfl,fun _=>⟨⟨hr.topo,hr.up,hI.1,hI.2,h2 hy⟩,rfl,rfl⟩⟩
theorem Z0b(r:Room)(j:Job)(t:Int)(nodes:List Int):Wp r j t nodes=bif diffOk r j nodes&&time t then Q0g r j.need j.lic t (w64 (t+j.wall)) nodes else some Qu:=by
 unfold Wp
 rw[U0a,bS,Uk]
 cases hd:diffOk r j nodes with
 |false=>rfl
 |true =>
  cases time t with
  |false=>rfl
  |true =>
   have hr:roomOk r=true:=by unfold diffOk at hd;simp only[yD]at hd;exact hd.1.1.1.1
   simp only[yL,Bool.or_self,yM,Bool.and_self,yN]
   rw[W0a (J00.1 hr).small,bS]
   rfl
end Go.Proofs.YtpgaganbacipnaaGreat
