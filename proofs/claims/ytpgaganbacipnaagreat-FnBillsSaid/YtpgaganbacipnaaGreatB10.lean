/-
  Lemmas, part 10.
-/
import Derived.Test.YtpgaganbacipnaaGreatB9
namespace Go.Proofs.YtpgaganbacipnaaGreat
open Go Go.RowKit Eng
def U0R:L :=
sR [.bx 1 0,.mv 2 (cB false)]
 (.seq (sR [fA 3 1 0,lF 4 3 1,.bi 5 .lss 4 (kI 1),mV 6 5,gF 6 (fA 7 1 0),gF 6 (lF 8 7 1),gF 6 (.bi 9 .gtr 8 (kI 999)),.pk 10 6 (cB true) 9,mV 11 10,gF 11 (fA 12 1 1),gF 11 (lF 13 12 1),gF 11 (.bi 14 .lss 13 (kI 0)),.pk 15 11 (cB true) 14,mV 16 15,gF 16 (fA 17 1 1),gF 16 (lF 18 17 1),gF 16 (.bi 19 .gtr 18 (kI 999)),.pk 20 16 (cB true) 19,mV 21 20,gF 21 (fA 22 1 2),gF 21 (lF 23 22 1),gF 21 (.bi 24 .lss 23 (kI 1)),.pk 25 21 (cB true) 24,mV 26 25,gF 26 (fA 27 1 2),gF 26 (lF 28 27 1),gF 26 (.bi 29 .gtr 28 (kI 24)),.pk 30 26 (cB true) 29]
 (.cond 30 (.seq (rE 2 (cB false))
 gR)
 .skip))
 (sR [fA 31 1 3,lT 32 31 3,cQ 33 U3 [32],mV 34 33,gT 34 (fA 35 1 6),gT 34 (lT 36 35 3),gT 34 (cQ 37 U3 [36]),.pk 38 34 37 (cB false),mV 39 38,gT 39 (fA 40 1 9),gT 39 (lF 41 40 1),gT 39 (.bi 42 .geq 41 (kI 1)),.pk 43 39 42 (cB false),mV 44 43,gT 44 (fA 45 1 9),gT 44 (lF 46 45 1),gT 44 (.bi 47 .leq 46 (kI 1000000)),.pk 48 44 47 (cB false),mV 49 48,gT 49 (fA 50 1 10),gT 49 (lF 51 50 1),gT 49 (.bi 52 .geq 51 (kI 0)),.pk 53 49 52 (cB false),mV 54 53,gT 54 (fA 55 1 10),gT 54 (lF 56 55 1),gT 54 (.bi 57 .leq 56 (kI 24)),.pk 58 54 57 (cB false),mV 2 58]
 gR))
def WO(j1:Job):Option Bool :=
 bif ((((((decide (j1.id<1))||(decide (999<j1.id)))||(decide (j1.prio<0)))||(decide (999<j1.prio)))||(decide (j1.nodes<1)))||(decide (24<j1.nodes)))then(some false)else(some ((((((W0 j1.need)&&(W0 j1.lic))&&(decide (1<=j1.wall)))&&(decide (j1.wall<=1000000)))&&(decide (0<=j1.level)))&&(decide (j1.level<=24))))
theorem X0x{j1:Job}{r:Bool}(H:WO j1=some r):Snd Tryz.prog Ls [eJob j1] (.bool r) []:=by
 refine wS U0R [.t 2] ?_
 unfold WO at H
 refine wP ?_
 refine O0 H (fun H=>?_) fun H=>?_
 .obtain rfl:=sI H
  exact wP (wE [(2,.d)])
 .refine wG [.c 33 (Q3 j1.need),.g 37 [((W0 j1.need),true)] (.call _ _ _ _ _ (AEs.refl _) (fun _=>Q3 j1.lic))] fun _=>?_
  replace H:=sI H;subst H
  exact wE [(2,.d)]
def W1(j1:Job):Bool :=
 bif ((((((decide (j1.id<1))||(decide (999<j1.id)))||(decide (j1.prio<0)))||(decide (999<j1.prio)))||(decide (j1.nodes<1)))||(decide (24<j1.nodes)))then(false)else(((((((W0 j1.need)&&(W0 j1.lic))&&(decide (1<=j1.wall)))&&(decide (j1.wall<=1000000)))&&(decide (0<=j1.level)))&&(decide (j1.level<=24))))
theorem O0V(j1:Job):WO j1=some (W1 j1):=by
 unfold WO W1
 first|rfl|simp only[J5]
theorem OH(j1:Job):Snd Tryz.prog Ls [eJob j1] (.bool (W1 j1)) []:=X0x (O0V j1)
def J0G:L :=
sR [.bx 1 0,.mv 2 (cB false)]
 (.seq (sR [fA 5 1 0,lT 6 5 2,cQ 7 JI [6],.un 8 7,mV 9 8,gF 9 (fA 10 1 2),gF 9 (lF 11 10 1),gF 9 (.ln 12 11),gF 9 (fA 13 1 0),gF 9 (fA 14 13 1),gF 9 (lF 15 14 1),gF 9 (.ln 16 15),gF 9 (bI 17 .neq 12 16),.pk 18 9 (cB true) 17,mV 19 18,gF 19 (fA 20 1 3),gF 19 (lF 21 20 1),gF 19 (.ln 22 21),gF 19 (fA 23 1 0),gF 19 (fA 24 23 1),gF 19 (lF 25 24 1),gF 19 (.ln 26 25),gF 19 (bI 27 .neq 22 26),.pk 28 19 (cB true) 27,mV 29 28,gF 29 (fA 30 1 4),gF 29 (lT 31 30 1),gF 29 (cQ 32 Jw [31]),gF 29 (.un 33 32),.pk 34 29 (cB true) 33]
 (.cond 34 (.seq (rE 2 (cB false))
 gR)
 .skip))
 (.seq (sR [fA 35 1 3,lF 36 35 1,.ln 37 36,.mv 38 (kI 0)]
 (.blk 0 (.loop (.gw (sR [bI 39 .lss 38 37]
 (.seq (.cond 39 .skip
 (.exit 0))
 (.seq (.blk 1 (sR [iA 40 36 38 1,lT 41 40 1,.al 4 [.nl],.st 4 41 1]
 (sR [lT 42 4 1,cQ 43 Jw [42],.un 44 43]
 (.cond 44 (.seq (rE 2 (cB false))
 gR)
 .skip))))
 (.reg [.bi 45 .add 38 (kI 1),mV 38 45]))))))))
 (.seq (rE 2 (cB true))
 gR)))
def WK(x5:List Pt)(_:Nat)(_:Unit)(k5:Unit->Option Bool):Option Bool :=
 (X9 x5).bind fun b6=>bif (!b6)then(some false)else(k5 ())
def U03(_:Unit):Option Bool :=
 some true
def Lj(r1:Room):Option Bool :=
 (Xe r1.topo).bind fun b2=>(bif (((!b2)||((r1.up.length:Int)!=(r1.topo.nodes.length:Int)))||((r1.profs.length:Int)!=(r1.topo.nodes.length:Int)))then some default else(X9 r1.lics)).bind fun b3=>bif ((((!b2)||((r1.up.length:Int)!=(r1.topo.nodes.length:Int)))||((r1.profs.length:Int)!=(r1.topo.nodes.length:Int)))||(!b3))then(some false)else(rgl WK U03 r1.profs 0 ())
theorem LA{r1:Room}{r:Bool}(H:Lj r1=some r):Snd Tryz.prog Lw [Xj .rd r1] (.bool r) []:=by
 refine wS J0G [.t 2] ?_
 unfold Lj at H
 obtain⟨b2,h2,H⟩:=bB H
 obtain⟨b3,h3,H⟩:=bB H
 refine wG [.c 7 (YR h2),.g 12 [((!b2),false)] (.ln _ _ fun _=>lm r1.up eBo),.g 16 [((!b2),false)] (.ln _ _ fun _=>lm r1.topo.nodes V1),.g 22 [(((!b2)||((r1.up.length:Int)!=(r1.topo.nodes.length:Int))),false)] (.ln _ _ fun _=>lm r1.profs (V2 .rd)),.g 26 [(((!b2)||((r1.up.length:Int)!=(r1.topo.nodes.length:Int))),false)] (.ln _ _ fun _=>lm r1.topo.nodes V1),.g 32 [(_,false)] (.call _ _ _ _ _ (AEs.refl _) (fun q=>YB (bF q.1 h3)))] fun _=>?_
 refine O0 H (fun H=>?_) fun H=>?_
 .obtain rfl:=sI H
  exact wP (wE [(2,.d)])
 .refine wG [.u 37 (.ln _ _ fun _=>lm r1.profs (V2 .rd))] fun q4=>?_
  refine wR (fun(i5:Nat) (v5:Unit)=>⟨[(36,rV 1 (r1.profs.map (V2 .rd))),(37,iV (r1.profs.length:Int)),(38,iV (i5:Int))],[],[],[]⟩) H (fun i5 x5 v5 I m k5 hxv5 hiv5 H N27=>?_) (fun v5 I m H=>?_)
  .unfold WK at H
   refine wP ?_
   refine wt (ltT hiv5) ?_
   obtain⟨b6,h6,H⟩:=bB H
   refine wG [.u 40 (.ix _ _ _ fun _=>Q0 (V2 .rd) (J0 hxv5)),.c 43 (YB h6)] fun _=>?_
   refine O0 H (fun H=>?_) fun H=>?_
   .obtain rfl:=sI H
    exact wP (wE [(2,.d)])
   .refine wG [.w 45 (wi .i64 rfl hiv5 q4.1)] fun _=>?_
    exact wT (N27 () H)
  .unfold U03 at H
   refine wP ?_
   refine wf (ltF r1.profs.length) ?_
   obtain rfl:=sI H
   exact wP (wE [(2,.d)])
def Z0t:L :=
sR [.bx 4 0,.bx 5 1,.mv 8 (.c (.nl))]
 (sR [.bs 13 1 [] true,mV 9 13]
 (.seq (sR [lT 14 4 5,cQ 15 Lw [14],.un 16 15]
 (.cond 16 (sR [mV 17 9,mV 8 17]
 gR)
 .skip))
 (.seq (sR [fA 18 4 3,lF 19 18 1,.ln 20 19,.mv 21 (kI 0)]
 (.blk 0 (.loop (.gw (sR [bI 22 .lss 21 20]
 (.seq (.cond 22 .skip
 (.exit 0))
 (.seq (.blk 1 (sR [mV 23 21,mV 10 23]
 (sR [fA 25 4 3,lF 26 25 1,mV 27 10,iA 28 26 27 1,lT 29 28 1,mV 30 2,mV 31 3,cQ 32 WC [29,30,31],mV 24 32,eX 33 24 0,eX 34 24 1,.al 11 [.int .i64 0,.int .i64 0,.int .i64 0],.st 11 33 3,mV 12 34]
 (sR [mV 35 12,mV 36 35,gT 36 (fA 37 4 2),gT 36 (lF 38 37 1),gT 36 (mV 39 10),gT 36 (iA 40 38 39 1),gT 36 (lF 41 40 1),.pk 42 36 41 (cB false),mV 43 42,gT 43 (lT 44 5 3),gT 43 (lT 45 11 3),gT 43 (cQ 46 Qp [44,45]),.pk 47 43 46 (cB false)]
 (.cond 47 (.reg [mV 48 9,mV 49 10,.bs 50 1 [49] false,.ap 51 48 50 1 8,mV 9 51])
 .skip)))))
 (.reg [.bi 52 .add 21 (kI 1),mV 21 52]))))))))
 (sR [mV 53 9,mV 8 53]
 gR))))
def Wm(r1:Room)(need2:Vec)(from3 to4:Int)(x7:List Pt)(i7:Nat)(v7:(List Int))(k7:(List Int)->Option (List Int)):Option (List Int) :=
 (Yk x7 from3 to4).bind fun y8=>(bif y8.2 then(idx r1.up (i7:Int))else some default).bind fun e9=>bif ((y8.2&&e9)&&(L3 need2 y8.1))then((appL 8 v7 [(i7:Int)]).bind fun xs10=>k7 xs10)else(k7 v7)
def JT(v7:(List Int)):Option (List Int) :=
 some v7
def Vv(r1:Room)(need2:Vec)(from3 to4:Int):Option (List Int) :=
 (Lj r1).bind fun b5=>bif (!b5)then(some [])else(rgl (Wm r1 need2 from3 to4) JT r1.profs 0 [])
theorem Q0q{r1:Room}{need2:Vec}{from3 to4:Int}{r:(List Int)}(H:Vv r1 need2 from3 to4=some r):Snd Tryz.prog Q07 [Xj .rd r1,eVec need2,iV from3,iV to4] (nV 1 (r.map eI)) []:=by
 refine wS Z0t [.t 8] ?_
 unfold Vv at H
 obtain⟨b5,h5,H⟩:=bB H
 refine wG [.c 15 (LA h5)] fun _=>?_
 refine O0 H (fun H=>?_) fun H=>?_
 .refine wP ?_
  replace H:=sI H;subst H
  exact wN [(8,.f)] [] [] [13] [] [⟨_,nw_I ([]:List Int)⟩]
 .refine wG [.u 20 (.ln _ _ fun _=>lm r1.profs (V2 .rd))] fun q6=>?_
  refine wR (fun(i7:Nat) (v7:(List Int))=>⟨[(2,iV from3),(3,iV to4),(4,.ptr 4 0),(5,.ptr 5 0),(9,.sref 13),(20,iV (r1.profs.length:Int)),(21,iV (i7:Int))],[],[(4,(Xj .rd r1).cells),(5,(eVec need2).cells)],[(13,⟨1,v7.map eI,false⟩)]⟩) H (fun i7 x7 v7 I m k7 hxv7 hiv7 H N28=>?_) (fun v7 I m H=>?_)
  .unfold Wm at H
   refine wP ?_
   refine wt (ltT hiv7) ?_
   obtain⟨y8,h8,H⟩:=bB H
   obtain⟨e9,h9,H⟩:=bB H
   refine wG [.u 28 (.ix _ _ _ fun _=>Q0 (V2 .rd) (J0 hxv7)),.c 32 (JK h8),.g 40 [(_,true)] (.ix _ _ _ fun q=>Q0 eBo (bT q.1 h9)),.g 46 [((y8.2&&e9),true)] (.call _ _ _ _ _ (AEs.refl _) (fun _=>UK need2 y8.1))] fun _=>?_
   refine O0 H (fun H=>?_) fun H=>?_
   .obtain⟨xs10,h10,H⟩:=bB H
    refine wG [.u 51 (.ap _ _ _ _ fun _=>L0 eI h10),.w 52 (wi .i64 rfl hiv7 q6.1)] fun _=>?_
    exact wT (N28 _ H)
   .refine wG [.w 52 (wi .i64 rfl hiv7 q6.1)] fun _=>?_
    exact wT (N28 _ H)
  .unfold JT at H
   refine wP ?_
   refine wf (ltF r1.profs.length) ?_
   refine wP ?_
   replace H:=sI H;subst H
   exact wN [(8,.f)] [] [] [13] [] [⟨_,nw_I v7⟩]
def L0Q:L :=
sR [.bx 3 0,.mv 6 (.c (.nl))]
 (sR [.bs 10 1 [] true,mV 7 10]
 (.seq (sR [mV 11 1,.ln 12 11,.mv 13 (kI 0)]
 (.blk 0 (.loop (.gw (sR [bI 14 .lss 13 12]
 (.seq (.cond 14 .skip
 (.exit 0))
 (.seq (.blk 1 (sR [iA 15 11 13 1,lF 16 15 1,mV 9 16]
 (.seq (.rq 10 [lT 17 3 2,fA 18 3 1,lF 19 18 1,mV 20 9,iA 21 19 20 4,fA 22 21 0,lF 23 22 1,cQ 24 X07 [17,23],mV 25 2,cQ 26 Jd [24,25]])
 (.cond 26 (.reg [mV 27 7,mV 28 9,.bs 29 1 [28] false,.ap 30 27 29 1 8,mV 7 30])
 .skip))))
 (.reg [.bi 31 .add 13 (kI 1),mV 13 31]))))))))
 (sR [mV 32 7,mV 6 32]
 gR)))
def WQ(t1:Topo)(s3 x5:Int)(_:Nat)(v5:(List Int))(k5:(List Int)->Option (List Int)):Option (List Int) :=
 (idx t1.nodes x5).bind fun e6=>(Vs t1 e6.leaf).bind fun y7=>(Z9 y7 s3).bind fun b8=>bif b8 then((appL 8 v5 [x5]).bind fun xs9=>k5 xs9)else(k5 v5)
def QQ(v5:(List Int)):Option (List Int) :=
 some v5
def We(t1:Topo)(nodes2:List Int)(s3:Int):Option (List Int) :=
 rgl (WQ t1 s3) QQ nodes2 0 []
theorem Jl{t1:Topo}{nodes2:List Int}{s3:Int}{r:(List Int)}(H:We t1 nodes2 s3=some r):Snd Tryz.prog Ul [W4 .rd t1,rV 1 (nodes2.map eI),iV s3] (nV 1 (r.map eI)) []:=by
 refine wS L0Q [.t 6] ?_
 unfold We at H
 refine wG [.u 12 (.ln _ _ fun _=>lm nodes2 eI)] fun q4=>?_
 refine wR (fun(i5:Nat) (v5:(List Int))=>⟨[(2,iV s3),(3,.ptr 3 0),(7,.sref 10),(11,rV 1 (nodes2.map eI)),(12,iV (nodes2.length:Int)),(13,iV (i5:Int))],[],[(3,(W4 .rd t1).cells)],[(10,⟨1,v5.map eI,false⟩)]⟩) H (fun i5 x5 v5 I m k5 hxv5 hiv5 H N19=>?_) (fun v5 I m H=>?_)
 .unfold WQ at H
  refine wP ?_
  refine wt (ltT hiv5) ?_
  obtain⟨e6,h6,H⟩:=bB H
  obtain⟨y7,h7,H⟩:=bB H
  obtain⟨b8,h8,H⟩:=bB H
  refine wG [.u 15 (.ix _ _ _ fun _=>Q0 eI (J0 hxv5)),.u 21 (.ix _ _ _ fun _=>Q0 V1 h6),.c 24 (O0e h7),.c 26 (Ye h8)] fun _=>?_
  refine O0 H (fun H=>?_) fun H=>?_
  .obtain⟨xs9,h9,H⟩:=bB H
   refine wG [.u 30 (.ap _ _ _ _ fun _=>L0 eI h9),.w 31 (wi .i64 rfl hiv5 q4.1)] fun _=>?_
   exact wT (N19 _ H)
  .refine wG [.w 31 (wi .i64 rfl hiv5 q4.1)] fun _=>?_
   exact wT (N19 _ H)
 .unfold QQ at H
  refine wP ?_
  refine wf (ltF nodes2.length) ?_
  refine wP ?_
  replace H:=sI H;subst H
  exact wN [(6,.f)] [] [] [10] [] [⟨_,nw_I v5⟩]
def J0k:L :=
sR [.bx 4 0,.mv 8 (kI 0)]
 (.seq (rE 9 (kI (-1)))
 (.seq (sR [fA 13 4 0,lF 14 13 1,.ln 15 14,.mv 16 (kI 0)]
 (.blk 0 (.loop (.gw (sR [bI 17 .lss 16 15]
 (.seq (.cond 17 .skip
 (.exit 0))
 (.seq (.blk 1 (sR [mV 18 16,mV 10 18]
 (sR [lT 19 4 2,mV 20 1,mV 21 10,cQ 22 Ul [19,20,21],.ln 23 22,mV 11 23]
 (sR [lT 24 4 2,mV 25 10,cQ 26 O5 [24,25],mV 12 26]
 (.seq (sR [mV 27 11,mV 28 2,bI 29 .lss 27 28,mV 30 29,gF 30 (mV 31 12),gF 30 (mV 32 3),gF 30 (bI 33 .gtr 31 32),.pk 34 30 (cB true) 33]
 (.cond 34 (.exit 1)
 .skip))
 (sR [mV 35 9,.bi 36 .lss 35 (kI 0),mV 37 36,gF 37 (mV 38 12),gF 37 (lT 39 4 2),gF 37 (mV 40 9),gF 37 (cQ 41 O5 [39,40]),gF 37 (bI 42 .lss 38 41),.pk 43 37 (cB true) 42,mV 44 43,gF 44 (mV 45 12),gF 44 (lT 46 4 2),gF 44 (mV 47 9),gF 44 (cQ 48 O5 [46,47]),gF 44 (bI 49 .eql 45 48),gF 44 (mV 50 49),gT 50 (mV 51 11),gT 50 (lT 52 4 2),gT 50 (mV 53 1),gT 50 (mV 54 9),gT 50 (cQ 55 Ul [52,53,54]),gT 50 (.ln 56 55),gT 50 (bI 57 .lss 51 56),gF 44 (.pk 58 50 57 (cB false)),.pk 59 44 (cB true) 58]
 (.cond 59 (.reg [mV 60 10,mV 9 60])
 .skip)))))))
 (.reg [.bi 61 .add 16 (kI 1),mV 16 61]))))))))
 (sR [mV 62 9,mV 8 62]
 gR)))
def Lt(t1:Topo)(nodes2:List Int)(n3 level4 _:Int)(i6:Nat)(v6:Int)(k6:Int->Option Int):Option Int :=
 (We t1 nodes2 (i6:Int)).bind fun y7=>(W7 t1 (i6:Int)).bind fun n8=>bif ((decide ((y7.length:Int)<n3))||(decide (level4<n8)))then(k6 v6)else((bif (decide (v6<0))then some default else(W7 t1 v6)).bind fun n10=>(bif ((decide (v6<0))||(decide (n8<n10)))then some default else(W7 t1 v6)).bind fun n11=>(bif ((decide (v6<0))||(decide (n8<n10)))then some default else(bif (n8==n11)then(We t1 nodes2 v6)else some default)).bind fun y12=>bif (((decide (v6<0))||(decide (n8<n10)))||((n8==n11)&&(decide ((y7.length:Int)<(y12.length:Int)))))then(k6 (i6:Int))else(k6 v6))
def UO(v6:Int):Option Int :=
 some v6
def Xo(t1:Topo)(nodes2:List Int)(n3 level4:Int):Option Int :=
 rgl (Lt t1 nodes2 n3 level4) UO t1.parents 0 (-1)
theorem U0j{t1:Topo}{nodes2:List Int}{n3 level4 r:Int}(H:Xo t1 nodes2 n3 level4=some r):Snd Tryz.prog W01 [W4 .rd t1,rV 1 (nodes2.map eI),iV n3,iV level4] (iV r) []:=by
 refine wS J0k [.t 8] ?_
 unfold Xo at H
 refine wG [.u 15 (.ln _ _ fun _=>lm t1.parents eI)] fun q5=>?_
 refine wR (fun(i6:Nat) (v6:Int)=>⟨[(1,rV 1 (nodes2.map eI)),(2,iV n3),(3,iV level4),(4,.ptr 4 0),(9,iV v6),(15,iV (t1.parents.length:Int)),(16,iV (i6:Int))],[],[(4,(W4 .rd t1).cells)],[]⟩) H (fun i6 x6 v6 I m k6 hxv6 hiv6 H N29=>?_) (fun v6 I m H=>?_)
 .unfold Lt at H
  refine wP ?_
  refine wt (ltT hiv6) ?_
  obtain⟨y7,h7,H⟩:=bB H
  obtain⟨n8,h8,H⟩:=bB H
  refine wG [.c 22 (Jl h7),.u 23 (.ln _ _ fun _=>lm y7 eI),.c 26 (J8 h8)] fun q9=>?_
  refine O0 H (fun H=>?_) fun H=>?_
  .refine wG [.w 61 (wi .i64 rfl hiv6 q5.1)] fun _=>?_
   exact wT (N29 _ H)
  .obtain⟨n10,h10,H⟩:=bB H
   obtain⟨n11,h11,H⟩:=bB H
   obtain⟨y12,h12,H⟩:=bB H
   refine wG [.g 41 [(_,false)] (.call _ _ _ _ _ (AEs.refl _) (fun q=>J8 (bF q.1 h10))),.g 48 [(_,false)] (.call _ _ _ _ _ (AEs.refl _) (fun q=>J8 (bF q.1 h11))),.g 55 [(_,true),(_,false)] (.call _ _ _ _ _ (AEs.refl _) (fun q=>Jl (bT q.1 (bF q.2.1 h12)))),.g 56 [((n8==n11),true),(((decide (v6<0))||(decide (n8<n10))),false)] (.ln _ _ fun _=>lm y12 eI)] fun _=>?_
   refine O0 H (fun H=>?_) fun H=>?_
   .refine wG [.w 61 (wi .i64 rfl hiv6 q5.1)] fun _=>?_
    exact wT (N29 _ H)
   .refine wG [.w 61 (wi .i64 rfl hiv6 q5.1)] fun _=>?_
    exact wT (N29 _ H)
 .unfold UO at H
  refine wP ?_
  refine wf (ltF t1.parents.length) ?_
  obtain rfl:=sI H
  exact wP (wE [(8,.d)])
def X0A:L :=
sR [.bx 3 0,.mv 6 (kI 0)]
 (.seq (rE 7 (kI (-1)))
 (.seq (sR [fA 10 3 0,lF 11 10 1,.ln 12 11,.mv 13 (kI 0)]
 (.blk 0 (.loop (.gw (sR [bI 14 .lss 13 12]
 (.seq (.cond 14 .skip
 (.exit 0))
 (.seq (.blk 1 (sR [mV 15 13,mV 8 15]
 (sR [lT 16 3 2,mV 17 1,mV 18 8,cQ 19 Ul [16,17,18],.ln 20 19,mV 9 20]
 (.seq (sR [mV 21 9,.bi 22 .eql 21 (kI 0),mV 23 22,gF 23 (lT 24 3 2),gF 23 (mV 25 8),gF 23 (cQ 26 Up [24,25]),gF 23 (.ln 27 26),gF 23 (.bi 28 .gtr 27 (kI 0)),.pk 29 23 (cB true) 28,mV 30 29,gF 30 (mV 31 2),gF 30 (mV 32 8),gF 30 (cQ 33 Jd [31,32]),.pk 34 30 (cB true) 33]
 (.cond 34 (.exit 1)
 .skip))
 (sR [mV 35 7,.bi 36 .lss 35 (kI 0),mV 37 36,gF 37 (mV 38 9),gF 37 (lT 39 3 2),gF 37 (mV 40 1),gF 37 (mV 41 7),gF 37 (cQ 42 Ul [39,40,41]),gF 37 (.ln 43 42),gF 37 (bI 44 .gtr 38 43),.pk 45 37 (cB true) 44]
 (.cond 45 (.reg [mV 46 8,mV 7 46])
 .skip))))))
 (.reg [.bi 47 .add 13 (kI 1),mV 13 47]))))))))
 (sR [mV 48 7,mV 6 48]
 gR)))
def Jp(t1:Topo)(nodes2 taken3:List Int)(_:Int)(i5:Nat)(v5:Int)(k5:Int->Option Int):Option Int :=
 (We t1 nodes2 (i5:Int)).bind fun y6=>(bif ((y6.length:Int)==0)then some default else(Mg t1 (i5:Int))).bind fun y7=>(bif (((y6.length:Int)==0)||(decide (0<(y7.length:Int))))then some default else(Z9 taken3 (i5:Int))).bind fun b8=>bif ((((y6.length:Int)==0)||(decide (0<(y7.length:Int))))||b8)then(k5 v5)else((bif (decide (v5<0))then some default else(We t1 nodes2 v5)).bind fun y10=>bif ((decide (v5<0))||(decide ((y10.length:Int)<(y6.length:Int))))then(k5 (i5:Int))else(k5 v5))
def QZ(v5:Int):Option Int :=
 some v5
def Uj(t1:Topo)(nodes2 taken3:List Int):Option Int :=
 rgl (Jp t1 nodes2 taken3) QZ t1.parents 0 (-1)
theorem Z0x{t1:Topo}{nodes2 taken3:List Int}{r:Int}(H:Uj t1 nodes2 taken3=some r):Snd Tryz.prog Z0c [W4 .rd t1,rV 1 (nodes2.map eI),rV 1 (taken3.map eI)] (iV r) []:=by
 refine wS X0A [.t 6] ?_
 unfold Uj at H
 refine wG [.u 12 (.ln _ _ fun _=>lm t1.parents eI)] fun q4=>?_
 refine wR (fun(i5:Nat) (v5:Int)=>⟨[(1,rV 1 (nodes2.map eI)),(2,rV 1 (taken3.map eI)),(3,.ptr 3 0),(7,iV v5),(12,iV (t1.parents.length:Int)),(13,iV (i5:Int))],[],[(3,(W4 .rd t1).cells)],[]⟩) H (fun i5 x5 v5 I m k5 hxv5 hiv5 H N27=>?_) (fun v5 I m H=>?_)
 .unfold Jp at H
  refine wP ?_
  refine wt (ltT hiv5) ?_
  obtain⟨y6,h6,H⟩:=bB H
  obtain⟨y7,h7,H⟩:=bB H
  obtain⟨b8,h8,H⟩:=bB H
  refine wG [.c 19 (Jl h6),.u 20 (.ln _ _ fun _=>lm y6 eI),.g 26 [(_,false)] (.call _ _ _ _ _ (AEs.refl _) (fun q=>Yu (bF q.1 h7))),.g 27 [(((y6.length:Int)==0),false)] (.ln _ _ fun _=>lm y7 eI),.g 33 [(_,false)] (.call _ _ _ _ _ (AEs.refl _) (fun q=>Ye (bF q.1 h8)))] fun q9=>?_
  refine O0 H (fun H=>?_) fun H=>?_
  .refine wG [.w 47 (wi .i64 rfl hiv5 q4.1)] fun _=>?_
   exact wT (N27 _ H)
  .obtain⟨y10,h10,H⟩:=bB H
   refine wG [.g 42 [(_,false)] (.call _ _ _ _ _ (AEs.refl _) (fun q=>Jl (bF q.1 h10))),.g 43 [((decide (v5<0)),false)] (.ln _ _ fun _=>lm y10 eI)] fun _=>?_
   refine O0 H (fun H=>?_) fun H=>?_
   .refine wG [.w 47 (wi .i64 rfl hiv5 q4.1)] fun _=>?_
    exact wT (N27 _ H)
   .refine wG [.w 47 (wi .i64 rfl hiv5 q4.1)] fun _=>?_
    exact wT (N27 _ H)
 .unfold QZ at H
  refine wP ?_
  refine wf (ltF t1.parents.length) ?_
  obtain rfl:=sI H
  exact wP (wE [(6,.d)])
def Z0A:L :=
sR [.mv 4 (.c (.nl))]
 (sR [.bs 9 1 [] true,mV 5 9]
 (.seq (rE 6 (cB false))
 (.seq (sR [mV 10 0,.ln 11 10,.mv 12 (kI 0)]
 (.blk 0 (.loop (.gw (sR [bI 13 .lss 12 11]
 (.seq (.cond 13 .skip
 (.exit 0))
 (.seq (.blk 1 (sR [iA 14 10 12 1,lF 15 14 1,mV 8 15]
 (.seq (sR [mV 16 6,.un 17 16,mV 18 17,gT 18 (mV 19 1),gT 18 (mV 20 8),gT 18 (bI 21 .lss 19 20),.pk 22 18 21 (cB false)]
 (.cond 22 (sR [mV 23 5,mV 24 1,.bs 25 1 [24] false,.ap 26 23 25 1 8,mV 5 26]
 (rE 6 (cB true)))
 .skip))
 (.gw (.reg [mV 27 5,mV 28 8,.bs 29 1 [28] false,.ap 30 27 29 1 8,mV 5 30])))))
 (.reg [.bi 31 .add 12 (kI 1),mV 12 31]))))))))
 (.seq (sR [mV 32 6,.un 33 32]
 (.cond 33 (.reg [mV 34 5,mV 35 1,.bs 36 1 [35] false,.ap 37 34 36 1 8,mV 5 37])
 .skip))
 (.gw (sR [mV 38 5,mV 4 38]
 gR))))))
def Lp(x4:Int)(k4:(Bool×(List Int))->Option (List Int))(v6:Bool×(List Int)):Option (List Int) :=
 (appL 8 v6.2 [x4]).bind fun xs7=>k4 (v6.1,xs7)
def Lc(v9:(List Int)):Option (List Int) :=
 some v9
def Oh(n2 x4:Int)(_:Nat)(v4:Bool×(List Int))(k4:(Bool×(List Int))->Option (List Int)):Option (List Int) :=
 bif ((!v4.1)&&(decide (n2<x4)))then((appL 8 v4.2 [n2]).bind fun xs5=>(Lp x4 k4) (true,xs5))else((Lp x4 k4) (v4.1,v4.2))
def Mc(n2:Int)(v4:Bool×(List Int)):Option (List Int) :=
 bif (!v4.1)then((appL 8 v4.2 [n2]).bind fun xs8=>Lc xs8)else(Lc v4.2)
def Jr(l1:List Int)(n2:Int):Option (List Int) :=
 rgl (Oh n2) (Mc n2) l1 0 (false,[])
theorem M02{l1:List Int}{n2:Int}{r:(List Int)}(H:Jr l1 n2=some r):Snd Tryz.prog QS [rV 1 (l1.map eI),iV n2] (nV 1 (r.map eI)) []:=by
 refine wS Z0A [.t 4] ?_
 unfold Jr at H
 refine wG [.u 11 (.ln _ _ fun _=>lm l1 eI)] fun q3=>?_
 refine wR (fun(i4:Nat) (v4:Bool×(List Int))=>⟨[(1,iV n2),(5,.sref 9),(6,.bool v4.1),(10,rV 1 (l1.map eI)),(11,iV (l1.length:Int)),(12,iV (i4:Int))],[],[],[(9,⟨1,v4.2.map eI,false⟩)]⟩) H (fun i4 x4 v4 I m k4 hxv4 hiv4 H N24=>?_) (fun v4 I m H=>?_)
 .unfold Oh at H
  refine wP ?_
  refine wt (ltT hiv4) ?_
  refine wG [.u 14 (.ix _ _ _ fun _=>Q0 eI (J0 hxv4))] fun _=>?_
  refine Z6 (r:=r) (Lp x4 k4) 0 (fun v6:Bool×(List Int)=>⟨[(1,.int .i64 n2),(5,.sref 9),(6,.bool v6.1),(8,.int .i64 x4),(10,.sl .rd 1 (l1.map eI)),(11,.int .i64 (l1.length:Int)),(12,.int .i64 (i4:Int))],[],[],[(9,⟨1,v6.2.map eI,false⟩)]⟩) (by kernel_rfl) (fun v6 H=>?_) (fun J16=>?_)
  .unfold Lp at H
   obtain⟨xs7,h7,H⟩:=bB H
   refine wG [.u 30 (.ap _ _ _ _ fun _=>L0 eI h7),.w 31 (wi .i64 rfl hiv4 q3.1)] fun _=>?_
   exact wT (N24 _ H)
  .refine O0 H (fun H=>?_) fun H=>?_
   .obtain⟨xs5,h5,H⟩:=bB H
    refine wG [.u 26 (.ap _ _ _ _ fun _=>L0 eI h5)] fun _=>?_
    exact wT (J16 _ H)
   .refine wP ?_
    exact wT (J16 _ H)
 .unfold Mc at H
  refine wP ?_
  refine wf (ltF l1.length) ?_
  refine wP ?_
  refine Z6 (r:=r) Lc 0 (fun v9:(List Int)=>⟨[(5,.sref 9)],[],[],[(9,⟨1,v9.map eI,false⟩)]⟩) (by kernel_rfl) (fun v9 H=>?_) (fun J34=>?_)
  .unfold Lc at H
   refine wP ?_
   replace H:=sI H;subst H
   exact wN [(4,.f)] [] [] [9] [] [⟨_,nw_I v9⟩]
  .refine O0 H (fun H=>?_) fun H=>?_
   .obtain⟨xs8,h8,H⟩:=bB H
    refine wG [.u 37 (.ap _ _ _ _ fun _=>L0 eI h8)] fun _=>?_
    exact wT (J34 _ H)
   .refine wP ?_
    exact wT (J34 _ H)
def W0H:L :=
sR [.bx 4 0,.mv 8 (.c (.nl)),.mv 9 (cB false)]
 (.seq (sR [lT 18 4 2,mV 19 1,cQ 20 Ww [18,19],.un 21 20,mV 22 21,gF 22 (mV 23 2),gF 22 (.bi 24 .lss 23 (kI 1)),.pk 25 22 (cB true) 24]
 (.cond 25 (sR [.mv 8 (.c (.nl)),.mv 9 (cB false)]
 gR)
 .skip))
 (.seq (sR [mV 26 1,.ln 27 26,.mv 28 (kI 0)]
 (.blk 0 (.loop (.gw (sR [bI 29 .lss 28 27]
 (.seq (.cond 29 .skip
 (.exit 0))
 (.seq (.blk 1 (sR [mV 30 28,mV 10 30]
 (.seq (.rq 14 [mV 31 10,.bi 32 .gtr 31 (kI 0),mV 33 32,gT 33 (mV 34 1),gT 33 (mV 35 10),gT 33 (.bi 36 .sub 35 (kI 1)),gT 33 (iA 37 34 36 1),gT 33 (lF 38 37 1),gT 33 (mV 39 1),gT 33 (mV 40 10),gT 33 (iA 41 39 40 1),gT 33 (lF 42 41 1),gT 33 (bI 43 .geq 38 42),.pk 44 33 43 (cB false)])
 (.cond 44 (sR [.mv 8 (.c (.nl)),.mv 9 (cB false)]
 gR)
 .skip))))
 (.reg [.bi 45 .add 28 (kI 1),mV 28 45]))))))))
 (sR [lT 46 4 2,mV 47 1,mV 48 2,mV 49 3,cQ 50 W01 [46,47,48,49],mV 11 50]
 (.seq (sR [mV 51 11,.bi 52 .lss 51 (kI 0)]
 (.cond 52 (sR [.mv 8 (.c (.nl)),.mv 9 (cB false)]
 gR)
 .skip))
 (sR [lT 53 4 2,mV 54 1,mV 55 11,cQ 56 Ul [53,54,55],mV 12 56]
 (sR [.bs 57 1 [] true,mV 13 57]
 (sR [.bs 58 1 [] true,mV 14 58]
 (.seq (.blk 2 (.loop (.gw (.seq (sR [mV 59 13,.ln 60 59,mV 61 2,bI 62 .lss 60 61]
 (.cond 62 .skip
 (.exit 2)))
 (.blk 3 (sR [lT 63 4 2,mV 64 12,mV 65 14,cQ 66 Z0c [63,64,65],mV 15 66]
 (sR [mV 67 14,mV 68 15,.bs 69 1 [68] false,.ap 70 67 69 1 8,mV 14 70]
 (sR [lT 71 4 2,mV 72 12,mV 73 15,cQ 74 Ul [71,72,73],.ln 75 74,.mv 76 (kI 0)]
 (.blk 4 (.loop (.gw (sR [bI 77 .lss 76 75]
 (.seq (.cond 77 .skip
 (.exit 4))
 (.seq (.blk 5 (sR [iA 78 74 76 1,lF 79 78 1,mV 17 79]
 (sR [mV 80 13,.ln 81 80,mV 82 2,bI 83 .lss 81 82]
 (.cond 83 (.reg [mV 84 13,mV 85 17,cQ 86 QS [84,85],mV 13 86])
 .skip))))
 (.reg [.bi 87 .add 76 (kI 1),mV 76 87])))))))))))))))
 (sR [mV 88 13,mV 8 88,.mv 9 (cB true)]
 gR)))))))))
def Uv(n3 x17:Int)(_:Nat)(v17:(List Int))(k17:(List Int)->Option ((List Int)×Bool)):Option ((List Int)×Bool) :=
 bif (decide ((v17.length:Int)<n3))then((Jr v17 x17).bind fun y19=>k17 y19)else(k17 v17)
def ZL(k11:((List Int)×(List Int))->Option ((List Int)×Bool))(xs14:List Int)(v17:(List Int)):Option ((List Int)×Bool) :=
 k11 (v17,xs14)
def Qk(t1:Topo)(n3:Int)(y10:(List Int))(v11:(List Int)×(List Int))(k11:((List Int)×(List Int))->Option ((List Int)×Bool)):Option ((List Int)×Bool) :=
 bif (decide ((v11.1.length:Int)<n3))then((Uj t1 y10 v11.2).bind fun n13=>(appL 8 v11.2 [n13]).bind fun xs14=>(We t1 y10 n13).bind fun y15=>rgl (Uv n3) (ZL k11 xs14) y15 0 v11.1)else(some (v11.1,true))
def XL(nodes2:List Int)(x7:Int)(i7:Nat)(_:Unit)(k7:Unit->Option ((List Int)×Bool)):Option ((List Int)×Bool) :=
 (bif (decide (0<(i7:Int)))then(idx nodes2 (w64 ((i7:Int)-1)))else some default).bind fun e8=>bif ((decide (0<(i7:Int)))&&(decide (x7<=e8)))then(some ([],false))else(k7 ())
def YL(t1:Topo)(nodes2:List Int)(n3 level4:Int)(_:Unit):Option ((List Int)×Bool) :=
 (Xo t1 nodes2 n3 level4).bind fun n9=>bif (decide (n9<0))then(some ([],false))else((We t1 nodes2 n9).bind fun y10=>whl (Qk t1 n3 y10) 9223372036854775807 ([],[]))
def VL(t1:Topo)(nodes2:List Int)(n3 level4:Int):Option ((List Int)×Bool) :=
 (Ud t1 nodes2).bind fun b5=>bif ((!b5)||(decide (n3<1)))then(some ([],false))else(rgl (XL nodes2) (YL t1 nodes2 n3 level4) nodes2 0 ())
theorem U0F{t1:Topo}{nodes2:List Int}{n3 level4:Int}{r:(List Int)×Bool}(H:VL t1 nodes2 n3 level4=some r):Snd Tryz.prog X0i [W4 .rd t1,rV 1 (nodes2.map eI),iV n3,iV level4] (.tup [nV 1 (r.1.map eI),.bool r.2]) []:=by
 refine wS W0H [.t 8,.t 9] ?_
 unfold VL at H
 obtain⟨b5,h5,H⟩:=bB H
 refine wG [.c 20 (OE h5)] fun _=>?_
 refine O0 H (fun H=>?_) fun H=>?_
 .refine wP ?_
  replace H:=sI H;subst H
  exact wN [(8,.n 1),(9,.d)] [] [] [] [] [⟨_,nw_I ([]:List Int)⟩]
 .refine wG [.u 27 (.ln _ _ fun _=>lm nodes2 eI)] fun q6=>?_
  refine wR (fun(i7:Nat) (v7:Unit)=>⟨[(1,rV 1 (nodes2.map eI)),(2,iV n3),(3,iV level4),(4,.ptr 4 0),(27,iV (nodes2.length:Int)),(28,iV (i7:Int))],[],[(4,(W4 .rd t1).cells)],[]⟩) H (fun i7 x7 v7 I m k7 hxv7 hiv7 H N27=>?_) (fun v7 I m H=>?_)
  .unfold XL at H
   refine wP ?_
   refine wt (ltT hiv7) ?_
   obtain⟨e8,h8,H⟩:=bB H
   refine wG [.g 37 [(_,true)] (.ix _ _ _ fun q=>Q0 eI (bT q.1 h8)),.g 41 [((decide (0<(i7:Int))),true)] (.ix _ _ _ fun _=>Q0 eI (J0 hxv7))] fun _=>?_
   refine O0 H (fun H=>?_) fun H=>?_
   .refine wP ?_
    replace H:=sI H;subst H
    exact wN [(8,.n 1),(9,.d)] [] [] [] [] [⟨_,nw_I ([]:List Int)⟩]
   .refine wG [.w 45 (wi .i64 rfl hiv7 q6.1)] fun _=>?_
    exact wT (N27 () H)
  .unfold YL at H
   refine wP ?_
   refine wf (ltF nodes2.length) ?_
   obtain⟨n9,h9,H⟩:=bB H
   refine wG [.c 50 (U0j h9)] fun _=>?_
   refine O0 H (fun H=>?_) fun H=>?_
   .refine wP ?_
    replace H:=sI H;subst H
    exact wN [(8,.n 1),(9,.d)] [] [] [] [] [⟨_,nw_I ([]:List Int)⟩]
   .obtain⟨y10,h10,H⟩:=bB H
    refine wG [.c 56 (Jl h10)] fun _=>?_
    refine J1m (fun(v11:(List Int)×(List Int))=>⟨[(2,.int .i64 n3),(4,.ptr 4 0),(12,.sl .nw 1 (y10.map eI)),(13,.sl .nw 1 (v11.1.map eI)),(14,.sref 58)],[],[(4,(W4 .rd t1).cells)],[(58,⟨1,v11.2.map eI,false⟩)]⟩) [(13,.f)] [] [] [57] (by kernel_rfl) (by kernel_rfl) H (fun v11 I m k11 H N72=>?_)
    unfold Qk at H
    refine wG [.u 60 (.ln _ _ fun _=>lm v11.1 eI)] fun q12=>?_
    refine O0 H (fun H=>?_) fun H=>?_
    .obtain⟨n13,h13,H⟩:=bB H
     obtain⟨xs14,h14,H⟩:=bB H
     obtain⟨y15,h15,H⟩:=bB H
     refine wG [.c 66 (Z0x h13),.u 70 (.ap _ _ _ _ fun _=>L0 eI h14),.c 74 (Jl h15),.u 75 (.ln _ _ fun _=>lm y15 eI)] fun q16=>?_
     refine wR (fun(i17:Nat) (v17:(List Int))=>⟨[(2,iV n3),(4,.ptr 4 0),(12,nV 1 (y10.map eI)),(13,nV 1 (v17.map eI)),(14,.sref 58),(74,nV 1 (y15.map eI)),(75,iV (y15.length:Int)),(76,iV (i17:Int))],[],[(4,(W4 .rd t1).cells)],[(58,⟨1,xs14.map eI,false⟩)]⟩) H (fun i17 x17 v17 I m k17 hxv17 hiv17 H N65=>?_) (fun v17 I m H=>?_)
     .unfold Uv at H
      refine wP ?_
      refine wt (ltT hiv17) ?_
      refine wG [.u 78 (.ix _ _ _ fun _=>Q0 eI (J0 hxv17)),.u 81 (.ln _ _ fun _=>lm v17 eI)] fun q18=>?_
      refine O0 H (fun H=>?_) fun H=>?_
      .obtain⟨y19,h19,H⟩:=bB H
       refine wG [.c 86 (M02 h19),.w 87 (wi .i64 rfl hiv17 q16.1)] fun _=>?_
       exact wT (N65 _ H)
      .refine wG [.w 87 (wi .i64 rfl hiv17 q16.1)] fun _=>?_
       exact wT (N65 _ H)
     .unfold ZL at H
      refine wP ?_
      refine wf (ltF y15.length) ?_
      refine wP ?_
      exact wT (N72 _ H)
    .refine wP ?_
     replace H:=sI H;subst H
     exact wN [(8,.d),(9,.d)] [] [] [] [] [⟨_,nw_I v11.1⟩]
def Z0s:L :=
sR [.bx 2 0,.mv 4 (.c (.nl))]
 (sR [mV 10 1,.bs 11 1 [10] true,mV 5 11]
 (.seq (.seq (.rz [] [(1,false,fA 13 2 3),
 (2,false,lF 14 13 1),
 (4,false,fA 16 2 4),
 (5,false,lT 17 16 1),
 (6,false,.bs 18 1 [17] false),
 (9,false,.mv 21 (kI 0)),
 (0,true,.bs 12 1 [] true),
 (3,true,.ap 15 12 14 1 24),
 (7,true,.ap 19 15 18 1 24),
 (8,true,.ln 20 19)]
 [])
 (.blk 0 (.loop (.gw (sR [bI 22 .lss 21 20]
 (.seq (.cond 22 .skip
 (.exit 0))
 (.seq (.blk 1 (sR [iA 23 19 21 1,lT 24 23 1,.al 7 [.nl],.st 7 24 1]
 (sR [fA 25 7 0,lF 26 25 1,.ln 27 26,.mv 28 (kI 0)]
 (.blk 2 (.loop (.gw (sR [bI 29 .lss 28 27]
 (.seq (.cond 29 .skip
 (.exit 2))
 (.seq (.blk 3 (sR [iA 30 26 28 4,lT 31 30 4,.al 9 [.int .i64 0,.int .i64 0,.int .i64 0,.int .i64 0],.st 9 31 4]
 (sR [fA 32 9 0,lF 33 32 1,mV 34 1,bI 35 .gtr 33 34,mV 36 35,gT 36 (mV 37 5),gT 36 (fA 38 9 0),gT 36 (lF 39 38 1),gT 36 (cQ 40 Jd [37,39]),gT 36 (.un 41 40),.pk 42 36 41 (cB false)]
 (.cond 42 (.reg [mV 43 5,fA 44 9 0,lF 45 44 1,cQ 46 QS [43,45],mV 5 46])
 .skip))))
 (.reg [.bi 47 .add 28 (kI 1),mV 28 47]))))))))))
 (.reg [.bi 48 .add 21 (kI 1),mV 21 48]))))))))
 (sR [mV 49 5,mV 4 49]
 gR)))
def Ll(from2:Int)(x8:Pt)(_:Nat)(v8:(List Int))(k8:(List Int)->Option (List Int)):Option (List Int) :=
 (bif (decide (from2<x8.t))then(Z9 v8 x8.t)else some default).bind fun b9=>bif ((decide (from2<x8.t))&&(!b9))then((Jr v8 x8.t).bind fun y10=>k8 y10)else(k8 v8)
def Lx(k6:(List Int)->Option (List Int))(v8:(List Int)):Option (List Int) :=
 k6 v8
def Ml(from2:Int)(x6:List Pt)(_:Nat)(v6:(List Int))(k6:(List Int)->Option (List Int)):Option (List Int) :=
 rgl (Ll from2) (Lx k6) x6 0 v6
def Mx(v6:(List Int)):Option (List Int) :=
 some v6
def Mt(r1:Room)(from2:Int):Option (List Int) :=
 (appL 24 ([]:List (List Pt)) r1.profs).bind fun xs3=>(appL 24 xs3 [r1.lics]).bind fun xs4=>(lenQ xs4).bind fun _=>rgl (Ml from2) Mx xs4 0 [from2]
theorem Q0p{r1:Room}{from2:Int}{r:(List Int)}(H:Mt r1 from2=some r):Snd Tryz.prog J06 [Xj .rd r1,iV from2] (nV 1 (r.map eI)) []:=by
 refine wS Z0s [.t 4] ?_
 unfold Mt at H
 obtain⟨xs3,h3,H⟩:=bB H
 obtain⟨xs4,h4,H⟩:=bB H
 obtain⟨u5,h5,H⟩:=bB H
 refine wG [.u 15 (.ap _ _ _ _ fun _=>L0 (V2 .rd) h3),.u 19 (.ap _ _ _ _ fun _=>L0 (V2 .rd) h4),.u 20 (.le _ _ (fun _=>lm xs4 (V2 .rd)) (fun _=>LV h5))] fun _=>?_
 refine L0b (fun(i6:Nat) (v6:(List Int))=>⟨[(1,.int .i64 from2),(5,.sl .nw 1 (v6.map eI)),(19,.sref 12),(20,.int .i64 (xs4.length:Int)),(21,.int .i64 (i6:Int))],[],[],[(12,⟨1,xs4.map (V2 .rd),false⟩)]⟩) [(5,.f)] [] [] [11] (by kernel_rfl) (by kernel_rfl) H (fun i6 x6 v6 I m k6 hxv6 hiv6 H N34=>?_) (fun v6 I m H=>?_)
 .unfold Ml at H
  refine wP ?_
  refine wt (ltT hiv6) ?_
  refine wG [.u 23 (.ix _ _ _ fun _=>Q0 (V2 .rd) (J0 hxv6)),.u 24 (.el _ _ _ fun _=>gm (V2 .rd) (Y5 (J0 hxv6))),.u 27 (.ln _ _ fun _=>lm x6 ePt)] fun q7=>?_
  refine wR (fun(i8:Nat) (v8:(List Int))=>⟨[(1,iV from2),(5,nV 1 (v8.map eI)),(19,.sref 12),(20,iV (xs4.length:Int)),(21,iV (i6:Int)),(26,rV 4 (x6.map ePt)),(27,iV (x6.length:Int)),(28,iV (i8:Int))],[],[],[(12,⟨1,xs4.map (V2 .rd),false⟩)]⟩) H (fun i8 x8 v8 I m k8 hxv8 hiv8 H N25=>?_) (fun v8 I m H=>?_)
  .unfold Ll at H
   refine wP ?_
   refine wt (ltT hiv8) ?_
   obtain⟨b9,h9,H⟩:=bB H
   refine wG [.u 30 (.ix _ _ _ fun _=>Q0 ePt (J0 hxv8)),.g 40 [(_,true)] (.call _ _ _ _ _ (AEs.refl _) (fun q=>Ye (bT q.1 h9)))] fun _=>?_
   refine O0 H (fun H=>?_) fun H=>?_
   .obtain⟨y10,h10,H⟩:=bB H
    refine wG [.c 46 (M02 h10),.w 47 (wi .i64 rfl hiv8 q7.1)] fun _=>?_
    exact wT (N25 _ H)
   .refine wG [.w 47 (wi .i64 rfl hiv8 q7.1)] fun _=>?_
    exact wT (N25 _ H)
  .unfold Lx at H
   refine wP ?_
   refine wf (ltF x6.length) ?_
   refine wG [.w 48 (wi .i64 rfl hiv6 (LV h5))] fun _=>?_
   exact wT (N34 _ H)
 .unfold Mx at H
  refine wP ?_
  refine wf (ltF xs4.length) ?_
  refine wP ?_
  replace H:=sI H;subst H
  exact wN [(4,.d)] [] [] [] [] [⟨_,nw_I v6⟩]
def Y0G:L :=
sR [.bx 3 0,.bx 4 1,.mv 6 (.c (.nl)),.mv 7 (cB false)]
 (sR [fA 11 3 4,lT 12 11 1,mV 13 2,mV 14 2,fA 15 4 9,lF 16 15 1,bI 17 .add 14 16,cQ 18 WC [12,13,17],mV 10 18,eX 19 10 0,eX 20 10 1,.al 8 [.int .i64 0,.int .i64 0,.int .i64 0],.st 8 19 3,mV 9 20]
 (.seq (sR [mV 21 9,.un 22 21,mV 23 22,gF 23 (fA 24 4 6),gF 23 (lT 25 24 3),gF 23 (lT 26 8 3),gF 23 (cQ 27 Qp [25,26]),gF 23 (.un 28 27),.pk 29 23 (cB true) 28]
 (.cond 29 (sR [.mv 6 (.c (.nl)),.mv 7 (cB false)]
 gR)
 .skip))
 (.seq (.rq 20 [fA 30 3 0,lT 31 30 2,lT 32 3 5,fA 33 4 3,lT 34 33 3,mV 35 2,mV 36 2,fA 37 4 9,lF 38 37 1,bI 39 .add 36 38,cQ 40 Q07 [32,34,35,39],fA 41 4 2,lF 42 41 1,fA 43 4 10,lF 44 43 1,cQ 45 X0i [31,40,42,44],eX 46 45 0,eX 47 45 1,mV 6 46,mV 7 47])
 gR)))
def XK(r1:Room)(j2:Job)(t3:Int):Option ((List Int)×Bool) :=
 (Yk r1.lics t3 (w64 (t3+j2.wall))).bind fun y4=>bif ((!y4.2)||(!(L3 j2.lic y4.1)))then(some ([],false))else((Vv r1 j2.need t3 (w64 (t3+j2.wall))).bind fun y5=>(VL r1.topo y5 j2.nodes j2.level).bind fun y6=>some (y6.1,y6.2))
theorem O0E{r1:Room}{j2:Job}{t3:Int}{r:(List Int)×Bool}(H:XK r1 j2 t3=some r):Snd Tryz.prog Z0i [Xj .rd r1,eJob j2,iV t3] (.tup [nV 1 (r.1.map eI),.bool r.2]) []:=by
 refine wS Y0G [.t 6,.t 7] ?_
 unfold XK at H
 obtain⟨y4,h4,H⟩:=bB H
 refine wG [.c 18 (JK h4),.g 27 [((!y4.2),false)] (.call _ _ _ _ _ (AEs.refl _) (fun _=>UK j2.lic y4.1))] fun _=>?_
 refine O0 H (fun H=>?_) fun H=>?_
 .refine wP ?_
  replace H:=sI H;subst H
  exact wN [(6,.n 1),(7,.d)] [] [] [] [] [⟨_,nw_I ([]:List Int)⟩]
 .obtain⟨y5,h5,H⟩:=bB H
  obtain⟨y6,h6,H⟩:=bB H
  refine wG [.c 40 (Q0q h5),.c 45 (U0F h6)] fun _=>?_
  replace H:=sI H;subst H
  exact wN [(6,.d),(7,.d)] [] [] [] [] [⟨_,nw_I y6.1⟩]
def Y0t:L :=
sR [.bx 3 0,.bx 4 1,.mv 6 (kI 0),.mv 7 (.c (.nl)),.mv 8 (cB false)]
 (.seq (sR [lT 13 3 5,cQ 14 Lw [13],.un 15 14,mV 16 15,gF 16 (lT 17 4 11),gF 16 (cQ 18 Ls [17]),gF 16 (.un 19 18),.pk 20 16 (cB true) 19,mV 21 20,gF 21 (mV 22 2),gF 21 (cQ 23 M3 [22]),gF 21 (.un 24 23),.pk 25 21 (cB true) 24]
 (.cond 25 (sR [.mv 6 (kI 0),.mv 7 (.c (.nl)),.mv 8 (cB false)]
 gR)
 .skip))
 (.seq (sR [lT 26 3 5,mV 27 2,cQ 28 J06 [26,27],.ln 29 28,.mv 30 (kI 0)]
 (.blk 0 (.loop (.gw (sR [bI 31 .lss 30 29]
 (.seq (.cond 31 .skip
 (.exit 0))
 (.seq (.blk 1 (sR [iA 32 28 30 1,lF 33 32 1,mV 10 33]
 (sR [lT 35 3 5,lT 36 4 11,mV 37 10,cQ 38 Z0i [35,36,37],mV 34 38,eX 39 34 0,eX 40 34 1,mV 11 39,mV 12 40]
 (sR [mV 41 12]
 (.cond 41 (sR [mV 42 10,mV 43 11,mV 6 42,mV 7 43,.mv 8 (cB true)]
 gR)
 .skip)))))
 (.reg [.bi 44 .add 30 (kI 1),mV 30 44]))))))))
 (sR [.mv 6 (kI 0),.mv 7 (.c (.nl)),.mv 8 (cB false)]
 gR)))
def Zz(r1:Room)(j2:Job)(x7:Int)(_:Nat)(_:Unit)(k7:Unit->Option (Int×(List Int)×Bool)):Option (Int×(List Int)×Bool) :=
 (XK r1 j2 x7).bind fun y8=>bif y8.2 then(some (x7,y8.1,true))else(k7 ())
def Jy(_:Unit):Option (Int×(List Int)×Bool) :=
 some (0,[],false)
def Om(r1:Room)(j2:Job)(from3:Int):Option (Int×(List Int)×Bool) :=
 (Lj r1).bind fun b4=>bif (((!b4)||(!(W1 j2)))||(!(Q1 from3)))then(some (0,[],false))else((Mt r1 from3).bind fun y5=>rgl (Zz r1 j2) Jy y5 0 ())
theorem V00{r1:Room}{j2:Job}{from3:Int}{r:Int×(List Int)×Bool}(H:Om r1 j2 from3=some r):Snd Tryz.prog WN [Xj .rd r1,eJob j2,iV from3] (.tup [iV r.1,nV 1 (r.2.1.map eI),.bool r.2.2]) []:=by
 refine wS Y0t [.t 6,.t 7,.t 8] ?_
 unfold Om at H
 obtain⟨b4,h4,H⟩:=bB H
 refine wG [.c 14 (LA h4),.g 18 [((!b4),false)] (.call _ _ _ _ _ (AEs.refl _) (fun _=>OH j2)),.g 23 [(((!b4)||(!(W1 j2))),false)] (.call _ _ _ _ _ (AEs.refl _) (fun _=>U4 from3))] fun _=>?_
 refine O0 H (fun H=>?_) fun H=>?_
 .refine wP ?_
  replace H:=sI H;subst H
  exact wN [(6,.d),(7,.n 1),(8,.d)] [] [] [] [] [⟨_,nw_I ([]:List Int)⟩]
 .obtain⟨y5,h5,H⟩:=bB H
  refine wG [.c 28 (Q0p h5),.u 29 (.ln _ _ fun _=>lm y5 eI)] fun q6=>?_
  refine wR (fun(i7:Nat) (v7:Unit)=>⟨[(3,.ptr 3 0),(4,.ptr 4 0),(28,nV 1 (y5.map eI)),(29,iV (y5.length:Int)),(30,iV (i7:Int))],[],[(3,(Xj .rd r1).cells),(4,(eJob j2).cells)],[]⟩) H (fun i7 x7 v7 I m k7 hxv7 hiv7 H N29=>?_) (fun v7 I m H=>?_)
  .unfold Zz at H
   refine wP ?_
   refine wt (ltT hiv7) ?_
   obtain⟨y8,h8,H⟩:=bB H
   refine wG [.u 32 (.ix _ _ _ fun _=>Q0 eI (J0 hxv7)),.c 38 (O0E h8)] fun _=>?_
   refine O0 H (fun H=>?_) fun H=>?_
   .refine wP ?_
    replace H:=sI H;subst H
    exact wN [(6,.d),(7,.d),(8,.d)] [] [] [] [] [⟨_,nw_I y8.1⟩]
   .refine wG [.w 44 (wi .i64 rfl hiv7 q6.1)] fun _=>?_
    exact wT (N29 () H)
  .unfold Jy at H
   refine wP ?_
   refine wf (ltF y5.length) ?_
   refine wP ?_
   replace H:=sI H;subst H
   exact wN [(6,.d),(7,.n 1),(8,.d)] [] [] [] [] [⟨_,nw_I ([]:List Int)⟩]
def Y0A:L :=
sR [.bx 1 0,.al 2 [.nl]]
 (sR [.bs 3 4 [] true,fA 4 1 0,lF 5 4 1,.ap 6 3 5 4 32,.bd 7 [.nl] [(0,1,6)],.st 2 7 1]
 gR)
def Zs(p1:List Pt):Option (List Pt) :=
 (appL 32 ([]:List Pt) p1).bind fun xs2=>some xs2
theorem L02{p1:List Pt}{r:(List Pt)}(H:Zs p1=some r):Snd Tryz.prog WS [.agg [rV 4 (p1.map ePt)]] (V2 .nw r) []:=by
 refine wS Y0A [.c 2 1 true] ?_
 unfold Zs at H
 obtain⟨xs2,h2,H⟩:=bB H
 refine wG [.u 6 (.ap _ _ _ _ fun _=>L0 ePt h2)] fun _=>?_
 replace H:=sI H;subst H
 exact wN [(2,.d)] [(2,[.f])] [] [3] [] [⟨_,Ji xs2⟩]
def U0A:L :=
sR [.bx 1 0,.al 2 [.nl,.nl,.nl,.nl,.nl]]
 (.seq (.rz [(8,3,[.nl,.nl,.nl,.nl,.nl])] [(1,false,fA 7 1 2),
 (2,false,lF 8 7 1),
 (4,false,fA 10 1 4),
 (5,false,lT 11 10 1),
 (0,true,.bs 6 1 [] true),
 (3,true,.ap 9 6 8 1 1),
 (6,false,cQ 12 WS [11]),
 (7,true,.bd 13 [.nl,.nl,.nl,.nl,.nl] [(2,1,9),(4,1,12)])]
 [.st 3 13 5])
 (.seq (.rq 12 [.be 14,fA 15 1 0,fA 16 15 0,lF 17 16 1,.ae 18 14 17 1 8,.be 19,fA 20 1 0,fA 21 20 1,lF 22 21 1,.ae 23 19 22 4 32,.bd 24 [.nl,.nl] [(0,1,18),(1,1,23)],fA 25 3 0,.st 25 24 2])
 (.seq (sR [fA 26 1 3,lF 27 26 1,.ln 28 27,.mv 29 (kI 0)]
 (.blk 0 (.loop (.gw (sR [bI 30 .lss 29 28]
 (.seq (.cond 30 .skip
 (.exit 0))
 (.seq (.blk 1 (sR [iA 31 27 29 1,lT 32 31 1,.al 5 [.nl],.st 5 32 1]
 (.rq 5 [fA 33 3 3,lF 34 33 1,lT 35 5 1,cQ 36 WS [35],.bs 37 1 [36] false,.ap 38 34 37 1 24,fA 39 3 3,.st 39 38 1])))
 (.reg [.bi 40 .add 29 (kI 1),mV 29 40]))))))))
 (sR [lT 41 3 5,.st 2 41 5]
 gR))))
def Yq(x7:List Pt)(_:Nat)(v7:(List (List Pt)))(k7:(List (List Pt))->Option Room):Option Room :=
 (Zs x7).bind fun y8=>(appL 24 v7 [y8]).bind fun xs9=>k7 xs9
def WE(xs2:List Bool)(y3:(List Pt))(xs4:List Int)(xs5:List Node)(v7:(List (List Pt))):Option Room :=
 some (Room.mk (Topo.mk xs4 xs5) xs2 v7 y3)
def Xs(r1:Room):Option Room :=
 (appL 1 ([]:List Bool) r1.up).bind fun xs2=>(Zs r1.lics).bind fun y3=>(appL 8 ([]:List Int) r1.topo.parents).bind fun xs4=>(appL 32 ([]:List Node) r1.topo.nodes).bind fun xs5=>rgl Yq (WE xs2 y3 xs4 xs5) r1.profs 0 []
theorem Y03{r1 r:Room}(H:Xs r1=some r):Snd Tryz.prog MS [Xj .rd r1] (.agg [nV 1 (r.topo.parents.map eI),nV 4 (r.topo.nodes.map V1),.sref 0,.sref 1,nV 4 (r.lics.map ePt)]) [⟨1,r.up.map eBo,false⟩,⟨1,r.profs.map (V2 .nw),false⟩]:=by
 refine wS U0A [.c 2 5 true] ?_
 unfold Xs at H
 obtain⟨xs2,h2,H⟩:=bB H
 obtain⟨y3,h3,H⟩:=bB H
 obtain⟨xs4,h4,H⟩:=bB H
 obtain⟨xs5,h5,H⟩:=bB H
 refine wG [.u 9 (.ap _ _ _ _ fun _=>L0 eBo h2),.c 12 (L02 h3),.u 18 (.ap _ _ _ _ fun _=>L0 eI h4),.u 23 (.ap _ _ _ _ fun _=>L0 V1 h5),.u 28 (.ln _ _ fun _=>lm r1.profs (V2 .rd))] fun q6=>?_
 refine L0b (fun(i7:Nat) (v7:(List (List Pt)))=>⟨[(2,.ptr 2 0),(3,.ptr 3 0),(27,.sl .rd 1 (r1.profs.map (V2 .rd))),(28,.int .i64 (r1.profs.length:Int)),(29,.int .i64 (i7:Int))],[],[(2,[.nl,.nl,.nl,.nl,.nl]),(3,[.sl .nw 1 (xs4.map eI),.sl .nw 4 (xs5.map V1),.sref 6,.sref 386001,.sl .nw 4 (y3.map ePt)])],[(6,⟨1,xs2.map eBo,false⟩),(386001,⟨1,v7.map (V2 .nw),false⟩)]⟩) [] [(3,[.d,.d,.d,.z 386001,.d])] [(386001,(none,1))] [] (by kernel_rfl) (by kernel_rfl) H (fun i7 x7 v7 I m k7 hxv7 hiv7 H N16=>?_) (fun v7 I m H=>?_)
 .unfold Yq at H
  refine wP ?_
  refine wt (ltT hiv7) ?_
  obtain⟨y8,h8,H⟩:=bB H
  obtain⟨xs9,h9,H⟩:=bB H
  refine wG [.u 31 (.ix _ _ _ fun _=>Q0 (V2 .rd) (J0 hxv7)),.c 36 (L02 h8),.u 38 (.ap _ _ _ _ fun _=>L0 (V2 .nw) h9),.w 40 (wi .i64 rfl hiv7 q6.1)] fun _=>?_
  exact wT (N16 _ H)
 .unfold WE at H
  refine wP ?_
  refine wf (ltF r1.profs.length) ?_
  refine wP ?_
  replace H:=sI H;subst H
  exact wN [(2,.d)] [(2,[])] [(6,some 6,0),(386001,some 386001,0)] [] [some 6,some 386001] [⟨_,nw_I xs4⟩,⟨_,M2 xs5⟩,⟨_,Ji y3⟩,⟨_,Js xs2⟩,⟨_,M7 v7⟩]
def V0A:L :=
sR [.bx 3 0,.bx 4 1,.mv 6 (cB false)]
 (.seq (sR [lT 9 3 5,cQ 10 Lw [9],.un 11 10,mV 12 11,gF 12 (lT 13 4 11),gF 12 (cQ 14 Ls [13]),gF 12 (.un 15 14),.pk 16 12 (cB true) 15,mV 17 16,gF 17 (mV 18 2),gF 17 (.ln 19 18),gF 17 (fA 20 4 2),gF 17 (lF 21 20 1),gF 17 (bI 22 .neq 19 21),.pk 23 17 (cB true) 22,mV 24 23,gF 24 (fA 25 3 0),gF 24 (lT 26 25 2),gF 24 (mV 27 2),gF 24 (cQ 28 Ww [26,27]),gF 24 (.un 29 28),.pk 30 24 (cB true) 29]
 (.cond 30 (.seq (rE 6 (cB false))
 gR)
 .skip))
 (.seq (sR [mV 31 2,.ln 32 31,.mv 33 (kI 0)]
 (.blk 0 (.loop (.gw (sR [bI 34 .lss 33 32]
 (.seq (.cond 34 .skip
 (.exit 0))
 (.seq (.blk 1 (sR [mV 35 33,iA 36 31 33 1,lF 37 36 1,mV 7 35,mV 8 37]
 (sR [mV 38 2,mV 39 7,.sc 40 38 none (some 39) 1,mV 41 8,cQ 42 Jd [40,41]]
 (.cond 42 (.seq (rE 6 (cB false))
 gR)
 .skip))))
 (.reg [.bi 43 .add 33 (kI 1),mV 33 43]))))))))
 (.seq (rE 6 (cB true))
 gR)))
def QE(nodes3:List Int)(x7:Int)(i7:Nat)(_:Unit)(k7:Unit->Option Bool):Option Bool :=
 (cutL nodes3 none (some (i7:Int))).bind fun xs8=>(Z9 xs8 x7).bind fun b9=>bif b9 then(some false)else(k7 ())
def OZ(_:Unit):Option Bool :=
 some true
def Ys(r1:Room)(j2:Job)(nodes3:List Int):Option Bool :=
 (Lj r1).bind fun b4=>(bif (((!b4)||(!(W1 j2)))||((nodes3.length:Int)!=j2.nodes))then some default else(Ud r1.topo nodes3)).bind fun b5=>bif ((((!b4)||(!(W1 j2)))||((nodes3.length:Int)!=j2.nodes))||(!b5))then(some false)else(rgl (QE nodes3) OZ nodes3 0 ())
theorem J02{r1:Room}{j2:Job}{nodes3:List Int}{r:Bool}(H:Ys r1 j2 nodes3=some r):Snd Tryz.prog OS [Xj .rd r1,eJob j2,rV 1 (nodes3.map eI)] (.bool r) []:=by
 refine wS V0A [.t 6] ?_
 unfold Ys at H
 obtain⟨b4,h4,H⟩:=bB H
 obtain⟨b5,h5,H⟩:=bB H
 refine wG [.c 10 (LA h4),.g 14 [((!b4),false)] (.call _ _ _ _ _ (AEs.refl _) (fun _=>OH j2)),.g 19 [(((!b4)||(!(W1 j2))),false)] (.ln _ _ fun _=>lm nodes3 eI),.g 28 [(_,false)] (.call _ _ _ _ _ (AEs.refl _) (fun q=>OE (bF q.1 h5)))] fun _=>?_
 refine O0 H (fun H=>?_) fun H=>?_
 .obtain rfl:=sI H
  exact wP (wE [(6,.d)])
 .refine wG [.u 32 (.ln _ _ fun _=>lm nodes3 eI)] fun q6=>?_
  refine wR (fun(i7:Nat) (v7:Unit)=>⟨[(2,rV 1 (nodes3.map eI)),(31,rV 1 (nodes3.map eI)),(32,iV (nodes3.length:Int)),(33,iV (i7:Int))],[],[],[]⟩) H (fun i7 x7 v7 I m k7 hxv7 hiv7 H N27=>?_) (fun v7 I m H=>?_)
  .unfold QE at H
   refine wP ?_
   refine wt (ltT hiv7) ?_
   obtain⟨xs8,h8,H⟩:=bB H
   obtain⟨b9,h9,H⟩:=bB H
   refine wG [.u 36 (.ix _ _ _ fun _=>Q0 eI (J0 hxv7)),.u 40 (.sc _ _ _ _ fun _=>Q0U eI h8),.c 42 (Ye h9)] fun _=>?_
   refine O0 H (fun H=>?_) fun H=>?_
   .obtain rfl:=sI H
    exact wP (wE [(6,.d)])
   .refine wG [.w 43 (wi .i64 rfl hiv7 q6.1)] fun _=>?_
    exact wT (N27 () H)
  .unfold OZ at H
   refine wP ?_
   refine wf (ltF nodes3.length) ?_
   obtain rfl:=sI H
   exact wP (wE [(6,.d)])
def L0A:L :=
sR [.bx 4 0,.bx 5 1,.al 8 [.nl,.nl,.nl,.nl,.nl],.mv 9 (cB false)]
 (.seq (sR [lT 17 4 5,lT 18 5 11,mV 19 3,cQ 20 OS [17,18,19],.un 21 20,mV 22 21,gF 22 (mV 23 2),gF 22 (cQ 24 M3 [23]),gF 22 (.un 25 24),.pk 26 22 (cB true) 25]
 (.cond 26 (sR [.bd 27 [.nl,.nl,.nl,.nl,.nl] [],.st 8 27 5,.mv 9 (cB false)]
 gR)
 .skip))
 (sR [lT 28 4 5,.cl 29 MS [28],.al 10 [.nl,.nl,.nl,.nl,.nl],.st 10 29 5]
 (.seq (sR [mV 30 3,.ln 31 30,.mv 32 (kI 0)]
 (.blk 0 (.loop (.gw (sR [bI 33 .lss 32 31]
 (.seq (.cond 33 .skip
 (.exit 0))
 (.seq (.blk 1 (sR [iA 34 30 32 1,lF 35 34 1,mV 12 35]
 (.seq (.rz [(16,13,[.nl])] [(0,false,fA 37 10 3),
 (2,false,mV 39 12),
 (5,false,mV 42 2),
 (6,false,mV 43 2),
 (7,false,fA 44 5 9),
 (8,false,lF 45 44 1),
 (9,false,bI 46 .add 43 45),
 (10,false,fA 47 5 3),
 (11,false,lT 48 47 3),
 (1,true,lF 38 37 1),
 (3,true,iA 40 38 39 1),
 (4,true,lT 41 40 1),
 (12,false,cQ 49 QN [41,42,46,48]),
 (13,false,mV 36 49),
 (14,false,eX 50 36 0),
 (15,false,eX 51 36 1)]
 [.st 13 50 1,mV 14 51])
 (.seq (sR [mV 52 14,.un 53 52]
 (.cond 53 (sR [.bd 54 [.nl,.nl,.nl,.nl,.nl] [],.st 8 54 5,.mv 9 (cB false)]
 gR)
 .skip))
 (.reg [fA 55 10 3,lF 56 55 1,mV 57 12,lT 58 13 1,iA 59 56 57 1,.st 59 58 1])))))
 (.reg [.bi 60 .add 32 (kI 1),mV 32 60]))))))))
 (sR [fA 62 10 4,lT 63 62 1,mV 64 2,mV 65 2,fA 66 5 9,lF 67 66 1,bI 68 .add 65 67,fA 69 5 6,lT 70 69 3,cQ 71 QN [63,64,68,70],mV 61 71,eX 72 61 0,eX 73 61 1,.al 15 [.nl],.st 15 72 1,mV 16 73]
 (.seq (sR [mV 74 16,.un 75 74]
 (.cond 75 (sR [.bd 76 [.nl,.nl,.nl,.nl,.nl] [],.st 8 76 5,.mv 9 (cB false)]
 gR)
 .skip))
 (sR [lT 77 15 1,fA 78 10 4,.st 78 77 1]
 (sR [lT 79 10 5,.st 8 79 5,.mv 9 (cB true)]
 gR)))))))
def Z00(j2:Job)(at3 x8:Int)(_:Nat)(v8:(List (List Pt)))(k8:(List (List Pt))->Option (Room×Bool)):Option (Room×Bool) :=
 (idx v8 x8).bind fun e9=>(O9 e9 at3 (w64 (at3+j2.wall)) j2.need).bind fun y10=>bif (!y10.2)then(some ((Room.mk (Topo.mk [] []) [] [] []),false))else(k8 (v8.set x8.toNat y10.1))
def JZ(j2:Job)(at3:Int)(y6:Room)(v8:(List (List Pt))):Option (Room×Bool) :=
 (O9 y6.lics at3 (w64 (at3+j2.wall)) j2.lic).bind fun y11=>bif (!y11.2)then(some ((Room.mk (Topo.mk [] []) [] [] []),false))else(some ((Room.mk y6.topo y6.up v8 y11.1),true))
def Jj(r1:Room)(j2:Job)(at3:Int)(nodes4:List Int):Option (Room×Bool) :=
 (Ys r1 j2 nodes4).bind fun b5=>bif ((!b5)||(!(Q1 at3)))then(some ((Room.mk (Topo.mk [] []) [] [] []),false))else((Xs r1).bind fun y6=>rgl (Z00 j2 at3) (JZ j2 at3 y6) nodes4 0 y6.profs)
theorem W03{r1:Room}{j2:Job}{at3:Int}{nodes4:List Int}{r:Room×Bool}(H:Jj r1 j2 at3 nodes4=some r):Snd Tryz.prog JS [Xj .rd r1,eJob j2,iV at3,rV 1 (nodes4.map eI)] (.tup [Xj .nw r.1,.bool r.2]) []:=by
 refine wS L0A [.c 8 5 true,.t 9] ?_
 unfold Jj at H
 obtain⟨b5,h5,H⟩:=bB H
 refine wG [.c 20 (J02 h5),.g 24 [((!b5),false)] (.call _ _ _ _ _ (AEs.refl _) (fun _=>U4 at3))] fun _=>?_
 refine O0 H (fun H=>?_) fun H=>?_
 .refine wP ?_
  replace H:=sI H;subst H
  exact wN [(8,.d),(9,.d)] [(8,[.n 1,.n 4,.n 1,.n 1,.n 4])] [] [] [] [⟨_,nw_I ([]:List Int)⟩,⟨_,M2 ([]:List Node)⟩,⟨_,Js ([]:List Bool)⟩,⟨_,M7 ([]:List (List Pt))⟩,⟨_,Ji ([]:List Pt)⟩]
 .obtain⟨y6,h6,H⟩:=bB H
  refine wG [.c 29 (Y03 h6),.u 31 (.ln _ _ fun _=>lm nodes4 eI)] fun q7=>?_
  refine wR (fun(i8:Nat) (v8:(List (List Pt)))=>⟨[(2,iV at3),(5,.ptr 5 0),(8,.ptr 8 0),(10,.ptr 10 0),(30,rV 1 (nodes4.map eI)),(31,iV (nodes4.length:Int)),(32,iV (i8:Int))],[],[(5,(eJob j2).cells),(8,[.nl,.nl,.nl,.nl,.nl]),(10,[nV 1 (y6.topo.parents.map eI),nV 4 (y6.topo.nodes.map V1),.sref 30000,.sref 30001,nV 4 (y6.lics.map ePt)])],[(30000,⟨1,y6.up.map eBo,false⟩),(30001,⟨1,v8.map (V2 .nw),false⟩)]⟩) H (fun i8 x8 v8 I m k8 hxv8 hiv8 H N32=>?_) (fun v8 I m H=>?_)
  .unfold Z00 at H
   refine wP ?_
   refine wt (ltT hiv8) ?_
   obtain⟨e9,h9,H⟩:=bB H
   obtain⟨y10,h10,H⟩:=bB H
   refine wG [.u 34 (.ix _ _ _ fun _=>Q0 eI (J0 hxv8)),.u 40 (.ix _ _ _ fun _=>Q0 (V2 .nw) h9),.u 41 (.el _ _ _ fun _=>gm (V2 .nw) (Y5 h9)),.c 49 (Y00 h10)] fun _=>?_
   refine O0 H (fun H=>?_) fun H=>?_
   .refine wP ?_
    replace H:=sI H;subst H
    exact wN [(8,.d),(9,.d)] [(8,[.n 1,.n 4,.n 1,.n 1,.n 4])] [] [] [] [⟨_,nw_I ([]:List Int)⟩,⟨_,M2 ([]:List Node)⟩,⟨_,Js ([]:List Bool)⟩,⟨_,M7 ([]:List (List Pt))⟩,⟨_,Ji ([]:List Pt)⟩]
   .refine wG [.u 59 (.ix _ _ _ fun _=>Q0 (V2 .nw) h9),.u 1000000 (.sto _ _ _ (V2 .nw y10.1) _ (fun _=>gm (V2 .nw) (Y5 h9)) (fun _=>Xz ..)),.w 60 (wi .i64 rfl hiv8 q7.1)] fun _=>?_
    exact wT (N32 _ H)
  .unfold JZ at H
   refine wP ?_
   refine wf (ltF nodes4.length) ?_
   obtain⟨y11,h11,H⟩:=bB H
   refine wG [.c 71 (Y00 h11)] fun _=>?_
   refine O0 H (fun H=>?_) fun H=>?_
   .refine wP ?_
    replace H:=sI H;subst H
    exact wN [(8,.d),(9,.d)] [(8,[.n 1,.n 4,.n 1,.n 1,.n 4])] [] [] [] [⟨_,nw_I ([]:List Int)⟩,⟨_,M2 ([]:List Node)⟩,⟨_,Js ([]:List Bool)⟩,⟨_,M7 ([]:List (List Pt))⟩,⟨_,Ji ([]:List Pt)⟩]
   .refine wP ?_
    replace H:=sI H;subst H
    exact wN [(8,.d),(9,.d)] [(8,[.d,.d,.f,.f,.d])] [] [30000,30001] [] [⟨_,nw_I y6.topo.parents⟩,⟨_,M2 y6.topo.nodes⟩,⟨_,Js y6.up⟩,⟨_,M7 v8⟩,⟨_,Ji y11.1⟩]
def V0t:L :=
sR [.bx 1 0,.al 2 [.nl,.nl,.nl,.nl,.nl]]
 (.seq (.rz [(10,3,[.nl,.nl,.nl,.nl,.nl])] [(0,false,fA 6 1 0),
 (1,false,lT 7 6 2),
 (2,false,cQ 8 ON [7]),
 (3,false,fA 9 1 2),
 (4,false,lF 10 9 1),
 (6,false,fA 12 1 4),
 (7,false,lT 13 12 1),
 (5,true,.ap 11 (.c (.nl)) 10 1 1),
 (8,false,cQ 14 MN [13]),
 (9,true,.bd 15 [.nl,.nl,.nl,.nl,.nl] [(0,2,8),(2,1,11),(4,1,14)])]
 [.st 3 15 5])
 (.seq (sR [fA 16 1 3,lF 17 16 1,.ln 18 17,.mv 19 (kI 0)]
 (.blk 0 (.loop (.gw (sR [bI 20 .lss 19 18]
 (.seq (.cond 20 .skip
 (.exit 0))
 (.seq (.blk 1 (sR [iA 21 17 19 1,lT 22 21 1,.al 5 [.nl],.st 5 22 1]
 (.rq 5 [fA 23 3 3,lF 24 23 1,lT 25 5 1,cQ 26 MN [25],.bs 27 1 [26] false,.ap 28 24 27 1 24,fA 29 3 3,.st 29 28 1])))
 (.reg [.bi 30 .add 19 (kI 1),mV 19 30]))))))))
 (sR [lT 31 3 5,.st 2 31 5]
 gR)))
def Zn(x6:List Pt)(_:Nat)(v6:(List (List Pt)))(k6:(List (List Pt))->Option Room):Option Room :=
 (Yn x6).bind fun y7=>(appL 24 v6 [y7]).bind fun xs8=>k6 xs8
def Oz(y2:Topo)(xs3:List Bool)(y4:(List Pt))(v6:(List (List Pt))):Option Room :=
 some (Room.mk y2 xs3 v6 y4)
def Wv(r1:Room):Option Room :=
 (Jm r1.topo).bind fun y2=>(appL 1 ([]:List Bool) r1.up).bind fun xs3=>(Yn r1.lics).bind fun y4=>rgl Zn (Oz y2 xs3 y4) r1.profs 0 []
theorem Z0u{r1 r:Room}(H:Wv r1=some r):Snd Tryz.prog O07 [Xj .rd r1] (.agg [nV 1 (r.topo.parents.map eI),nV 4 (r.topo.nodes.map V1),nV 1 (r.up.map eBo),.sref 0,nV 4 (r.lics.map ePt)]) [⟨1,r.profs.map (V2 .nw),false⟩]:=by
 refine wS V0t [.c 2 5 true] ?_
 unfold Wv at H
 obtain⟨y2,h2,H⟩:=bB H
 obtain⟨xs3,h3,H⟩:=bB H
 obtain⟨y4,h4,H⟩:=bB H
 refine wG [.c 8 (O00 h2),.u 11 (.ap _ _ _ _ fun _=>L0 eBo h3),.c 14 (M00 h4),.u 18 (.ln _ _ fun _=>lm r1.profs (V2 .rd))] fun q5=>?_
 refine L0b (fun(i6:Nat) (v6:(List (List Pt)))=>⟨[(2,.ptr 2 0),(3,.ptr 3 0),(17,.sl .rd 1 (r1.profs.map (V2 .rd))),(18,.int .i64 (r1.profs.length:Int)),(19,.int .i64 (i6:Int))],[],[(2,[.nl,.nl,.nl,.nl,.nl]),(3,[.sl .nw 1 (y2.parents.map eI),.sl .nw 4 (y2.nodes.map V1),.sref 11,.sref 386001,.sl .nw 4 (y4.map ePt)])],[(11,⟨1,xs3.map eBo,false⟩),(386001,⟨1,v6.map (V2 .nw),false⟩)]⟩) [] [(3,[.d,.d,.d,.z 386001,.d])] [(386001,(none,1))] [] (by kernel_rfl) (by kernel_rfl) H (fun i6 x6 v6 I m k6 hxv6 hiv6 H N15=>?_) (fun v6 I m H=>?_)
 .unfold Zn at H
  refine wP ?_
  refine wt (ltT hiv6) ?_
  obtain⟨y7,h7,H⟩:=bB H
  obtain⟨xs8,h8,H⟩:=bB H
  refine wG [.u 21 (.ix _ _ _ fun _=>Q0 (V2 .rd) (J0 hxv6)),.c 26 (M00 h7),.u 28 (.ap _ _ _ _ fun _=>L0 (V2 .nw) h8),.w 30 (wi .i64 rfl hiv6 q5.1)] fun _=>?_
  exact wT (N15 _ H)
 .unfold Oz at H
  refine wP ?_
  refine wf (ltF r1.profs.length) ?_
  refine wP ?_
  replace H:=sI H;subst H
  exact wN [(2,.d)] [(2,[.d,.d,.f,.d,.d])] [(386001,some 386001,0)] [11] [some 386001] [⟨_,nw_I y2.parents⟩,⟨_,M2 y2.nodes⟩,⟨_,Js xs3⟩,⟨_,Ji y4⟩,⟨_,M7 v6⟩]
def Z0S:L :=
sR [.bx 1 0,.mv 2 (cB false)]
 (sR [fA 3 1 0,lF 4 3 1,.cq 5 U1 [4,(kI 1),(kI 999)],mV 6 5,gT 6 (fA 7 1 1),gT 6 (lF 8 7 1),gT 6 (.cq 9 U1 [8,(kI 0),(kI 999)]),.pk 10 6 9 (cB false),mV 11 10,gT 11 (fA 12 1 2),gT 11 (lF 13 12 1),gT 11 (.cq 14 U1 [13,(kI 1),(kI 24)]),.pk 15 11 14 (cB false),mV 16 15,gT 16 (fA 17 1 3),gT 16 (lT 18 17 3),gT 16 (cQ 19 V6 [18]),.pk 20 16 19 (cB false),mV 21 20,gT 21 (fA 22 1 6),gT 21 (lT 23 22 3),gT 21 (cQ 24 V6 [23]),.pk 25 21 24 (cB false),mV 26 25,gT 26 (fA 27 1 9),gT 26 (lF 28 27 1),gT 26 (.cq 29 U1 [28,(kI 1),(kI 1000000)]),.pk 30 26 29 (cB false),mV 31 30,gT 31 (fA 32 1 10),gT 31 (lF 33 32 1),gT 31 (.cq 34 U1 [33,(kI 0),(kI 24)]),.pk 35 31 34 (cB false),mV 2 35]
 gR)
def WP(j1:Job):Option Bool :=
 some (((((((V0 j1.id 1 999)&&(V0 j1.prio 0 999))&&(V0 j1.nodes 1 24))&&(M1 j1.need))&&(M1 j1.lic))&&(V0 j1.wall 1 1000000))&&(V0 j1.level 0 24))
theorem M0C{j1:Job}{r:Bool}(H:WP j1=some r):Snd Tryz.prog JD [eJob j1] (.bool r) []:=by
 refine wS Z0S [.t 2] ?_
 unfold WP at H
 refine wG [.c 5 (Y1 j1.id 1 999),.g 9 [((V0 j1.id 1 999),true)] (.call _ _ _ _ _ (AEs.refl _) (fun _=>Y1 j1.prio 0 999)),.g 14 [(((V0 j1.id 1 999)&&(V0 j1.prio 0 999)),true)] (.call _ _ _ _ _ (AEs.refl _) (fun _=>Y1 j1.nodes 1 24)),.g 19 [((((V0 j1.id 1 999)&&(V0 j1.prio 0 999))&&(V0 j1.nodes 1 24)),true)] (.call _ _ _ _ _ (AEs.refl _) (fun _=>L6 j1.need)),.g 24 [(((((V0 j1.id 1 999)&&(V0 j1.prio 0 999))&&(V0 j1.nodes 1 24))&&(M1 j1.need)),true)] (.call _ _ _ _ _ (AEs.refl _) (fun _=>L6 j1.lic)),.g 29 [((((((V0 j1.id 1 999)&&(V0 j1.prio 0 999))&&(V0 j1.nodes 1 24))&&(M1 j1.need))&&(M1 j1.lic)),true)] (.call _ _ _ _ _ (AEs.refl _) (fun _=>Y1 j1.wall 1 1000000)),.g 34 [(((((((V0 j1.id 1 999)&&(V0 j1.prio 0 999))&&(V0 j1.nodes 1 24))&&(M1 j1.need))&&(M1 j1.lic))&&(V0 j1.wall 1 1000000)),true)] (.call _ _ _ _ _ (AEs.refl _) (fun _=>Y1 j1.level 0 24))] fun _=>?_
 replace H:=sI H;subst H
 exact wE [(2,.d)]
def Xc(j1:Job):Bool :=
 (((((((V0 j1.id 1 999)&&(V0 j1.prio 0 999))&&(V0 j1.nodes 1 24))&&(M1 j1.need))&&(M1 j1.lic))&&(V0 j1.wall 1 1000000))&&(V0 j1.level 0 24))
theorem J0Y(j1:Job):WP j1=some (Xc j1):=by
 unfold WP Xc
 first|rfl|simp only[J5]
theorem JW(j1:Job):Snd Tryz.prog JD [eJob j1] (.bool (Xc j1)) []:=M0C (J0Y j1)
def Q0I:L :=
sR [.bx 1 0,.mv 2 (cB false)]
 (.seq (sR [fA 5 1 0,lT 6 5 2,cQ 7 YJ [6],.un 8 7,mV 9 8,gF 9 (fA 10 1 2),gF 9 (lF 11 10 1),gF 9 (.ln 12 11),gF 9 (fA 13 1 0),gF 9 (fA 14 13 1),gF 9 (lF 15 14 1),gF 9 (.ln 16 15),gF 9 (bI 17 .neq 12 16),.pk 18 9 (cB true) 17,mV 19 18,gF 19 (fA 20 1 3),gF 19 (lF 21 20 1),gF 19 (.ln 22 21),gF 19 (fA 23 1 0),gF 19 (fA 24 23 1),gF 19 (lF 25 24 1),gF 19 (.ln 26 25),gF 19 (bI 27 .neq 22 26),.pk 28 19 (cB true) 27]
 (.cond 28 (.seq (rE 2 (cB false))
 gR)
 .skip))
 (.seq (sR [fA 29 1 3,lF 30 29 1,.ln 31 30,.mv 32 (kI 0)]
 (.blk 0 (.loop (.gw (sR [bI 33 .lss 32 31]
 (.seq (.cond 33 .skip
 (.exit 0))
 (.seq (.blk 1 (sR [iA 34 30 32 1,lT 35 34 1,.al 4 [.nl],.st 4 35 1]
 (sR [lT 36 4 1,cQ 37 XJ [36],.un 38 37]
 (.cond 38 (.seq (rE 2 (cB false))
 gR)
 .skip))))
 (.reg [.bi 39 .add 32 (kI 1),mV 32 39]))))))))
 (sR [fA 40 1 4,lT 41 40 1,cQ 42 XJ [41],mV 2 42]
 gR)))
def OM(x4:List Pt)(_:Nat)(_:Unit)(k4:Unit->Option Bool):Option Bool :=
 (Xr x4).bind fun b5=>bif (!b5)then(some false)else(k4 ())
def WM(r1:Room)(_:Unit):Option Bool :=
 (Xr r1.lics).bind fun b6=>some b6
def MM(r1:Room):Option Bool :=
 (Jk r1.topo).bind fun b2=>bif (((!b2)||((r1.up.length:Int)!=(r1.topo.nodes.length:Int)))||((r1.profs.length:Int)!=(r1.topo.nodes.length:Int)))then(some false)else(rgl OM (WM r1) r1.profs 0 ())
theorem Q0J{r1:Room}{r:Bool}(H:MM r1=some r):Snd Tryz.prog Q0i [Xj .rd r1] (.bool r) []:=by
 refine wS Q0I [.t 2] ?_
 unfold MM at H
 obtain⟨b2,h2,H⟩:=bB H
 refine wG [.c 7 (LR h2),.g 12 [((!b2),false)] (.ln _ _ fun _=>lm r1.up eBo),.g 16 [((!b2),false)] (.ln _ _ fun _=>lm r1.topo.nodes V1),.g 22 [(((!b2)||((r1.up.length:Int)!=(r1.topo.nodes.length:Int))),false)] (.ln _ _ fun _=>lm r1.profs (V2 .rd)),.g 26 [(((!b2)||((r1.up.length:Int)!=(r1.topo.nodes.length:Int))),false)] (.ln _ _ fun _=>lm r1.topo.nodes V1)] fun _=>?_
 refine O0 H (fun H=>?_) fun H=>?_
 .obtain rfl:=sI H
  exact wP (wE [(2,.d)])
 .refine wG [.u 31 (.ln _ _ fun _=>lm r1.profs (V2 .rd))] fun q3=>?_
  refine wR (fun(i4:Nat) (v4:Unit)=>⟨[(1,.ptr 1 0),(30,rV 1 (r1.profs.map (V2 .rd))),(31,iV (r1.profs.length:Int)),(32,iV (i4:Int))],[],[(1,(Xj .rd r1).cells)],[]⟩) H (fun i4 x4 v4 I m k4 hxv4 hiv4 H N27=>?_) (fun v4 I m H=>?_)
  .unfold OM at H
   refine wP ?_
   refine wt (ltT hiv4) ?_
   obtain⟨b5,h5,H⟩:=bB H
   refine wG [.u 34 (.ix _ _ _ fun _=>Q0 (V2 .rd) (J0 hxv4)),.c 37 (ZS h5)] fun _=>?_
   refine O0 H (fun H=>?_) fun H=>?_
   .obtain rfl:=sI H
    exact wP (wE [(2,.d)])
   .refine wG [.w 39 (wi .i64 rfl hiv4 q3.1)] fun _=>?_
    exact wT (N27 () H)
  .unfold WM at H
   refine wP ?_
   refine wf (ltF r1.profs.length) ?_
   obtain⟨b6,h6,H⟩:=bB H
   refine wG [.c 42 (ZS h6)] fun _=>?_
   replace H:=sI H;subst H
   exact wE [(2,.d)]
def O09:L :=
.seq (rE 2 (cB false))
 (.seq (.seq (rE 3 (kI 1))
 (.blk 0 (.loop (.gw (.seq (sR [mV 4 3,mV 5 0,.ln 6 5,bI 7 .lss 4 6]
 (.cond 7 .skip
 (.exit 0)))
 (.seq (.blk 1 (.seq (.rq 10 [mV 10 0,mV 11 3,.bi 12 .sub 11 (kI 1),iA 13 10 12 1,lF 14 13 1,mV 15 0,mV 16 3,iA 17 15 16 1,lF 18 17 1,bI 19 .geq 14 18])
 (.cond 19 (.seq (rE 2 (cB false))
 gR)
 .skip)))
 (.reg [mV 8 3,.bi 9 .add 8 (kI 1),mV 3 9])))))))
 (.seq (rE 2 (cB true))
 gR))
def Z8(l1:List Int)(v2:Int)(k2:Int->Option Bool):Option Bool :=
 bif (decide (v2<(l1.length:Int)))then((idx l1 (w64 (v2-1))).bind fun e4=>(idx l1 v2).bind fun e5=>bif (decide (e5<=e4))then(some false)else(k2 (w64 (v2+1))))else(some true)
def Jf(l1:List Int):Option Bool :=
 whl (Z8 l1) 9223372036854775807 1
theorem M09{l1:List Int}{r:Bool}(H:Jf l1=some r):Snd Tryz.prog JN [rV 1 (l1.map eI)] (.bool r) []:=by
 refine wS O09 [.t 2] ?_
 unfold Jf at H
 refine wP ?_
 refine wW (fun(v2:Int)=>⟨[(0,rV 1 (l1.map eI)),(3,iV v2)],[],[],[]⟩) H (fun v2 I m k2 H N18=>?_)
 unfold Z8 at H
 refine wG [.u 6 (.ln _ _ fun _=>lm l1 eI)] fun q3=>?_
 refine O0 H (fun H=>?_) fun H=>?_
 .obtain⟨e4,h4,H⟩:=bB H
  obtain⟨e5,h5,H⟩:=bB H
  refine wG [.u 13 (.ix _ _ _ fun _=>Q0 eI h4),.u 17 (.ix _ _ _ fun _=>Q0 eI h5)] fun _=>?_
  refine O0 H (fun H=>?_) fun H=>?_
  .obtain rfl:=sI H
   exact wP (wE [(2,.d)])
  .refine wP ?_
   exact wT (N18 _ H)
 .obtain rfl:=sI H
  exact wP (wE [(2,.d)])
def Q0d:L :=
sR [.bx 3 0,.bx 4 1,.mv 6 (cB false)]
 (.seq (sR [mV 9 2,.ln 10 9,.mv 11 (kI 0)]
 (.blk 0 (.loop (.gw (sR [bI 12 .lss 11 10]
 (.seq (.cond 12 .skip
 (.exit 0))
 (.seq (.blk 1 (sR [mV 13 11,iA 14 9 11 1,lF 15 14 1,mV 7 13,mV 8 15]
 (sR [mV 16 2,mV 17 7,.sc 18 16 none (some 17) 1,mV 19 8,cQ 20 Ue [18,19]]
 (.cond 20 (.seq (rE 6 (cB false))
 gR)
 .skip))))
 (.reg [.bi 21 .add 11 (kI 1),mV 11 21]))))))))
 (sR [lT 22 3 2,mV 23 2,cQ 24 LN [22,23],mV 25 24,gT 25 (mV 26 2),gT 25 (.ln 27 26),gT 25 (fA 28 4 2),gT 25 (lF 29 28 1),gT 25 (bI 30 .eql 27 29),.pk 31 25 30 (cB false),mV 6 31]
 gR))
def Zo(nodes3:List Int)(x5:Int)(i5:Nat)(_:Unit)(k5:Unit->Option Bool):Option Bool :=
 (cutL nodes3 none (some (i5:Int))).bind fun xs6=>(M4 xs6 x5).bind fun b7=>bif b7 then(some false)else(k5 ())
def Jn(t1:Topo)(j2:Job)(nodes3:List Int)(_:Unit):Option Bool :=
 (Xn t1 nodes3).bind fun b8=>some (b8&&((nodes3.length:Int)==j2.nodes))
def Xi(t1:Topo)(j2:Job)(nodes3:List Int):Option Bool :=
 rgl (Zo nodes3) (Jn t1 j2 nodes3) nodes3 0 ()
theorem W0d{t1:Topo}{j2:Job}{nodes3:List Int}{r:Bool}(H:Xi t1 j2 nodes3=some r):Snd Tryz.prog VQ [W4 .rd t1,eJob j2,rV 1 (nodes3.map eI)] (.bool r) []:=by
 refine wS Q0d [.t 6] ?_
 unfold Xi at H
 refine wG [.u 10 (.ln _ _ fun _=>lm nodes3 eI)] fun q4=>?_
 refine wR (fun(i5:Nat) (v5:Unit)=>⟨[(2,rV 1 (nodes3.map eI)),(3,.ptr 3 0),(4,.ptr 4 0),(9,rV 1 (nodes3.map eI)),(10,iV (nodes3.length:Int)),(11,iV (i5:Int))],[],[(3,(W4 .rd t1).cells),(4,(eJob j2).cells)],[]⟩) H (fun i5 x5 v5 I m k5 hxv5 hiv5 H N20=>?_) (fun v5 I m H=>?_)
 .unfold Zo at H
  refine wP ?_
  refine wt (ltT hiv5) ?_
  obtain⟨xs6,h6,H⟩:=bB H
  obtain⟨b7,h7,H⟩:=bB H
  refine wG [.u 14 (.ix _ _ _ fun _=>Q0 eI (J0 hxv5)),.u 18 (.sc _ _ _ _ fun _=>Q0U eI h6),.c 20 (Mn h7)] fun _=>?_
  refine O0 H (fun H=>?_) fun H=>?_
  .obtain rfl:=sI H
   exact wP (wE [(6,.d)])
  .refine wG [.w 21 (wi .i64 rfl hiv5 q4.1)] fun _=>?_
   exact wT (N20 () H)
 .unfold Jn at H
  refine wP ?_
  refine wf (ltF nodes3.length) ?_
  obtain⟨b8,h8,H⟩:=bB H
  refine wG [.c 24 (L00 h8),.g 27 [(b8,true)] (.ln _ _ fun _=>lm nodes3 eI)] fun _=>?_
  replace H:=sI H;subst H
  exact wE [(6,.d)]
def ZM:L :=
sR [.bx 6 0,.bx 7 1,.al 12 [.nl,.nl,.nl,.nl,.nl],.mv 13 (cB false)]
 (.seq (sR [lT 21 6 5,cQ 22 Q0i [21],.un 23 22,mV 24 23,gF 24 (lT 25 7 11),gF 24 (cQ 26 JD [25]),gF 24 (.un 27 26),.pk 28 24 (cB true) 27,mV 29 28,gF 29 (fA 30 6 0),gF 29 (lT 31 30 2),gF 29 (lT 32 7 11),gF 29 (mV 33 4),gF 29 (cQ 34 VQ [31,32,33]),gF 29 (.un 35 34),.pk 36 29 (cB true) 35]
 (.cond 36 (sR [.bd 37 [.nl,.nl,.nl,.nl,.nl] [],.st 12 37 5,.mv 13 (cB false)]
 gR)
 .skip))
 (sR [lT 38 6 5,.cl 39 O07 [38],.al 14 [.nl,.nl,.nl,.nl,.nl],.st 14 39 5]
 (.seq (sR [mV 40 4,.ln 41 40,.mv 42 (kI 0)]
 (.blk 0 (.loop (.gw (sR [bI 43 .lss 42 41]
 (.seq (.cond 43 .skip
 (.exit 0))
 (.seq (.blk 1 (sR [iA 44 40 42 1,lF 45 44 1,mV 16 45]
 (.seq (.rz [(14,17,[.nl])] [(0,false,mV 47 5),
 (1,false,fA 48 14 3),
 (3,false,mV 50 16),
 (6,false,mV 53 2),
 (7,false,mV 54 3),
 (8,false,fA 55 7 3),
 (9,false,lT 56 55 3),
 (2,true,lF 49 48 1),
 (4,true,iA 51 49 50 1),
 (5,true,lT 52 51 1),
 (10,false,.cc 57 47 [52,53,54,56]),
 (11,false,mV 46 57),
 (12,false,eX 58 46 0),
 (13,false,eX 59 46 1)]
 [.st 17 58 1,mV 18 59])
 (.seq (sR [mV 60 18,.un 61 60]
 (.cond 61 (sR [.bd 62 [.nl,.nl,.nl,.nl,.nl] [],.st 12 62 5,.mv 13 (cB false)]
 gR)
 .skip))
 (.reg [fA 63 14 3,lF 64 63 1,mV 65 16,lT 66 17 1,iA 67 64 65 1,.st 67 66 1])))))
 (.reg [.bi 68 .add 42 (kI 1),mV 42 68]))))))))
 (sR [mV 70 5,fA 71 14 4,lT 72 71 1,mV 73 2,mV 74 3,fA 75 7 6,lT 76 75 3,.cc 77 70 [72,73,74,76],mV 69 77,eX 78 69 0,eX 79 69 1,.al 19 [.nl],.st 19 78 1,mV 20 79]
 (.seq (sR [mV 80 20,.un 81 80]
 (.cond 81 (sR [.bd 82 [.nl,.nl,.nl,.nl,.nl] [],.st 12 82 5,.mv 13 (cB false)]
 gR)
 .skip))
 (sR [lT 83 19 1,fA 84 14 4,.st 84 83 1]
 (sR [lT 85 14 5,.st 12 85 5,.mv 13 (cB true)]
 gR)))))))
def L9(j2:Job)(from3 to4 x10:Int)(_:Nat)(v10:(List (List Pt)))(k10:(List (List Pt))->Option (Room×Bool)):Option (Room×Bool) :=
 (idx v10 x10).bind fun e11=>(Un e11 from3 to4 j2.need).bind fun y12=>bif (!y12.2)then(some ((Room.mk (Topo.mk [] []) [] [] []),false))else(k10 (v10.set x10.toNat y12.1))
def M9(j2:Job)(from3 to4:Int)(y8:Room)(v10:(List (List Pt))):Option (Room×Bool) :=
 (Un y8.lics from3 to4 j2.lic).bind fun y13=>bif (!y13.2)then(some ((Room.mk (Topo.mk [] []) [] [] []),false))else(some ((Room.mk y8.topo y8.up v10 y13.1),true))
def X6(r1:Room)(j2:Job)(from3 to4:Int)(nodes5:List Int):Option (Room×Bool) :=
 (MM r1).bind fun b6=>(bif ((!b6)||(!(Xc j2)))then some default else(Xi r1.topo j2 nodes5)).bind fun b7=>bif (((!b6)||(!(Xc j2)))||(!b7))then(some ((Room.mk (Topo.mk [] []) [] [] []),false))else((Wv r1).bind fun y8=>rgl (L9 j2 from3 to4) (M9 j2 from3 to4 y8) nodes5 0 y8.profs)
theorem XM{r1:Room}{j2:Job}{from3 to4:Int}{nodes5:List Int}{r:Room×Bool}(H:X6 r1 j2 from3 to4 nodes5=some r):Snd Tryz.prog J0o [Xj .rd r1,eJob j2,iV from3,iV to4,rV 1 (nodes5.map eI),.fn Wl []] (.tup [Xj .nw r.1,.bool r.2]) []:=by
 refine wS ZM [.c 12 5 true,.t 13] ?_
 unfold X6 at H
 obtain⟨b6,h6,H⟩:=bB H
 obtain⟨b7,h7,H⟩:=bB H
 refine wG [.c 22 (Q0J h6),.g 26 [((!b6),false)] (.call _ _ _ _ _ (AEs.refl _) (fun _=>JW j2)),.g 34 [(_,false)] (.call _ _ _ _ _ (AEs.refl _) (fun q=>W0d (bF q.1 h7)))] fun _=>?_
 refine O0 H (fun H=>?_) fun H=>?_
 .refine wP ?_
  replace H:=sI H;subst H
  exact wN [(12,.d),(13,.d)] [(12,[.n 1,.n 4,.n 1,.n 1,.n 4])] [] [] [] [⟨_,nw_I ([]:List Int)⟩,⟨_,M2 ([]:List Node)⟩,⟨_,Js ([]:List Bool)⟩,⟨_,M7 ([]:List (List Pt))⟩,⟨_,Ji ([]:List Pt)⟩]
 .obtain⟨y8,h8,H⟩:=bB H
  refine wG [.c 39 (Z0u h8),.u 41 (.ln _ _ fun _=>lm nodes5 eI)] fun q9=>?_
  refine wR (fun(i10:Nat) (v10:(List (List Pt)))=>⟨[(2,iV from3),(3,iV to4),(5,.fn Wl []),(7,.ptr 7 0),(12,.ptr 12 0),(14,.ptr 14 0),(40,rV 1 (nodes5.map eI)),(41,iV (nodes5.length:Int)),(42,iV (i10:Int))],[],[(7,(eJob j2).cells),(12,[.nl,.nl,.nl,.nl,.nl]),(14,[nV 1 (y8.topo.parents.map eI),nV 4 (y8.topo.nodes.map V1),nV 1 (y8.up.map eBo),.sref 40000,nV 4 (y8.lics.map ePt)])],[(40000,⟨1,v10.map (V2 .nw),false⟩)]⟩) H (fun i10 x10 v10 I m k10 hxv10 hiv10 H N32=>?_) (fun v10 I m H=>?_)
  .unfold L9 at H
   refine wP ?_
   refine wt (ltT hiv10) ?_
   obtain⟨e11,h11,H⟩:=bB H
   obtain⟨y12,h12,H⟩:=bB H
   refine wG [.u 44 (.ix _ _ _ fun _=>Q0 eI (J0 hxv10)),.u 51 (.ix _ _ _ fun _=>Q0 (V2 .nw) h11),.u 52 (.el _ _ _ fun _=>gm (V2 .nw) (Y5 h11)),.u 57 (.clsr _ _ _ _ _ (AEs.refl _) (by kernel_rfl) (fun _=>Z01 h12))] fun _=>?_
   refine O0 H (fun H=>?_) fun H=>?_
   .refine wP ?_
    replace H:=sI H;subst H
    exact wN [(12,.d),(13,.d)] [(12,[.n 1,.n 4,.n 1,.n 1,.n 4])] [] [] [] [⟨_,nw_I ([]:List Int)⟩,⟨_,M2 ([]:List Node)⟩,⟨_,Js ([]:List Bool)⟩,⟨_,M7 ([]:List (List Pt))⟩,⟨_,Ji ([]:List Pt)⟩]
   .refine wG [.u 67 (.ix _ _ _ fun _=>Q0 (V2 .nw) h11),.u 1000000 (.sto _ _ _ (V2 .nw y12.1) _ (fun _=>gm (V2 .nw) (Y5 h11)) (fun _=>Xz ..)),.w 68 (wi .i64 rfl hiv10 q9.1)] fun _=>?_
    exact wT (N32 _ H)
  .unfold M9 at H
   refine wP ?_
   refine wf (ltF nodes5.length) ?_
   obtain⟨y13,h13,H⟩:=bB H
   refine wG [.u 77 (.clsr _ _ _ _ _ (AEs.refl _) (by kernel_rfl) (fun _=>Z01 h13))] fun _=>?_
   refine O0 H (fun H=>?_) fun H=>?_
   .refine wP ?_
    replace H:=sI H;subst H
    exact wN [(12,.d),(13,.d)] [(12,[.n 1,.n 4,.n 1,.n 1,.n 4])] [] [] [] [⟨_,nw_I ([]:List Int)⟩,⟨_,M2 ([]:List Node)⟩,⟨_,Js ([]:List Bool)⟩,⟨_,M7 ([]:List (List Pt))⟩,⟨_,Ji ([]:List Pt)⟩]
   .refine wP ?_
    replace H:=sI H;subst H
    exact wN [(12,.d),(13,.d)] [(12,[.d,.d,.d,.f,.d])] [] [40000] [] [⟨_,nw_I y8.topo.parents⟩,⟨_,M2 y8.topo.nodes⟩,⟨_,Js y8.up⟩,⟨_,M7 v10⟩,⟨_,Ji y13.1⟩]
theorem VD{j:Job}:W1 j=true↔(1<=j.id/\j.id<=999)/\(0<=j.prio/\j.prio<=999)/\(1<=j.nodes/\j.nodes<=24)/\W0 j.need=true/\W0 j.lic=true/\(1<=j.wall/\j.wall<=1000000)/\(0<=j.level/\j.level<=24):=by
 unfold W1
 by_cases h:(1<=j.id/\j.id<=999)/\(0<=j.prio/\j.prio<=999)/\(1<=j.nodes/\j.nodes<=24)
 .rw[show((((((decide (j.id<1))||(decide (999<j.id)))||(decide (j.prio<0)))||(decide (999<j.prio)))||(decide (j.nodes<1)))||(decide (24<j.nodes)))=false by simp;omega]
  simp only[yM,yD,yO]
  constructor
  .intro q;exact⟨h.1,h.2.1,h.2.2,q.1.1.1.1.1,q.1.1.1.1.2,⟨q.1.1.1.2,q.1.1.2⟩,q.1.2,q.2⟩
  .intro q;exact⟨⟨⟨⟨⟨q.2.2.2.1,q.2.2.2.2.1⟩,q.2.2.2.2.2.1.1⟩,q.2.2.2.2.2.1.2⟩,q.2.2.2.2.2.2.1⟩,q.2.2.2.2.2.2.2⟩
 .rw[show((((((decide (j.id<1))||(decide (999<j.id)))||(decide (j.prio<0)))||(decide (999<j.prio)))||(decide (j.nodes<1)))||(decide (24<j.nodes)))=true by
   simp only[Bool.or_eq_true,yO];omega]
  simp only[yN]
  exact Xg fun q=>h ⟨q.1,q.2.1,q.2.2.1⟩
theorem ZX(j:Job):Xc j=W1 j:=by
 rw[Bool.eq_iff_iff,VD]
 unfold Xc V0
 simp only[Mv,yD,yO,and_assoc]
structure RoomP(r:Room):Prop where
 topo:TopoP r.topo
 up:r.up.length=r.topo.nodes.length
 profs:r.profs.length=r.topo.nodes.length
 prof:∀p∈r.profs,ProfP p
 lics:ProfP r.lics
noncomputable def roomOk(r:Room):Bool:=topoOk r.topo&&decide (r.up.length=r.topo.nodes.length)&&decide (r.profs.length=r.topo.nodes.length)&&profOk r.lics&&r.profs.all profOk
theorem XU{r:Room}:roomOk r=true↔RoomP r:=by
 unfold roomOk
 simp only[yD,yO,List.all_eq_true,UJ,MJ]
 exact⟨fun h=>⟨h.1.1.1.1,h.1.1.1.2,h.1.1.2,h.2,h.1.2⟩,fun h=>⟨⟨⟨⟨h.topo,h.up⟩,h.profs⟩,h.lics⟩,h.prof⟩⟩
theorem J0P(a b:Nat):((a:Int)!=(b:Int)) = !decide (a=b):=by
 by_cases h:a=b
 .simp[h]
 .rw[show((a:Int)!=(b:Int))=true by simp;omega];simp[h]
theorem JA(r:Room):Lj r=some (roomOk r):=by
 unfold Lj roomOk
 rw[Wo,bS]
 simp only[J0P,Ya]
 rw[Mf (r:=some false) (p:=fun p=>!profOk p) (fun x _ i k=>by unfold WK;rw[Ya,bS]),← List.not_all_eq_any_not]
 cases topoOk r.topo<;>cases decide (r.up.length=r.topo.nodes.length)<;>cases decide (r.profs.length=r.topo.nodes.length)<;>cases profOk r.lics<;>cases r.profs.all profOk<;>rfl
theorem W0J(r:Room):MM r=some (roomOk r):=by
 unfold MM roomOk
 rw[JR,Wo,bS]
 simp only[J0P]
 rw[Mf (r:=some false) (p:=fun p=>!profOk p) (fun x _ i k=>by unfold OM;rw[YS,Ya,bS]),← List.not_all_eq_any_not]
 unfold WM
 rw[YS,Ya,bS]
 cases topoOk r.topo<;>cases decide (r.up.length=r.topo.nodes.length)<;>cases decide (r.profs.length=r.topo.nodes.length)<;>cases profOk r.lics<;>cases r.profs.all profOk<;>rfl
structure RoomS(r:Room):Prop where
 up:r.up.length<=1048576
 par:r.topo.parents.length<=1048576
 nodes:r.topo.nodes.length<=1048576
 profs:r.profs.length<=1048576
 prof:∀p∈r.profs,p.length<=1048576
 lics:r.lics.length<=1048576
theorem RoomP.small{r:Room}(h:RoomP r):RoomS r :=
  ⟨by have:=h.up;have:=h.topo.nodes;omega,by have:=h.topo.tree.le;omega,by have:=h.topo.nodes;omega,by have:=h.profs;have:=h.topo.nodes;omega,fun p hp=>by have:=(h.prof p hp).le;omega,by have:=h.lics.le;omega⟩
theorem X03{r:Room}(h:RoomS r):Xs r=some r:=by
 unfold Xs Zs
 have:=h.up;have:=h.lics;have:=h.par;have:=h.nodes;have:=h.profs
 rw[M0 (by simp;omega),bS,M0 (by simp;omega),bS,bS,M0 (by simp;omega),bS,M0 (by simp;omega),bS]
 rw[M8 (bd:=Yq) (bs:=24) (p:=fun _=>true) (f:=id) (fun x hx i b k=>by
  have:=h.prof x hx
  unfold Yq Zs
  rw[M0 (by simp;omega),bS,bS];simp) (by simp;omega)]
 unfold WE
 simp[List.filter_eq_self.2]
theorem Y0u{r:Room}(h:RoomS r):Wv r=some r:=by
 unfold Wv Jm Ov Yn
 have:=h.up;have:=h.lics;have:=h.par;have:=h.nodes;have:=h.profs
 rw[M0 (by simp;omega),bS,bS,M0 (by simp;omega),bS,bS,M0 (by simp;omega),bS,M0 (by simp;omega),bS,bS]
 rw[M8 (bd:=Zn) (bs:=24) (p:=fun _=>true) (f:=id) (fun x hx i b k=>by
  have:=h.prof x hx
  unfold Zn Yn
  rw[M0 (by simp;omega),bS,bS];simp) (by simp;omega)]
 unfold Oz
 simp[List.filter_eq_self.2]
theorem U0U{α:Type}{l:List α}{i:Nat}(h:i<=l.length):cutL l none (some (i:Int))=some (l.take i):=by
 unfold cutL bhi blo
 simp[h]
theorem M0L{l:List Int}{i:Nat}{x:Int}(hx:l[i]?=some x):(l.take (i+1)).Nodup↔(l.take i).Nodup/\x∉l.take i:=by
 obtain⟨hi,rfl⟩:=yB hx
 rw[List.take_succ_eq_append_getElem hi,List.nodup_append]
 constructor
 .intro h;exact⟨h.1,fun hm=>h.2.2 _ hm _ (List.mem_singleton.2 rfl) rfl⟩
 .intro h;exact⟨h.1,by simp,fun a ha b hb e=>by rw[List.mem_singleton.1 hb]at e;subst e;exact h.2 ha⟩
theorem L0L{γ:Type}{bd:Int->Nat->Unit->(Unit->Option γ)->Option γ}{kk:Unit->Option γ}{r:Option γ}{l:List Int}
  (hb:∀i x k,i<=l.length->bd x i () k=bif (l.take i).contains x then r else k ()):rgl bd kk l 0 ()=bif decide l.Nodup then kk ()else r:=by
 refine U7 (fun i (_:Unit)=>(l.take i).Nodup) (fun o=>o=bif decide l.Nodup then kk ()else r) (fun i x b k hx hI hk=>?_) (fun b hI=>?_) (by simp)
 .have hil:=(yB hx).1
  rw[hb i x k (by omega)]
  cases hc:(l.take i).contains x with
  |true =>
   have hm:=List.contains_iff_mem.1 hc
   have:¬ l.Nodup:=fun q=>((M0L hx).1 (q.sublist (List.take_sublist _ _))).2 hm
   simp[this]
  |false=>exact hk () ((M0L hx).2 ⟨hI,fun hm=>by rw[List.contains_iff_mem.2 hm]at hc;cases hc⟩)
 .rw[List.take_of_length_le (yV _)]at hI
  simp[hI]
noncomputable def diffOk(r:Room)(j:Job)(nodes:List Int):Bool:=roomOk r&&W1 j&&decide ((nodes.length:Int)=j.nodes)&&W5 r.topo nodes&&decide nodes.Nodup
theorem Z03(r:Room)(j:Job)(nodes:List Int):Ys r j nodes=some (diffOk r j nodes):=by
 unfold Ys diffOk
 rw[JA,bS]
 have e:((nodes.length:Int)!=j.nodes) = !decide ((nodes.length:Int)=j.nodes):=by
  by_cases h:(nodes.length:Int)=j.nodes<;>simp[h]
 simp only[e,Xq]
 rw[L0L (r:=some false) (fun i x k hi=>by unfold QE;rw[U0U hi,bS,Za,bS])]
 cases roomOk r<;>cases W1 j<;>cases decide ((nodes.length:Int)=j.nodes)<;>cases W5 r.topo nodes<;>cases decide nodes.Nodup<;>rfl
theorem O0d{t:Topo}(ht:t.nodes.length<=1048576)(j:Job)(nodes:List Int):Xi t j nodes=some (decide ((nodes.length:Int)=j.nodes)&&W5 t nodes&&decide nodes.Nodup):=by
 unfold Xi
 rw[L0L (r:=some false) (fun i x k hi=>by unfold Zo;rw[U0U hi,bS,OO,bS])]
 unfold Jn
 rw[J00 t nodes ht,bS]
 have e:((nodes.length:Int)==j.nodes)=decide ((nodes.length:Int)=j.nodes):=by
  by_cases h:(nodes.length:Int)=j.nodes<;>simp[h]
 rw[e]
 cases decide ((nodes.length:Int)=j.nodes)<;>cases W5 t nodes<;>cases decide nodes.Nodup<;>rfl
def Mo:Room×Bool:=(⟨⟨[],[]⟩,[],[],[]⟩,false)
def L07(r:Room)(need lic:Vec)(from_ to_:Int)(nodes:List Int):Option (Room×Bool) :=
 rgl (fun x _ v k=>(idx v x).bind fun e=>(O9 e from_ to_ need).bind fun y=>bif !y.2 then some Mo else k (v.set x.toNat y.1))
  (fun v=>(O9 r.lics from_ to_ lic).bind fun y=>bif !y.2 then some Mo else some (⟨r.topo,r.up,v,y.1⟩,true)) nodes 0 r.profs
theorem U0e{r:Room}(hr:RoomP r)(need lic:Vec)(from_ to_:Int){nodes:List Int}(hn:W5 r.topo nodes=true) :
  ∃q,L07 r need lic from_ to_ nodes=some q/\(q.2=true->RoomP q.1/\q.1.topo=r.topo/\q.1.up=r.up):=by
 have hn:=(O6.1 hn).2
 unfold L07
 refine U7 (fun i (v:List (List Pt))=>v.length=r.topo.nodes.length/\∀p∈v,ProfP p) (fun o=>∃q:Room×Bool,o=some q/\(q.2=true->RoomP q.1/\q.1.topo=r.topo/\q.1.up=r.up)) (fun i x v k hx hI hk=>?_) (fun v hI=>?_) ⟨hr.profs,hr.prof⟩
 .have hx':=hn x (yE hx)
  obtain⟨e,q1,q2⟩:=Md (l:=v) (i:=x) hx'.1 (by rw[hI.1];exact hx'.2)
  obtain⟨y,h1,h2⟩:=(Y0e e from_ to_ need).2
  rw[q1,bS,h1,bS]
  cases hy:y.2 with
  |false=>exact⟨Mo,rfl,fun h=>by cases h⟩
  |true =>
   refine hk _ ⟨by simp[hI.1],fun p hp=>?_⟩
   rcases List.mem_or_eq_of_mem_set hp with hp|rfl
   .exact hI.2 p hp
   .exact h2 hy
 .obtain⟨y,h1,h2⟩:=(Y0e r.lics from_ to_ lic).2
  rw[h1,bS]
  cases hy:y.2 with
  |false=>exact⟨Mo,rfl,fun h=>by cases h⟩
  |true=>exact⟨_,rfl,fun _=>⟨⟨hr.topo,hr.up,hI.1,hI.2,h2 hy⟩,rfl,rfl⟩⟩
theorem O03(r:Room)(j:Job)(t:Int)(nodes:List Int):Jj r j t nodes=bif diffOk r j nodes&&time t then L07 r j.need j.lic t (w64 (t+j.wall)) nodes else some Mo:=by
 unfold Jj
 rw[Z03,bS,Je]
 cases hd:diffOk r j nodes with
 |false=>rfl
 |true =>
  cases time t with
  |false=>rfl
  |true =>
   have hr:roomOk r=true:=by unfold diffOk at hd;simp only[yD]at hd;exact hd.1.1.1.1
   simp only[yL,Bool.or_self,yM,Bool.and_self,yN]
   rw[X03 (XU.1 hr).small,bS]
   rfl
end Go.Proofs.YtpgaganbacipnaaGreat
