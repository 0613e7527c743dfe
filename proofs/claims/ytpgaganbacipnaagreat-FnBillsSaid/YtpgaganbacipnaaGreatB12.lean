/-
  Lemmas, part 12.
-/
import Derived.Test.YtpgaganbacipnaaGreatB11
import Derived.Test.YtpgaganbacipnaaGreatB1
namespace Go.Proofs.YtpgaganbacipnaaGreat
open Go Go.RowKit Eng
def O0H:L :=
sR [.bx 1 0,.mv 2 (cB false)]
 (sR [fA 3 1 0,lF 4 3 1,.bi 5 .geq 4 (kI 1),mV 6 5,gT 6 (fA 7 1 0),gT 6 (lF 8 7 1),gT 6 (.bi 9 .leq 8 (kI 999)),.pk 10 6 9 (cB false),mV 11 10,gT 11 (fA 12 1 1),gT 11 (lF 13 12 1),gT 11 (cQ 14 M3 [13]),.pk 15 11 14 (cB false),mV 16 15,gT 16 (fA 17 1 2),gT 16 (lF 18 17 1),gT 16 (cQ 19 M3 [18]),.pk 20 16 19 (cB false),mV 21 20,gT 21 (fA 22 1 1),gT 21 (lF 23 22 1),gT 21 (fA 24 1 2),gT 21 (lF 25 24 1),gT 21 (bI 26 .leq 23 25),.pk 27 21 26 (cB false),mV 28 27,gT 28 (fA 29 1 3),gT 28 (lF 30 29 1),gT 28 (.bi 31 .geq 30 (kI 1)),.pk 32 28 31 (cB false),mV 33 32,gT 33 (fA 34 1 3),gT 33 (lF 35 34 1),gT 33 (.bi 36 .leq 35 (kI 24)),.pk 37 33 36 (cB false),mV 38 37,gT 38 (fA 39 1 4),gT 38 (lT 40 39 3),gT 38 (cQ 41 U3 [40]),.pk 42 38 41 (cB false),mV 2 42]
 gR)
def MH(b1:Bill):Option Bool :=
 some ((((((((decide (1<=b1.id))&&(decide (b1.id<=999)))&&(Q1 b1.fr))&&(Q1 b1.to_))&&(decide (b1.fr<=b1.to_)))&&(decide (1<=b1.nodes)))&&(decide (b1.nodes<=24)))&&(W0 b1.need))
theorem O0q{b1:Bill}{r:Bool}(H:MH b1=some r):Snd Tryz.prog QY [Wc b1] (.bool r) []:=by
 refine wS O0H [.t 2] ?_
 unfold MH at H
 refine wG [.g 14 [(((decide (1<=b1.id))&&(decide (b1.id<=999))),true)] (.call _ _ _ _ _ (AEs.refl _) (fun _=>U4 b1.fr)),.g 19 [((((decide (1<=b1.id))&&(decide (b1.id<=999)))&&(Q1 b1.fr)),true)] (.call _ _ _ _ _ (AEs.refl _) (fun _=>U4 b1.to_)),.g 41 [((((((((decide (1<=b1.id))&&(decide (b1.id<=999)))&&(Q1 b1.fr))&&(Q1 b1.to_))&&(decide (b1.fr<=b1.to_)))&&(decide (1<=b1.nodes)))&&(decide (b1.nodes<=24))),true)] (.call _ _ _ _ _ (AEs.refl _) (fun _=>Q3 b1.need))] fun _=>?_
 replace H:=sI H;subst H
 exact wE [(2,.d)]
def W6(b1:Bill):Bool :=
 ((((((((decide (1<=b1.id))&&(decide (b1.id<=999)))&&(Q1 b1.fr))&&(Q1 b1.to_))&&(decide (b1.fr<=b1.to_)))&&(decide (1<=b1.nodes)))&&(decide (b1.nodes<=24)))&&(W0 b1.need))
theorem V0O(b1:Bill):MH b1=some (W6 b1):=by
 unfold MH W6
 first|rfl|simp only[J5]
theorem W0F(b1:Bill):Snd Tryz.prog QY [Wc b1] (.bool (W6 b1)) []:=O0q (V0O b1)
def X0B:L :=
.seq (rE 2 (cB false))
 (.seq (sR [mV 5 0,.ln 6 5,.mv 7 (kI 0)]
 (.blk 0 (.loop (.gw (sR [bI 8 .lss 7 6]
 (.seq (.cond 8 .skip
 (.exit 0))
 (.seq (.blk 1 (sR [iA 9 5 7 7,lT 10 9 7,.al 4 [.int .i64 0,.int .i64 0,.int .i64 0,.int .i64 0,.int .i64 0,.int .i64 0,.int .i64 0],.st 4 10 7]
 (sR [lT 11 4 7,cQ 12 QY [11],.un 13 12]
 (.cond 13 (.seq (rE 2 (cB false))
 gR)
 .skip))))
 (.reg [.bi 14 .add 7 (kI 1),mV 7 14]))))))))
 (sR [mV 15 0,.ln 16 15,.bi 17 .leq 16 (kI 300),mV 2 17]
 gR))
def Q00(x3:Bill)(_:Nat)(_:Unit)(k3:Unit->Option Bool):Option Bool :=
 bif (!(W6 x3))then(some false)else(k3 ())
def XF(l1:List Bill)(_:Unit):Option Bool :=
 some (decide ((l1.length:Int)<=300))
def JC(l1:List Bill):Option Bool :=
 rgl Q00 (XF l1) l1 0 ()
theorem V0x{l1:List Bill}{r:Bool}(H:JC l1=some r):Snd Tryz.prog Y0c [rV 7 (l1.map Wc)] (.bool r) []:=by
 refine wS X0B [.t 2] ?_
 unfold JC at H
 refine wG [.u 6 (.ln _ _ fun _=>lm l1 Wc)] fun q2=>?_
 refine wR (fun(i3:Nat) (v3:Unit)=>⟨[(0,rV 7 (l1.map Wc)),(5,rV 7 (l1.map Wc)),(6,iV (l1.length:Int)),(7,iV (i3:Int))],[],[],[]⟩) H (fun i3 x3 v3 I m k3 hxv3 hiv3 H N20=>?_) (fun v3 I m H=>?_)
 .unfold Q00 at H
  refine wP ?_
  refine wt (ltT hiv3) ?_
  refine wG [.u 9 (.ix _ _ _ fun _=>Q0 Wc (J0 hxv3)),.c 12 (W0F x3)] fun _=>?_
  refine O0 H (fun H=>?_) fun H=>?_
  .obtain rfl:=sI H
   exact wP (wE [(2,.d)])
  .refine wG [.w 14 (wi .i64 rfl hiv3 q2.1)] fun _=>?_
   exact wT (N20 () H)
 .unfold XF at H
  refine wP ?_
  refine wf (ltF l1.length) ?_
  refine wG [.u 16 (.ln _ _ fun _=>lm l1 Wc)] fun q4=>?_
  replace H:=sI H;subst H
  exact wE [(2,.d)]
def Q0z:L :=
sR [.bx 2 0,.bx 3 1,.mv 4 (cB false)]
 (.seq (sR [fA 7 2 9,lF 8 7 1,.ln 9 8,.mv 10 (kI 0)]
 (.blk 0 (.loop (.gw (sR [bI 11 .lss 10 9]
 (.seq (.cond 11 .skip
 (.exit 0))
 (.seq (.blk 1 (sR [iA 12 8 10 13,lT 13 12 13,.al 6 [.int .i64 0,.int .i64 0,.int .i64 0,.int .i64 0,.int .i64 0,.int .i64 0,.int .i64 0,.int .i64 0,.int .i64 0,.int .i64 0,.int .i64 0,.int .i64 0,.nl],.st 6 13 13]
 (sR [fA 14 6 0,fA 15 14 0,lF 16 15 1,fA 17 3 0,fA 18 17 0,lF 19 18 1,bI 20 .eql 16 19,mV 21 20,gT 21 (fA 22 6 11),gT 21 (lF 23 22 1),gT 21 (fA 24 3 11),gT 21 (lF 25 24 1),gT 21 (bI 26 .eql 23 25),.pk 27 21 26 (cB false)]
 (.cond 27 (.seq (rE 4 (cB true))
 gR)
 .skip))))
 (.reg [.bi 28 .add 10 (kI 1),mV 10 28]))))))))
 (.seq (rE 4 (cB false))
 gR))
def ZZ(x2 x4:Run)(_:Nat)(_:Unit)(k4:Unit->Option Bool):Option Bool :=
 bif ((x4.job.id==x2.job.id)&&(x4.t==x2.t))then(some true)else(k4 ())
def JY(_:Unit):Option Bool :=
 some false
def LC(s1:State)(x2:Run):Option Bool :=
 rgl (ZZ x2) JY s1.runs 0 ()
theorem J0w{s1:State}{x2:Run}{r:Bool}(H:LC s1 x2=some r):Snd Tryz.prog J0b [L2 .rd s1,Z1 .rd x2] (.bool r) []:=by
 refine wS Q0z [.t 4] ?_
 unfold LC at H
 refine wG [.u 9 (.ln _ _ fun _=>lm s1.runs (Z1 .rd))] fun q3=>?_
 refine wR (fun(i4:Nat) (v4:Unit)=>⟨[(3,.ptr 3 0),(8,rV 13 (s1.runs.map (Z1 .rd))),(9,iV (s1.runs.length:Int)),(10,iV (i4:Int))],[],[(3,(Z1 .rd x2).cells)],[]⟩) H (fun i4 x4 v4 I m k4 hxv4 hiv4 H N20=>?_) (fun v4 I m H=>?_)
 .unfold ZZ at H
  refine wP ?_
  refine wt (ltT hiv4) ?_
  refine wG [.u 12 (.ix _ _ _ fun _=>Q0 (Z1 .rd) (J0 hxv4))] fun _=>?_
  refine O0 H (fun H=>?_) fun H=>?_
  .obtain rfl:=sI H
   exact wP (wE [(4,.d)])
  .refine wG [.w 28 (wi .i64 rfl hiv4 q3.1)] fun _=>?_
   exact wT (N20 () H)
 .unfold JY at H
  refine wP ?_
  refine wf (ltF s1.runs.length) ?_
  obtain rfl:=sI H
  exact wP (wE [(4,.d)])
def V0B:L :=
sR [.bx 2 0,.bx 3 1,.mv 4 (.c (.nl))]
 (sR [.bs 11 7 [] true,mV 5 11]
 (.seq (sR [lT 12 2 11,cQ 13 M5 [12],.un 14 13,mV 15 14,gF 15 (lT 16 3 11),gF 15 (cQ 17 M5 [16]),gF 15 (.un 18 17),.pk 19 15 (cB true) 18,mV 20 19,gF 20 (fA 21 3 7),gF 20 (lF 22 21 1),gF 20 (fA 23 2 7),gF 20 (lF 24 23 1),gF 20 (bI 25 .lss 22 24),.pk 26 20 (cB true) 25]
 (.cond 26 (sR [mV 27 5,mV 4 27]
 gR)
 .skip))
 (.seq (sR [fA 28 2 9,lF 29 28 1,.ln 30 29,.mv 31 (kI 0)]
 (.blk 0 (.loop (.gw (sR [bI 32 .lss 31 30]
 (.seq (.cond 32 .skip
 (.exit 0))
 (.seq (.blk 1 (sR [iA 33 29 31 13,lT 34 33 13,.al 7 [.int .i64 0,.int .i64 0,.int .i64 0,.int .i64 0,.int .i64 0,.int .i64 0,.int .i64 0,.int .i64 0,.int .i64 0,.int .i64 0,.int .i64 0,.int .i64 0,.nl],.st 7 34 13]
 (.seq (sR [lT 35 3 11,lT 36 7 13,cQ 37 J0b [35,36]]
 (.cond 37 (.exit 1)
 .skip))
 (sR [fA 38 3 7,lF 39 38 1,mV 8 39]
 (.seq (sR [fA 40 3 10,lF 41 40 1,.ln 42 41,.mv 43 (kI 0)]
 (.blk 2 (.loop (.gw (sR [bI 44 .lss 43 42]
 (.seq (.cond 44 .skip
 (.exit 2))
 (.seq (.blk 3 (sR [iA 45 41 43 3,lT 46 45 3,.al 10 [.int .i64 0,.int .i64 0,.int .i64 0],.st 10 46 3]
 (sR [fA 47 10 0,lF 48 47 1,fA 49 7 0,fA 50 49 0,lF 51 50 1,bI 52 .eql 48 51]
 (.cond 52 (.reg [fA 53 10 1,lF 54 53 1,mV 8 54])
 .skip))))
 (.reg [.bi 55 .add 43 (kI 1),mV 43 55]))))))))
 (.reg [mV 56 5,fA 57 7 0,fA 58 57 0,lF 59 58 1,fA 60 7 11,lF 61 60 1,mV 62 8,fA 63 7 0,fA 64 63 2,lF 65 64 1,fA 66 7 0,fA 67 66 3,lT 68 67 3,.bd 69 [.int .i64 0,.int .i64 0,.int .i64 0,.int .i64 0,.int .i64 0,.int .i64 0,.int .i64 0] [(0,1,59),(1,1,61),(2,1,62),(3,1,65),(4,3,68)],.bs 70 7 [69] false,.ap 71 56 70 7 56,mV 5 71]))))))
 (.reg [.bi 72 .add 31 (kI 1),mV 31 72]))))))))
 (sR [mV 73 5,mV 4 73]
 gR))))
def Oq(x6:Run)(x9:End)(_:Nat)(v9:Int)(k9:Int->Option (List Bill)):Option (List Bill) :=
 bif (x9.id==x6.job.id)then(k9 x9.t)else(k9 v9)
def UF(v6:(List Bill))(x6:Run)(k6:(List Bill)->Option (List Bill))(v9:Int):Option (List Bill) :=
 (appL 56 v6 [(Bill.mk x6.job.id x6.t v9 x6.job.nodes x6.job.need)]).bind fun xs10=>k6 xs10
def Yi(b2:State)(x6:Run)(_:Nat)(v6:(List Bill))(k6:(List Bill)->Option (List Bill)):Option (List Bill) :=
 (LC b2 x6).bind fun b7=>bif b7 then(k6 v6)else(rgl (Oq x6) (UF v6 x6 k6) b2.ends 0 b2.now)
def VF(v6:(List Bill)):Option (List Bill) :=
 some v6
def ZD(a1 b2:State):Option (List Bill) :=
 (X5 a1).bind fun b3=>(bif (!b3)then some default else(X5 b2)).bind fun b4=>bif (((!b3)||(!b4))||(decide (b2.now<a1.now)))then(some [])else(rgl (Yi b2) VF a1.runs 0 [])
theorem Q0x{a1 b2:State}{r:(List Bill)}(H:ZD a1 b2=some r):Snd Tryz.prog X0c [L2 .rd a1,L2 .rd b2] (nV 7 (r.map Wc)) []:=by
 refine wS V0B [.t 4] ?_
 unfold ZD at H
 obtain⟨b3,h3,H⟩:=bB H
 obtain⟨b4,h4,H⟩:=bB H
 refine wG [.c 13 (U5 h3),.g 17 [(_,false)] (.call _ _ _ _ _ (AEs.refl _) (fun q=>U5 (bF q.1 h4)))] fun _=>?_
 refine O0 H (fun H=>?_) fun H=>?_
 .refine wP ?_
  replace H:=sI H;subst H
  exact wN [(4,.f)] [] [] [11] [] [⟨_,M12 ([]:List Bill)⟩]
 .refine wG [.u 30 (.ln _ _ fun _=>lm a1.runs (Z1 .rd))] fun q5=>?_
  refine wR (fun(i6:Nat) (v6:(List Bill))=>⟨[(3,.ptr 3 0),(5,.sref 11),(29,rV 13 (a1.runs.map (Z1 .rd))),(30,iV (a1.runs.length:Int)),(31,iV (i6:Int))],[],[(3,(L2 .rd b2).cells)],[(11,⟨7,v6.map Wc,false⟩)]⟩) H (fun i6 x6 v6 I m k6 hxv6 hiv6 H N51=>?_) (fun v6 I m H=>?_)
  .unfold Yi at H
   refine wP ?_
   refine wt (ltT hiv6) ?_
   obtain⟨b7,h7,H⟩:=bB H
   refine wG [.u 33 (.ix _ _ _ fun _=>Q0 (Z1 .rd) (J0 hxv6)),.c 37 (J0w h7)] fun _=>?_
   refine O0 H (fun H=>?_) fun H=>?_
   .refine wG [.w 72 (wi .i64 rfl hiv6 q5.1)] fun _=>?_
    exact wT (N51 _ H)
   .refine wG [.u 42 (.ln _ _ fun _=>lm b2.ends eEnd)] fun q8=>?_
    refine wR (fun(i9:Nat) (v9:Int)=>⟨[(3,.ptr 3 0),(5,.sref 11),(7,.ptr 7 0),(8,iV v9),(29,rV 13 (a1.runs.map (Z1 .rd))),(30,iV (a1.runs.length:Int)),(31,iV (i6:Int)),(41,rV 3 (b2.ends.map eEnd)),(42,iV (b2.ends.length:Int)),(43,iV (i9:Int))],[],[(3,(L2 .rd b2).cells),(7,(Z1 .rd x6).cells)],[(11,⟨7,v6.map Wc,false⟩)]⟩) H (fun i9 x9 v9 I m k9 hxv9 hiv9 H N38=>?_) (fun v9 I m H=>?_)
    .unfold Oq at H
     refine wP ?_
     refine wt (ltT hiv9) ?_
     refine wG [.u 45 (.ix _ _ _ fun _=>Q0 eEnd (J0 hxv9))] fun _=>?_
     refine O0 H (fun H=>?_) fun H=>?_
     .refine wG [.w 55 (wi .i64 rfl hiv9 q8.1)] fun _=>?_
      exact wT (N38 _ H)
     .refine wG [.w 55 (wi .i64 rfl hiv9 q8.1)] fun _=>?_
      exact wT (N38 _ H)
    .unfold UF at H
     refine wP ?_
     refine wf (ltF b2.ends.length) ?_
     obtain⟨xs10,h10,H⟩:=bB H
     refine wG [.u 71 (.ap _ _ _ _ fun _=>L0 Wc h10),.w 72 (wi .i64 rfl hiv6 q5.1)] fun _=>?_
     exact wT (N51 _ H)
  .unfold VF at H
   refine wP ?_
   refine wf (ltF a1.runs.length) ?_
   refine wP ?_
   replace H:=sI H;subst H
   exact wN [(4,.f)] [] [] [11] [] [⟨_,M12 v6⟩]
def J0I:L :=
sR [.bx 1 0,.mv 2 (cB false)]
 (sR [fA 3 1 0,lF 4 3 1,.cq 5 U1 [4,(kI 1),(kI 999)],mV 6 5,gT 6 (fA 7 1 1),gT 6 (lF 8 7 1),gT 6 (cQ 9 Ze [8]),.pk 10 6 9 (cB false),mV 11 10,gT 11 (fA 12 1 2),gT 11 (lF 13 12 1),gT 11 (cQ 14 Ze [13]),.pk 15 11 14 (cB false),mV 16 15,gT 16 (fA 17 1 1),gT 16 (lF 18 17 1),gT 16 (fA 19 1 2),gT 16 (lF 20 19 1),gT 16 (bI 21 .leq 18 20),.pk 22 16 21 (cB false),mV 23 22,gT 23 (fA 24 1 3),gT 23 (lF 25 24 1),gT 23 (.cq 26 U1 [25,(kI 1),(kI 24)]),.pk 27 23 26 (cB false),mV 28 27,gT 28 (fA 29 1 4),gT 28 (lT 30 29 3),gT 28 (cQ 31 V6 [30]),.pk 32 28 31 (cB false),mV 2 32]
 gR)
def QI(b1:Bill):Option Bool :=
 some ((((((V0 b1.id 1 999)&&(Q2 b1.fr))&&(Q2 b1.to_))&&(decide (b1.fr<=b1.to_)))&&(V0 b1.nodes 1 24))&&(M1 b1.need))
theorem Q0u{b1:Bill}{r:Bool}(H:QI b1=some r):Snd Tryz.prog VJ [Wc b1] (.bool r) []:=by
 refine wS J0I [.t 2] ?_
 unfold QI at H
 refine wG [.c 5 (Y1 b1.id 1 999),.g 9 [((V0 b1.id 1 999),true)] (.call _ _ _ _ _ (AEs.refl _) (fun _=>Oi b1.fr)),.g 14 [(((V0 b1.id 1 999)&&(Q2 b1.fr)),true)] (.call _ _ _ _ _ (AEs.refl _) (fun _=>Oi b1.to_)),.g 26 [(((((V0 b1.id 1 999)&&(Q2 b1.fr))&&(Q2 b1.to_))&&(decide (b1.fr<=b1.to_))),true)] (.call _ _ _ _ _ (AEs.refl _) (fun _=>Y1 b1.nodes 1 24)),.g 31 [((((((V0 b1.id 1 999)&&(Q2 b1.fr))&&(Q2 b1.to_))&&(decide (b1.fr<=b1.to_)))&&(V0 b1.nodes 1 24)),true)] (.call _ _ _ _ _ (AEs.refl _) (fun _=>L6 b1.need))] fun _=>?_
 replace H:=sI H;subst H
 exact wE [(2,.d)]
def Xl(b1:Bill):Bool :=
 ((((((V0 b1.id 1 999)&&(Q2 b1.fr))&&(Q2 b1.to_))&&(decide (b1.fr<=b1.to_)))&&(V0 b1.nodes 1 24))&&(M1 b1.need))
theorem V0T(b1:Bill):QI b1=some (Xl b1):=by
 unfold QI Xl
 first|rfl|simp only[J5]
theorem W0b(b1:Bill):Snd Tryz.prog VJ [Wc b1] (.bool (Xl b1)) []:=Q0u (V0T b1)
def L0B:L :=
.seq (rE 2 (cB false))
 (.seq (sR [mV 5 0,.ln 6 5,.mv 7 (kI 0)]
 (.blk 0 (.loop (.gw (sR [bI 8 .lss 7 6]
 (.seq (.cond 8 .skip
 (.exit 0))
 (.seq (.blk 1 (sR [iA 9 5 7 7,lT 10 9 7,.al 4 [.int .i64 0,.int .i64 0,.int .i64 0,.int .i64 0,.int .i64 0,.int .i64 0,.int .i64 0],.st 4 10 7]
 (sR [lT 11 4 7,cQ 12 VJ [11],.un 13 12]
 (.cond 13 (.seq (rE 2 (cB false))
 gR)
 .skip))))
 (.reg [.bi 14 .add 7 (kI 1),mV 7 14]))))))))
 (sR [mV 15 0,.ln 16 15,.bi 17 .leq 16 (kI 300),mV 2 17]
 gR))
def UG(x3:Bill)(_:Nat)(_:Unit)(k3:Unit->Option Bool):Option Bool :=
 bif (!(Xl x3))then(some false)else(k3 ())
def VG(l1:List Bill)(_:Unit):Option Bool :=
 some (decide ((l1.length:Int)<=300))
def Yl(l1:List Bill):Option Bool :=
 rgl UG (VG l1) l1 0 ()
theorem YN{l1:List Bill}{r:Bool}(H:Yl l1=some r):Snd Tryz.prog MC [rV 7 (l1.map Wc)] (.bool r) []:=by
 refine wS L0B [.t 2] ?_
 unfold Yl at H
 refine wG [.u 6 (.ln _ _ fun _=>lm l1 Wc)] fun q2=>?_
 refine wR (fun(i3:Nat) (v3:Unit)=>⟨[(0,rV 7 (l1.map Wc)),(5,rV 7 (l1.map Wc)),(6,iV (l1.length:Int)),(7,iV (i3:Int))],[],[],[]⟩) H (fun i3 x3 v3 I m k3 hxv3 hiv3 H N20=>?_) (fun v3 I m H=>?_)
 .unfold UG at H
  refine wP ?_
  refine wt (ltT hiv3) ?_
  refine wG [.u 9 (.ix _ _ _ fun _=>Q0 Wc (J0 hxv3)),.c 12 (W0b x3)] fun _=>?_
  refine O0 H (fun H=>?_) fun H=>?_
  .obtain rfl:=sI H
   exact wP (wE [(2,.d)])
  .refine wG [.w 14 (wi .i64 rfl hiv3 q2.1)] fun _=>?_
   exact wT (N20 () H)
 .unfold VG at H
  refine wP ?_
  refine wf (ltF l1.length) ?_
  refine wG [.u 16 (.ln _ _ fun _=>lm l1 Wc)] fun q4=>?_
  replace H:=sI H;subst H
  exact wE [(2,.d)]
def W0Y:L :=
sR [.bx 1 0,.mv 2 (kI 0)]
 (.seq (sR [lT 3 1 7,cQ 4 VJ [3],.un 5 4]
 (.cond 5 (.seq (rE 2 (kI (-1)))
 gR)
 .skip))
 (sR [fA 6 1 2,lF 7 6 1,fA 8 1 1,lF 9 8 1,bI 10 .sub 7 9,fA 11 1 3,lF 12 11 1,bI 13 .mul 10 12,fA 14 1 4,fA 15 14 0,lF 16 15 1,.mm 17 true (kI 1) 16,bI 18 .mul 13 17,mV 2 18]
 gR))
def YX(b1:Bill):Option Int :=
 bif (!(Xl b1))then(some (-1))else(some (w64 ((w64 ((w64 (b1.to_-b1.fr))*b1.nodes))*(max 1 b1.need.a))))
theorem Z0K{b1:Bill}{r:Int}(H:YX b1=some r):Snd Tryz.prog YO [Wc b1] (iV r) []:=by
 refine wS W0Y [.t 2] ?_
 unfold YX at H
 refine wG [.c 4 (W0b b1)] fun _=>?_
 refine O0 H (fun H=>?_) fun H=>?_
 .obtain rfl:=sI H
  exact wP (wE [(2,.d)])
 .obtain rfl:=sI H
  exact wP (wE [(2,.d)])
def QD(b1:Bill):Int :=
 bif (!(Xl b1))then((-1))else((w64 ((w64 ((w64 (b1.to_-b1.fr))*b1.nodes))*(max 1 b1.need.a))))
theorem M13(b1:Bill):YX b1=some (QD b1):=by
 unfold YX QD
 first|rfl|simp only[J5]
theorem L05(b1:Bill):Snd Tryz.prog YO [Wc b1] (iV (QD b1)) []:=Z0K (M13 b1)
def J0B:L :=
sR [.bx 2 0,.bx 3 1,.mv 4 (.c (.nl))]
 (.seq (sR [lT 14 2 11,cQ 15 XT [14],.un 16 15,mV 17 16,gF 17 (lT 18 3 11),gF 17 (cQ 19 XT [18]),gF 17 (.un 20 19),.pk 21 17 (cB true) 20,mV 22 21,gF 22 (fA 23 3 7),gF 22 (lF 24 23 1),gF 22 (fA 25 2 7),gF 22 (lF 26 25 1),gF 22 (bI 27 .lss 24 26),.pk 28 22 (cB true) 27]
 (.cond 28 (sR [.mv 4 (.c (.nl))]
 gR)
 .skip))
 (sR [.bs 29 7 [] true,mV 5 29]
 (.seq (sR [fA 30 2 9,lF 31 30 1,.ln 32 31,.mv 33 (kI 0)]
 (.blk 0 (.loop (.gw (sR [bI 34 .lss 33 32]
 (.seq (.cond 34 .skip
 (.exit 0))
 (.seq (.blk 1 (sR [iA 35 31 33 13,lT 36 35 13,.al 7 [.int .i64 0,.int .i64 0,.int .i64 0,.int .i64 0,.int .i64 0,.int .i64 0,.int .i64 0,.int .i64 0,.int .i64 0,.int .i64 0,.int .i64 0,.int .i64 0,.nl],.st 7 36 13]
 (.seq (rE 8 (cB false))
 (.seq (sR [fA 37 3 9,lF 38 37 1,.ln 39 38,.mv 40 (kI 0)]
 (.blk 2 (.loop (.gw (sR [bI 41 .lss 40 39]
 (.seq (.cond 41 .skip
 (.exit 2))
 (.seq (.blk 3 (sR [iA 42 38 40 13,lT 43 42 13,.al 10 [.int .i64 0,.int .i64 0,.int .i64 0,.int .i64 0,.int .i64 0,.int .i64 0,.int .i64 0,.int .i64 0,.int .i64 0,.int .i64 0,.int .i64 0,.int .i64 0,.nl],.st 10 43 13]
 (.reg [mV 44 8,mV 45 44,gF 45 (fA 46 10 0),gF 45 (fA 47 46 0),gF 45 (lF 48 47 1),gF 45 (fA 49 7 0),gF 45 (fA 50 49 0),gF 45 (lF 51 50 1),gF 45 (bI 52 .eql 48 51),gF 45 (mV 53 52),gT 53 (fA 54 10 11),gT 53 (lF 55 54 1),gT 53 (fA 56 7 11),gT 53 (lF 57 56 1),gT 53 (bI 58 .eql 55 57),gF 45 (.pk 59 53 58 (cB false)),.pk 60 45 (cB true) 59,mV 8 60])))
 (.reg [.bi 61 .add 40 (kI 1),mV 40 61]))))))))
 (.seq (sR [mV 62 8]
 (.cond 62 (.exit 1)
 .skip))
 (sR [fA 63 3 7,lF 64 63 1,mV 11 64]
 (.seq (sR [fA 65 3 10,lF 66 65 1,.ln 67 66,.mv 68 (kI 0)]
 (.blk 4 (.loop (.gw (sR [bI 69 .lss 68 67]
 (.seq (.cond 69 .skip
 (.exit 4))
 (.seq (.blk 5 (sR [iA 70 66 68 3,lT 71 70 3,.al 13 [.int .i64 0,.int .i64 0,.int .i64 0],.st 13 71 3]
 (sR [fA 72 13 0,lF 73 72 1,fA 74 7 0,fA 75 74 0,lF 76 75 1,bI 77 .eql 73 76]
 (.cond 77 (.reg [fA 78 13 1,lF 79 78 1,mV 11 79])
 .skip))))
 (.reg [.bi 80 .add 68 (kI 1),mV 68 80]))))))))
 (.reg [mV 81 5,fA 82 7 0,fA 83 82 0,lF 84 83 1,fA 85 7 11,lF 86 85 1,mV 87 11,fA 88 7 0,fA 89 88 2,lF 90 89 1,fA 91 7 0,fA 92 91 3,lT 93 92 3,.bd 94 [.int .i64 0,.int .i64 0,.int .i64 0,.int .i64 0,.int .i64 0,.int .i64 0,.int .i64 0] [(0,1,84),(1,1,86),(2,1,87),(3,1,90),(4,3,93)],.bs 95 7 [94] false,.ap 96 81 95 7 56,mV 5 96]))))))))
 (.reg [.bi 97 .add 33 (kI 1),mV 33 97]))))))))
 (sR [mV 98 5,mV 4 98]
 gR))))
def X01(x6:Run)(x10:End)(_:Nat)(v10:Int)(k10:Int->Option (List Bill)):Option (List Bill) :=
 bif (x10.id==x6.job.id)then(k10 x10.t)else(k10 v10)
def Y01(v6:(List Bill))(x6:Run)(k6:(List Bill)->Option (List Bill))(v10:Int):Option (List Bill) :=
 (appL 56 v6 [(Bill.mk x6.job.id x6.t v10 x6.job.nodes x6.job.need)]).bind fun xs11=>k6 xs11
def OG(x6 x8:Run)(_:Nat)(v8:Bool)(k8:Bool->Option (List Bill)):Option (List Bill) :=
 k8 (v8||((x8.job.id==x6.job.id)&&(x8.t==x6.t)))
def WG(b2:State)(v6:(List Bill))(x6:Run)(k6:(List Bill)->Option (List Bill))(v8:Bool):Option (List Bill) :=
 bif v8 then(k6 v6)else(rgl (X01 x6) (Y01 v6 x6 k6) b2.ends 0 b2.now)
def Vi(b2:State)(x6:Run)(_:Nat)(v6:(List Bill))(k6:(List Bill)->Option (List Bill)):Option (List Bill) :=
 rgl (OG x6) (WG b2 v6 x6 k6) b2.runs 0 false
def QG(v6:(List Bill)):Option (List Bill) :=
 some v6
def WD(a1 b2:State):Option (List Bill) :=
 (Ms a1).bind fun b3=>(bif (!b3)then some default else(Ms b2)).bind fun b4=>bif (((!b3)||(!b4))||(decide (b2.now<a1.now)))then(some [])else(rgl (Vi b2) QG a1.runs 0 [])
theorem L0C{a1 b2:State}{r:(List Bill)}(H:WD a1 b2=some r):Snd Tryz.prog U0c [L2 .rd a1,L2 .rd b2] (.sref 0) [⟨7,r.map Wc,false⟩]:=by
 refine wS J0B [.t 4] ?_
 unfold WD at H
 obtain⟨b3,h3,H⟩:=bB H
 obtain⟨b4,h4,H⟩:=bB H
 refine wG [.c 15 (U05 h3),.g 19 [(_,false)] (.call _ _ _ _ _ (AEs.refl _) (fun q=>U05 (bF q.1 h4)))] fun _=>?_
 refine O0 H (fun H=>?_) fun H=>?_
 .refine wP ?_
  replace H:=sI H;subst H
  exact wN [(4,.d)] [] [] [] [none] []
 .refine wG [.u 32 (.ln _ _ fun _=>lm a1.runs (Z1 .rd))] fun q5=>?_
  refine wR (fun(i6:Nat) (v6:(List Bill))=>⟨[(3,.ptr 3 0),(5,.sref 29),(31,rV 13 (a1.runs.map (Z1 .rd))),(32,iV (a1.runs.length:Int)),(33,iV (i6:Int))],[],[(3,(L2 .rd b2).cells)],[(29,⟨7,v6.map Wc,false⟩)]⟩) H (fun i6 x6 v6 I m k6 hxv6 hiv6 H N70=>?_) (fun v6 I m H=>?_)
  .unfold Vi at H
   refine wP ?_
   refine wt (ltT hiv6) ?_
   refine wG [.u 35 (.ix _ _ _ fun _=>Q0 (Z1 .rd) (J0 hxv6)),.u 39 (.ln _ _ fun _=>lm b2.runs (Z1 .rd))] fun q7=>?_
   refine wR (fun(i8:Nat) (v8:Bool)=>⟨[(3,.ptr 3 0),(5,.sref 29),(7,.ptr 7 0),(8,.bool v8),(31,rV 13 (a1.runs.map (Z1 .rd))),(32,iV (a1.runs.length:Int)),(33,iV (i6:Int)),(38,rV 13 (b2.runs.map (Z1 .rd))),(39,iV (b2.runs.length:Int)),(40,iV (i8:Int))],[],[(3,(L2 .rd b2).cells),(7,(Z1 .rd x6).cells)],[(29,⟨7,v6.map Wc,false⟩)]⟩) H (fun i8 x8 v8 I m k8 hxv8 hiv8 H N29=>?_) (fun v8 I m H=>?_)
   .unfold OG at H
    refine wP ?_
    refine wt (ltT hiv8) ?_
    refine wG [.u 42 (.ix _ _ _ fun _=>Q0 (Z1 .rd) (J0 hxv8)),.w 61 (wi .i64 rfl hiv8 q7.1)] fun _=>?_
    exact wT (N29 _ H)
   .unfold WG at H
    refine wP ?_
    refine wf (ltF b2.runs.length) ?_
    refine wP ?_
    refine O0 H (fun H=>?_) fun H=>?_
    .refine wG [.w 97 (wi .i64 rfl hiv6 q5.1)] fun _=>?_
     exact wT (N70 _ H)
    .refine wG [.u 67 (.ln _ _ fun _=>lm b2.ends eEnd)] fun q9=>?_
     refine wR (fun(i10:Nat) (v10:Int)=>⟨[(3,.ptr 3 0),(5,.sref 29),(7,.ptr 7 0),(11,iV v10),(31,rV 13 (a1.runs.map (Z1 .rd))),(32,iV (a1.runs.length:Int)),(33,iV (i6:Int)),(66,rV 3 (b2.ends.map eEnd)),(67,iV (b2.ends.length:Int)),(68,iV (i10:Int))],[],[(3,(L2 .rd b2).cells),(7,(Z1 .rd x6).cells)],[(29,⟨7,v6.map Wc,false⟩)]⟩) H (fun i10 x10 v10 I m k10 hxv10 hiv10 H N55=>?_) (fun v10 I m H=>?_)
     .unfold X01 at H
      refine wP ?_
      refine wt (ltT hiv10) ?_
      refine wG [.u 70 (.ix _ _ _ fun _=>Q0 eEnd (J0 hxv10))] fun _=>?_
      refine O0 H (fun H=>?_) fun H=>?_
      .refine wG [.w 80 (wi .i64 rfl hiv10 q9.1)] fun _=>?_
       exact wT (N55 _ H)
      .refine wG [.w 80 (wi .i64 rfl hiv10 q9.1)] fun _=>?_
       exact wT (N55 _ H)
     .unfold Y01 at H
      refine wP ?_
      refine wf (ltF b2.ends.length) ?_
      obtain⟨xs11,h11,H⟩:=bB H
      refine wG [.u 96 (.ap _ _ _ _ fun _=>L0 Wc h11),.w 97 (wi .i64 rfl hiv6 q5.1)] fun _=>?_
      exact wT (N70 _ H)
  .unfold QG at H
   refine wP ?_
   refine wf (ltF a1.runs.length) ?_
   refine wP ?_
   replace H:=sI H;subst H
   exact wN [(4,.d)] [] [(29,some 29,0)] [] [some 29] [⟨_,M12 v6⟩]
def Q0B:L :=
sR [.mv 4 (.c (.str [])),.mv 5 (cB false)]
 (.seq (sR [mV 8 0,.ln 9 8,.mv 10 (kI 0)]
 (.blk 0 (.loop (.gw (sR [bI 11 .lss 10 9]
 (.seq (.cond 11 .skip
 (.exit 0))
 (.seq (.blk 1 (sR [iA 12 8 10 2,lT 13 12 2,.al 7 [.int .i64 0,.str []],.st 7 13 2]
 (sR [fA 14 7 0,lF 15 14 1,mV 16 1,bI 17 .eql 15 16]
 (.cond 17 (sR [fA 18 7 1,lF 19 18 1,mV 4 19,.mv 5 (cB true)]
 gR)
 .skip))))
 (.reg [.bi 20 .add 10 (kI 1),mV 10 20]))))))))
 (sR [.mv 4 (.c (.str [])),.mv 5 (cB false)]
 gR))
def OF(id2:Int)(x4:Owner)(_:Nat)(_:Unit)(k4:Unit->Option (Str×Bool)):Option (Str×Bool) :=
 bif (x4.id==id2)then(some (x4.name,true))else(k4 ())
def W00(_:Unit):Option (Str×Bool) :=
 some (([]:Str),false)
def Ws(owners1:List Owner)(id2:Int):Option (Str×Bool) :=
 rgl (OF id2) W00 owners1 0 ()
theorem X05{owners1:List Owner}{id2:Int}{r:Str×Bool}(H:Ws owners1 id2=some r):Snd Tryz.prog YT [rV 2 (owners1.map U01),iV id2] (.tup [.str r.1,.bool r.2]) []:=by
 refine wS Q0B [.t 4,.t 5] ?_
 unfold Ws at H
 refine wG [.u 9 (.ln _ _ fun _=>lm owners1 U01)] fun q3=>?_
 refine wR (fun(i4:Nat) (v4:Unit)=>⟨[(1,iV id2),(8,rV 2 (owners1.map U01)),(9,iV (owners1.length:Int)),(10,iV (i4:Int))],[],[],[]⟩) H (fun i4 x4 v4 I m k4 hxv4 hiv4 H N20=>?_) (fun v4 I m H=>?_)
 .unfold OF at H
  refine wP ?_
  refine wt (ltT hiv4) ?_
  refine wG [.u 12 (.ix _ _ _ fun _=>Q0 U01 (J0 hxv4))] fun _=>?_
  refine O0 H (fun H=>?_) fun H=>?_
  .obtain rfl:=sI H
   exact wP (wE [(4,.d),(5,.d)])
  .refine wG [.w 20 (wi .i64 rfl hiv4 q3.1)] fun _=>?_
   exact wT (N20 () H)
 .unfold W00 at H
  refine wP ?_
  refine wf (ltF owners1.length) ?_
  obtain rfl:=sI H
  exact wP (wE [(4,.d),(5,.d)])
def Z0C:L :=
.seq (rE 6 (kI 0))
 (.seq (sR [mV 12 0,cQ 13 MC [12],.un 14 13]
 (.cond 14 (.seq (rE 6 (kI 0))
 gR)
 .skip))
 (.seq (rE 7 (kI 0))
 (.seq (sR [mV 15 0,.ln 16 15,.mv 17 (kI 0)]
 (.blk 0 (.loop (.gw (sR [bI 18 .lss 17 16]
 (.seq (.cond 18 .skip
 (.exit 0))
 (.seq (.blk 1 (sR [iA 19 15 17 7,lT 20 19 7,.al 9 [.int .i64 0,.int .i64 0,.int .i64 0,.int .i64 0,.int .i64 0,.int .i64 0,.int .i64 0],.st 9 20 7]
 (sR [mV 22 1,fA 23 9 0,lF 24 23 1,cQ 25 YT [22,24],mV 21 25,eX 26 21 0,eX 27 21 1,mV 10 26,mV 11 27]
 (sR [mV 28 11,mV 29 28,gT 29 (mV 30 10),gT 29 (mV 31 2),gT 29 (bI 32 .eql 30 31),.pk 33 29 32 (cB false)]
 (.cond 33 (.reg [mV 34 7,lT 35 9 7,cQ 36 YO [35],bI 37 .add 34 36,mV 7 37])
 .skip)))))
 (.reg [.bi 38 .add 17 (kI 1),mV 17 38]))))))))
 (sR [mV 39 7,mV 6 39]
 gR))))
def MG(owners2:List Owner)(name3:Str)(x6:Bill)(_:Nat)(v6:Int)(k6:Int->Option Int):Option Int :=
 (Ws owners2 x6.id).bind fun y7=>bif (y7.2&&(y7.1==name3))then(k6 (w64 (v6+(QD x6))))else(k6 v6)
def V01(v6:Int):Option Int :=
 some v6
def OD(l1:List Bill)(owners2:List Owner)(name3:Str):Option Int :=
 (Yl l1).bind fun b4=>bif (!b4)then(some 0)else(rgl (MG owners2 name3) V01 l1 0 0)
theorem J0C{l1:List Bill}{owners2:List Owner}{name3:Str}{r:Int}(H:OD l1 owners2 name3=some r):Snd Tryz.prog Q0c [rV 7 (l1.map Wc),rV 2 (owners2.map U01),.str name3] (iV r) []:=by
 refine wS Z0C [.t 6] ?_
 unfold OD at H
 obtain⟨b4,h4,H⟩:=bB H
 refine wG [.c 13 (YN h4)] fun _=>?_
 refine O0 H (fun H=>?_) fun H=>?_
 .obtain rfl:=sI H
  exact wP (wE [(6,.d)])
 .refine wG [.u 16 (.ln _ _ fun _=>lm l1 Wc)] fun q5=>?_
  refine wR (fun(i6:Nat) (v6:Int)=>⟨[(1,rV 2 (owners2.map U01)),(2,.str name3),(7,iV v6),(15,rV 7 (l1.map Wc)),(16,iV (l1.length:Int)),(17,iV (i6:Int))],[],[],[]⟩) H (fun i6 x6 v6 I m k6 hxv6 hiv6 H N28=>?_) (fun v6 I m H=>?_)
  .unfold MG at H
   refine wP ?_
   refine wt (ltT hiv6) ?_
   obtain⟨y7,h7,H⟩:=bB H
   refine wG [.u 19 (.ix _ _ _ fun _=>Q0 Wc (J0 hxv6)),.c 25 (X05 h7)] fun _=>?_
   refine O0 H (fun H=>?_) fun H=>?_
   .refine wG [.c 36 (L05 x6),.w 38 (wi .i64 rfl hiv6 q5.1)] fun _=>?_
    exact wT (N28 _ H)
   .refine wG [.w 38 (wi .i64 rfl hiv6 q5.1)] fun _=>?_
    exact wT (N28 _ H)
  .unfold V01 at H
   refine wP ?_
   refine wf (ltF l1.length) ?_
   obtain rfl:=sI H
   exact wP (wE [(6,.d)])
def O0l:L :=
sR [.mv 6 (.c (.nl)),.mv 7 (cB false)]
 (.seq (sR [mV 15 0,cQ 16 UA [15],.un 17 16,mV 18 17,gF 18 (mV 19 1),gF 18 (cQ 20 MC [19]),gF 18 (.un 21 20),.pk 22 18 (cB true) 21]
 (.cond 22 (sR [.mv 6 (.c (.nl)),.mv 7 (cB false)]
 gR)
 .skip))
 (sR [mV 23 0,.ap 24 (.c (.nl)) 23 3 32,mV 8 24]
 (.seq (sR [mV 25 1,.ln 26 25,.mv 27 (kI 0)]
 (.blk 0 (.loop (.gw (sR [bI 28 .lss 27 26]
 (.seq (.cond 28 .skip
 (.exit 0))
 (.seq (.blk 1 (sR [iA 29 25 27 7,lT 30 29 7,.al 10 [.int .i64 0,.int .i64 0,.int .i64 0,.int .i64 0,.int .i64 0,.int .i64 0,.int .i64 0],.st 10 30 7]
 (sR [mV 32 2,fA 33 10 0,lF 34 33 1,cQ 35 YT [32,34],mV 31 35,eX 36 31 0,eX 37 31 1,mV 11 36,mV 12 37]
 (.seq (sR [mV 38 12,.un 39 38]
 (.cond 39 (.exit 1)
 .skip))
 (sR [mV 41 8,mV 42 11,lT 43 10 7,cQ 44 YO [43],.mm 45 false (kI 1000000000) 44,cQ 46 M0i [41,42,45],mV 40 46,eX 47 40 0,eX 48 40 1,mV 13 47,mV 14 48]
 (sR [mV 49 14]
 (.cond 49 (.reg [mV 50 13,mV 8 50])
 .skip)))))))
 (.reg [.bi 51 .add 27 (kI 1),mV 27 51]))))))))
 (sR [mV 52 8,mV 6 52,.mv 7 (cB true)]
 gR))))
def Vw(owners3:List Owner)(x8:Bill)(_:Nat)(v8:(List Account))(k8:(List Account)->Option ((List Account)×Bool)):Option ((List Account)×Bool) :=
 (Ws owners3 x8.id).bind fun y9=>bif (!y9.2)then(k8 v8)else((ZN v8 y9.1 (min 1000000000 (QD x8))).bind fun y10=>bif y10.2 then(k8 y10.1)else(k8 v8))
def OP(v8:(List Account)):Option ((List Account)×Bool) :=
 some (v8,true)
def Yp(accounts1:List Account)(l2:List Bill)(owners3:List Owner):Option ((List Account)×Bool) :=
 (Yg accounts1).bind fun b4=>(bif (!b4)then some default else(Yl l2)).bind fun b5=>bif ((!b4)||(!b5))then(some ([],false))else((appL 32 ([]:List Account) accounts1).bind fun xs6=>rgl (Vw owners3) OP l2 0 xs6)
theorem U0m{accounts1:List Account}{l2:List Bill}{owners3:List Owner}{r:(List Account)×Bool}(H:Yp accounts1 l2 owners3=some r):Snd Tryz.prog J01 [rV 3 (accounts1.map O3),rV 7 (l2.map Wc),rV 2 (owners3.map U01)] (.tup [nV 3 (r.1.map O3),.bool r.2]) []:=by
 refine wS O0l [.t 6,.t 7] ?_
 unfold Yp at H
 obtain⟨b4,h4,H⟩:=bB H
 obtain⟨b5,h5,H⟩:=bB H
 refine wG [.c 16 (MP h4),.g 20 [(_,false)] (.call _ _ _ _ _ (AEs.refl _) (fun q=>YN (bF q.1 h5)))] fun _=>?_
 refine O0 H (fun H=>?_) fun H=>?_
 .refine wP ?_
  replace H:=sI H;subst H
  exact wN [(6,.n 3),(7,.d)] [] [] [] [] [⟨_,O08 ([]:List Account)⟩]
 .obtain⟨xs6,h6,H⟩:=bB H
  refine wG [.u 24 (.ap _ _ _ _ fun _=>L0 O3 h6),.u 26 (.ln _ _ fun _=>lm l2 Wc)] fun q7=>?_
  refine L0b (fun(i8:Nat) (v8:(List Account))=>⟨[(2,.sl .rd 2 (owners3.map U01)),(8,.sl .nw 3 (v8.map O3)),(25,.sl .rd 7 (l2.map Wc)),(26,.int .i64 (l2.length:Int)),(27,.int .i64 (i8:Int))],[],[],[]⟩) [(8,.f)] [] [] [24] (by kernel_rfl) (by kernel_rfl) H (fun i8 x8 v8 I m k8 hxv8 hiv8 H N36=>?_) (fun v8 I m H=>?_)
  .unfold Vw at H
   refine wP ?_
   refine wt (ltT hiv8) ?_
   obtain⟨y9,h9,H⟩:=bB H
   refine wG [.u 29 (.ix _ _ _ fun _=>Q0 Wc (J0 hxv8)),.c 35 (X05 h9)] fun _=>?_
   refine O0 H (fun H=>?_) fun H=>?_
   .refine wG [.w 51 (wi .i64 rfl hiv8 q7.1)] fun _=>?_
    exact wT (N36 _ H)
   .obtain⟨y10,h10,H⟩:=bB H
    refine wG [.c 44 (L05 x8),.c 46 (Y0K h10)] fun _=>?_
    refine O0 H (fun H=>?_) fun H=>?_
    .refine wG [.w 51 (wi .i64 rfl hiv8 q7.1)] fun _=>?_
     exact wT (N36 _ H)
    .refine wG [.w 51 (wi .i64 rfl hiv8 q7.1)] fun _=>?_
     exact wT (N36 _ H)
  .unfold OP at H
   refine wP ?_
   refine wf (ltF l2.length) ?_
   refine wP ?_
   replace H:=sI H;subst H
   exact wN [(6,.d),(7,.d)] [] [] [] [] [⟨_,O08 v8⟩]
def billHas(b:State)(x:Run):Bool:=b.runs.any fun y=>y.job.id==x.job.id&&y.t==x.t
theorem V1b(b:State)(x:Run):LC b x=some (billHas b x):=by
 unfold LC billHas
 rw[Mf (p:=fun y=>y.job.id==x.job.id&&y.t==x.t) (r:=some true) (fun y _ i k=>rfl)]
 cases b.runs.any _<;>rfl
def J1t(b:State)(x:Run):Int:=b.ends.foldl (fun v e=>bif e.id==x.job.id then e.t else v) b.now
def U11(b:State)(x:Run)(_:Nat)(v:List Bill)(k:List Bill->Option (List Bill)):Option (List Bill):=bif billHas b x then k v else(appL 56 v [⟨x.job.id,x.t,J1t b x,x.job.nodes,x.job.need⟩]).bind k
theorem V11(b:State)(x:Run)(v:List Bill)(k:List Bill->Option (List Bill)):rgl (Oq x) (UF v x k) b.ends 0 b.now=(appL 56 v [⟨x.job.id,x.t,J1t b x,x.job.nodes,x.job.need⟩]).bind k:=by
 rw[YD (f:=fun v e=>bif e.id==x.job.id then e.t else v) (fun e _ i v k=>by unfold Oq;cases(e.id==x.job.id)<;>rfl)]
 rfl
theorem O1e(b:State)(x:Run)(i:Nat)(v:List Bill)(k:List Bill->Option (List Bill)):Yi b x i v k=U11 b x i v k:=by
 unfold Yi U11
 rw[V1b,bS,V11]
theorem V19{α:Type}(p:α->Bool):∀(l:List α) (b:Bool),l.foldl (fun v y=>v||p y) b=(b||l.any p)
 |[],b=>by simp
 |y::l,b=>by rw[List.foldl_cons,V19 p l,List.any_cons,Bool.or_assoc]
theorem J1j(b:State)(x:Run)(i:Nat)(v:List Bill)(k:List Bill->Option (List Bill)):Vi b x i v k=U11 b x i v k:=by
 unfold Vi U11
 rw[YD (bd:=OG x) (kk:=WG b v x k) (f:=fun v (y:Run)=>v||(y.job.id==x.job.id&&y.t==x.t)) (fun y _ i v k=>rfl),V19]
 exact congrArg (fun o=>bif billHas b x then k v else o) (V11 b x v k)
end Go.Proofs.YtpgaganbacipnaaGreat
namespace Go.Proofs.YtpgaganbacipnaaGreat
open Go Go.RowKit Eng Go.Sort
def X1f(l:List Run):Prop:=(l.map (·.job.id)).Nodup/\l.length<4611686018427387904
instance(l:List Run):Decidable (X1f l):=by unfold X1f;infer_instance
end Go.Proofs.YtpgaganbacipnaaGreat
namespace Go.Proofs.YtpgaganbacipnaaGreat
open Go Go.RowKit Eng
section
def L04(h b:Int):Int:=bAnd .i64 (w64 (w64 (w64 (h*151)+w64 b)+7)) 1073741823
def newH(bs:List Int):Int:=(bs.take 4000).foldl L04 (w64 (958001+bs.length))
def Z0z(bs:List Int):Option l01Cur:=if bs.length<=1048576 then some ⟨bs,0,newH bs⟩else none
def Y0b:L :=
 .seq (
 .reg [.mv 2 (.c (.bad))]) (
 .seq (
 .reg [.mv 5 (.t 0),.ln 6 (.t 5),.bi 7 .add (.c (.int .i64 958001)) (.t 6),.mv 3 (.t 7)]) (
 .seq (
 .seq (
 .reg [.mv 4 (.c (.int .i64 0))]) (
 .blk 0 (
  .loop (
   .seq (
   .seq (
   .reg [.mv 8 (.t 4),.mv 9 (.t 0),.ln 10 (.t 9),.bi 11 .lss (.t 8) (.t 10),.mv 12 (.t 11),.g 12 true (.mv 13 (.t 4)),.g 12 true (.bi 14 .lss (.t 13) (.c (.int .i64 4000))),.pk 15 (.t 12) (.t 14) (.c (.bool false))]) (
   .cond (.t 15) (
    .skip) (
    .exit 0))) (
   .seq (
   .blk 1 (
    .reg [.mv 18 (.t 3),.bi 19 .mul (.t 18) (.c (.int .i64 151)),.mv 20 (.t 0),.mv 21 (.t 4),.ia 22 (.t 20) (.t 21) 1,.ld 23 (.t 22) 1 false,.cv 24 .i64 (.t 23),.bi 25 .add (.t 19) (.t 24),.bi 26 .add (.t 25) (.c (.int .i64 7)),.bi 27 .and (.t 26) (.c (.int .i64 1073741823)),.mv 3 (.t 27)])) (
   .reg [.mv 16 (.t 4),.bi 17 .add (.t 16) (.c (.int .i64 1)),.mv 4 (.t 17)])))))) (
 .seq (
 .reg [.mv 28 (.t 0),.mv 29 (.t 3),.bd 30 [.nl,.int .i64 0,.int .i64 0] [(0,1,(.t 28)),(2,1,(.t 29))],.bx 31 (.t 30),.mv 2 (.t 31)]) (
 .ret))))
def L0F:List Rv:=[.t 2]
theorem X0K:Yx Tryz.prog LI 1 Y0b L0F=true:=by kernel_rfl
set_option maxRecDepth 20000 in
theorem M1b{bs:List Int}{c:l01Cur}(H:Z0z bs=some c):SndB Tryz.prog LI [.sl .rd 1 (bs.map eB)] (fun cs=>cs=(U0 .rd c).cells):=by
 unfold Z0z at H
 split at H
 rotate_left
 .cases H
 rename_i hl
 cases H
 refine V1w X0K rfl (by simp) (W1z ?_)
 unfold Y0b
 simp
 intro _
 refine Z1K bs.length (fun i s=>i<=4000/\s.e 0=.sl .rd 1 (bs.map eB)/\s.e 3=.int .i64 ((bs.take i).foldl L04 (w64 (958001+bs.length)))/\s.e 4=.int .i64 (i:Nat)) (fun s=>s.e 0=.sl .rd 1 (bs.map eB)/\s.e 3=.int .i64 (newH bs)) ?_ ?_ ?_
 .simp[w64]
 .rintro i s hi ⟨h4000,e0,e3,e4⟩
  by_cases hlt:i<bs.length
  .by_cases h4:(i:Int)<4000
   .simp[e0,e3,e4,hlt,h4]
    intro _
    refine Y1o hlt ⟨by omega,?_⟩
    have et:(bs.take (i+1)).foldl L04 (w64 (958001+bs.length))=L04 ((bs.take i).foldl L04 (w64 (958001+bs.length))) bs[i]:=by
     rw[List.take_succ_eq_append_getElem hlt,List.foldl_append];rfl
    rw[et]
    generalize (bs.take i).foldl L04 (w64 (958001+bs.length))=h
    simp[e0,X0V hlt (by omega:bs.length<=9223372036854775807)]
    rfl
   .simp[e0,e3,e4,hlt,h4]
    intro _
    refine Z1u ?_
    have h40:i=4000:=by omega
    have e:newH bs=(bs.take i).foldl L04 (w64 (958001+bs.length)):=by unfold newH;rw[h40]
    simp[e0,e3,e]
  .simp[e0,e3,e4,hlt]
   intro _
   refine Z1u ?_
   have e:newH bs=(bs.take i).foldl L04 (w64 (958001+bs.length)):=by
    unfold newH;rw[List.take_of_length_le (by omega),List.take_of_length_le (by omega)]
   simp[e0,e3,e]
 rintro s ⟨e0,e3⟩
 simp[e0,e3]
set_option maxRecDepth 20000
def V0l:L :=
.seq (rE 2 (kI 0))
 (sR [mV 4 0,mV 5 0,.nc 6 5,fA 7 6 2,lF 8 7 1,.bi 9 .mul 8 (kI 6364136223846793005),.bi 10 .add 9 (kI 1442695040888963407),.nc 11 4,fA 12 11 2,.st 12 10 1]
 (.seq (.rq 13 [mV 13 0,.nc 14 13,fA 15 14 2,lF 16 15 1,.bi 17 .shr 16 (.c (.int .u64 33)),mV 18 0,.nc 19 18,fA 20 19 2,lF 21 20 1,.bi 22 .shr 21 (.c (.int .u64 45)),bI 23 .xor 17 22,.bi 24 .and 23 (kI 255),mV 3 24])
 (.seq (.seq (.rq 10 [mV 25 0,.nc 26 25,fA 27 26 1,lF 28 27 1,mV 29 0,.nc 30 29,fA 31 30 0,lF 32 31 1,.lq 33 32,bI 34 .lss 28 33])
 (.cond 34 (.seq (.rq 14 [mV 35 3,mV 36 0,.nc 37 36,fA 38 37 0,lF 39 38 1,mV 40 0,.nc 41 40,fA 42 41 1,lF 43 42 1,iA 44 39 43 1,lF 45 44 1,.cv 46 .i64 45,bI 47 .add 35 46,.bi 48 .and 47 (kI 255),mV 3 48])
 (.reg [mV 49 0,mV 50 0,.nc 51 50,fA 52 51 1,lF 53 52 1,.bi 54 .add 53 (kI 1),.nc 55 49,fA 56 55 1,.st 56 54 1]))
 .skip))
 (.gw (sR [mV 57 3,mV 2 57]
 gR)))))
def V0k:List Rv:=[.t 2]
theorem Y0n:Yx Tryz.prog Q4 1 V0l V0k=true:=by kernel_rfl
def W8(c1:l01Cur)(v6:Int×Int):Option (Int×l01Cur) :=
 some (v6.2,(l01Cur.mk c1.b v6.1 (w64 ((w64 (c1.h*6364136223846793005))+1442695040888963407))))
def O7(c1:l01Cur):Option (Int×l01Cur) :=
 (shrI .i64 (w64 ((w64 (c1.h*6364136223846793005))+1442695040888963407)) 33).bind fun n2=>(shrI .i64 (w64 ((w64 (c1.h*6364136223846793005))+1442695040888963407)) 45).bind fun n3=>(lenQ c1.b).bind fun _=>bif (decide (c1.i<(c1.b.length:Int)))then((idx c1.b c1.i).bind fun e5=>(W8 c1) ((w64 (c1.i+1)),(bAnd .i64 (w64 ((bAnd .i64 (bXor .i64 n2 n3) 255)+(IntKind.wrap .i64 e5))) 255)))else((W8 c1) (c1.i,(bAnd .i64 (bXor .i64 n2 n3) 255)))
set_option maxRecDepth 20000 in
theorem Zf{c1:l01Cur}{r:Int×l01Cur}(H:O7 c1=some r):ConD Tryz.prog Q4 [.ptr 0 0] [(U0 .rd c1).cells] [] (iV r.1) [(U0 .rd r.2).cells] [] []:=by
 refine Q06 [] Y0n rfl (by kernel_rfl) ?_
 unfold O7 at H
 obtain⟨n2,h2,H⟩:=bB H
 obtain⟨n3,h3,H⟩:=bB H
 obtain⟨u4,h4,H⟩:=bB H
 refine wG [.u 17 (.shr _ _ _ _ fun _=>h2),.u 22 (.shr _ _ _ _ fun _=>h3),.u 33 (.le _ _ (fun _=>lm c1.b eB) (fun _=>LV h4))] fun _=>?_
 refine Z6 (r:=r) (W8 c1) 0 (fun v6:Int×Int=>⟨[(3,.int .i64 v6.2)],[],[(2000000000,(U0 .rd (l01Cur.mk c1.b v6.1 (w64 ((w64 (c1.h*6364136223846793005))+1442695040888963407)))).cells)],[]⟩) (by kernel_rfl) (fun v6 H=>?_) (fun J12=>?_)
 .unfold W8 at H
  refine wP ?_
  replace H:=sI H;subst H
  exact J1 [(2,.d)] [(2000000000,[])] [] [] [] (by kernel_rfl)
 .refine O0 H (fun H=>?_) fun H=>?_
  .obtain⟨e5,h5,H⟩:=bB H
   refine wG [.u 44 (.ix _ _ _ fun _=>Q0 eB h5)] fun _=>?_
   exact wT (J12 _ H)
  .refine wP ?_
   exact wT (J12 _ H)
def O0g:L :=
.seq (rE 4 (kI 0))
 (.seq (sR [mV 9 1,.bi 10 .leq 9 (kI 0)]
 (.cond 10 (.seq (rE 4 (kI 0))
 gR)
 .skip))
 (.seq (sR [mV 11 1,.bi 12 .leq 11 (kI 256)]
 (.cond 12 (sR [mV 13 0,.cm 14 Q4 [13],mV 15 1,bI 16 .rem 14 15,mV 4 16]
 gR)
 .skip))
 (sR [mV 17 0,.cm 18 Q4 [17],mV 5 18]
 (sR [mV 19 0,.cm 20 Q4 [19],mV 6 20]
 (sR [mV 21 0,.cm 22 Q4 [21],mV 7 22]
 (sR [mV 23 0,.cm 24 Q4 [23],mV 8 24]
 (sR [mV 25 5,.bi 26 .mul 25 (kI 16777216),mV 27 6,.bi 28 .mul 27 (kI 65536),bI 29 .add 26 28,mV 30 7,.bi 31 .mul 30 (kI 256),bI 32 .add 29 31,mV 33 8,bI 34 .add 32 33,mV 35 1,bI 36 .rem 34 35,mV 4 36]
 gR)))))))
def V0f:List Rv:=[.t 4]
theorem W0h:Yx Tryz.prog Z0 2 O0g V0f=true:=by kernel_rfl
def X0(c1:l01Cur)(n2:Int):Option (Int×l01Cur) :=
 bif (decide (n2<=0))then(some (0,c1))else(bif (decide (n2<=256))then((O7 c1).bind fun y3=>(remI y3.1 n2).bind fun n4=>some (n4,y3.2))else((O7 c1).bind fun y5=>(O7 y5.2).bind fun y6=>(O7 y6.2).bind fun y7=>(O7 y7.2).bind fun y8=>(remI (w64 ((w64 ((w64 ((w64 (y5.1*16777216))+(w64 (y6.1*65536))))+(w64 (y7.1*256))))+y8.1)) n2).bind fun n9=>some (n9,y8.2)))
set_option maxRecDepth 20000 in
theorem Y0{c1:l01Cur}{n2:Int}{r:Int×l01Cur}(H:X0 c1 n2=some r):ConD Tryz.prog Z0 [.ptr 0 0,iV n2] [(U0 .rd c1).cells] [] (iV r.1) [(U0 .rd r.2).cells] [] []:=by
 refine Q06 [] W0h rfl (by kernel_rfl) ?_
 unfold X0 at H
 refine wP ?_
 refine O0 H (fun H=>?_) fun H=>?_
 .refine wP ?_
  replace H:=sI H;subst H
  exact J1 [(4,.d)] [(2000000000,[])] [] [] [] (by kernel_rfl)
 .refine wP ?_
  refine O0 H (fun H=>?_) fun H=>?_
  .obtain⟨y3,h3,H⟩:=bB H
   obtain⟨n4,h4,H⟩:=bB H
   refine wG [.u 14 (.cw Q4 [2000000000] [] [(U0 .rd c1).cells] [] [.ptr 0 0] _ _ _ _ _ (GEs.of [true] (by simp)) (by simp) (by simp) (by simp) (fun _=>Zf h3)),.u 16 (.rem _ _ _ fun _=>h4)] fun _=>?_
   replace H:=sI H;subst H
   exact J1 [(4,.d)] [(2000000000,[])] [] [] [] (by kernel_rfl)
  .obtain⟨y5,h5,H⟩:=bB H
   obtain⟨y6,h6,H⟩:=bB H
   obtain⟨y7,h7,H⟩:=bB H
   obtain⟨y8,h8,H⟩:=bB H
   obtain⟨n9,h9,H⟩:=bB H
   refine wG [.u 18 (.cw Q4 [2000000000] [] [(U0 .rd c1).cells] [] [.ptr 0 0] _ _ _ _ _ (GEs.of [true] (by simp)) (by simp) (by simp) (by simp) (fun _=>Zf h5)),.u 20 (.cw Q4 [2000000000] [] [(U0 .rd y5.2).cells] [] [.ptr 0 0] _ _ _ _ _ (GEs.of [true] (by simp)) (by simp) (by simp) (by simp) (fun _=>Zf h6)),.u 22 (.cw Q4 [2000000000] [] [(U0 .rd y6.2).cells] [] [.ptr 0 0] _ _ _ _ _ (GEs.of [true] (by simp)) (by simp) (by simp) (by simp) (fun _=>Zf h7)),.u 24 (.cw Q4 [2000000000] [] [(U0 .rd y7.2).cells] [] [.ptr 0 0] _ _ _ _ _ (GEs.of [true] (by simp)) (by simp) (by simp) (by simp) (fun _=>Zf h8)),.u 36 (.rem _ _ _ fun _=>h9)] fun _=>?_
   replace H:=sI H;subst H
   exact J1 [(4,.d)] [(2000000000,[])] [] [] [] (by kernel_rfl)
def X0l:L :=
sR [.al 2 [.nl,.nl]]
 (sR [.bs 13 1 [(kI 0)] true,.bd 14 [.nl,.nl] [(0,1,13)],.al 3 [.nl,.nl],.st 3 14 2]
 (sR [mV 15 0,.cm 16 Z0 [15,(kI 3)],mV 4 16]
 (sR [.bs 17 1 [(kI 0)] true,mV 5 17]
 (.seq (.seq (rE 6 (kI 0))
 (.blk 0 (.loop (.gw (.seq (sR [mV 18 6,mV 19 4,bI 20 .lss 18 19]
 (.cond 20 .skip
 (.exit 0)))
 (.seq (.blk 1 (sR [.bs 23 1 [] true,mV 7 23]
 (.seq (sR [mV 24 5,.ln 25 24,.mv 26 (kI 0)]
 (.blk 2 (.loop (.gw (sR [bI 27 .lss 26 25]
 (.seq (.cond 27 .skip
 (.exit 2))
 (.seq (.blk 3 (sR [iA 28 24 26 1,lF 29 28 1,mV 9 29]
 (sR [mV 30 0,.cm 31 Z0 [30,(kI 3)],.bi 32 .add (kI 1) 31,mV 10 32]
 (.blk 4 (.loop (.gw (.seq (sR [mV 33 10,.bi 34 .gtr 33 (kI 0),mV 35 34,gT 35 (fA 36 3 0),gT 35 (lF 37 36 1),gT 35 (.ln 38 37),gT 35 (.bi 39 .lss 38 (kI 18)),.pk 40 35 39 (cB false)]
 (.cond 40 .skip
 (.exit 4)))
 (.seq (.blk 5 (sR [fA 43 3 0,lF 44 43 1,mV 45 9,.bs 46 1 [45] false,.ap 47 44 46 1 8,fA 48 3 0,.st 48 47 1]
 (.reg [mV 49 7,fA 50 3 0,lF 51 50 1,.ln 52 51,.bi 53 .sub 52 (kI 1),.bs 54 1 [53] false,.ap 55 49 54 1 8,mV 7 55])))
 (.reg [mV 41 10,.bi 42 .sub 41 (kI 1),mV 10 42])))))))))
 (.reg [.bi 56 .add 26 (kI 1),mV 26 56]))))))))
 (sR [mV 57 7,.ln 58 57,.bi 59 .gtr 58 (kI 0)]
 (.cond 59 (.reg [mV 60 7,mV 5 60])
 .skip)))))
 (.reg [mV 21 6,.bi 22 .add 21 (kI 1),mV 6 22])))))))
 (.seq (sR [mV 61 0,.cm 62 Z0 [61,(kI 10)],.bi 63 .add (kI 1) 62,mV 11 63]
 (.blk 6 (.loop (.gw (.seq (sR [mV 64 11,.bi 65 .gtr 64 (kI 0)]
 (.cond 65 .skip
 (.exit 6)))
 (.seq (.blk 7 (sR [mV 68 5,mV 69 0,mV 70 5,.ln 71 70,.cm 72 Z0 [69,71],iA 73 68 72 1,lF 74 73 1,mV 12 74]
 (sR [lT 75 3 2,mV 76 12,cQ 77 Up [75,76],.ln 78 77,.bi 79 .eql 78 (kI 0)]
 (.cond 79 (.rz [] [(0,false,fA 80 3 1),
 (1,false,lF 81 80 1),
 (2,false,mV 82 12),
 (3,false,mV 83 0),
 (6,false,mV 86 0),
 (9,false,mV 89 0),
 (4,true,.cm 84 Z0 [83,(kI 5)]),
 (5,false,.bi 85 .add (kI 4) 84),
 (7,true,.cm 87 Z0 [86,(kI 9)]),
 (8,false,.bi 88 .add (kI 8) 87),
 (10,true,.cm 90 Z0 [89,(kI 3)]),
 (11,false,.bd 91 [.int .i64 0,.int .i64 0,.int .i64 0] [(0,1,85),(1,1,88),(2,1,90)]),
 (12,false,.bd 92 [.int .i64 0,.int .i64 0,.int .i64 0,.int .i64 0] [(0,1,82),(1,3,91)]),
 (13,false,.bs 93 4 [92] false)]
 [.ap 94 81 93 4 32,fA 95 3 1,.st 95 94 1])
 .skip))))
 (.reg [mV 66 11,.bi 67 .sub 66 (kI 1),mV 11 67])))))))
 (sR [lT 96 3 2,.st 2 96 2]
 gR))))))
def X0k:List Rv:=[.c 2 2 true]
theorem Z0n:Yx Tryz.prog Li 1 X0l X0k=true:=by kernel_rfl
def Wu(x5:Int)(k5:(l01Cur×(List Int)×(List Int))->Option (Topo×l01Cur))(y6:Int×l01Cur)(v7:Int×(List Int)×(List Int))(k7:(Int×(List Int)×(List Int))->Option (Topo×l01Cur)):Option (Topo×l01Cur) :=
 bif ((decide (0<v7.1))&&(decide ((v7.2.1.length:Int)<18)))then((appL 8 v7.2.1 [x5]).bind fun xs8=>(appL 8 v7.2.2 [(w64 ((xs8.length:Int)-1))]).bind fun xs9=>k7 ((w64 (v7.1-1)),xs8,xs9))else(k5 (y6.2,v7.2.1,v7.2.2))
def Qu(x5:Int)(_:Nat)(v5:l01Cur×(List Int)×(List Int))(k5:(l01Cur×(List Int)×(List Int))->Option (Topo×l01Cur)):Option (Topo×l01Cur) :=
 (X0 v5.1 3).bind fun y6=>whl (Wu x5 k5 y6) 9223372036854775807 ((w64 (1+y6.1)),v5.2.1,v5.2.2)
def Xu(v3:l01Cur×Int×(List Int)×(List Int))(k3:(l01Cur×Int×(List Int)×(List Int))->Option (Topo×l01Cur))(v5:l01Cur×(List Int)×(List Int)):Option (Topo×l01Cur) :=
 bif (decide (0<(v5.2.2.length:Int)))then(k3 (v5.1,(w64 (v3.2.1+1)),v5.2.1,v5.2.2))else(k3 (v5.1,(w64 (v3.2.1+1)),v5.2.1,v3.2.2.2))
def Vu(v3:l01Cur×Int×(List Int)×(List Int))(v13:l01Cur×Int×(List Node))(k13:(l01Cur×Int×(List Node))->Option (Topo×l01Cur)):Option (Topo×l01Cur) :=
 bif (decide (0<v13.2.1))then((X0 v13.1 (v3.2.2.2.length:Int)).bind fun y14=>(idx v3.2.2.2 y14.1).bind fun e15=>(Mg (Topo.mk v3.2.2.1 v13.2.2) e15).bind fun y16=>bif ((y16.length:Int)==0)then((X0 y14.2 5).bind fun y18=>(X0 y18.2 9).bind fun y19=>(X0 y19.2 3).bind fun y20=>(appL 32 v13.2.2 [(Node.mk e15 (Vec.mk (w64 (4+y18.1)) (w64 (8+y19.1)) y20.1))]).bind fun xs21=>k13 (y20.2,(w64 (v13.2.1-1)),xs21))else(k13 (y14.2,(w64 (v13.2.1-1)),v13.2.2)))else(some ((Topo.mk v3.2.2.1 v13.2.2),v13.1))
def Uu(y2:Int×l01Cur)(v3:l01Cur×Int×(List Int)×(List Int))(k3:(l01Cur×Int×(List Int)×(List Int))->Option (Topo×l01Cur)):Option (Topo×l01Cur) :=
 bif (decide (v3.2.1<y2.1))then(rgl Qu (Xu v3 k3) v3.2.2.2 0 (v3.1,v3.2.2.1,[]))else((X0 v3.1 10).bind fun y12=>whl (Vu v3) 9223372036854775807 (y12.2,(w64 (1+y12.1)),[]))
def Ui(c1:l01Cur):Option (Topo×l01Cur) :=
 (X0 c1 3).bind fun y2=>whl (Uu y2) 9223372036854775807 (y2.2,0,[0],[0])
set_option maxRecDepth 20000 in
theorem OT{c1:l01Cur}{r:Topo×l01Cur}(H:Ui c1=some r):ConD Tryz.prog Li [.ptr 0 0] [(U0 .rd c1).cells] [] (.agg [.sref 0,.sref 1]) [(U0 .rd r.2).cells] [] [(1,r.1.parents.map eI),(4,r.1.nodes.map V1)]:=by
 refine Q06 [] Z0n rfl (by kernel_rfl) ?_
 unfold Ui at H
 obtain⟨y2,h2,H⟩:=bB H
 refine wG [.u 16 (.cw Z0 [2000000000] [] [(U0 .rd c1).cells] [] [.ptr 0 0,iV 3] _ _ _ _ _ (GEs.of [true,false] (by simp)) (by simp) (by simp) (by simp) (fun _=>Y0 h2))] fun _=>?_
 refine wW (fun(v3:l01Cur×Int×(List Int)×(List Int))=>⟨[(0,.ptr 2000000000 0),(2,.ptr 2 0),(3,.ptr 3 0),(4,iV y2.1),(5,.sref 17),(6,iV v3.2.1)],[],[(2000000000,(U0 .rd v3.1).cells),(2,[.nl,.nl]),(3,[.sref 13,.nl])],[(13,⟨1,v3.2.2.1.map eI,false⟩),(17,⟨1,v3.2.2.2.map eI,false⟩)]⟩) H (fun v3 I m k3 H N53=>?_)
 unfold Uu at H
 refine wP ?_
 refine O0 H (fun H=>?_) fun H=>?_
 .refine wG [.u 25 (.ln _ _ fun _=>lm v3.2.2.2 eI)] fun q4=>?_
  refine wR (fun(i5:Nat) (v5:l01Cur×(List Int)×(List Int))=>⟨[(0,.ptr 2000000000 0),(2,.ptr 2 0),(3,.ptr 3 0),(4,iV y2.1),(5,.sref 17),(6,iV v3.2.1),(7,.sref 23),(24,.sref 17),(25,iV (v3.2.2.2.length:Int)),(26,iV (i5:Int))],[],[(2000000000,(U0 .rd v5.1).cells),(2,[.nl,.nl]),(3,[.sref 13,.nl])],[(13,⟨1,v5.2.1.map eI,false⟩),(17,⟨1,v3.2.2.2.map eI,false⟩),(23,⟨1,v5.2.2.map eI,false⟩)]⟩) H (fun i5 x5 v5 I m k5 hxv5 hiv5 H N39=>?_) (fun v5 I m H=>?_)
  .unfold Qu at H
   refine wP ?_
   refine wt (ltT hiv5) ?_
   obtain⟨y6,h6,H⟩:=bB H
   refine wG [.u 28 (.ix _ _ _ fun _=>Q0 eI (J0 hxv5)),.u 29 (.el _ _ _ fun _=>gm eI (Y5 (J0 hxv5))),.u 31 (.cw Z0 [2000000000] [] [(U0 .rd v5.1).cells] [] [.ptr 0 0,iV 3] _ _ _ _ _ (GEs.of [true,false] (by simp)) (by simp) (by simp) (by simp) (fun _=>Y0 h6))] fun _=>?_
   refine wW (fun(v7:Int×(List Int)×(List Int))=>⟨[(0,.ptr 2000000000 0),(2,.ptr 2 0),(3,.ptr 3 0),(4,iV y2.1),(5,.sref 17),(6,iV v3.2.1),(7,.sref 23),(9,iV x5),(10,iV v7.1),(24,.sref 17),(25,iV (v3.2.2.2.length:Int)),(26,iV (i5:Int))],[],[(2000000000,(U0 .rd y6.2).cells),(2,[.nl,.nl]),(3,[.sref 13,.nl])],[(13,⟨1,v7.2.1.map eI,false⟩),(17,⟨1,v3.2.2.2.map eI,false⟩),(23,⟨1,v7.2.2.map eI,false⟩)]⟩) H (fun v7 I m k7 H N30=>?_)
   unfold Wu at H
   refine wG [.g 38 [((decide (0<v7.1)),true)] (.ln _ _ fun _=>lm v7.2.1 eI)] fun _=>?_
   refine O0 H (fun H=>?_) fun H=>?_
   .obtain⟨xs8,h8,H⟩:=bB H
    obtain⟨xs9,h9,H⟩:=bB H
    refine wG [.u 47 (.ap _ _ _ _ fun _=>L0 eI h8),.u 52 (.ln _ _ fun _=>lm xs8 eI),.u 55 (.ap _ _ _ _ fun _=>L0 eI h9)] fun q10=>?_
    exact wT (N30 _ H)
   .refine wG [.w 56 (wi .i64 rfl hiv5 q4.1)] fun _=>?_
    exact wT (N39 _ H)
  .unfold Xu at H
   refine wP ?_
   refine wf (ltF v3.2.2.2.length) ?_
   refine wG [.u 58 (.ln _ _ fun _=>lm v5.2.2 eI)] fun q11=>?_
   refine O0 H (fun H=>?_) fun H=>?_
   .refine wP ?_
    exact Z0e (N53 _ H) [] [] [(17,(some 23,0))] [] (by kernel_rfl) (by kernel_rfl)
   .refine wP ?_
    exact wT (N53 _ H)
 .obtain⟨y12,h12,H⟩:=bB H
  refine wG [.u 62 (.cw Z0 [2000000000] [] [(U0 .rd v3.1).cells] [] [.ptr 0 0,iV 10] _ _ _ _ _ (GEs.of [true,false] (by simp)) (by simp) (by simp) (by simp) (fun _=>Y0 h12))] fun _=>?_
  refine J1m (fun(v13:l01Cur×Int×(List Node))=>⟨[(0,.ptr 2000000000 0),(2,.ptr 2 0),(3,.ptr 3 0),(5,.sref 17),(11,.int .i64 v13.2.1)],[],[(2000000000,(U0 .rd v13.1).cells),(2,[.nl,.nl]),(3,[.sref 13,.sref 455001])],[(13,⟨1,v3.2.2.1.map eI,false⟩),(455001,⟨4,v13.2.2.map V1,false⟩),(17,⟨1,v3.2.2.2.map eI,false⟩)]⟩) [] [(3,[.d,.z 455001])] [(455001,(none,4))] [] (by kernel_rfl) (by kernel_rfl) H (fun v13 I m k13 H N73=>?_)
  unfold Vu at H
  refine wP ?_
  refine O0 H (fun H=>?_) fun H=>?_
  .obtain⟨y14,h14,H⟩:=bB H
   obtain⟨e15,h15,H⟩:=bB H
   obtain⟨y16,h16,H⟩:=bB H
   refine wG [.u 71 (.ln _ _ fun _=>lm v3.2.2.2 eI),.u 72 (.cw Z0 [2000000000] [] [(U0 .rd v13.1).cells] [] [.ptr 0 0,iV (v3.2.2.2.length:Int)] _ _ _ _ _ (GEs.of [true,false] (by simp)) (by simp) (by simp) (by simp) (fun _=>Y0 h14)),.u 73 (.ix _ _ _ fun _=>Q0 eI h15),.u 74 (.el _ _ _ fun _=>gm eI (Y5 h15)),.c 77 (Yu h16),.u 78 (.ln _ _ fun _=>lm y16 eI)] fun q17=>?_
   refine O0 H (fun H=>?_) fun H=>?_
   .obtain⟨y18,h18,H⟩:=bB H
    obtain⟨y19,h19,H⟩:=bB H
    obtain⟨y20,h20,H⟩:=bB H
    obtain⟨xs21,h21,H⟩:=bB H
    refine wG [.u 84 (.cz Z0 [2000000000] [(U0 .rd y14.2).cells] [.ptr 0 0,iV 5] _ _ _ (by simp) (by simp) (fun _=>by simp) (fun _=>Y0 h18)),.u 87 (.cz Z0 [2000000000] [(U0 .rd y18.2).cells] [.ptr 0 0,iV 9] _ _ _ (by simp) (by simp) (fun _=>by simp) (fun _=>Y0 h19)),.u 90 (.cz Z0 [2000000000] [(U0 .rd y19.2).cells] [.ptr 0 0,iV 3] _ _ _ (by simp) (by simp) (fun _=>by simp) (fun _=>Y0 h20)),.u 94 (.ap _ _ _ _ fun _=>L0 V1 h21)] fun _=>?_
    exact wT (N73 _ H)
   .refine wP ?_
    exact wT (N73 _ H)
  .refine wP ?_
   replace H:=sI H;subst H
   exact J1 [(2,.d)] [(2,[]),(2000000000,[])] [(13,some 13,0),(455001,some 455001,0)] [] [13,455001] (by kernel_rfl)
def O0r:L :=
sR [.al 2 [.nl,.nl,.nl,.int .i64 0,.int .i64 0,.int .i64 0,.int .i64 0,.int .i64 0,.nl,.nl,.nl]]
 (sR [mV 6 0,.cm 7 Li [6],mV 8 0,.cm 9 Z0 [8,(kI 6)],mV 10 0,.cm 11 Z0 [10,(kI 4)],.bd 12 [.int .i64 0,.int .i64 0,.int .i64 0] [(0,1,9),(1,1,11),(2,1,(kI 1))],mV 13 0,.cm 14 Z0 [13,(kI 4)],.cl 15 U07 [7,12,14],mV 5 15,eX 16 5 0,eX 17 5 1,.al 3 [.nl,.nl,.nl,.int .i64 0,.int .i64 0,.int .i64 0,.int .i64 0,.int .i64 0,.nl,.nl,.nl],.st 3 16 11,mV 4 17]
 (sR [lT 18 3 11,.st 2 18 11]
 gR))
def L0q:List Rv:=[.c 2 11 true]
theorem O0u:Yx Tryz.prog WI 1 O0r L0q=true:=by kernel_rfl
def Vt(c1:l01Cur):Option (State×l01Cur) :=
 (Ui c1).bind fun y2=>(X0 y2.2 6).bind fun y3=>(X0 y3.2 4).bind fun y4=>(X0 y4.2 4).bind fun y5=>(Ju y2.1 (Vec.mk y3.1 y4.1 1) y5.1).bind fun y6=>some (y6.1,y5.2)
set_option maxRecDepth 20000 in
theorem X0p{c1:l01Cur}{r:State×l01Cur}(H:Vt c1=some r):ConD Tryz.prog WI [.ptr 0 0] [(U0 .rd c1).cells] [] (.agg [nV 1 (r.1.topo.parents.map eI),nV 4 (r.1.topo.nodes.map V1),.sref 0,iV r.1.lic.a,iV r.1.lic.b,iV r.1.lic.c,iV r.1.depth,iV r.1.now,.sref 1,.sref 2,.sref 3]) [(U0 .rd r.2).cells] [] [(1,r.1.up.map eBo),(11,r.1.queue.map eJob),(13,r.1.runs.map (Z1 .nw)),(3,r.1.ends.map eEnd)]:=by
 refine Q06 [] O0u rfl (by kernel_rfl) ?_
 unfold Vt at H
 obtain⟨y2,h2,H⟩:=bB H
 obtain⟨y3,h3,H⟩:=bB H
 obtain⟨y4,h4,H⟩:=bB H
 obtain⟨y5,h5,H⟩:=bB H
 obtain⟨y6,h6,H⟩:=bB H
 refine wG [.u 7 (.cw Li [2000000000] [] [(U0 .rd c1).cells] [] [.ptr 0 0] _ _ _ _ _ (GEs.of [true] (by simp)) (by simp) (by simp) (by simp) (fun _=>OT h2)),.u 9 (.cw Z0 [2000000000] [] [(U0 .rd y2.2).cells] [] [.ptr 0 0,iV 6] _ _ _ _ _ (GEs.of [true,false] (by simp)) (by simp) (by simp) (by simp) (fun _=>Y0 h3)),.u 11 (.cw Z0 [2000000000] [] [(U0 .rd y3.2).cells] [] [.ptr 0 0,iV 4] _ _ _ _ _ (GEs.of [true,false] (by simp)) (by simp) (by simp) (by simp) (fun _=>Y0 h4)),.u 14 (.cw Z0 [2000000000] [] [(U0 .rd y4.2).cells] [] [.ptr 0 0,iV 4] _ _ _ _ _ (GEs.of [true,false] (by simp)) (by simp) (by simp) (by simp) (fun _=>Y0 h5)),.c 15 (U0q h6)] fun _=>?_
 replace H:=sI H;subst H
 exact J1 [(2,.d)] [(2,[]),(2000000000,[])] [(16000,some 16000,0),(16001,some 16001,0),(16002,some 16002,0),(16003,some 16003,0)] [] [16000,16001,16002,16003] (by kernel_rfl)
def Y0s:L :=
sR [.al 2 [.int .i64 0,.int .i64 0,.int .i64 0,.int .i64 0,.int .i64 0,.int .i64 0,.int .i64 0,.int .i64 0,.int .i64 0,.int .i64 0,.int .i64 0]]
 (sR [mV 4 0,.cm 5 Z0 [4,(kI 30)],.bi 6 .add (kI 1) 5,mV 7 0,.cm 8 Z0 [7,(kI 5)],mV 9 0,.cm 10 Z0 [9,(kI 3)],.bi 11 .add (kI 1) 10,mV 12 0,.cm 13 Z0 [12,(kI 5)],.bi 14 .add (kI 1) 13,mV 15 0,.cm 16 Z0 [15,(kI 9)],mV 17 0,.cm 18 Z0 [17,(kI 4)],.bi 19 .quo 18 (kI 3),.bd 20 [.int .i64 0,.int .i64 0,.int .i64 0] [(0,1,14),(1,1,16),(2,1,19)],mV 21 0,.cm 22 Z0 [21,(kI 20)],.bi 23 .add (kI 1) 22,mV 24 0,.cm 25 Z0 [24,(kI 3)],.bd 26 [.int .i64 0,.int .i64 0,.int .i64 0,.int .i64 0,.int .i64 0,.int .i64 0,.int .i64 0,.int .i64 0,.int .i64 0,.int .i64 0,.int .i64 0] [(0,1,6),(1,1,8),(2,1,11),(3,3,20),(9,1,23),(10,1,25)],.al 3 [.int .i64 0,.int .i64 0,.int .i64 0,.int .i64 0,.int .i64 0,.int .i64 0,.int .i64 0,.int .i64 0,.int .i64 0,.int .i64 0,.int .i64 0],.st 3 26 11]
 (.seq (sR [mV 27 0,.cm 28 Z0 [27,(kI 3)],.bi 29 .eql 28 (kI 0)]
 (.cond 29 (.reg [mV 30 0,.cm 31 Z0 [30,(kI 3)],mV 32 0,.cm 33 Z0 [32,(kI 2)],.bd 34 [.int .i64 0,.int .i64 0,.int .i64 0] [(0,1,31),(1,1,33)],fA 35 3 6,.st 35 34 3])
 .skip))
 (.gw (sR [lT 36 3 11,.st 2 36 11]
 gR))))
def Z0r:List Rv:=[.c 2 11 true]
theorem L0u:Yx Tryz.prog Wn 1 Y0s Z0r=true:=by kernel_rfl
def Zq(y2 y3 y4 y5 y6:Int×l01Cur)(n8:Int)(y9 y10:Int×l01Cur)(v14:l01Cur×Int×Int):Option (Job×l01Cur) :=
 some ((Job.mk (w64 (1+y2.1)) y3.1 (w64 (1+y4.1)) (Vec.mk (w64 (1+y5.1)) y6.1 n8) (Vec.mk v14.2.1 v14.2.2 0) (w64 (1+y9.1)) y10.1),v14.1)
def Zm(c1:l01Cur):Option (Job×l01Cur) :=
 (X0 c1 30).bind fun y2=>(X0 y2.2 5).bind fun y3=>(X0 y3.2 3).bind fun y4=>(X0 y4.2 5).bind fun y5=>(X0 y5.2 9).bind fun y6=>(X0 y6.2 4).bind fun y7=>(quoI .i64 y7.1 3).bind fun n8=>(X0 y7.2 20).bind fun y9=>(X0 y9.2 3).bind fun y10=>(X0 y10.2 3).bind fun y11=>bif (y11.1==0)then((X0 y11.2 3).bind fun y12=>(X0 y12.2 2).bind fun y13=>(Zq y2 y3 y4 y5 y6 n8 y9 y10) (y13.2,y12.1,y13.1))else((Zq y2 y3 y4 y5 y6 n8 y9 y10) (y11.2,0,0))
set_option maxRecDepth 20000 in
theorem WZ{c1:l01Cur}{r:Job×l01Cur}(H:Zm c1=some r):ConD Tryz.prog Wn [.ptr 0 0] [(U0 .rd c1).cells] [] (eJob r.1) [(U0 .rd r.2).cells] [] []:=by
 refine Q06 [] L0u rfl (by kernel_rfl) ?_
 unfold Zm at H
 obtain⟨y2,h2,H⟩:=bB H
 obtain⟨y3,h3,H⟩:=bB H
 obtain⟨y4,h4,H⟩:=bB H
 obtain⟨y5,h5,H⟩:=bB H
 obtain⟨y6,h6,H⟩:=bB H
 obtain⟨y7,h7,H⟩:=bB H
 obtain⟨n8,h8,H⟩:=bB H
 obtain⟨y9,h9,H⟩:=bB H
 obtain⟨y10,h10,H⟩:=bB H
 obtain⟨y11,h11,H⟩:=bB H
 refine wG [.u 5 (.cw Z0 [2000000000] [] [(U0 .rd c1).cells] [] [.ptr 0 0,iV 30] _ _ _ _ _ (GEs.of [true,false] (by simp)) (by simp) (by simp) (by simp) (fun _=>Y0 h2)),.u 8 (.cw Z0 [2000000000] [] [(U0 .rd y2.2).cells] [] [.ptr 0 0,iV 5] _ _ _ _ _ (GEs.of [true,false] (by simp)) (by simp) (by simp) (by simp) (fun _=>Y0 h3)),.u 10 (.cw Z0 [2000000000] [] [(U0 .rd y3.2).cells] [] [.ptr 0 0,iV 3] _ _ _ _ _ (GEs.of [true,false] (by simp)) (by simp) (by simp) (by simp) (fun _=>Y0 h4)),.u 13 (.cw Z0 [2000000000] [] [(U0 .rd y4.2).cells] [] [.ptr 0 0,iV 5] _ _ _ _ _ (GEs.of [true,false] (by simp)) (by simp) (by simp) (by simp) (fun _=>Y0 h5)),.u 16 (.cw Z0 [2000000000] [] [(U0 .rd y5.2).cells] [] [.ptr 0 0,iV 9] _ _ _ _ _ (GEs.of [true,false] (by simp)) (by simp) (by simp) (by simp) (fun _=>Y0 h6)),.u 18 (.cw Z0 [2000000000] [] [(U0 .rd y6.2).cells] [] [.ptr 0 0,iV 4] _ _ _ _ _ (GEs.of [true,false] (by simp)) (by simp) (by simp) (by simp) (fun _=>Y0 h7)),.u 19 (.quo _ _ _ _ fun _=>h8),.u 22 (.cw Z0 [2000000000] [] [(U0 .rd y7.2).cells] [] [.ptr 0 0,iV 20] _ _ _ _ _ (GEs.of [true,false] (by simp)) (by simp) (by simp) (by simp) (fun _=>Y0 h9)),.u 25 (.cw Z0 [2000000000] [] [(U0 .rd y9.2).cells] [] [.ptr 0 0,iV 3] _ _ _ _ _ (GEs.of [true,false] (by simp)) (by simp) (by simp) (by simp) (fun _=>Y0 h10)),.u 28 (.cw Z0 [2000000000] [] [(U0 .rd y10.2).cells] [] [.ptr 0 0,iV 3] _ _ _ _ _ (GEs.of [true,false] (by simp)) (by simp) (by simp) (by simp) (fun _=>Y0 h11))] fun _=>?_
 refine Z6 (r:=r) (Zq y2 y3 y4 y5 y6 n8 y9 y10) 0 (fun v14:l01Cur×Int×Int=>⟨[(2,.ptr 2 0),(3,.ptr 3 0)],[],[(2000000000,(U0 .rd v14.1).cells),(2,(eJob (Job.mk 0 0 0 (Vec.mk 0 0 0) (Vec.mk 0 0 0) 0 0)).cells),(3,(eJob (Job.mk (w64 (1+y2.1)) y3.1 (w64 (1+y4.1)) (Vec.mk (w64 (1+y5.1)) y6.1 n8) (Vec.mk v14.2.1 v14.2.2 0) (w64 (1+y9.1)) y10.1)).cells)],[]⟩) (by kernel_rfl) (fun v14 H=>?_) (fun J9=>?_)
 .unfold Zq at H
  refine wP ?_
  replace H:=sI H;subst H
  exact J1 [(2,.d)] [(2,[]),(2000000000,[])] [] [] [] (by kernel_rfl)
 .refine O0 H (fun H=>?_) fun H=>?_
  .obtain⟨y12,h12,H⟩:=bB H
   obtain⟨y13,h13,H⟩:=bB H
   refine wG [.u 31 (.cw Z0 [2000000000] [] [(U0 .rd y11.2).cells] [] [.ptr 0 0,iV 3] _ _ _ _ _ (GEs.of [true,false] (by simp)) (by simp) (by simp) (by simp) (fun _=>Y0 h12)),.u 33 (.cw Z0 [2000000000] [] [(U0 .rd y12.2).cells] [] [.ptr 0 0,iV 2] _ _ _ _ _ (GEs.of [true,false] (by simp)) (by simp) (by simp) (by simp) (fun _=>Y0 h13))] fun _=>?_
   exact wT (J9 _ H)
  .refine wP ?_
   exact wT (J9 _ H)
def UU:L :=
sR [.bx 3 1,.al 4 [.nl,.nl,.nl,.int .i64 0,.int .i64 0,.int .i64 0,.int .i64 0,.int .i64 0,.nl,.nl,.nl]]
 (sR [mV 10 0,.cm 11 Z0 [10,(kI 14)],mV 5 11]
 (sR [lT 12 3 11,.al 6 [.nl,.nl,.nl,.int .i64 0,.int .i64 0,.int .i64 0,.int .i64 0,.int .i64 0,.nl,.nl,.nl],.st 6 12 11]
 (.seq (rE 7 (kI 0))
 (.seq (sR [mV 13 5,.bi 14 .lss 13 (kI 7)]
 (.cond 14 (.ro [6] [] [(0,false,lT 16 3 11),
 (1,false,mV 17 0),
 (2,true,.cm 18 Wn [17]),
 (3,true,.cl 19 YY [16,18]),
 (4,true,mV 15 19),
 (6,false,eX 21 15 1),
 (5,true,eX 20 15 0)]
 [.st 6 20 11,mV 7 21])
 (sR [mV 22 5,.bi 23 .lss 22 (kI 9)]
 (.cond 23 (.seq (.rz [(10,8,[.nl,.nl,.nl,.int .i64 0,.int .i64 0,.int .i64 0,.int .i64 0,.int .i64 0,.nl,.nl,.nl])] [(0,false,lT 25 3 11),
 (1,false,fA 26 3 7),
 (2,false,lF 27 26 1),
 (3,false,mV 28 0),
 (4,true,.cm 29 Z0 [28,(kI 12)]),
 (5,false,bI 30 .add 27 29),
 (6,true,.cl 31 V07 [25,30]),
 (7,true,mV 24 31),
 (9,false,eX 33 24 1),
 (8,true,eX 32 24 0)]
 [.st 8 32 11,mV 9 33])
 (sR [mV 34 9]
 (.cond 34 (.reg [lT 35 8 11,.st 6 35 11])
 .skip)))
 (sR [mV 36 5,.bi 37 .eql 36 (kI 9)]
 (.cond 37 (.ro [6] [] [(0,false,lT 39 3 11),
 (1,false,mV 40 0),
 (4,false,mV 43 0),
 (2,true,.cm 41 Z0 [40,(kI 30)]),
 (3,false,.bi 42 .add (kI 1) 41),
 (5,true,.cm 44 Z0 [43,(kI 2)]),
 (6,false,.bi 45 .add (kI 2) 44),
 (7,true,.cl 46 Zx [39,42,45]),
 (8,true,mV 38 46),
 (10,false,eX 48 38 1),
 (9,true,eX 47 38 0)]
 [.st 6 47 11,mV 7 48])
 (sR [mV 49 5,.bi 50 .eql 49 (kI 10)]
 (.cond 50 (.ro [6] [] [(0,false,lT 52 3 11),
 (1,false,mV 53 0),
 (2,false,fA 54 3 0),
 (3,false,fA 55 54 1),
 (4,false,lF 56 55 1),
 (5,false,.lq 57 56),
 (6,true,.cm 58 Z0 [53,57]),
 (7,true,.cl 59 X0e [52,58]),
 (8,true,mV 51 59),
 (10,false,eX 61 51 1),
 (9,true,eX 60 51 0)]
 [.st 6 60 11,mV 7 61])
 (sR [mV 62 5,.bi 63 .eql 62 (kI 11)]
 (.cond 63 (.ro [6] [] [(0,false,lT 65 3 11),
 (1,false,mV 66 0),
 (2,false,fA 67 3 0),
 (3,false,fA 68 67 1),
 (4,false,lF 69 68 1),
 (5,false,.lq 70 69),
 (6,true,.cm 71 Z0 [66,70]),
 (7,true,.cl 72 XY [65,71]),
 (8,true,mV 64 72),
 (10,false,eX 74 64 1),
 (9,true,eX 73 64 0)]
 [.st 6 73 11,mV 7 74])
 (sR [mV 75 5,.bi 76 .eql 75 (kI 12)]
 (.cond 76 (.ro [6] [] [(0,false,lT 78 3 11),
 (1,false,mV 79 0),
 (3,false,mV 81 0),
 (5,false,mV 83 0),
 (2,true,.cm 80 Z0 [79,(kI 6)]),
 (4,true,.cm 82 Z0 [81,(kI 4)]),
 (6,true,.cm 84 Z0 [83,(kI 2)]),
 (7,false,.bd 85 [.int .i64 0,.int .i64 0,.int .i64 0] [(0,1,80),(1,1,82),(2,1,84)]),
 (8,true,.cl 86 VY [78,85]),
 (9,true,mV 77 86),
 (11,false,eX 88 77 1),
 (10,true,eX 87 77 0)]
 [.st 6 87 11,mV 7 88])
 (sR [fA 89 3 9,lF 90 89 1,.ln 91 90,.bi 92 .gtr 91 (kI 0)]
 (.cond 92 (.ro [6] [] [(0,false,lT 94 3 11),
 (1,false,fA 95 3 9),
 (2,false,lF 96 95 1),
 (3,false,mV 97 0),
 (4,false,fA 98 3 9),
 (5,false,lF 99 98 1),
 (6,false,.lq 100 99),
 (12,false,mV 106 0),
 (7,true,.cm 101 Z0 [97,100]),
 (8,false,iA 102 96 101 13),
 (9,false,fA 103 102 0),
 (10,false,fA 104 103 0),
 (11,false,lF 105 104 1),
 (13,true,.cm 107 Z0 [106,(kI 2)]),
 (14,false,.bi 108 .add (kI 2) 107),
 (15,true,.cl 109 Zx [94,105,108]),
 (16,true,mV 93 109),
 (18,false,eX 111 93 1),
 (17,true,eX 110 93 0)]
 [.st 6 110 11,mV 7 111])
 .skip))))))))))))))
 (.seq (sR [mV 112 7,.bi 113 .neq 112 (kI 0)]
 (.cond 113 (sR [lT 114 3 11,.st 4 114 11]
 gR)
 .skip))
 (sR [lT 115 6 11,.st 4 115 11]
 gR))))))
def ZU:List Rv:=[.c 4 11 true]
theorem LU:Yx Tryz.prog Va 2 UU ZU=true:=by kernel_rfl
def Y6(c1:l01Cur)(s2:State):Option (State×l01Cur) :=
 (X0 c1 14).bind fun y3=>bif (decide (y3.1<7))then((Zm y3.2).bind fun y4=>(Qy s2 y4.1).bind fun y5=>bif (y5.2 != 0)then(some (s2,y4.2))else(some (y5.1,y4.2)))else(bif (decide (y3.1<9))then((X0 y3.2 12).bind fun y6=>(WJ s2 (w64 (s2.now+y6.1))).bind fun y7=>bif y7.2 then(bif (0 != 0)then(some (s2,y6.2))else(some (y7.1,y6.2)))else(bif (0 != 0)then(some (s2,y6.2))else(some (s2,y6.2))))else(bif (y3.1==9)then((X0 y3.2 30).bind fun y8=>(X0 y8.2 2).bind fun y9=>(Uk s2 (w64 (1+y8.1)) (w64 (2+y9.1))).bind fun y10=>bif (y10.2 != 0)then(some (s2,y9.2))else(some (y10.1,y9.2)))else(bif (y3.1==10)then((lenQ s2.topo.nodes).bind fun _=>(X0 y3.2 (s2.topo.nodes.length:Int)).bind fun y12=>(LT s2 y12.1).bind fun y13=>bif (y13.2 != 0)then(some (s2,y12.2))else(some (y13.1,y12.2)))else(bif (y3.1==11)then((lenQ s2.topo.nodes).bind fun _=>(X0 y3.2 (s2.topo.nodes.length:Int)).bind fun y15=>(My s2 y15.1).bind fun y16=>bif (y16.2 != 0)then(some (s2,y15.2))else(some (y16.1,y15.2)))else(bif (y3.1==12)then((X0 y3.2 6).bind fun y17=>(X0 y17.2 4).bind fun y18=>(X0 y18.2 2).bind fun y19=>(Ly s2 (Vec.mk y17.1 y18.1 y19.1)).bind fun y20=>bif (y20.2 != 0)then(some (s2,y19.2))else(some (y20.1,y19.2)))else(bif (decide (0<(s2.runs.length:Int)))then((X0 y3.2 (s2.runs.length:Int)).bind fun y22=>(idx s2.runs y22.1).bind fun e23=>(X0 y22.2 2).bind fun y24=>(Uk s2 e23.job.id (w64 (2+y24.1))).bind fun y25=>bif (y25.2 != 0)then(some (s2,y24.2))else(some (y25.1,y24.2)))else(bif (0 != 0)then(some (s2,y3.2))else(some (s2,y3.2)))))))))
set_option maxRecDepth 20000 in
theorem UT{c1:l01Cur}{s2:State}{r:State×l01Cur}(H:Y6 c1 s2=some r):ConD Tryz.prog Va [.ptr 0 0,.agg [nV 1 (s2.topo.parents.map eI),nV 4 (s2.topo.nodes.map V1),.sref 0,iV s2.lic.a,iV s2.lic.b,iV s2.lic.c,iV s2.depth,iV s2.now,.sref 1,.sref 2,.sref 3]] [(U0 .rd c1).cells] [(1,s2.up.map eBo),(11,s2.queue.map eJob),(13,s2.runs.map (Z1 .nw)),(3,s2.ends.map eEnd)] (.agg [nV 1 (r.1.topo.parents.map eI),nV 4 (r.1.topo.nodes.map V1),.sref 4,iV r.1.lic.a,iV r.1.lic.b,iV r.1.lic.c,iV r.1.depth,iV r.1.now,.sref 5,.sref 6,.sref 7]) [(U0 .rd r.2).cells] [none,none,none,none] [(1,r.1.up.map eBo),(11,r.1.queue.map eJob),(13,r.1.runs.map (Z1 .nw)),(3,r.1.ends.map eEnd)]:=by
 refine Q06 [false,false,false,false] LU rfl (by kernel_rfl) ?_
 unfold Y6 at H
 obtain⟨y3,h3,H⟩:=bB H
 refine wG [.u 11 (.cw Z0 [2000000000] [] [(U0 .rd c1).cells] [] [.ptr 0 0,iV 14] _ _ _ _ _ (GEs.of [true,false] (by simp)) (by simp) (by simp) (by simp) (fun _=>Y0 h3))] fun _=>?_
 refine O0 H (fun H=>?_) fun H=>?_
 .obtain⟨y4,h4,H⟩:=bB H
  obtain⟨y5,h5,H⟩:=bB H
  refine wG [.u 18 (.cz Wn [2000000000] [(U0 .rd y3.2).cells] [.ptr 0 0] _ _ _ (by simp) (by simp) (fun _=>by simp) (fun _=>WZ h4)),.u 19 (.call _ _ _ _ _ (AEs.of (xs:=[.agg [rV 1 (s2.topo.parents.map eI),rV 4 (s2.topo.nodes.map V1),rV 1 (s2.up.map eBo),iV s2.lic.a,iV s2.lic.b,iV s2.lic.c,iV s2.depth,iV s2.now,rV 11 (s2.queue.map eJob),rV 13 (s2.runs.map (Z1 .nw)),rV 3 (s2.ends.map eEnd)],.agg [iV y4.1.id,iV y4.1.prio,iV y4.1.nodes,iV y4.1.need.a,iV y4.1.need.b,iV y4.1.need.c,iV y4.1.lic.a,iV y4.1.lic.b,iV y4.1.lic.c,iV y4.1.wall,iV y4.1.level]]) (by simp)) (fun _=>U0a h5))] fun _=>?_
  refine O0 H (fun H=>?_) fun H=>?_
  .refine wP ?_
   replace H:=sI H;subst H
   exact J1 [(4,.d)] [(4,[]),(2000000000,[])] [(500000000,some 500000000,0),(500000001,some 500000001,0),(500000002,some 500000002,0),(500000003,some 500000003,0)] [] [500000000,500000001,500000002,500000003] (by kernel_rfl)
  .refine wP ?_
   replace H:=sI H;subst H
   exact J1 [(4,.d)] [(4,[]),(2000000000,[])] [(20000,some 20000,0),(20001,some 20001,0),(20002,some 20002,0),(20003,some 20003,0)] [] [20000,20001,20002,20003] (by kernel_rfl)
 .refine wP ?_
  refine O0 H (fun H=>?_) fun H=>?_
  .obtain⟨y6,h6,H⟩:=bB H
   obtain⟨y7,h7,H⟩:=bB H
   refine wG [.u 29 (.cz Z0 [2000000000] [(U0 .rd y3.2).cells] [.ptr 0 0,iV 12] _ _ _ (by simp) (by simp) (fun _=>by simp) (fun _=>Y0 h6)),.u 31 (.call _ _ _ _ _ (AEs.of (xs:=[.agg [rV 1 (s2.topo.parents.map eI),rV 4 (s2.topo.nodes.map V1),rV 1 (s2.up.map eBo),iV s2.lic.a,iV s2.lic.b,iV s2.lic.c,iV s2.depth,iV s2.now,rV 11 (s2.queue.map eJob),rV 13 (s2.runs.map (Z1 .nw)),rV 3 (s2.ends.map eEnd)],iV (w64 (s2.now+y6.1))]) (by simp)) (fun _=>J0e h7))] fun _=>?_
   refine O0 H (fun H=>?_) fun H=>?_
   .refine wP ?_
    refine O0 H (fun H=>?_) fun H=>?_
    .refine wP ?_
     replace H:=sI H;subst H
     exact J1 [(4,.d)] [(4,[]),(2000000000,[])] [(500000000,some 500000000,0),(500000001,some 500000001,0),(500000002,some 500000002,0),(500000003,some 500000003,0)] [] [500000000,500000001,500000002,500000003] (by kernel_rfl)
    .refine wP ?_
     replace H:=sI H;subst H
     exact J1 [(4,.d)] [(4,[]),(2000000000,[])] [(32000,some 32000,0),(32001,some 32001,0),(32002,some 32002,0),(32003,some 32003,0)] [] [32000,32001,32002,32003] (by kernel_rfl)
   .refine wP ?_
    refine O0 H (fun H=>?_) fun H=>?_
    .refine wP ?_
     replace H:=sI H;subst H
     exact J1 [(4,.d)] [(4,[]),(2000000000,[])] [(500000000,some 500000000,0),(500000001,some 500000001,0),(500000002,some 500000002,0),(500000003,some 500000003,0)] [] [500000000,500000001,500000002,500000003] (by kernel_rfl)
    .refine wP ?_
     replace H:=sI H;subst H
     exact J1 [(4,.d)] [(4,[]),(2000000000,[])] [(500000000,some 500000000,0),(500000001,some 500000001,0),(500000002,some 500000002,0),(500000003,some 500000003,0)] [] [500000000,500000001,500000002,500000003] (by kernel_rfl)
  .refine wP ?_
   refine O0 H (fun H=>?_) fun H=>?_
   .obtain⟨y8,h8,H⟩:=bB H
    obtain⟨y9,h9,H⟩:=bB H
    obtain⟨y10,h10,H⟩:=bB H
    refine wG [.u 41 (.cz Z0 [2000000000] [(U0 .rd y3.2).cells] [.ptr 0 0,iV 30] _ _ _ (by simp) (by simp) (fun _=>by simp) (fun _=>Y0 h8)),.u 44 (.cz Z0 [2000000000] [(U0 .rd y8.2).cells] [.ptr 0 0,iV 2] _ _ _ (by simp) (by simp) (fun _=>by simp) (fun _=>Y0 h9)),.u 46 (.call _ _ _ _ _ (AEs.of (xs:=[.agg [rV 1 (s2.topo.parents.map eI),rV 4 (s2.topo.nodes.map V1),rV 1 (s2.up.map eBo),iV s2.lic.a,iV s2.lic.b,iV s2.lic.c,iV s2.depth,iV s2.now,rV 11 (s2.queue.map eJob),rV 13 (s2.runs.map (Z1 .nw)),rV 3 (s2.ends.map eEnd)],iV (w64 (1+y8.1)),iV (w64 (2+y9.1))]) (by simp)) (fun _=>UB h10))] fun _=>?_
    refine O0 H (fun H=>?_) fun H=>?_
    .refine wP ?_
     replace H:=sI H;subst H
     exact J1 [(4,.d)] [(4,[]),(2000000000,[])] [(500000000,some 500000000,0),(500000001,some 500000001,0),(500000002,some 500000002,0),(500000003,some 500000003,0)] [] [500000000,500000001,500000002,500000003] (by kernel_rfl)
    .refine wP ?_
     replace H:=sI H;subst H
     exact J1 [(4,.d)] [(4,[]),(2000000000,[])] [(47000,some 47000,0),(47001,some 47001,0),(47002,some 47002,0),(47003,some 47003,0)] [] [47000,47001,47002,47003] (by kernel_rfl)
   .refine wP ?_
    refine O0 H (fun H=>?_) fun H=>?_
    .obtain⟨u11,h11,H⟩:=bB H
     obtain⟨y12,h12,H⟩:=bB H
     obtain⟨y13,h13,H⟩:=bB H
     refine wG [.u 57 (.le _ _ (fun _=>lm s2.topo.nodes V1) (fun _=>LV h11)),.u 58 (.cz Z0 [2000000000] [(U0 .rd y3.2).cells] [.ptr 0 0,iV (s2.topo.nodes.length:Int)] _ _ _ (by simp) (by simp) (fun _=>by simp) (fun _=>Y0 h12)),.u 59 (.call _ _ _ _ _ (AEs.of (xs:=[.agg [rV 1 (s2.topo.parents.map eI),rV 4 (s2.topo.nodes.map V1),rV 1 (s2.up.map eBo),iV s2.lic.a,iV s2.lic.b,iV s2.lic.c,iV s2.depth,iV s2.now,rV 11 (s2.queue.map eJob),rV 13 (s2.runs.map (Z1 .nw)),rV 3 (s2.ends.map eEnd)],iV y12.1]) (by simp)) (fun _=>Z0o h13))] fun _=>?_
     refine O0 H (fun H=>?_) fun H=>?_
     .refine wP ?_
      replace H:=sI H;subst H
      exact J1 [(4,.d)] [(4,[]),(2000000000,[])] [(500000000,some 500000000,0),(500000001,some 500000001,0),(500000002,some 500000002,0),(500000003,some 500000003,0)] [] [500000000,500000001,500000002,500000003] (by kernel_rfl)
     .refine wP ?_
      replace H:=sI H;subst H
      exact J1 [(4,.d)] [(4,[]),(2000000000,[])] [(60000,some 60000,0),(60001,some 60001,0),(60002,some 60002,0),(60003,some 60003,0)] [] [60000,60001,60002,60003] (by kernel_rfl)
    .refine wP ?_
     refine O0 H (fun H=>?_) fun H=>?_
     .obtain⟨u14,h14,H⟩:=bB H
      obtain⟨y15,h15,H⟩:=bB H
      obtain⟨y16,h16,H⟩:=bB H
      refine wG [.u 70 (.le _ _ (fun _=>lm s2.topo.nodes V1) (fun _=>LV h14)),.u 71 (.cz Z0 [2000000000] [(U0 .rd y3.2).cells] [.ptr 0 0,iV (s2.topo.nodes.length:Int)] _ _ _ (by simp) (by simp) (fun _=>by simp) (fun _=>Y0 h15)),.u 72 (.call _ _ _ _ _ (AEs.of (xs:=[.agg [rV 1 (s2.topo.parents.map eI),rV 4 (s2.topo.nodes.map V1),rV 1 (s2.up.map eBo),iV s2.lic.a,iV s2.lic.b,iV s2.lic.c,iV s2.depth,iV s2.now,rV 11 (s2.queue.map eJob),rV 13 (s2.runs.map (Z1 .nw)),rV 3 (s2.ends.map eEnd)],iV y15.1]) (by simp)) (fun _=>W0a h16))] fun _=>?_
      refine O0 H (fun H=>?_) fun H=>?_
      .refine wP ?_
       replace H:=sI H;subst H
       exact J1 [(4,.d)] [(4,[]),(2000000000,[])] [(500000000,some 500000000,0),(500000001,some 500000001,0),(500000002,some 500000002,0),(500000003,some 500000003,0)] [] [500000000,500000001,500000002,500000003] (by kernel_rfl)
      .refine wP ?_
       replace H:=sI H;subst H
       exact J1 [(4,.d)] [(4,[]),(2000000000,[])] [(73000,some 73000,0),(73001,some 73001,0),(73002,some 73002,0),(73003,some 73003,0)] [] [73000,73001,73002,73003] (by kernel_rfl)
     .refine wP ?_
      refine O0 H (fun H=>?_) fun H=>?_
      .obtain⟨y17,h17,H⟩:=bB H
       obtain⟨y18,h18,H⟩:=bB H
       obtain⟨y19,h19,H⟩:=bB H
       obtain⟨y20,h20,H⟩:=bB H
       refine wG [.u 80 (.cz Z0 [2000000000] [(U0 .rd y3.2).cells] [.ptr 0 0,iV 6] _ _ _ (by simp) (by simp) (fun _=>by simp) (fun _=>Y0 h17)),.u 82 (.cz Z0 [2000000000] [(U0 .rd y17.2).cells] [.ptr 0 0,iV 4] _ _ _ (by simp) (by simp) (fun _=>by simp) (fun _=>Y0 h18)),.u 84 (.cz Z0 [2000000000] [(U0 .rd y18.2).cells] [.ptr 0 0,iV 2] _ _ _ (by simp) (by simp) (fun _=>by simp) (fun _=>Y0 h19)),.u 86 (.call _ _ _ _ _ (AEs.of (xs:=[.agg [rV 1 (s2.topo.parents.map eI),rV 4 (s2.topo.nodes.map V1),rV 1 (s2.up.map eBo),iV s2.lic.a,iV s2.lic.b,iV s2.lic.c,iV s2.depth,iV s2.now,rV 11 (s2.queue.map eJob),rV 13 (s2.runs.map (Z1 .nw)),rV 3 (s2.ends.map eEnd)],.agg [iV y17.1,iV y18.1,iV y19.1]]) (by simp)) (fun _=>O0a h20))] fun _=>?_
       refine O0 H (fun H=>?_) fun H=>?_
       .refine wP ?_
        replace H:=sI H;subst H
        exact J1 [(4,.d)] [(4,[]),(2000000000,[])] [(500000000,some 500000000,0),(500000001,some 500000001,0),(500000002,some 500000002,0),(500000003,some 500000003,0)] [] [500000000,500000001,500000002,500000003] (by kernel_rfl)
       .refine wP ?_
        replace H:=sI H;subst H
        exact J1 [(4,.d)] [(4,[]),(2000000000,[])] [(87000,some 87000,0),(87001,some 87001,0),(87002,some 87002,0),(87003,some 87003,0)] [] [87000,87001,87002,87003] (by kernel_rfl)
      .refine wG [.u 91 (.ln _ _ fun _=>lm s2.runs (Z1 .nw))] fun q21=>?_
       refine O0 H (fun H=>?_) fun H=>?_
       .obtain⟨y22,h22,H⟩:=bB H
        obtain⟨e23,h23,H⟩:=bB H
        obtain⟨y24,h24,H⟩:=bB H
        obtain⟨y25,h25,H⟩:=bB H
        refine wG [.u 100 (.le _ _ (fun _=>lm s2.runs (Z1 .nw)) (fun _=>q21.1)),.u 101 (.cz Z0 [2000000000] [(U0 .rd y3.2).cells] [.ptr 0 0,iV (s2.runs.length:Int)] _ _ _ (by simp) (by simp) (fun _=>by simp) (fun _=>Y0 h22)),.u 102 (.ix _ _ _ fun _=>Q0 (Z1 .nw) h23),.u 105 (.el _ _ _ fun _=>gm (Z1 .nw) (Y5 h23)),.u 107 (.cz Z0 [2000000000] [(U0 .rd y22.2).cells] [.ptr 0 0,iV 2] _ _ _ (by simp) (by simp) (fun _=>by simp) (fun _=>Y0 h24)),.u 109 (.call _ _ _ _ _ (AEs.of (xs:=[.agg [rV 1 (s2.topo.parents.map eI),rV 4 (s2.topo.nodes.map V1),rV 1 (s2.up.map eBo),iV s2.lic.a,iV s2.lic.b,iV s2.lic.c,iV s2.depth,iV s2.now,rV 11 (s2.queue.map eJob),rV 13 (s2.runs.map (Z1 .nw)),rV 3 (s2.ends.map eEnd)],iV e23.job.id,iV (w64 (2+y24.1))]) (by simp)) (fun _=>UB h25))] fun _=>?_
        refine O0 H (fun H=>?_) fun H=>?_
        .refine wP ?_
         replace H:=sI H;subst H
         exact J1 [(4,.d)] [(4,[]),(2000000000,[])] [(500000000,some 500000000,0),(500000001,some 500000001,0),(500000002,some 500000002,0),(500000003,some 500000003,0)] [] [500000000,500000001,500000002,500000003] (by kernel_rfl)
        .refine wP ?_
         replace H:=sI H;subst H
         exact J1 [(4,.d)] [(4,[]),(2000000000,[])] [(110000,some 110000,0),(110001,some 110001,0),(110002,some 110002,0),(110003,some 110003,0)] [] [110000,110001,110002,110003] (by kernel_rfl)
       .refine wP ?_
        refine O0 H (fun H=>?_) fun H=>?_
        .refine wP ?_
         replace H:=sI H;subst H
         exact J1 [(4,.d)] [(4,[]),(2000000000,[])] [(500000000,some 500000000,0),(500000001,some 500000001,0),(500000002,some 500000002,0),(500000003,some 500000003,0)] [] [500000000,500000001,500000002,500000003] (by kernel_rfl)
        .refine wP ?_
         replace H:=sI H;subst H
         exact J1 [(4,.d)] [(4,[]),(2000000000,[])] [(500000000,some 500000000,0),(500000001,some 500000001,0),(500000002,some 500000002,0),(500000003,some 500000003,0)] [] [500000000,500000001,500000002,500000003] (by kernel_rfl)
def M0k:L :=
sR [.al 4 [.nl,.nl,.nl,.int .i64 0,.int .i64 0,.int .i64 0,.int .i64 0,.int .i64 0,.nl,.nl,.nl]]
 (sR [mV 7 0,.cm 8 WI [7],.al 5 [.nl,.nl,.nl,.int .i64 0,.int .i64 0,.int .i64 0,.int .i64 0,.int .i64 0,.nl,.nl,.nl],.st 5 8 11]
 (.seq (sR [mV 9 0,mV 10 1,.bi 11 .add 10 (kI 1),.cm 12 Z0 [9,11],mV 6 12]
 (.blk 0 (.loop (.gw (.seq (sR [mV 13 6,.bi 14 .gtr 13 (kI 0)]
 (.cond 14 .skip
 (.exit 0)))
 (.seq (.blk 1 (.reg [mV 17 0,lT 18 5 11,.cm 19 Va [17,18],.st 5 19 11]))
 (.reg [mV 15 6,.bi 16 .sub 15 (kI 1),mV 6 16])))))))
 (sR [lT 20 5 11,.st 4 20 11]
 gR)))
def Z0k:List Rv:=[.c 4 11 true]
theorem L0m:Yx Tryz.prog XC 2 M0k Z0k=true:=by kernel_rfl
def Qt(v5:l01Cur×State×Int)(k5:(l01Cur×State×Int)->Option (State×l01Cur)):Option (State×l01Cur) :=
 bif (decide (0<v5.2.2))then((Y6 v5.1 v5.2.1).bind fun y6=>k5 (y6.2,y6.1,(w64 (v5.2.2-1))))else(some (v5.2.1,v5.1))
def Yo(c1:l01Cur)(most2:Int):Option (State×l01Cur) :=
 (Vt c1).bind fun y3=>(X0 y3.2 (w64 (most2+1))).bind fun y4=>whl Qt 9223372036854775807 (y4.2,y3.1,y4.1)
set_option maxRecDepth 20000 in
theorem X0j{c1:l01Cur}{most2:Int}{r:State×l01Cur}(H:Yo c1 most2=some r):ConD Tryz.prog XC [.ptr 0 0,iV most2] [(U0 .rd c1).cells] [] (.agg [nV 1 (r.1.topo.parents.map eI),nV 4 (r.1.topo.nodes.map V1),.sref 0,iV r.1.lic.a,iV r.1.lic.b,iV r.1.lic.c,iV r.1.depth,iV r.1.now,.sref 1,.sref 2,.sref 3]) [(U0 .rd r.2).cells] [] [(1,r.1.up.map eBo),(11,r.1.queue.map eJob),(13,r.1.runs.map (Z1 .nw)),(3,r.1.ends.map eEnd)]:=by
 refine Q06 [] L0m rfl (by kernel_rfl) ?_
 unfold Yo at H
 obtain⟨y3,h3,H⟩:=bB H
 obtain⟨y4,h4,H⟩:=bB H
 refine wG [.u 8 (.cw WI [2000000000] [] [(U0 .rd c1).cells] [] [.ptr 0 0] _ _ _ _ _ (GEs.of [true] (by simp)) (by simp) (by simp) (by simp) (fun _=>X0p h3)),.u 12 (.cw Z0 [2000000000] [] [(U0 .rd y3.2).cells] [] [.ptr 0 0,iV (w64 (most2+1))] _ _ _ _ _ (GEs.of [true,false] (by simp)) (by simp) (by simp) (by simp) (fun _=>Y0 h4))] fun _=>?_
 refine wW (fun(v5:l01Cur×State×Int)=>⟨[(0,.ptr 2000000000 0),(4,.ptr 4 0),(5,.ptr 5 0),(6,iV v5.2.2)],[],[(2000000000,(U0 .rd v5.1).cells),(4,[.nl,.nl,.nl,iV 0,iV 0,iV 0,iV 0,iV 0,.nl,.nl,.nl]),(5,[nV 1 (v5.2.1.topo.parents.map eI),nV 4 (v5.2.1.topo.nodes.map V1),.sref 9000,iV v5.2.1.lic.a,iV v5.2.1.lic.b,iV v5.2.1.lic.c,iV v5.2.1.depth,iV v5.2.1.now,.sref 9001,.sref 9002,.sref 9003])],[(9000,⟨1,v5.2.1.up.map eBo,false⟩),(9001,⟨11,v5.2.1.queue.map eJob,false⟩),(9002,⟨13,v5.2.1.runs.map (Z1 .nw),false⟩),(9003,⟨3,v5.2.1.ends.map eEnd,false⟩)]⟩) H (fun v5 I m k5 H N13=>?_)
 unfold Qt at H
 refine wP ?_
 refine O0 H (fun H=>?_) fun H=>?_
 .obtain⟨y6,h6,H⟩:=bB H
  refine wG [.u 19 (.cw Va [2000000000] [9000,9001,9002,9003] [(U0 .rd v5.1).cells] [(1,v5.2.1.up.map eBo),(11,v5.2.1.queue.map eJob),(13,v5.2.1.runs.map (Z1 .nw)),(3,v5.2.1.ends.map eEnd)] [.ptr 0 0,.agg [nV 1 (v5.2.1.topo.parents.map eI),nV 4 (v5.2.1.topo.nodes.map V1),.sref 0,iV v5.2.1.lic.a,iV v5.2.1.lic.b,iV v5.2.1.lic.c,iV v5.2.1.depth,iV v5.2.1.now,.sref 1,.sref 2,.sref 3]] _ _ _ _ _ (GEs.of [true,true] (by simp)) (by simp) (by simp) (by simp) (fun _=>UT h6))] fun _=>?_
  exact Z0e (N13 _ H) [] [] [(9000,(some 20000,0)),(9001,(some 20001,0)),(9002,(some 20002,0)),(9003,(some 20003,0))] [] (by kernel_rfl) (by kernel_rfl)
 .refine wP ?_
  replace H:=sI H;subst H
  exact J1 [(4,.d)] [(4,[]),(2000000000,[])] [(9000,some 9000,0),(9001,some 9001,0),(9002,some 9002,0),(9003,some 9003,0)] [] [9000,9001,9002,9003] (by kernel_rfl)
def O0s:L :=
.seq (rE 2 (kI 0))
 (sR [mV 4 0,.cm 5 Z0 [4,(kI 9)],mV 3 5]
 (.seq (sR [mV 6 3,.bi 7 .lss 6 (kI 4)]
 (.cond 7 (sR [mV 8 0,.cm 9 Z0 [8,(kI 24)],.bi 10 .sub 9 (kI 2),mV 2 10]
 gR)
 .skip))
 (.seq (sR [mV 11 3,.bi 12 .eql 11 (kI 4)]
 (.cond 12 (sR [mV 13 0,.cm 14 Z0 [13,(kI 3)],.bi 15 .add (kI 999999) 14,mV 2 15]
 gR)
 .skip))
 (.seq (sR [mV 16 3,.bi 17 .eql 16 (kI 5)]
 (.cond 17 (sR [mV 18 0,.cm 19 Z0 [18,(kI 3)],.bi 20 .add (kI 999999999) 19,mV 2 20]
 gR)
 .skip))
 (.seq (sR [mV 21 3,.bi 22 .eql 21 (kI 6)]
 (.cond 22 (sR [mV 23 0,.cm 24 Z0 [23,(kI 2)],.bi 25 .sub (kI 9223372036854775807) 24,mV 2 25]
 gR)
 .skip))
 (.seq (sR [mV 26 3,.bi 27 .eql 26 (kI 7)]
 (.cond 27 (sR [mV 28 0,.cm 29 Z0 [28,(kI 2)],.bi 30 .sub (kI (-9223372036854775807)) 29,mV 2 30]
 gR)
 .skip))
 (sR [mV 31 0,.cm 32 Z0 [31,(kI 2000000)],mV 2 32]
 gR)))))))
def V0r:List Rv:=[.t 2]
theorem Y0v:Yx Tryz.prog U2 1 O0s V0r=true:=by kernel_rfl
def J3(c1:l01Cur):Option (Int×l01Cur) :=
 (X0 c1 9).bind fun y2=>bif (decide (y2.1<4))then((X0 y2.2 24).bind fun y3=>some ((w64 (y3.1-2)),y3.2))else(bif (y2.1==4)then((X0 y2.2 3).bind fun y4=>some ((w64 (999999+y4.1)),y4.2))else(bif (y2.1==5)then((X0 y2.2 3).bind fun y5=>some ((w64 (999999999+y5.1)),y5.2))else(bif (y2.1==6)then((X0 y2.2 2).bind fun y6=>some ((w64 (9223372036854775807-y6.1)),y6.2))else(bif (y2.1==7)then((X0 y2.2 2).bind fun y7=>some ((w64 ((-9223372036854775807)-y7.1)),y7.2))else((X0 y2.2 2000000).bind fun y8=>some (y8.1,y8.2))))))
set_option maxRecDepth 20000 in
theorem L5{c1:l01Cur}{r:Int×l01Cur}(H:J3 c1=some r):ConD Tryz.prog U2 [.ptr 0 0] [(U0 .rd c1).cells] [] (iV r.1) [(U0 .rd r.2).cells] [] []:=by
 refine Q06 [] Y0v rfl (by kernel_rfl) ?_
 unfold J3 at H
 obtain⟨y2,h2,H⟩:=bB H
 refine wG [.u 5 (.cw Z0 [2000000000] [] [(U0 .rd c1).cells] [] [.ptr 0 0,iV 9] _ _ _ _ _ (GEs.of [true,false] (by simp)) (by simp) (by simp) (by simp) (fun _=>Y0 h2))] fun _=>?_
 refine O0 H (fun H=>?_) fun H=>?_
 .obtain⟨y3,h3,H⟩:=bB H
  refine wG [.u 9 (.cw Z0 [2000000000] [] [(U0 .rd y2.2).cells] [] [.ptr 0 0,iV 24] _ _ _ _ _ (GEs.of [true,false] (by simp)) (by simp) (by simp) (by simp) (fun _=>Y0 h3))] fun _=>?_
  replace H:=sI H;subst H
  exact J1 [(2,.d)] [(2000000000,[])] [] [] [] (by kernel_rfl)
 .refine wP ?_
  refine O0 H (fun H=>?_) fun H=>?_
  .obtain⟨y4,h4,H⟩:=bB H
   refine wG [.u 14 (.cw Z0 [2000000000] [] [(U0 .rd y2.2).cells] [] [.ptr 0 0,iV 3] _ _ _ _ _ (GEs.of [true,false] (by simp)) (by simp) (by simp) (by simp) (fun _=>Y0 h4))] fun _=>?_
   replace H:=sI H;subst H
   exact J1 [(2,.d)] [(2000000000,[])] [] [] [] (by kernel_rfl)
  .refine wP ?_
   refine O0 H (fun H=>?_) fun H=>?_
   .obtain⟨y5,h5,H⟩:=bB H
    refine wG [.u 19 (.cw Z0 [2000000000] [] [(U0 .rd y2.2).cells] [] [.ptr 0 0,iV 3] _ _ _ _ _ (GEs.of [true,false] (by simp)) (by simp) (by simp) (by simp) (fun _=>Y0 h5))] fun _=>?_
    replace H:=sI H;subst H
    exact J1 [(2,.d)] [(2000000000,[])] [] [] [] (by kernel_rfl)
   .refine wP ?_
    refine O0 H (fun H=>?_) fun H=>?_
    .obtain⟨y6,h6,H⟩:=bB H
     refine wG [.u 24 (.cw Z0 [2000000000] [] [(U0 .rd y2.2).cells] [] [.ptr 0 0,iV 2] _ _ _ _ _ (GEs.of [true,false] (by simp)) (by simp) (by simp) (by simp) (fun _=>Y0 h6))] fun _=>?_
     replace H:=sI H;subst H
     exact J1 [(2,.d)] [(2000000000,[])] [] [] [] (by kernel_rfl)
    .refine wP ?_
     refine O0 H (fun H=>?_) fun H=>?_
     .obtain⟨y7,h7,H⟩:=bB H
      refine wG [.u 29 (.cw Z0 [2000000000] [] [(U0 .rd y2.2).cells] [] [.ptr 0 0,iV 2] _ _ _ _ _ (GEs.of [true,false] (by simp)) (by simp) (by simp) (by simp) (fun _=>Y0 h7))] fun _=>?_
      replace H:=sI H;subst H
      exact J1 [(2,.d)] [(2000000000,[])] [] [] [] (by kernel_rfl)
     .obtain⟨y8,h8,H⟩:=bB H
      refine wG [.u 32 (.cw Z0 [2000000000] [] [(U0 .rd y2.2).cells] [] [.ptr 0 0,iV 2000000] _ _ _ _ _ (GEs.of [true,false] (by simp)) (by simp) (by simp) (by simp) (fun _=>Y0 h8))] fun _=>?_
      replace H:=sI H;subst H
      exact J1 [(2,.d)] [(2000000000,[])] [] [] [] (by kernel_rfl)
def W0s:L :=
sR [.al 2 [.int .i64 0,.int .i64 0,.int .i64 0]]
 (sR [mV 4 0,.cm 5 Z0 [4,(kI 9)],mV 6 0,.cm 7 Z0 [6,(kI 17)],mV 8 0,.cm 9 Z0 [8,(kI 3)],.bd 10 [.int .i64 0,.int .i64 0,.int .i64 0] [(0,1,5),(1,1,7),(2,1,9)],.al 3 [.int .i64 0,.int .i64 0,.int .i64 0],.st 3 10 3]
 (.seq (sR [mV 11 0,.cm 12 Z0 [11,(kI 14)],.bi 13 .eql 12 (kI 0)]
 (.cond 13 (.reg [mV 14 0,.cm 15 Z0 [14,(kI 2)],.bi 16 .sub (kI 1000000) 15,fA 17 3 1,.st 17 16 1])
 .skip))
 (.gw (sR [lT 18 3 3,.st 2 18 3]
 gR))))
def X0r:List Rv:=[.c 2 3 true]
theorem Z0v:Yx Tryz.prog MI 1 W0s X0r=true:=by kernel_rfl
def Lh(y2 y4:Int×l01Cur)(v7:l01Cur×Int):Option (Vec×l01Cur) :=
 some ((Vec.mk y2.1 v7.2 y4.1),v7.1)
def Mu(c1:l01Cur):Option (Vec×l01Cur) :=
 (X0 c1 9).bind fun y2=>(X0 y2.2 17).bind fun y3=>(X0 y3.2 3).bind fun y4=>(X0 y4.2 14).bind fun y5=>bif (y5.1==0)then((X0 y5.2 2).bind fun y6=>(Lh y2 y4) (y6.2,(w64 (1000000-y6.1))))else((Lh y2 y4) (y5.2,y3.1))
set_option maxRecDepth 20000 in
theorem L0p{c1:l01Cur}{r:Vec×l01Cur}(H:Mu c1=some r):ConD Tryz.prog MI [.ptr 0 0] [(U0 .rd c1).cells] [] (eVec r.1) [(U0 .rd r.2).cells] [] []:=by
 refine Q06 [] Z0v rfl (by kernel_rfl) ?_
 unfold Mu at H
 obtain⟨y2,h2,H⟩:=bB H
 obtain⟨y3,h3,H⟩:=bB H
 obtain⟨y4,h4,H⟩:=bB H
 obtain⟨y5,h5,H⟩:=bB H
 refine wG [.u 5 (.cw Z0 [2000000000] [] [(U0 .rd c1).cells] [] [.ptr 0 0,iV 9] _ _ _ _ _ (GEs.of [true,false] (by simp)) (by simp) (by simp) (by simp) (fun _=>Y0 h2)),.u 7 (.cw Z0 [2000000000] [] [(U0 .rd y2.2).cells] [] [.ptr 0 0,iV 17] _ _ _ _ _ (GEs.of [true,false] (by simp)) (by simp) (by simp) (by simp) (fun _=>Y0 h3)),.u 9 (.cw Z0 [2000000000] [] [(U0 .rd y3.2).cells] [] [.ptr 0 0,iV 3] _ _ _ _ _ (GEs.of [true,false] (by simp)) (by simp) (by simp) (by simp) (fun _=>Y0 h4)),.u 12 (.cw Z0 [2000000000] [] [(U0 .rd y4.2).cells] [] [.ptr 0 0,iV 14] _ _ _ _ _ (GEs.of [true,false] (by simp)) (by simp) (by simp) (by simp) (fun _=>Y0 h5))] fun _=>?_
 refine Z6 (r:=r) (Lh y2 y4) 0 (fun v7:l01Cur×Int=>⟨[(2,.ptr 2 0),(3,.ptr 3 0)],[],[(2000000000,(U0 .rd v7.1).cells),(2,(eVec (Vec.mk 0 0 0)).cells),(3,(eVec (Vec.mk y2.1 v7.2 y4.1)).cells)],[]⟩) (by kernel_rfl) (fun v7 H=>?_) (fun J9=>?_)
 .unfold Lh at H
  refine wP ?_
  replace H:=sI H;subst H
  exact J1 [(2,.d)] [(2,[]),(2000000000,[])] [] [] [] (by kernel_rfl)
 .refine O0 H (fun H=>?_) fun H=>?_
  .obtain⟨y6,h6,H⟩:=bB H
   refine wG [.u 15 (.cw Z0 [2000000000] [] [(U0 .rd y5.2).cells] [] [.ptr 0 0,iV 2] _ _ _ _ _ (GEs.of [true,false] (by simp)) (by simp) (by simp) (by simp) (fun _=>Y0 h6))] fun _=>?_
   exact wT (J9 _ H)
  .refine wP ?_
   exact wT (J9 _ H)
def M0s:L :=
sR [.al 2 [.int .i64 0,.int .i64 0,.int .i64 0]]
 (sR [mV 5 0,.cm 6 MI [5],.al 3 [.int .i64 0,.int .i64 0,.int .i64 0],.st 3 6 3]
 (sR [mV 7 0,.cm 8 Z0 [7,(kI 12)],mV 4 8]
 (.seq (sR [mV 9 4,.bi 10 .eql 9 (kI 0)]
 (.cond 10 (.reg [mV 11 0,.cm 12 U2 [11],fA 13 3 0,.st 13 12 1])
 .skip))
 (.gw (.seq (sR [mV 14 4,.bi 15 .eql 14 (kI 1)]
 (.cond 15 (.reg [mV 16 0,.cm 17 U2 [16],fA 18 3 1,.st 18 17 1])
 .skip))
 (.gw (.seq (sR [mV 19 4,.bi 20 .eql 19 (kI 2)]
 (.cond 20 (.reg [mV 21 0,.cm 22 U2 [21],fA 23 3 2,.st 23 22 1])
 .skip))
 (.gw (sR [lT 24 3 3,.st 2 24 3]
 gR)))))))))
def U0r:List Rv:=[.c 2 3 true]
theorem X0v:Yx Tryz.prog On 1 M0s U0r=true:=by kernel_rfl
def Yf(v5 v7 v9:l01Cur×Int):Option (Vec×l01Cur) :=
 some ((Vec.mk v5.2 v7.2 v9.2),v9.1)
def Lb(y2:Vec×l01Cur)(y3:Int×l01Cur)(v5 v7:l01Cur×Int):Option (Vec×l01Cur) :=
 bif (y3.1==2)then((J3 v7.1).bind fun y8=>(Yf v5 v7) (y8.2,y8.1))else((Yf v5 v7) (v7.1,y2.1.c))
def Mb(y2:Vec×l01Cur)(y3:Int×l01Cur)(v5:l01Cur×Int):Option (Vec×l01Cur) :=
 bif (y3.1==1)then((J3 v5.1).bind fun y6=>(Lb y2 y3 v5) (y6.2,y6.1))else((Lb y2 y3 v5) (v5.1,y2.1.b))
def Uh(c1:l01Cur):Option (Vec×l01Cur) :=
 (Mu c1).bind fun y2=>(X0 y2.2 12).bind fun y3=>bif (y3.1==0)then((J3 y3.2).bind fun y4=>(Mb y2 y3) (y4.2,y4.1))else((Mb y2 y3) (y3.2,y2.1.a))
set_option maxRecDepth 20000 in
theorem LZ{c1:l01Cur}{r:Vec×l01Cur}(H:Uh c1=some r):ConD Tryz.prog On [.ptr 0 0] [(U0 .rd c1).cells] [] (eVec r.1) [(U0 .rd r.2).cells] [] []:=by
 refine Q06 [] X0v rfl (by kernel_rfl) ?_
 unfold Uh at H
 obtain⟨y2,h2,H⟩:=bB H
 obtain⟨y3,h3,H⟩:=bB H
 refine wG [.u 6 (.cw MI [2000000000] [] [(U0 .rd c1).cells] [] [.ptr 0 0] _ _ _ _ _ (GEs.of [true] (by simp)) (by simp) (by simp) (by simp) (fun _=>L0p h2)),.u 8 (.cw Z0 [2000000000] [] [(U0 .rd y2.2).cells] [] [.ptr 0 0,iV 12] _ _ _ _ _ (GEs.of [true,false] (by simp)) (by simp) (by simp) (by simp) (fun _=>Y0 h3))] fun _=>?_
 refine Z6 (r:=r) (Mb y2 y3) 0 (fun v5:l01Cur×Int=>⟨[(0,.ptr 2000000000 0),(2,.ptr 2 0),(3,.ptr 3 0),(4,.int .i64 y3.1)],[],[(2000000000,(U0 .rd v5.1).cells),(2,(eVec (Vec.mk 0 0 0)).cells),(3,(eVec (Vec.mk v5.2 y2.1.b y2.1.c)).cells)],[]⟩) (by kernel_rfl) (fun v5 H=>?_) (fun J22=>?_)
 .unfold Mb at H
  refine wP ?_
  refine Z6 (r:=r) (Lb y2 y3 v5) 0 (fun v7:l01Cur×Int=>⟨[(0,.ptr 2000000000 0),(2,.ptr 2 0),(3,.ptr 3 0),(4,.int .i64 y3.1)],[],[(2000000000,(U0 .rd v7.1).cells),(2,(eVec (Vec.mk 0 0 0)).cells),(3,(eVec (Vec.mk v5.2 v7.2 y2.1.c)).cells)],[]⟩) (by kernel_rfl) (fun v7 H=>?_) (fun J21=>?_)
  .unfold Lb at H
   refine wP ?_
   refine Z6 (r:=r) (Yf v5 v7) 0 (fun v9:l01Cur×Int=>⟨[(2,.ptr 2 0),(3,.ptr 3 0)],[],[(2000000000,(U0 .rd v9.1).cells),(2,(eVec (Vec.mk 0 0 0)).cells),(3,(eVec (Vec.mk v5.2 v7.2 v9.2)).cells)],[]⟩) (by kernel_rfl) (fun v9 H=>?_) (fun J20=>?_)
   .unfold Yf at H
    refine wP ?_
    replace H:=sI H;subst H
    exact J1 [(2,.d)] [(2,[]),(2000000000,[])] [] [] [] (by kernel_rfl)
   .refine O0 H (fun H=>?_) fun H=>?_
    .obtain⟨y8,h8,H⟩:=bB H
     refine wG [.u 22 (.cw U2 [2000000000] [] [(U0 .rd v7.1).cells] [] [.ptr 0 0] _ _ _ _ _ (GEs.of [true] (by simp)) (by simp) (by simp) (by simp) (fun _=>L5 h8))] fun _=>?_
     exact wT (J20 _ H)
    .refine wP ?_
     exact wT (J20 _ H)
  .refine O0 H (fun H=>?_) fun H=>?_
   .obtain⟨y6,h6,H⟩:=bB H
    refine wG [.u 17 (.cw U2 [2000000000] [] [(U0 .rd v5.1).cells] [] [.ptr 0 0] _ _ _ _ _ (GEs.of [true] (by simp)) (by simp) (by simp) (by simp) (fun _=>L5 h6))] fun _=>?_
    exact wT (J21 _ H)
   .refine wP ?_
    exact wT (J21 _ H)
 .refine O0 H (fun H=>?_) fun H=>?_
  .obtain⟨y4,h4,H⟩:=bB H
   refine wG [.u 12 (.cw U2 [2000000000] [] [(U0 .rd y3.2).cells] [] [.ptr 0 0] _ _ _ _ _ (GEs.of [true] (by simp)) (by simp) (by simp) (by simp) (fun _=>L5 h4))] fun _=>?_
   exact wT (J22 _ H)
  .refine wP ?_
   exact wT (J22 _ H)
def Y0l:L :=
sR [.bx 3 1,.mv 4 (.c (.nl))]
 (sR [.bs 7 1 [] true,mV 5 7]
 (.seq (sR [mV 8 0,.cm 9 Z0 [8,(kI 5)],mV 6 9]
 (.blk 0 (.loop (.gw (.seq (sR [mV 10 6,.bi 11 .gtr 10 (kI 0)]
 (.cond 11 .skip
 (.exit 0)))
 (.seq (.blk 1 (.reg [mV 14 5,mV 15 0,fA 16 3 1,lF 17 16 1,.ln 18 17,.cm 19 Z0 [15,18],.bs 20 1 [19] false,.ap 21 14 20 1 8,mV 5 21]))
 (.reg [mV 12 6,.bi 13 .sub 12 (kI 1),mV 6 13])))))))
 (.seq (sR [mV 22 0,.cm 23 Z0 [22,(kI 10)],.bi 24 .eql 23 (kI 0)]
 (.cond 24 (.reg [mV 25 5,mV 26 0,.cm 27 U2 [26],.bs 28 1 [27] false,.ap 29 25 28 1 8,mV 5 29])
 .skip))
 (.gw (sR [mV 30 5,mV 4 30]
 gR)))))
def Y0k:List Rv:=[.t 4]
theorem J0m:Yx Tryz.prog VC 2 Y0l Y0k=true:=by kernel_rfl
def Yj(v11:l01Cur×(List Int)):Option ((List Int)×l01Cur) :=
 some (v11.2,v11.1)
def Zu(t2:Topo)(v4:l01Cur×Int×(List Int))(k4:(l01Cur×Int×(List Int))->Option ((List Int)×l01Cur)):Option ((List Int)×l01Cur) :=
 bif (decide (0<v4.2.1))then((X0 v4.1 (t2.nodes.length:Int)).bind fun y5=>(appL 8 v4.2.2 [y5.1]).bind fun xs6=>k4 (y5.2,(w64 (v4.2.1-1)),xs6))else((X0 v4.1 10).bind fun y8=>bif (y8.1==0)then((J3 y8.2).bind fun y9=>(appL 8 v4.2.2 [y9.1]).bind fun xs10=>Yj (y9.2,xs10))else(Yj (y8.2,v4.2.2)))
def Uo(c1:l01Cur)(t2:Topo):Option ((List Int)×l01Cur) :=
 (X0 c1 5).bind fun y3=>whl (Zu t2) 9223372036854775807 (y3.2,y3.1,[])
set_option maxRecDepth 20000 in
theorem W0j{c1:l01Cur}{t2:Topo}{r:(List Int)×l01Cur}(H:Uo c1 t2=some r):ConD Tryz.prog VC [.ptr 0 0,W4 .rd t2] [(U0 .rd c1).cells] [] (nV 1 (r.1.map eI)) [(U0 .rd r.2).cells] [] []:=by
 refine Q06 [] J0m rfl (by kernel_rfl) ?_
 unfold Uo at H
 obtain⟨y3,h3,H⟩:=bB H
 refine wG [.u 9 (.cw Z0 [2000000000] [] [(U0 .rd c1).cells] [] [.ptr 0 0,iV 5] _ _ _ _ _ (GEs.of [true,false] (by simp)) (by simp) (by simp) (by simp) (fun _=>Y0 h3))] fun _=>?_
 refine wW (fun(v4:l01Cur×Int×(List Int))=>⟨[(0,.ptr 2000000000 0),(3,.ptr 3 0),(5,.sref 7),(6,iV v4.2.1)],[],[(2000000000,(U0 .rd v4.1).cells),(3,(W4 .rd t2).cells)],[(7,⟨1,v4.2.2.map eI,false⟩)]⟩) H (fun v4 I m k4 H N13=>?_)
 unfold Zu at H
 refine wP ?_
 refine O0 H (fun H=>?_) fun H=>?_
 .obtain⟨y5,h5,H⟩:=bB H
  obtain⟨xs6,h6,H⟩:=bB H
  refine wG [.u 18 (.ln _ _ fun _=>lm t2.nodes V1),.u 19 (.cw Z0 [2000000000] [] [(U0 .rd v4.1).cells] [] [.ptr 0 0,iV (t2.nodes.length:Int)] _ _ _ _ _ (GEs.of [true,false] (by simp)) (by simp) (by simp) (by simp) (fun _=>Y0 h5)),.u 21 (.ap _ _ _ _ fun _=>L0 eI h6)] fun q7=>?_
  exact wT (N13 _ H)
 .obtain⟨y8,h8,H⟩:=bB H
  refine wG [.u 23 (.cw Z0 [2000000000] [] [(U0 .rd v4.1).cells] [] [.ptr 0 0,iV 10] _ _ _ _ _ (GEs.of [true,false] (by simp)) (by simp) (by simp) (by simp) (fun _=>Y0 h8))] fun _=>?_
  refine Z6 (r:=r) Yj 0 (fun v11:l01Cur×(List Int)=>⟨[(5,.sref 7)],[],[(2000000000,(U0 .rd v11.1).cells)],[(7,⟨1,v11.2.map eI,false⟩)]⟩) (by kernel_rfl) (fun v11 H=>?_) (fun J23=>?_)
  .unfold Yj at H
   refine wP ?_
   replace H:=sI H;subst H
   exact J1 [(4,.f)] [(2000000000,[])] [] [7] [] (by kernel_rfl)
  .refine O0 H (fun H=>?_) fun H=>?_
   .obtain⟨y9,h9,H⟩:=bB H
    obtain⟨xs10,h10,H⟩:=bB H
    refine wG [.u 27 (.cw U2 [2000000000] [] [(U0 .rd y8.2).cells] [] [.ptr 0 0] _ _ _ _ _ (GEs.of [true] (by simp)) (by simp) (by simp) (by simp) (fun _=>L5 h9)),.u 29 (.ap _ _ _ _ fun _=>L0 eI h10)] fun _=>?_
    exact wT (J23 _ H)
   .refine wP ?_
    exact wT (J23 _ H)
def Q0s:L :=
sR [.al 2 [.nl,.nl]]
 (sR [mV 5 0,.cm 6 Li [5],.al 3 [.nl,.nl],.st 3 6 2]
 (sR [mV 7 0,.cm 8 Z0 [7,(kI 14)],mV 4 8]
 (.seq (sR [mV 9 4,.bi 10 .eql 9 (kI 0)]
 (.cond 10 (.rz [] [(0,false,fA 11 3 0),
 (1,false,lF 12 11 1),
 (2,false,mV 13 0),
 (3,false,fA 14 3 0),
 (4,false,lF 15 14 1),
 (5,false,.lq 16 15),
 (7,false,mV 18 0),
 (6,true,.cm 17 Z0 [13,16]),
 (8,true,.cm 19 U2 [18])]
 [iA 20 12 17 1,.st 20 19 1])
 .skip))
 (.gw (.seq (sR [mV 21 4,.bi 22 .eql 21 (kI 1),mV 23 22,gT 23 (fA 24 3 1),gT 23 (lF 25 24 1),gT 23 (.ln 26 25),gT 23 (.bi 27 .gtr 26 (kI 0)),.pk 28 23 27 (cB false)]
 (.cond 28 (.rz [] [(0,false,fA 29 3 1),
 (1,false,lF 30 29 1),
 (2,false,mV 31 0),
 (3,true,.cm 32 U2 [31])]
 [.ia 33 30 (kI 0) 4,fA 34 33 0,.st 34 32 1])
 .skip))
 (.gw (.seq (sR [mV 35 4,.bi 36 .eql 35 (kI 2),mV 37 36,gT 37 (fA 38 3 1),gT 37 (lF 39 38 1),gT 37 (.ln 40 39),gT 37 (.bi 41 .gtr 40 (kI 0)),.pk 42 37 41 (cB false)]
 (.cond 42 (.rz [] [(0,false,fA 43 3 1),
 (1,false,lF 44 43 1),
 (2,false,mV 45 0),
 (3,true,.cm 46 On [45])]
 [.ia 47 44 (kI 0) 4,fA 48 47 1,.st 48 46 3])
 .skip))
 (.gw (.seq (sR [mV 49 4,.bi 50 .eql 49 (kI 3)]
 (.cond 50 (.rz [] [(0,false,fA 51 3 0),
 (1,false,lF 52 51 1),
 (2,false,mV 53 0),
 (3,false,fA 54 3 0),
 (4,false,lF 55 54 1),
 (5,false,.lq 56 55),
 (6,true,.cm 57 Z0 [53,56]),
 (7,false,.bs 58 1 [57] false)]
 [.ap 59 52 58 1 8,fA 60 3 0,.st 60 59 1])
 .skip))
 (.gw (.seq (sR [mV 61 4,.bi 62 .eql 61 (kI 4)]
 (.cond 62 (.reg [fA 63 3 0,.st 63 (.c (.nl)) 1])
 .skip))
 (.gw (sR [lT 64 3 2,.st 2 64 2]
 gR)))))))))))))
def Y0r:List Rv:=[.c 2 2 true]
theorem J0u:Yx Tryz.prog OI 1 Q0s Y0r=true:=by kernel_rfl
def Le(v14:l01Cur×(List Node))(v18:l01Cur×(List Int))(v19:(List Int)):Option (Topo×l01Cur) :=
 some ((Topo.mk v19 v14.2),v18.1)
def Ob(y3:Int×l01Cur)(v14:l01Cur×(List Node))(v18:l01Cur×(List Int)):Option (Topo×l01Cur) :=
 bif (y3.1==4)then((Le v14 v18) [])else((Le v14 v18) v18.2)
def Wb(y3:Int×l01Cur)(v8:l01Cur×(List Int))(v14:l01Cur×(List Node)):Option (Topo×l01Cur) :=
 bif (y3.1==3)then((lenQ v8.2).bind fun _=>(X0 v14.1 (v8.2.length:Int)).bind fun y16=>(appL 8 v8.2 [y16.1]).bind fun xs17=>(Ob y3 v14) (y16.2,xs17))else((Ob y3 v14) (v14.1,v8.2))
def Qb(y3:Int×l01Cur)(v8:l01Cur×(List Int))(v11:l01Cur×(List Node)):Option (Topo×l01Cur) :=
 bif ((y3.1==2)&&(decide (0<(v11.2.length:Int))))then((Uh v11.1).bind fun y12=>(idx v11.2 0).bind fun e13=>(Wb y3 v8) (y12.2,(v11.2.set (0:Int).toNat (Node.mk e13.leaf y12.1))))else((Wb y3 v8) (v11.1,v11.2))
def Ub(y2:Topo×l01Cur)(y3:Int×l01Cur)(v8:l01Cur×(List Int)):Option (Topo×l01Cur) :=
 bif ((y3.1==1)&&(decide (0<(y2.1.nodes.length:Int))))then((J3 v8.1).bind fun y9=>(idx y2.1.nodes 0).bind fun e10=>(Qb y3 v8) (y9.2,(y2.1.nodes.set (0:Int).toNat (Node.mk y9.1 e10.cap))))else((Qb y3 v8) (v8.1,y2.1.nodes))
def Ou(c1:l01Cur):Option (Topo×l01Cur) :=
 (Ui c1).bind fun y2=>(X0 y2.2 14).bind fun y3=>bif (y3.1==0)then((lenQ y2.1.parents).bind fun _=>(X0 y3.2 (y2.1.parents.length:Int)).bind fun y5=>(J3 y5.2).bind fun y6=>(idx y2.1.parents y5.1).bind fun _=>(Ub y2 y3) (y6.2,(y2.1.parents.set y5.1.toNat y6.1)))else((Ub y2 y3) (y3.2,y2.1.parents))
set_option maxRecDepth 20000 in
theorem M0p{c1:l01Cur}{r:Topo×l01Cur}(H:Ou c1=some r):ConD Tryz.prog OI [.ptr 0 0] [(U0 .rd c1).cells] [] (.agg [.sref 0,.sref 1]) [(U0 .rd r.2).cells] [] [(1,r.1.parents.map eI),(4,r.1.nodes.map V1)]:=by
 refine Q06 [] J0u rfl (by kernel_rfl) ?_
 unfold Ou at H
 obtain⟨y2,h2,H⟩:=bB H
 obtain⟨y3,h3,H⟩:=bB H
 refine wG [.u 6 (.cw Li [2000000000] [] [(U0 .rd c1).cells] [] [.ptr 0 0] _ _ _ _ _ (GEs.of [true] (by simp)) (by simp) (by simp) (by simp) (fun _=>OT h2)),.u 8 (.cw Z0 [2000000000] [] [(U0 .rd y2.2).cells] [] [.ptr 0 0,iV 14] _ _ _ _ _ (GEs.of [true,false] (by simp)) (by simp) (by simp) (by simp) (fun _=>Y0 h3))] fun _=>?_
 refine Z6 (r:=r) (Ub y2 y3) 0 (fun v8:l01Cur×(List Int)=>⟨[(0,.ptr 2000000000 0),(2,.ptr 2 0),(3,.ptr 3 0),(4,.int .i64 y3.1)],[],[(2000000000,(U0 .rd v8.1).cells),(2,[.nl,.nl]),(3,[.sref 7000,.sref 7001])],[(7000,⟨1,v8.2.map eI,false⟩),(7001,⟨4,y2.1.nodes.map V1,false⟩)]⟩) (by kernel_rfl) (fun v8 H=>?_) (fun J34=>?_)
 .unfold Ub at H
  refine wG [.g 26 [((y3.1==1),true)] (.ln _ _ fun _=>lm y2.1.nodes V1)] fun _=>?_
  refine Z6 (r:=r) (Qb y3 v8) 0 (fun v11:l01Cur×(List Node)=>⟨[(0,.ptr 2000000000 0),(2,.ptr 2 0),(3,.ptr 3 0),(4,.int .i64 y3.1)],[],[(2000000000,(U0 .rd v11.1).cells),(2,[.nl,.nl]),(3,[.sref 7000,.sref 7001])],[(7000,⟨1,v8.2.map eI,false⟩),(7001,⟨4,v11.2.map V1,false⟩)]⟩) (by kernel_rfl) (fun v11 H=>?_) (fun J33=>?_)
  .unfold Qb at H
   refine wG [.g 40 [((y3.1==2),true)] (.ln _ _ fun _=>lm v11.2 V1)] fun _=>?_
   refine Z6 (r:=r) (Wb y3 v8) 0 (fun v14:l01Cur×(List Node)=>⟨[(0,.ptr 2000000000 0),(2,.ptr 2 0),(3,.ptr 3 0),(4,.int .i64 y3.1)],[],[(2000000000,(U0 .rd v14.1).cells),(2,[.nl,.nl]),(3,[.sref 7000,.sref 7001])],[(7000,⟨1,v8.2.map eI,false⟩),(7001,⟨4,v14.2.map V1,false⟩)]⟩) (by kernel_rfl) (fun v14 H=>?_) (fun J32=>?_)
   .unfold Wb at H
    refine wP ?_
    refine Z6 (r:=r) (Ob y3 v14) 0 (fun v18:l01Cur×(List Int)=>⟨[(2,.ptr 2 0),(3,.ptr 3 0),(4,.int .i64 y3.1)],[],[(2000000000,(U0 .rd v18.1).cells),(2,[.nl,.nl]),(3,[.sref 7000,.sref 7001])],[(7000,⟨1,v18.2.map eI,false⟩),(7001,⟨4,v14.2.map V1,false⟩)]⟩) (by kernel_rfl) (fun v18 H=>?_) (fun J31=>?_)
    .unfold Ob at H
     refine wP ?_
     refine Z6 (r:=r) (Le v14 v18) 0 (fun v19:(List Int)=>⟨[(2,.ptr 2 0),(3,.ptr 3 0)],[],[(2000000000,(U0 .rd v18.1).cells),(2,[.nl,.nl]),(3,[.sref 530000,.sref 7001])],[(530000,⟨1,v19.map eI,false⟩),(7001,⟨4,v14.2.map V1,false⟩)]⟩) (by kernel_rfl) (fun v19 H=>?_) (fun J30=>?_)
     .unfold Le at H
      refine wP ?_
      replace H:=sI H;subst H
      exact J1 [(2,.d)] [(2,[]),(2000000000,[])] [(530000,some 530000,0),(7001,some 7001,0)] [] [530000,7001] (by kernel_rfl)
     .refine O0 H (fun H=>?_) fun H=>?_
      .refine wP ?_
       exact Z0e (J30 _ H) [] [(3,[.z 530000,.d])] [(530000,(none,1))] [] (by kernel_rfl) (by kernel_rfl)
      .refine wP ?_
       exact Z0e (J30 _ H) [] [] [(530000,(some 7000,0))] [] (by kernel_rfl) (by kernel_rfl)
    .refine O0 H (fun H=>?_) fun H=>?_
     .obtain⟨u15,h15,H⟩:=bB H
      obtain⟨y16,h16,H⟩:=bB H
      obtain⟨xs17,h17,H⟩:=bB H
      refine wG [.u 56 (.le _ _ (fun _=>lm v8.2 eI) (fun _=>LV h15)),.u 57 (.cz Z0 [2000000000] [(U0 .rd v14.1).cells] [.ptr 0 0,iV (v8.2.length:Int)] _ _ _ (by simp) (by simp) (fun _=>by simp) (fun _=>Y0 h16)),.u 59 (.ap _ _ _ _ fun _=>L0 eI h17)] fun _=>?_
      exact wT (J31 _ H)
     .refine wP ?_
      exact wT (J31 _ H)
   .refine O0 H (fun H=>?_) fun H=>?_
    .obtain⟨y12,h12,H⟩:=bB H
     obtain⟨e13,h13,H⟩:=bB H
     refine wG [.u 46 (.cz On [2000000000] [(U0 .rd v11.1).cells] [.ptr 0 0] _ _ _ (by simp) (by simp) (fun _=>by simp) (fun _=>LZ h12)),.u 47 (.ix _ _ _ fun _=>Q0 V1 h13),.u 1000000 (.sto _ _ _ (V1 (Node.mk e13.leaf y12.1)) _ (fun _=>gm V1 (Y5 h13)) (fun _=>Xz ..))] fun _=>?_
     exact wT (J32 _ H)
    .refine wP ?_
     exact wT (J32 _ H)
  .refine O0 H (fun H=>?_) fun H=>?_
   .obtain⟨y9,h9,H⟩:=bB H
    obtain⟨e10,h10,H⟩:=bB H
    refine wG [.u 32 (.cz U2 [2000000000] [(U0 .rd v8.1).cells] [.ptr 0 0] _ _ _ (by simp) (by simp) (fun _=>by simp) (fun _=>L5 h9)),.u 33 (.ix _ _ _ fun _=>Q0 V1 h10),.u 1000000 (.sto _ _ _ (V1 (Node.mk y9.1 e10.cap)) _ (fun _=>gm V1 (Y5 h10)) (fun _=>Xz ..))] fun _=>?_
    exact wT (J33 _ H)
   .refine wP ?_
    exact wT (J33 _ H)
 .refine O0 H (fun H=>?_) fun H=>?_
  .obtain⟨u4,h4,H⟩:=bB H
   obtain⟨y5,h5,H⟩:=bB H
   obtain⟨y6,h6,H⟩:=bB H
   obtain⟨e7,h7,H⟩:=bB H
   refine wG [.u 16 (.le _ _ (fun _=>lm y2.1.parents eI) (fun _=>LV h4)),.u 17 (.cz Z0 [2000000000] [(U0 .rd y3.2).cells] [.ptr 0 0,iV (y2.1.parents.length:Int)] _ _ _ (by simp) (by simp) (fun _=>by simp) (fun _=>Y0 h5)),.u 19 (.cz U2 [2000000000] [(U0 .rd y5.2).cells] [.ptr 0 0] _ _ _ (by simp) (by simp) (fun _=>by simp) (fun _=>L5 h6)),.u 20 (.ix _ _ _ fun _=>Q0 eI h7),.u 1000000 (.sto _ _ _ (eI y6.1) _ (fun _=>gm eI (Y5 h7)) (fun _=>Xz ..))] fun _=>?_
   exact wT (J34 _ H)
  .refine wP ?_
   exact wT (J34 _ H)
def J0r:L :=
sR [.al 2 [.nl,.nl,.nl,.int .i64 0,.int .i64 0,.int .i64 0,.int .i64 0,.int .i64 0,.nl,.nl,.nl]]
 (sR [mV 5 0,.cm 6 XC [5,(kI 14)],.al 3 [.nl,.nl,.nl,.int .i64 0,.int .i64 0,.int .i64 0,.int .i64 0,.int .i64 0,.nl,.nl,.nl],.st 3 6 11]
 (sR [mV 7 0,.cm 8 Z0 [7,(kI 20)],mV 4 8]
 (.seq (sR [mV 9 4,.bi 10 .eql 9 (kI 0)]
 (.cond 10 (.reg [mV 11 0,.cm 12 U2 [11],fA 13 3 7,.st 13 12 1])
 .skip))
 (.gw (.seq (sR [mV 14 4,.bi 15 .eql 14 (kI 1),mV 16 15,gT 16 (fA 17 3 2),gT 16 (lF 18 17 1),gT 16 (.ln 19 18),gT 16 (.bi 20 .gtr 19 (kI 0)),.pk 21 16 20 (cB false)]
 (.cond 21 (.rq 8 [fA 22 3 2,lF 23 22 1,fA 24 3 2,lF 25 24 1,.ia 26 25 (kI 0) 1,lF 27 26 1,.un 28 27,.ia 29 23 (kI 0) 1,.st 29 28 1])
 .skip))
 (.gw (.seq (sR [mV 30 4,.bi 31 .eql 30 (kI 2)]
 (.cond 31 (.reg [mV 32 0,.cm 33 On [32],fA 34 3 3,.st 34 33 3])
 .skip))
 (.gw (.seq (sR [mV 35 4,.bi 36 .eql 35 (kI 3),mV 37 36,gT 37 (fA 38 3 9),gT 37 (lF 39 38 1),gT 37 (.ln 40 39),gT 37 (.bi 41 .gtr 40 (kI 0)),.pk 42 37 41 (cB false)]
 (.cond 42 (.rz [] [(0,false,fA 43 3 9),
 (1,false,lF 44 43 1),
 (2,false,mV 45 0),
 (3,true,.cm 46 U2 [45])]
 [.ia 47 44 (kI 0) 13,fA 48 47 11,.st 48 46 1])
 .skip))
 (.gw (.seq (sR [mV 49 4,.bi 50 .eql 49 (kI 4),mV 51 50,gT 51 (fA 52 3 9),gT 51 (lF 53 52 1),gT 51 (.ln 54 53),gT 51 (.bi 55 .gtr 54 (kI 0)),.pk 56 51 55 (cB false)]
 (.cond 56 (.rq 8 [fA 57 3 8,lF 58 57 1,fA 59 3 9,lF 60 59 1,.ia 61 60 (kI 0) 13,fA 62 61 0,lT 63 62 11,.bs 64 11 [63] false,.ap 65 58 64 11 88,fA 66 3 8,.st 66 65 1])
 .skip))
 (.gw (.seq (sR [mV 67 4,.bi 68 .eql 67 (kI 5)]
 (.cond 68 (.rz [] [(0,false,fA 69 3 10),
 (1,false,lF 70 69 1),
 (2,false,mV 71 0),
 (4,false,mV 73 0),
 (6,false,mV 75 0),
 (3,true,.cm 72 Z0 [71,(kI 3)]),
 (5,true,.cm 74 Z0 [73,(kI 3)]),
 (7,true,.cm 76 Z0 [75,(kI 6)]),
 (8,false,.bd 77 [.int .i64 0,.int .i64 0,.int .i64 0] [(0,1,72),(1,1,74),(2,1,76)]),
 (9,false,.bs 78 3 [77] false)]
 [.ap 79 70 78 3 24,fA 80 3 10,.st 80 79 1])
 .skip))
 (.gw (.seq (sR [mV 81 4,.bi 82 .eql 81 (kI 6),mV 83 82,gT 83 (fA 84 3 9),gT 83 (lF 85 84 1),gT 83 (.ln 86 85),gT 83 (.bi 87 .gtr 86 (kI 0)),.pk 88 83 87 (cB false)]
 (.cond 88 (.rz [] [(0,false,fA 89 3 9),
 (1,false,lF 90 89 1),
 (2,false,mV 91 0),
 (3,false,fA 92 3 0),
 (4,false,lT 93 92 2),
 (5,true,.cm 94 VC [91,93])]
 [.ia 95 90 (kI 0) 13,fA 96 95 12,.st 96 94 1])
 .skip))
 (.gw (.seq (sR [mV 97 4,.bi 98 .eql 97 (kI 7),mV 99 98,gT 99 (fA 100 3 9),gT 99 (lF 101 100 1),gT 99 (.ln 102 101),gT 99 (.bi 103 .gtr 102 (kI 0)),.pk 104 99 103 (cB false)]
 (.cond 104 (.reg [fA 105 3 9,lF 106 105 1,.ia 107 106 (kI 0) 13,fA 108 107 0,fA 109 108 10,.st 109 (kI 0) 1])
 .skip))
 (.gw (.seq (sR [mV 110 4,.bi 111 .eql 110 (kI 8)]
 (.cond 111 (.reg [mV 112 0,.cm 113 U2 [112],fA 114 3 6,.st 114 113 1])
 .skip))
 (.gw (.seq (sR [mV 115 4,.bi 116 .eql 115 (kI 9)]
 (.cond 116 (.reg [mV 117 0,.cm 118 OI [117],fA 119 3 0,.st 119 118 2])
 .skip))
 (.gw (sR [lT 120 3 11,.st 2 120 11]
 gR)))))))))))))))))))))))
def J0q:List Rv:=[.c 2 11 true]
theorem M0u:Yx Tryz.prog Qn 1 J0r J0q=true:=by kernel_rfl
def Qe(v5:l01Cur×Int)(v7:(List Bool))(v9:l01Cur×Int×Int×Int)(v15:(List Job))(v20:l01Cur×(List End))(v25:(List Run))(v27:l01Cur×Int)(v29:l01Cur×(List Int)×(List Node)):Option (State×l01Cur) :=
 some ((State.mk (Topo.mk v29.2.1 v29.2.2) v7 (Vec.mk v9.2.1 v9.2.2.1 v9.2.2.2) v27.2 v5.2 v15 v25 v20.2),v29.1)
def Vb(y2:State×l01Cur)(y3:Int×l01Cur)(v5:l01Cur×Int)(v7:(List Bool))(v9:l01Cur×Int×Int×Int)(v15:(List Job))(v20:l01Cur×(List End))(v25:(List Run))(v27:l01Cur×Int):Option (State×l01Cur) :=
 bif (y3.1==9)then((Ou v27.1).bind fun y28=>(Qe v5 v7 v9 v15 v20 v25 v27) (y28.2,y28.1.parents,y28.1.nodes))else((Qe v5 v7 v9 v15 v20 v25 v27) (v27.1,y2.1.topo.parents,y2.1.topo.nodes))
def Xb(y2:State×l01Cur)(y3:Int×l01Cur)(v5:l01Cur×Int)(v7:(List Bool))(v9:l01Cur×Int×Int×Int)(v15:(List Job))(v20:l01Cur×(List End))(v23:l01Cur×(List Run))(v25:(List Run)):Option (State×l01Cur) :=
 bif (y3.1==8)then((J3 v23.1).bind fun y26=>(Vb y2 y3 v5 v7 v9 v15 v20 v25) (y26.2,y26.1))else((Vb y2 y3 v5 v7 v9 v15 v20 v25) (v23.1,y2.1.depth))
def Yb(y2:State×l01Cur)(y3:Int×l01Cur)(v5:l01Cur×Int)(v7:(List Bool))(v9:l01Cur×Int×Int×Int)(v15:(List Job))(v20:l01Cur×(List End))(v23:l01Cur×(List Run)):Option (State×l01Cur) :=
 bif ((y3.1==7)&&(decide (0<(v23.2.length:Int))))then((idx v23.2 0).bind fun e24=>(Xb y2 y3 v5 v7 v9 v15 v20 v23) (v23.2.set (0:Int).toNat (Run.mk (Job.mk e24.job.id e24.job.prio e24.job.nodes e24.job.need e24.job.lic e24.job.wall 0) e24.t e24.nodes)))else((Xb y2 y3 v5 v7 v9 v15 v20 v23) v23.2)
def Zb(y2:State×l01Cur)(y3:Int×l01Cur)(v5:l01Cur×Int)(v7:(List Bool))(v9:l01Cur×Int×Int×Int)(v12:l01Cur×(List Run))(v15:(List Job))(v20:l01Cur×(List End)):Option (State×l01Cur) :=
 bif ((y3.1==6)&&(decide (0<(v12.2.length:Int))))then((Uo v20.1 y2.1.topo).bind fun y21=>(idx v12.2 0).bind fun e22=>(Yb y2 y3 v5 v7 v9 v15 v20) (y21.2,(v12.2.set (0:Int).toNat (Run.mk e22.job e22.t y21.1))))else((Yb y2 y3 v5 v7 v9 v15 v20) (v20.1,v12.2))
def Ja(y2:State×l01Cur)(y3:Int×l01Cur)(v5:l01Cur×Int)(v7:(List Bool))(v9:l01Cur×Int×Int×Int)(v12:l01Cur×(List Run))(v15:(List Job)):Option (State×l01Cur) :=
 bif (y3.1==5)then((X0 v12.1 3).bind fun y16=>(X0 y16.2 3).bind fun y17=>(X0 y17.2 6).bind fun y18=>(appL 24 y2.1.ends [(End.mk y16.1 y17.1 y18.1)]).bind fun xs19=>(Zb y2 y3 v5 v7 v9 v12 v15) (y18.2,xs19))else((Zb y2 y3 v5 v7 v9 v12 v15) (v12.1,y2.1.ends))
def La(y2:State×l01Cur)(y3:Int×l01Cur)(v5:l01Cur×Int)(v7:(List Bool))(v9:l01Cur×Int×Int×Int)(v12:l01Cur×(List Run)):Option (State×l01Cur) :=
 bif ((y3.1==4)&&(decide (0<(v12.2.length:Int))))then((idx v12.2 0).bind fun e13=>(appL 88 y2.1.queue [e13.job]).bind fun xs14=>(Ja y2 y3 v5 v7 v9 v12) xs14)else((Ja y2 y3 v5 v7 v9 v12) y2.1.queue)
def Ma(y2:State×l01Cur)(y3:Int×l01Cur)(v5:l01Cur×Int)(v7:(List Bool))(v9:l01Cur×Int×Int×Int):Option (State×l01Cur) :=
 bif ((y3.1==3)&&(decide (0<(y2.1.runs.length:Int))))then((J3 v9.1).bind fun y10=>(idx y2.1.runs 0).bind fun e11=>(La y2 y3 v5 v7 v9) (y10.2,(y2.1.runs.set (0:Int).toNat (Run.mk e11.job y10.1 e11.nodes))))else((La y2 y3 v5 v7 v9) (v9.1,y2.1.runs))
def Oa(y2:State×l01Cur)(y3:Int×l01Cur)(v5:l01Cur×Int)(v7:(List Bool)):Option (State×l01Cur) :=
 bif (y3.1==2)then((Uh v5.1).bind fun y8=>(Ma y2 y3 v5 v7) (y8.2,y8.1.a,y8.1.b,y8.1.c))else((Ma y2 y3 v5 v7) (v5.1,y2.1.lic.a,y2.1.lic.b,y2.1.lic.c))
def Wa(y2:State×l01Cur)(y3:Int×l01Cur)(v5:l01Cur×Int):Option (State×l01Cur) :=
 bif ((y3.1==1)&&(decide (0<(y2.1.up.length:Int))))then((idx y2.1.up 0).bind fun e6=>(Oa y2 y3 v5) (y2.1.up.set (0:Int).toNat (!e6)))else((Oa y2 y3 v5) y2.1.up)
def Yh(c1:l01Cur):Option (State×l01Cur) :=
 (Yo c1 14).bind fun y2=>(X0 y2.2 20).bind fun y3=>bif (y3.1==0)then((J3 y3.2).bind fun y4=>(Wa y2 y3) (y4.2,y4.1))else((Wa y2 y3) (y3.2,y2.1.now))
set_option maxRecDepth 20000 in
theorem UZ{c1:l01Cur}{r:State×l01Cur}(H:Yh c1=some r):ConD Tryz.prog Qn [.ptr 0 0] [(U0 .rd c1).cells] [] (.agg [nV 1 (r.1.topo.parents.map eI),nV 4 (r.1.topo.nodes.map V1),.sref 0,iV r.1.lic.a,iV r.1.lic.b,iV r.1.lic.c,iV r.1.depth,iV r.1.now,.sref 1,.sref 2,.sref 3]) [(U0 .rd r.2).cells] [] [(1,r.1.up.map eBo),(11,r.1.queue.map eJob),(13,r.1.runs.map (Z1 .nw)),(3,r.1.ends.map eEnd)]:=by
 refine Q06 [] M0u rfl (by kernel_rfl) ?_
 unfold Yh at H
 obtain⟨y2,h2,H⟩:=bB H
 obtain⟨y3,h3,H⟩:=bB H
 refine wG [.u 6 (.cw XC [2000000000] [] [(U0 .rd c1).cells] [] [.ptr 0 0,iV 14] _ _ _ _ _ (GEs.of [true,false] (by simp)) (by simp) (by simp) (by simp) (fun _=>X0j h2)),.u 8 (.cw Z0 [2000000000] [] [(U0 .rd y2.2).cells] [] [.ptr 0 0,iV 20] _ _ _ _ _ (GEs.of [true,false] (by simp)) (by simp) (by simp) (by simp) (fun _=>Y0 h3))] fun _=>?_
 refine Z6 (r:=r) (Wa y2 y3) 0 (fun v5:l01Cur×Int=>⟨[(0,.ptr 2000000000 0),(2,.ptr 2 0),(3,.ptr 3 0),(4,.int .i64 y3.1)],[],[(2000000000,(U0 .rd v5.1).cells),(2,[.nl,.nl,.nl,.int .i64 0,.int .i64 0,.int .i64 0,.int .i64 0,.int .i64 0,.nl,.nl,.nl]),(3,[.sl .nw 1 (y2.1.topo.parents.map eI),.sl .nw 4 (y2.1.topo.nodes.map V1),.sref 7000,.int .i64 y2.1.lic.a,.int .i64 y2.1.lic.b,.int .i64 y2.1.lic.c,.int .i64 y2.1.depth,.int .i64 v5.2,.sref 7001,.sref 7002,.sref 7003])],[(7000,⟨1,y2.1.up.map eBo,false⟩),(7001,⟨11,y2.1.queue.map eJob,false⟩),(7002,⟨13,y2.1.runs.map (Z1 .nw),false⟩),(7003,⟨3,y2.1.ends.map eEnd,false⟩)]⟩) (by kernel_rfl) (fun v5 H=>?_) (fun J64=>?_)
 .unfold Wa at H
  refine wG [.g 19 [((y3.1==1),true)] (.ln _ _ fun _=>lm y2.1.up eBo)] fun _=>?_
  refine Z6 (r:=r) (Oa y2 y3 v5) 0 (fun v7:(List Bool)=>⟨[(0,.ptr 2000000000 0),(2,.ptr 2 0),(3,.ptr 3 0),(4,.int .i64 y3.1)],[],[(2000000000,(U0 .rd v5.1).cells),(2,[.nl,.nl,.nl,.int .i64 0,.int .i64 0,.int .i64 0,.int .i64 0,.int .i64 0,.nl,.nl,.nl]),(3,[.sl .nw 1 (y2.1.topo.parents.map eI),.sl .nw 4 (y2.1.topo.nodes.map V1),.sref 7000,.int .i64 y2.1.lic.a,.int .i64 y2.1.lic.b,.int .i64 y2.1.lic.c,.int .i64 y2.1.depth,.int .i64 v5.2,.sref 7001,.sref 7002,.sref 7003])],[(7000,⟨1,v7.map eBo,false⟩),(7001,⟨11,y2.1.queue.map eJob,false⟩),(7002,⟨13,y2.1.runs.map (Z1 .nw),false⟩),(7003,⟨3,y2.1.ends.map eEnd,false⟩)]⟩) (by kernel_rfl) (fun v7 H=>?_) (fun J63=>?_)
  .unfold Oa at H
   refine wP ?_
   refine Z6 (r:=r) (Ma y2 y3 v5 v7) 0 (fun v9:l01Cur×Int×Int×Int=>⟨[(0,.ptr 2000000000 0),(2,.ptr 2 0),(3,.ptr 3 0),(4,.int .i64 y3.1)],[],[(2000000000,(U0 .rd v9.1).cells),(2,[.nl,.nl,.nl,.int .i64 0,.int .i64 0,.int .i64 0,.int .i64 0,.int .i64 0,.nl,.nl,.nl]),(3,[.sl .nw 1 (y2.1.topo.parents.map eI),.sl .nw 4 (y2.1.topo.nodes.map V1),.sref 7000,.int .i64 v9.2.1,.int .i64 v9.2.2.1,.int .i64 v9.2.2.2,.int .i64 y2.1.depth,.int .i64 v5.2,.sref 7001,.sref 7002,.sref 7003])],[(7000,⟨1,v7.map eBo,false⟩),(7001,⟨11,y2.1.queue.map eJob,false⟩),(7002,⟨13,y2.1.runs.map (Z1 .nw),false⟩),(7003,⟨3,y2.1.ends.map eEnd,false⟩)]⟩) (by kernel_rfl) (fun v9 H=>?_) (fun J62=>?_)
   .unfold Ma at H
    refine wG [.g 40 [((y3.1==3),true)] (.ln _ _ fun _=>lm y2.1.runs (Z1 .nw))] fun _=>?_
    refine Z6 (r:=r) (La y2 y3 v5 v7 v9) 0 (fun v12:l01Cur×(List Run)=>⟨[(0,.ptr 2000000000 0),(2,.ptr 2 0),(3,.ptr 3 0),(4,.int .i64 y3.1)],[],[(2000000000,(U0 .rd v12.1).cells),(2,[.nl,.nl,.nl,.int .i64 0,.int .i64 0,.int .i64 0,.int .i64 0,.int .i64 0,.nl,.nl,.nl]),(3,[.sl .nw 1 (y2.1.topo.parents.map eI),.sl .nw 4 (y2.1.topo.nodes.map V1),.sref 7000,.int .i64 v9.2.1,.int .i64 v9.2.2.1,.int .i64 v9.2.2.2,.int .i64 y2.1.depth,.int .i64 v5.2,.sref 7001,.sref 7002,.sref 7003])],[(7000,⟨1,v7.map eBo,false⟩),(7001,⟨11,y2.1.queue.map eJob,false⟩),(7002,⟨13,v12.2.map (Z1 .nw),false⟩),(7003,⟨3,y2.1.ends.map eEnd,false⟩)]⟩) (by kernel_rfl) (fun v12 H=>?_) (fun J61=>?_)
    .unfold La at H
     refine wG [.g 54 [((y3.1==4),true)] (.ln _ _ fun _=>lm v12.2 (Z1 .nw))] fun _=>?_
     refine Z6 (r:=r) (Ja y2 y3 v5 v7 v9 v12) 0 (fun v15:(List Job)=>⟨[(0,.ptr 2000000000 0),(2,.ptr 2 0),(3,.ptr 3 0),(4,.int .i64 y3.1)],[],[(2000000000,(U0 .rd v12.1).cells),(2,[.nl,.nl,.nl,.int .i64 0,.int .i64 0,.int .i64 0,.int .i64 0,.int .i64 0,.nl,.nl,.nl]),(3,[.sl .nw 1 (y2.1.topo.parents.map eI),.sl .nw 4 (y2.1.topo.nodes.map V1),.sref 7000,.int .i64 v9.2.1,.int .i64 v9.2.2.1,.int .i64 v9.2.2.2,.int .i64 y2.1.depth,.int .i64 v5.2,.sref 7001,.sref 7002,.sref 7003])],[(7000,⟨1,v7.map eBo,false⟩),(7001,⟨11,v15.map eJob,false⟩),(7002,⟨13,v12.2.map (Z1 .nw),false⟩),(7003,⟨3,y2.1.ends.map eEnd,false⟩)]⟩) (by kernel_rfl) (fun v15 H=>?_) (fun J60=>?_)
     .unfold Ja at H
      refine wP ?_
      refine Z6 (r:=r) (Zb y2 y3 v5 v7 v9 v12 v15) 0 (fun v20:l01Cur×(List End)=>⟨[(0,.ptr 2000000000 0),(2,.ptr 2 0),(3,.ptr 3 0),(4,.int .i64 y3.1)],[],[(2000000000,(U0 .rd v20.1).cells),(2,[.nl,.nl,.nl,.int .i64 0,.int .i64 0,.int .i64 0,.int .i64 0,.int .i64 0,.nl,.nl,.nl]),(3,[.sl .nw 1 (y2.1.topo.parents.map eI),.sl .nw 4 (y2.1.topo.nodes.map V1),.sref 7000,.int .i64 v9.2.1,.int .i64 v9.2.2.1,.int .i64 v9.2.2.2,.int .i64 y2.1.depth,.int .i64 v5.2,.sref 7001,.sref 7002,.sref 7003])],[(7000,⟨1,v7.map eBo,false⟩),(7001,⟨11,v15.map eJob,false⟩),(7002,⟨13,v12.2.map (Z1 .nw),false⟩),(7003,⟨3,v20.2.map eEnd,false⟩)]⟩) (by kernel_rfl) (fun v20 H=>?_) (fun J59=>?_)
      .unfold Zb at H
       refine wG [.g 86 [((y3.1==6),true)] (.ln _ _ fun _=>lm v12.2 (Z1 .nw))] fun _=>?_
       refine Z6 (r:=r) (Yb y2 y3 v5 v7 v9 v15 v20) 0 (fun v23:l01Cur×(List Run)=>⟨[(0,.ptr 2000000000 0),(2,.ptr 2 0),(3,.ptr 3 0),(4,.int .i64 y3.1)],[],[(2000000000,(U0 .rd v23.1).cells),(2,[.nl,.nl,.nl,.int .i64 0,.int .i64 0,.int .i64 0,.int .i64 0,.int .i64 0,.nl,.nl,.nl]),(3,[.sl .nw 1 (y2.1.topo.parents.map eI),.sl .nw 4 (y2.1.topo.nodes.map V1),.sref 7000,.int .i64 v9.2.1,.int .i64 v9.2.2.1,.int .i64 v9.2.2.2,.int .i64 y2.1.depth,.int .i64 v5.2,.sref 7001,.sref 7002,.sref 7003])],[(7000,⟨1,v7.map eBo,false⟩),(7001,⟨11,v15.map eJob,false⟩),(7002,⟨13,v23.2.map (Z1 .nw),false⟩),(7003,⟨3,v20.2.map eEnd,false⟩)]⟩) (by kernel_rfl) (fun v23 H=>?_) (fun J58=>?_)
       .unfold Yb at H
        refine wG [.g 102 [((y3.1==7),true)] (.ln _ _ fun _=>lm v23.2 (Z1 .nw))] fun _=>?_
        refine Z6 (r:=r) (Xb y2 y3 v5 v7 v9 v15 v20 v23) 0 (fun v25:(List Run)=>⟨[(0,.ptr 2000000000 0),(2,.ptr 2 0),(3,.ptr 3 0),(4,.int .i64 y3.1)],[],[(2000000000,(U0 .rd v23.1).cells),(2,[.nl,.nl,.nl,.int .i64 0,.int .i64 0,.int .i64 0,.int .i64 0,.int .i64 0,.nl,.nl,.nl]),(3,[.sl .nw 1 (y2.1.topo.parents.map eI),.sl .nw 4 (y2.1.topo.nodes.map V1),.sref 7000,.int .i64 v9.2.1,.int .i64 v9.2.2.1,.int .i64 v9.2.2.2,.int .i64 y2.1.depth,.int .i64 v5.2,.sref 7001,.sref 7002,.sref 7003])],[(7000,⟨1,v7.map eBo,false⟩),(7001,⟨11,v15.map eJob,false⟩),(7002,⟨13,v25.map (Z1 .nw),false⟩),(7003,⟨3,v20.2.map eEnd,false⟩)]⟩) (by kernel_rfl) (fun v25 H=>?_) (fun J57=>?_)
        .unfold Xb at H
         refine wP ?_
         refine Z6 (r:=r) (Vb y2 y3 v5 v7 v9 v15 v20 v25) 0 (fun v27:l01Cur×Int=>⟨[(0,.ptr 2000000000 0),(2,.ptr 2 0),(3,.ptr 3 0),(4,.int .i64 y3.1)],[],[(2000000000,(U0 .rd v27.1).cells),(2,[.nl,.nl,.nl,.int .i64 0,.int .i64 0,.int .i64 0,.int .i64 0,.int .i64 0,.nl,.nl,.nl]),(3,[.sl .nw 1 (y2.1.topo.parents.map eI),.sl .nw 4 (y2.1.topo.nodes.map V1),.sref 7000,.int .i64 v9.2.1,.int .i64 v9.2.2.1,.int .i64 v9.2.2.2,.int .i64 v27.2,.int .i64 v5.2,.sref 7001,.sref 7002,.sref 7003])],[(7000,⟨1,v7.map eBo,false⟩),(7001,⟨11,v15.map eJob,false⟩),(7002,⟨13,v25.map (Z1 .nw),false⟩),(7003,⟨3,v20.2.map eEnd,false⟩)]⟩) (by kernel_rfl) (fun v27 H=>?_) (fun J56=>?_)
         .unfold Vb at H
          refine wP ?_
          refine Z6 (r:=r) (Qe v5 v7 v9 v15 v20 v25 v27) 0 (fun v29:l01Cur×(List Int)×(List Node)=>⟨[(2,.ptr 2 0),(3,.ptr 3 0)],[],[(2000000000,(U0 .rd v29.1).cells),(2,[.nl,.nl,.nl,.int .i64 0,.int .i64 0,.int .i64 0,.int .i64 0,.int .i64 0,.nl,.nl,.nl]),(3,[.sl .nw 1 (v29.2.1.map eI),.sl .nw 4 (v29.2.2.map V1),.sref 7000,.int .i64 v9.2.1,.int .i64 v9.2.2.1,.int .i64 v9.2.2.2,.int .i64 v27.2,.int .i64 v5.2,.sref 7001,.sref 7002,.sref 7003])],[(7000,⟨1,v7.map eBo,false⟩),(7001,⟨11,v15.map eJob,false⟩),(7002,⟨13,v25.map (Z1 .nw),false⟩),(7003,⟨3,v20.2.map eEnd,false⟩)]⟩) (by kernel_rfl) (fun v29 H=>?_) (fun J55=>?_)
          .unfold Qe at H
           refine wP ?_
           replace H:=sI H;subst H
           exact J1 [(2,.d)] [(2,[]),(2000000000,[])] [(7000,some 7000,0),(7001,some 7001,0),(7002,some 7002,0),(7003,some 7003,0)] [] [7000,7001,7002,7003] (by kernel_rfl)
          .refine O0 H (fun H=>?_) fun H=>?_
           .obtain⟨y28,h28,H⟩:=bB H
            refine wG [.u 118 (.cw OI [2000000000] [] [(U0 .rd v27.1).cells] [] [.ptr 0 0] _ _ _ _ _ (GEs.of [true] (by simp)) (by simp) (by simp) (by simp) (fun _=>M0p h28))] fun _=>?_
            exact Z0e (J55 _ H) [] [(3,[.f,.f,.d,.d,.d,.d,.d,.d,.d,.d,.d])] [] [119000,119001] (by kernel_rfl) (by kernel_rfl)
           .refine wP ?_
            exact wT (J55 _ H)
         .refine O0 H (fun H=>?_) fun H=>?_
          .obtain⟨y26,h26,H⟩:=bB H
           refine wG [.u 113 (.cw U2 [2000000000] [] [(U0 .rd v23.1).cells] [] [.ptr 0 0] _ _ _ _ _ (GEs.of [true] (by simp)) (by simp) (by simp) (by simp) (fun _=>L5 h26))] fun _=>?_
           exact wT (J56 _ H)
          .refine wP ?_
           exact wT (J56 _ H)
        .refine O0 H (fun H=>?_) fun H=>?_
         .obtain⟨e24,h24,H⟩:=bB H
          refine wG [.u 107 (.ix _ _ _ fun _=>Q0 (Z1 .nw) h24),.u 1000000 (.sto _ _ _ (Z1 .nw (Run.mk (Job.mk e24.job.id e24.job.prio e24.job.nodes e24.job.need e24.job.lic e24.job.wall 0) e24.t e24.nodes)) _ (fun _=>gm (Z1 .nw) (Y5 h24)) (fun _=>Xz ..))] fun _=>?_
          exact wT (J57 _ H)
         .refine wP ?_
          exact wT (J57 _ H)
       .refine O0 H (fun H=>?_) fun H=>?_
        .obtain⟨y21,h21,H⟩:=bB H
         obtain⟨e22,h22,H⟩:=bB H
         refine wG [.u 94 (.cz VC [2000000000] [(U0 .rd v20.1).cells] [.ptr 0 0,W4 .nw y2.1.topo] _ _ _ (by simp) (by simp) (fun _=>by simp) (fun _=>W0j h21)),.u 95 (.ix _ _ _ fun _=>Q0 (Z1 .nw) h22),.u 1000000 (.sto _ _ _ (Z1 .nw (Run.mk e22.job e22.t y21.1)) _ (fun _=>gm (Z1 .nw) (Y5 h22)) (fun _=>Xz ..))] fun _=>?_
         exact wT (J58 _ H)
        .refine wP ?_
         exact wT (J58 _ H)
      .refine O0 H (fun H=>?_) fun H=>?_
       .obtain⟨y16,h16,H⟩:=bB H
        obtain⟨y17,h17,H⟩:=bB H
        obtain⟨y18,h18,H⟩:=bB H
        obtain⟨xs19,h19,H⟩:=bB H
        refine wG [.u 72 (.cz Z0 [2000000000] [(U0 .rd v12.1).cells] [.ptr 0 0,iV 3] _ _ _ (by simp) (by simp) (fun _=>by simp) (fun _=>Y0 h16)),.u 74 (.cz Z0 [2000000000] [(U0 .rd y16.2).cells] [.ptr 0 0,iV 3] _ _ _ (by simp) (by simp) (fun _=>by simp) (fun _=>Y0 h17)),.u 76 (.cz Z0 [2000000000] [(U0 .rd y17.2).cells] [.ptr 0 0,iV 6] _ _ _ (by simp) (by simp) (fun _=>by simp) (fun _=>Y0 h18)),.u 79 (.ap _ _ _ _ fun _=>L0 eEnd h19)] fun _=>?_
        exact wT (J59 _ H)
       .refine wP ?_
        exact wT (J59 _ H)
     .refine O0 H (fun H=>?_) fun H=>?_
      .obtain⟨e13,h13,H⟩:=bB H
       obtain⟨xs14,h14,H⟩:=bB H
       refine wG [.u 61 (.ix _ _ _ fun _=>Q0 (Z1 .nw) h13),.u 63 (.el _ _ _ fun _=>gm (Z1 .nw) (Y5 h13)),.u 65 (.ap _ _ _ _ fun _=>L0 eJob h14)] fun _=>?_
       exact wT (J60 _ H)
      .refine wP ?_
       exact wT (J60 _ H)
    .refine O0 H (fun H=>?_) fun H=>?_
     .obtain⟨y10,h10,H⟩:=bB H
      obtain⟨e11,h11,H⟩:=bB H
      refine wG [.u 46 (.cz U2 [2000000000] [(U0 .rd v9.1).cells] [.ptr 0 0] _ _ _ (by simp) (by simp) (fun _=>by simp) (fun _=>L5 h10)),.u 47 (.ix _ _ _ fun _=>Q0 (Z1 .nw) h11),.u 1000000 (.sto _ _ _ (Z1 .nw (Run.mk e11.job y10.1 e11.nodes)) _ (fun _=>gm (Z1 .nw) (Y5 h11)) (fun _=>Xz ..))] fun _=>?_
      exact wT (J61 _ H)
     .refine wP ?_
      exact wT (J61 _ H)
   .refine O0 H (fun H=>?_) fun H=>?_
    .obtain⟨y8,h8,H⟩:=bB H
     refine wG [.u 33 (.cw On [2000000000] [] [(U0 .rd v5.1).cells] [] [.ptr 0 0] _ _ _ _ _ (GEs.of [true] (by simp)) (by simp) (by simp) (by simp) (fun _=>LZ h8))] fun _=>?_
     exact wT (J62 _ H)
    .refine wP ?_
     exact wT (J62 _ H)
  .refine O0 H (fun H=>?_) fun H=>?_
   .obtain⟨e6,h6,H⟩:=bB H
    refine wG [.u 26 (.ix _ _ _ fun _=>Q0 eBo h6),.u 27 (.el _ _ _ fun _=>gm eBo (Y5 h6)),.u 29 (.ix _ _ _ fun _=>Q0 eBo h6),.u 1000000 (.sto _ _ _ (eBo (!e6)) _ (fun _=>gm eBo (Y5 h6)) (fun _=>Xz ..))] fun _=>?_
    exact wT (J63 _ H)
   .refine wP ?_
    exact wT (J63 _ H)
 .refine O0 H (fun H=>?_) fun H=>?_
  .obtain⟨y4,h4,H⟩:=bB H
   refine wG [.u 12 (.cw U2 [2000000000] [] [(U0 .rd y3.2).cells] [] [.ptr 0 0] _ _ _ _ _ (GEs.of [true] (by simp)) (by simp) (by simp) (by simp) (fun _=>L5 h4))] fun _=>?_
   exact wT (J64 _ H)
  .refine wP ?_
   exact wT (J64 _ H)
def QU:L :=
sR [.bx 3 1,.al 4 [.nl,.nl,.nl,.int .i64 0,.int .i64 0,.int .i64 0,.int .i64 0,.int .i64 0,.nl,.nl,.nl]]
 (sR [mV 10 0,.cm 11 Z0 [10,(kI 14)],mV 5 11]
 (sR [lT 12 3 11,.al 6 [.nl,.nl,.nl,.int .i64 0,.int .i64 0,.int .i64 0,.int .i64 0,.int .i64 0,.nl,.nl,.nl],.st 6 12 11]
 (.seq (rE 7 (kI 0))
 (.seq (sR [mV 13 5,.bi 14 .lss 13 (kI 7)]
 (.cond 14 (.ro [6] [] [(0,false,lT 16 3 11),
 (1,false,mV 17 0),
 (2,true,.cm 18 Wn [17]),
 (3,true,.cl 19 YY [16,18]),
 (4,true,mV 15 19),
 (6,false,eX 21 15 1),
 (5,true,eX 20 15 0)]
 [.st 6 20 11,mV 7 21])
 (sR [mV 22 5,.bi 23 .lss 22 (kI 9)]
 (.cond 23 (.seq (.rz [(10,8,[.nl,.nl,.nl,.int .i64 0,.int .i64 0,.int .i64 0,.int .i64 0,.int .i64 0,.nl,.nl,.nl])] [(0,false,lT 25 3 11),
 (1,false,fA 26 3 7),
 (2,false,lF 27 26 1),
 (3,false,mV 28 0),
 (4,true,.cm 29 Z0 [28,(kI 12)]),
 (5,false,bI 30 .add 27 29),
 (6,true,.cl 31 V07 [25,30]),
 (7,true,mV 24 31),
 (9,false,eX 33 24 1),
 (8,true,eX 32 24 0)]
 [.st 8 32 11,mV 9 33])
 (sR [mV 34 9]
 (.cond 34 (.reg [lT 35 8 11,.st 6 35 11])
 .skip)))
 (sR [mV 36 5,.bi 37 .eql 36 (kI 9)]
 (.cond 37 (.ro [6] [] [(0,false,lT 39 3 11),
 (1,false,mV 40 0),
 (4,false,mV 43 0),
 (2,true,.cm 41 Z0 [40,(kI 30)]),
 (3,false,.bi 42 .add (kI 1) 41),
 (5,true,.cm 44 Z0 [43,(kI 2)]),
 (6,false,.bi 45 .add (kI 2) 44),
 (7,true,.cl 46 Zx [39,42,45]),
 (8,true,mV 38 46),
 (10,false,eX 48 38 1),
 (9,true,eX 47 38 0)]
 [.st 6 47 11,mV 7 48])
 (sR [mV 49 5,.bi 50 .eql 49 (kI 10)]
 (.cond 50 (.ro [6] [] [(0,false,lT 52 3 11),
 (1,false,mV 53 0),
 (2,false,fA 54 3 0),
 (3,false,fA 55 54 1),
 (4,false,lF 56 55 1),
 (5,false,.lq 57 56),
 (6,true,.cm 58 Z0 [53,57]),
 (7,true,.cl 59 X0e [52,58]),
 (8,true,mV 51 59),
 (10,false,eX 61 51 1),
 (9,true,eX 60 51 0)]
 [.st 6 60 11,mV 7 61])
 (sR [mV 62 5,.bi 63 .eql 62 (kI 11)]
 (.cond 63 (.ro [6] [] [(0,false,lT 65 3 11),
 (1,false,mV 66 0),
 (2,false,fA 67 3 0),
 (3,false,fA 68 67 1),
 (4,false,lF 69 68 1),
 (5,false,.lq 70 69),
 (6,true,.cm 71 Z0 [66,70]),
 (7,true,.cl 72 XY [65,71]),
 (8,true,mV 64 72),
 (10,false,eX 74 64 1),
 (9,true,eX 73 64 0)]
 [.st 6 73 11,mV 7 74])
 (sR [mV 75 5,.bi 76 .eql 75 (kI 12)]
 (.cond 76 (.ro [6] [] [(0,false,lT 78 3 11),
 (1,false,mV 79 0),
 (3,false,mV 81 0),
 (5,false,mV 83 0),
 (2,true,.cm 80 Z0 [79,(kI 6)]),
 (4,true,.cm 82 Z0 [81,(kI 4)]),
 (6,true,.cm 84 Z0 [83,(kI 2)]),
 (7,false,.bd 85 [.int .i64 0,.int .i64 0,.int .i64 0] [(0,1,80),(1,1,82),(2,1,84)]),
 (8,true,.cl 86 VY [78,85]),
 (9,true,mV 77 86),
 (11,false,eX 88 77 1),
 (10,true,eX 87 77 0)]
 [.st 6 87 11,mV 7 88])
 (sR [fA 89 3 9,lF 90 89 1,.ln 91 90,.bi 92 .gtr 91 (kI 0)]
 (.cond 92 (.ro [6] [] [(0,false,lT 94 3 11),
 (1,false,fA 95 3 9),
 (2,false,lF 96 95 1),
 (3,false,mV 97 0),
 (4,false,fA 98 3 9),
 (5,false,lF 99 98 1),
 (6,false,.lq 100 99),
 (12,false,mV 106 0),
 (7,true,.cm 101 Z0 [97,100]),
 (8,false,iA 102 96 101 13),
 (9,false,fA 103 102 0),
 (10,false,fA 104 103 0),
 (11,false,lF 105 104 1),
 (13,true,.cm 107 Z0 [106,(kI 2)]),
 (14,false,.bi 108 .add (kI 2) 107),
 (15,true,.cl 109 Zx [94,105,108]),
 (16,true,mV 93 109),
 (18,false,eX 111 93 1),
 (17,true,eX 110 93 0)]
 [.st 6 110 11,mV 7 111])
 .skip))))))))))))))
 (.seq (sR [mV 112 7,.bi 113 .neq 112 (kI 0)]
 (.cond 113 (sR [lT 114 3 11,.st 4 114 11]
 gR)
 .skip))
 (sR [lT 115 6 11,.st 4 115 11]
 gR))))))
def YU:List Rv:=[.c 4 11 true]
theorem JU:Yx Tryz.prog Va 2 QU YU=true:=by kernel_rfl
def Yd(c1:l01Cur)(s2:State):Option (State×l01Cur) :=
 (X0 c1 14).bind fun y3=>bif (decide (y3.1<7))then((Zm y3.2).bind fun y4=>(Qy s2 y4.1).bind fun y5=>bif (y5.2 != 0)then(some (s2,y4.2))else(some (y5.1,y4.2)))else(bif (decide (y3.1<9))then((X0 y3.2 12).bind fun y6=>(WJ s2 (w64 (s2.now+y6.1))).bind fun y7=>bif y7.2 then(bif (0 != 0)then(some (s2,y6.2))else(some (y7.1,y6.2)))else(bif (0 != 0)then(some (s2,y6.2))else(some (s2,y6.2))))else(bif (y3.1==9)then((X0 y3.2 30).bind fun y8=>(X0 y8.2 2).bind fun y9=>(Uk s2 (w64 (1+y8.1)) (w64 (2+y9.1))).bind fun y10=>bif (y10.2 != 0)then(some (s2,y9.2))else(some (y10.1,y9.2)))else(bif (y3.1==10)then((lenQ s2.topo.nodes).bind fun _=>(X0 y3.2 (s2.topo.nodes.length:Int)).bind fun y12=>(LT s2 y12.1).bind fun y13=>bif (y13.2 != 0)then(some (s2,y12.2))else(some (y13.1,y12.2)))else(bif (y3.1==11)then((lenQ s2.topo.nodes).bind fun _=>(X0 y3.2 (s2.topo.nodes.length:Int)).bind fun y15=>(My s2 y15.1).bind fun y16=>bif (y16.2 != 0)then(some (s2,y15.2))else(some (y16.1,y15.2)))else(bif (y3.1==12)then((X0 y3.2 6).bind fun y17=>(X0 y17.2 4).bind fun y18=>(X0 y18.2 2).bind fun y19=>(Ly s2 (Vec.mk y17.1 y18.1 y19.1)).bind fun y20=>bif (y20.2 != 0)then(some (s2,y19.2))else(some (y20.1,y19.2)))else(bif (decide (0<(s2.runs.length:Int)))then((X0 y3.2 (s2.runs.length:Int)).bind fun y22=>(idx s2.runs y22.1).bind fun e23=>(X0 y22.2 2).bind fun y24=>(Uk s2 e23.job.id (w64 (2+y24.1))).bind fun y25=>bif (y25.2 != 0)then(some (s2,y24.2))else(some (y25.1,y24.2)))else(bif (0 != 0)then(some (s2,y3.2))else(some (s2,y3.2)))))))))
set_option maxRecDepth 20000 in
theorem QT{c1:l01Cur}{s2:State}{r:State×l01Cur}(H:Yd c1 s2=some r):ConD Tryz.prog Va [.ptr 0 0,L2 .nw s2] [(U0 .rd c1).cells] [] (L2 .nw r.1) [(U0 .rd r.2).cells] [] []:=by
 refine Q06 [] JU rfl (by kernel_rfl) ?_
 unfold Yd at H
 obtain⟨y3,h3,H⟩:=bB H
 refine wG [.u 11 (.cw Z0 [2000000000] [] [(U0 .rd c1).cells] [] [.ptr 0 0,iV 14] _ _ _ _ _ (GEs.of [true,false] (by simp)) (by simp) (by simp) (by simp) (fun _=>Y0 h3))] fun _=>?_
 refine O0 H (fun H=>?_) fun H=>?_
 .obtain⟨y4,h4,H⟩:=bB H
  obtain⟨y5,h5,H⟩:=bB H
  refine wG [.u 18 (.cz Wn [2000000000] [(U0 .rd y3.2).cells] [.ptr 0 0] _ _ _ (by simp) (by simp) (fun _=>by simp) (fun _=>WZ h4)),.u 19 (.call _ _ _ _ _ (AEs.of (xs:=[.agg [rV 1 (s2.topo.parents.map eI),rV 4 (s2.topo.nodes.map V1),rV 1 (s2.up.map eBo),iV s2.lic.a,iV s2.lic.b,iV s2.lic.c,iV s2.depth,iV s2.now,rV 11 (s2.queue.map eJob),rV 13 (s2.runs.map (Z1 .nw)),rV 3 (s2.ends.map eEnd)],.agg [iV y4.1.id,iV y4.1.prio,iV y4.1.nodes,iV y4.1.need.a,iV y4.1.need.b,iV y4.1.need.c,iV y4.1.lic.a,iV y4.1.lic.b,iV y4.1.lic.c,iV y4.1.wall,iV y4.1.level]]) (by simp)) (fun _=>U0a h5))] fun _=>?_
  refine O0 H (fun H=>?_) fun H=>?_
  .refine wP ?_
   replace H:=sI H;subst H
   exact J1 [(4,.d)] [(4,[]),(2000000000,[])] [] [] [] (by kernel_rfl)
  .refine wP ?_
   replace H:=sI H;subst H
   exact J1 [(4,.d)] [(4,[.d,.d,.f,.d,.d,.d,.d,.d,.f,.f,.f]),(2000000000,[])] [] [20000,20001,20002,20003] [] (by kernel_rfl)
 .refine wP ?_
  refine O0 H (fun H=>?_) fun H=>?_
  .obtain⟨y6,h6,H⟩:=bB H
   obtain⟨y7,h7,H⟩:=bB H
   refine wG [.u 29 (.cz Z0 [2000000000] [(U0 .rd y3.2).cells] [.ptr 0 0,iV 12] _ _ _ (by simp) (by simp) (fun _=>by simp) (fun _=>Y0 h6)),.u 31 (.call _ _ _ _ _ (AEs.of (xs:=[.agg [rV 1 (s2.topo.parents.map eI),rV 4 (s2.topo.nodes.map V1),rV 1 (s2.up.map eBo),iV s2.lic.a,iV s2.lic.b,iV s2.lic.c,iV s2.depth,iV s2.now,rV 11 (s2.queue.map eJob),rV 13 (s2.runs.map (Z1 .nw)),rV 3 (s2.ends.map eEnd)],iV (w64 (s2.now+y6.1))]) (by simp)) (fun _=>J0e h7))] fun _=>?_
   refine O0 H (fun H=>?_) fun H=>?_
   .refine wP ?_
    refine O0 H (fun H=>?_) fun H=>?_
    .refine wP ?_
     replace H:=sI H;subst H
     exact J1 [(4,.d)] [(4,[]),(2000000000,[])] [] [] [] (by kernel_rfl)
    .refine wP ?_
     replace H:=sI H;subst H
     exact J1 [(4,.d)] [(4,[.d,.d,.f,.d,.d,.d,.d,.d,.f,.f,.f]),(2000000000,[])] [] [32000,32001,32002,32003] [] (by kernel_rfl)
   .refine wP ?_
    refine O0 H (fun H=>?_) fun H=>?_
    .refine wP ?_
     replace H:=sI H;subst H
     exact J1 [(4,.d)] [(4,[]),(2000000000,[])] [] [] [] (by kernel_rfl)
    .refine wP ?_
     replace H:=sI H;subst H
     exact J1 [(4,.d)] [(4,[]),(2000000000,[])] [] [] [] (by kernel_rfl)
  .refine wP ?_
   refine O0 H (fun H=>?_) fun H=>?_
   .obtain⟨y8,h8,H⟩:=bB H
    obtain⟨y9,h9,H⟩:=bB H
    obtain⟨y10,h10,H⟩:=bB H
    refine wG [.u 41 (.cz Z0 [2000000000] [(U0 .rd y3.2).cells] [.ptr 0 0,iV 30] _ _ _ (by simp) (by simp) (fun _=>by simp) (fun _=>Y0 h8)),.u 44 (.cz Z0 [2000000000] [(U0 .rd y8.2).cells] [.ptr 0 0,iV 2] _ _ _ (by simp) (by simp) (fun _=>by simp) (fun _=>Y0 h9)),.u 46 (.call _ _ _ _ _ (AEs.of (xs:=[.agg [rV 1 (s2.topo.parents.map eI),rV 4 (s2.topo.nodes.map V1),rV 1 (s2.up.map eBo),iV s2.lic.a,iV s2.lic.b,iV s2.lic.c,iV s2.depth,iV s2.now,rV 11 (s2.queue.map eJob),rV 13 (s2.runs.map (Z1 .nw)),rV 3 (s2.ends.map eEnd)],iV (w64 (1+y8.1)),iV (w64 (2+y9.1))]) (by simp)) (fun _=>UB h10))] fun _=>?_
    refine O0 H (fun H=>?_) fun H=>?_
    .refine wP ?_
     replace H:=sI H;subst H
     exact J1 [(4,.d)] [(4,[]),(2000000000,[])] [] [] [] (by kernel_rfl)
    .refine wP ?_
     replace H:=sI H;subst H
     exact J1 [(4,.d)] [(4,[.d,.d,.f,.d,.d,.d,.d,.d,.f,.f,.f]),(2000000000,[])] [] [47000,47001,47002,47003] [] (by kernel_rfl)
   .refine wP ?_
    refine O0 H (fun H=>?_) fun H=>?_
    .obtain⟨u11,h11,H⟩:=bB H
     obtain⟨y12,h12,H⟩:=bB H
     obtain⟨y13,h13,H⟩:=bB H
     refine wG [.u 57 (.le _ _ (fun _=>lm s2.topo.nodes V1) (fun _=>LV h11)),.u 58 (.cz Z0 [2000000000] [(U0 .rd y3.2).cells] [.ptr 0 0,iV (s2.topo.nodes.length:Int)] _ _ _ (by simp) (by simp) (fun _=>by simp) (fun _=>Y0 h12)),.u 59 (.call _ _ _ _ _ (AEs.of (xs:=[.agg [rV 1 (s2.topo.parents.map eI),rV 4 (s2.topo.nodes.map V1),rV 1 (s2.up.map eBo),iV s2.lic.a,iV s2.lic.b,iV s2.lic.c,iV s2.depth,iV s2.now,rV 11 (s2.queue.map eJob),rV 13 (s2.runs.map (Z1 .nw)),rV 3 (s2.ends.map eEnd)],iV y12.1]) (by simp)) (fun _=>Z0o h13))] fun _=>?_
     refine O0 H (fun H=>?_) fun H=>?_
     .refine wP ?_
      replace H:=sI H;subst H
      exact J1 [(4,.d)] [(4,[]),(2000000000,[])] [] [] [] (by kernel_rfl)
     .refine wP ?_
      replace H:=sI H;subst H
      exact J1 [(4,.d)] [(4,[.d,.d,.f,.d,.d,.d,.d,.d,.f,.f,.f]),(2000000000,[])] [] [60000,60001,60002,60003] [] (by kernel_rfl)
    .refine wP ?_
     refine O0 H (fun H=>?_) fun H=>?_
     .obtain⟨u14,h14,H⟩:=bB H
      obtain⟨y15,h15,H⟩:=bB H
      obtain⟨y16,h16,H⟩:=bB H
      refine wG [.u 70 (.le _ _ (fun _=>lm s2.topo.nodes V1) (fun _=>LV h14)),.u 71 (.cz Z0 [2000000000] [(U0 .rd y3.2).cells] [.ptr 0 0,iV (s2.topo.nodes.length:Int)] _ _ _ (by simp) (by simp) (fun _=>by simp) (fun _=>Y0 h15)),.u 72 (.call _ _ _ _ _ (AEs.of (xs:=[.agg [rV 1 (s2.topo.parents.map eI),rV 4 (s2.topo.nodes.map V1),rV 1 (s2.up.map eBo),iV s2.lic.a,iV s2.lic.b,iV s2.lic.c,iV s2.depth,iV s2.now,rV 11 (s2.queue.map eJob),rV 13 (s2.runs.map (Z1 .nw)),rV 3 (s2.ends.map eEnd)],iV y15.1]) (by simp)) (fun _=>W0a h16))] fun _=>?_
      refine O0 H (fun H=>?_) fun H=>?_
      .refine wP ?_
       replace H:=sI H;subst H
       exact J1 [(4,.d)] [(4,[]),(2000000000,[])] [] [] [] (by kernel_rfl)
      .refine wP ?_
       replace H:=sI H;subst H
       exact J1 [(4,.d)] [(4,[.d,.d,.f,.d,.d,.d,.d,.d,.f,.f,.f]),(2000000000,[])] [] [73000,73001,73002,73003] [] (by kernel_rfl)
     .refine wP ?_
      refine O0 H (fun H=>?_) fun H=>?_
      .obtain⟨y17,h17,H⟩:=bB H
       obtain⟨y18,h18,H⟩:=bB H
       obtain⟨y19,h19,H⟩:=bB H
       obtain⟨y20,h20,H⟩:=bB H
       refine wG [.u 80 (.cz Z0 [2000000000] [(U0 .rd y3.2).cells] [.ptr 0 0,iV 6] _ _ _ (by simp) (by simp) (fun _=>by simp) (fun _=>Y0 h17)),.u 82 (.cz Z0 [2000000000] [(U0 .rd y17.2).cells] [.ptr 0 0,iV 4] _ _ _ (by simp) (by simp) (fun _=>by simp) (fun _=>Y0 h18)),.u 84 (.cz Z0 [2000000000] [(U0 .rd y18.2).cells] [.ptr 0 0,iV 2] _ _ _ (by simp) (by simp) (fun _=>by simp) (fun _=>Y0 h19)),.u 86 (.call _ _ _ _ _ (AEs.of (xs:=[.agg [rV 1 (s2.topo.parents.map eI),rV 4 (s2.topo.nodes.map V1),rV 1 (s2.up.map eBo),iV s2.lic.a,iV s2.lic.b,iV s2.lic.c,iV s2.depth,iV s2.now,rV 11 (s2.queue.map eJob),rV 13 (s2.runs.map (Z1 .nw)),rV 3 (s2.ends.map eEnd)],.agg [iV y17.1,iV y18.1,iV y19.1]]) (by simp)) (fun _=>O0a h20))] fun _=>?_
       refine O0 H (fun H=>?_) fun H=>?_
       .refine wP ?_
        replace H:=sI H;subst H
        exact J1 [(4,.d)] [(4,[]),(2000000000,[])] [] [] [] (by kernel_rfl)
       .refine wP ?_
        replace H:=sI H;subst H
        exact J1 [(4,.d)] [(4,[.d,.d,.f,.d,.d,.d,.d,.d,.f,.f,.f]),(2000000000,[])] [] [87000,87001,87002,87003] [] (by kernel_rfl)
      .refine wG [.u 91 (.ln _ _ fun _=>lm s2.runs (Z1 .nw))] fun q21=>?_
       refine O0 H (fun H=>?_) fun H=>?_
       .obtain⟨y22,h22,H⟩:=bB H
        obtain⟨e23,h23,H⟩:=bB H
        obtain⟨y24,h24,H⟩:=bB H
        obtain⟨y25,h25,H⟩:=bB H
        refine wG [.u 100 (.le _ _ (fun _=>lm s2.runs (Z1 .nw)) (fun _=>q21.1)),.u 101 (.cz Z0 [2000000000] [(U0 .rd y3.2).cells] [.ptr 0 0,iV (s2.runs.length:Int)] _ _ _ (by simp) (by simp) (fun _=>by simp) (fun _=>Y0 h22)),.u 102 (.ix _ _ _ fun _=>Q0 (Z1 .nw) h23),.u 107 (.cz Z0 [2000000000] [(U0 .rd y22.2).cells] [.ptr 0 0,iV 2] _ _ _ (by simp) (by simp) (fun _=>by simp) (fun _=>Y0 h24)),.u 109 (.call _ _ _ _ _ (AEs.of (xs:=[.agg [rV 1 (s2.topo.parents.map eI),rV 4 (s2.topo.nodes.map V1),rV 1 (s2.up.map eBo),iV s2.lic.a,iV s2.lic.b,iV s2.lic.c,iV s2.depth,iV s2.now,rV 11 (s2.queue.map eJob),rV 13 (s2.runs.map (Z1 .nw)),rV 3 (s2.ends.map eEnd)],iV e23.job.id,iV (w64 (2+y24.1))]) (by simp)) (fun _=>UB h25))] fun _=>?_
        refine O0 H (fun H=>?_) fun H=>?_
        .refine wP ?_
         replace H:=sI H;subst H
         exact J1 [(4,.d)] [(4,[]),(2000000000,[])] [] [] [] (by kernel_rfl)
        .refine wP ?_
         replace H:=sI H;subst H
         exact J1 [(4,.d)] [(4,[.d,.d,.f,.d,.d,.d,.d,.d,.f,.f,.f]),(2000000000,[])] [] [110000,110001,110002,110003] [] (by kernel_rfl)
       .refine wP ?_
        refine O0 H (fun H=>?_) fun H=>?_
        .refine wP ?_
         replace H:=sI H;subst H
         exact J1 [(4,.d)] [(4,[]),(2000000000,[])] [] [] [] (by kernel_rfl)
        .refine wP ?_
         replace H:=sI H;subst H
         exact J1 [(4,.d)] [(4,[]),(2000000000,[])] [] [] [] (by kernel_rfl)
def U0d:L :=
sR [.al 2 [.nl,.nl,.nl,.int .i64 0,.int .i64 0,.int .i64 0,.int .i64 0,.int .i64 0,.nl,.nl,.nl],.al 3 [.nl,.nl,.nl,.int .i64 0,.int .i64 0,.int .i64 0,.int .i64 0,.int .i64 0,.nl,.nl,.nl]]
 (sR [mV 8 0,.cn 9 LI [8],mV 4 9]
 (sR [mV 10 4,.cm 11 Qn [10],.al 5 [.nl,.nl,.nl,.int .i64 0,.int .i64 0,.int .i64 0,.int .i64 0,.int .i64 0,.nl,.nl,.nl],.st 5 11 11]
 (.seq (.gw (.reg [lT 12 5 11,.al 6 [.nl,.nl,.nl,.int .i64 0,.int .i64 0,.int .i64 0,.int .i64 0,.int .i64 0,.nl,.nl,.nl],.st 6 12 11]))
 (.seq (sR [mV 13 4,.cm 14 Z0 [13,(kI 4)],mV 7 14]
 (.blk 0 (.loop (.gw (.seq (sR [mV 15 7,.bi 16 .gtr 15 (kI 0),mV 17 16,gT 17 (lT 18 6 11),gT 17 (cQ 19 M5 [18]),.pk 20 17 19 (cB false)]
 (.cond 20 .skip
 (.exit 0)))
 (.seq (.blk 1 (.reg [mV 23 4,lT 24 6 11,.cm 25 Va [23,24],.st 6 25 11]))
 (.reg [mV 21 7,.bi 22 .sub 21 (kI 1),mV 7 22])))))))
 (.seq (sR [mV 26 4,.cm 27 Z0 [26,(kI 8)],.bi 28 .eql 27 (kI 0)]
 (.cond 28 (.reg [mV 29 4,.cm 30 Qn [29],.st 6 30 11])
 .skip))
 (.gw (.seq (.ro [2] [] [(0,false,lT 31 5 11),
 (1,false,lT 32 6 11)]
 [.st 2 31 11,.st 3 32 11])
 gR)))))))
def J6(y3:State×l01Cur)(v10:State):Option (State×State) :=
 some (y3.1,v10)
def Ln(y3:State×l01Cur)(v5:l01Cur×State×Int)(k5:(l01Cur×State×Int)->Option (State×State)):Option (State×State) :=
 (bif (decide (0<v5.2.2))then(X5 v5.2.1)else some default).bind fun b6=>bif ((decide (0<v5.2.2))&&b6)then((Yd v5.1 v5.2.1).bind fun y7=>k5 (y7.2,y7.1,(w64 (v5.2.2-1))))else((X0 v5.1 8).bind fun y8=>bif (y8.1==0)then((Yh y8.2).bind fun y9=>(J6 y3) y9.1)else((J6 y3) v5.2.1))
def Zi(code1:List Int):Option (State×State) :=
 (Z0z code1).bind fun c2=>(Yh c2).bind fun y3=>(X0 y3.2 4).bind fun y4=>whl (Ln y3) 9223372036854775807 (y4.2,y3.1,y4.1)
theorem M0c{code1:List Int}{r:State×State}(H:Zi code1=some r):Snd Tryz.prog ZQ [rV 1 (code1.map eB)] (.tup [L2 .nw r.1,L2 .nw r.2]) []:=by
 refine wS U0d [.c 2 11 true,.c 3 11 true] ?_
 unfold Zi at H
 obtain⟨c2,h2,H⟩:=bB H
 obtain⟨y3,h3,H⟩:=bB H
 refine wG [.u 9 (.bn LI [rV 1 (code1.map eB)] [rV 1 (code1.map eB)] _ ((U0 .rd c2).cells) (fun _=>by simp) (fun _=>by simp) (fun _=>M1b h2)),.u 11 (.cw Qn [9] [] [(U0 .rd c2).cells] [] [.ptr 0 0] _ _ _ _ _ (GEs.of [true] (by simp)) (by simp) (by simp) (by simp) (fun _=>UZ h3))] fun _=>?_
 refine J1J [(11,.l [.d,.d,.f,.d,.d,.d,.d,.d,.f,.f,.f])] [(5,[.d,.d,.f,.d,.d,.d,.d,.d,.f,.f,.f])] [12000,12001,12002,12003] (by kernel_rfl) ?_
 obtain⟨y4,h4,H⟩:=bB H
 refine wG [.u 14 (.cw Z0 [9] [] [(U0 .rd y3.2).cells] [] [.ptr 0 0,iV 4] _ _ _ _ _ (GEs.of [true,false] (by simp)) (by simp) (by simp) (by simp) (fun _=>Y0 h4))] fun _=>?_
 refine wW (fun(v5:l01Cur×State×Int)=>⟨[(2,.ptr 2 0),(3,.ptr 3 0),(4,.ptr 9 0),(5,.ptr 5 0),(6,.ptr 6 0),(7,iV v5.2.2)],[],[(2,[.nl,.nl,.nl,iV 0,iV 0,iV 0,iV 0,iV 0,.nl,.nl,.nl]),(3,[.nl,.nl,.nl,iV 0,iV 0,iV 0,iV 0,iV 0,.nl,.nl,.nl]),(9,(U0 .rd v5.1).cells),(5,(L2 .nw y3.1).cells),(6,(L2 .nw v5.2.1).cells)],[]⟩) H (fun v5 I m k5 H N15=>?_)
 unfold Ln at H
 obtain⟨b6,h6,H⟩:=bB H
 refine wG [.g 19 [(_,true)] (.call _ _ _ _ _ (AEs.of (xs:=[.agg [rV 1 (v5.2.1.topo.parents.map eI),rV 4 (v5.2.1.topo.nodes.map V1),rV 1 (v5.2.1.up.map eBo),iV v5.2.1.lic.a,iV v5.2.1.lic.b,iV v5.2.1.lic.c,iV v5.2.1.depth,iV v5.2.1.now,rV 11 (v5.2.1.queue.map eJob),rV 13 (v5.2.1.runs.map (Z1 .nw)),rV 3 (v5.2.1.ends.map eEnd)]]) (by simp)) (fun q=>U5 (bT q.1 h6)))] fun _=>?_
 refine O0 H (fun H=>?_) fun H=>?_
 .obtain⟨y7,h7,H⟩:=bB H
  refine wG [.u 25 (.cw Va [9] [] [(U0 .rd v5.1).cells] [] [.ptr 0 0,L2 .nw v5.2.1] _ _ _ _ _ (GEs.of [true,true] (by simp)) (by simp) (by simp) (by simp) (fun _=>QT h7))] fun _=>?_
  exact wT (N15 _ H)
 .obtain⟨y8,h8,H⟩:=bB H
  refine wG [.u 27 (.cw Z0 [9] [] [(U0 .rd v5.1).cells] [] [.ptr 0 0,iV 8] _ _ _ _ _ (GEs.of [true,false] (by simp)) (by simp) (by simp) (by simp) (fun _=>Y0 h8))] fun _=>?_
  refine Z6 (r:=r) (J6 y3) 0 (fun v10:State=>⟨[(2,.ptr 2 0),(3,.ptr 3 0),(5,.ptr 5 0),(6,.ptr 6 0)],[],[(2,[.nl,.nl,.nl,.int .i64 0,.int .i64 0,.int .i64 0,.int .i64 0,.int .i64 0,.nl,.nl,.nl]),(3,[.nl,.nl,.nl,.int .i64 0,.int .i64 0,.int .i64 0,.int .i64 0,.int .i64 0,.nl,.nl,.nl]),(5,(L2 .nw y3.1).cells),(6,(L2 .nw v10).cells)],[]⟩) (by kernel_rfl) (fun v10 H=>?_) (fun J25=>?_)
  .unfold J6 at H
   refine wP ?_
   replace H:=sI H;subst H
   exact wN [(2,.d),(3,.d)] [(2,[]),(3,[])] [] [] [] [⟨_,nw_I y3.1.topo.parents⟩,⟨_,M2 y3.1.topo.nodes⟩,⟨_,Js y3.1.up⟩,⟨_,WL y3.1.queue⟩,⟨_,UR y3.1.runs⟩,⟨_,J0a y3.1.ends⟩,⟨_,nw_I v10.topo.parents⟩,⟨_,M2 v10.topo.nodes⟩,⟨_,Js v10.up⟩,⟨_,WL v10.queue⟩,⟨_,UR v10.runs⟩,⟨_,J0a v10.ends⟩]
  .refine O0 H (fun H=>?_) fun H=>?_
   .obtain⟨y9,h9,H⟩:=bB H
    refine wG [.u 30 (.cw Qn [9] [] [(U0 .rd y8.2).cells] [] [.ptr 0 0] _ _ _ _ _ (GEs.of [true] (by simp)) (by simp) (by simp) (by simp) (fun _=>UZ h9))] fun _=>?_
    exact Z0e (J25 _ H) [] [(6,[.d,.d,.f,.d,.d,.d,.d,.d,.f,.f,.f])] [] [31000,31001,31002,31003] (by kernel_rfl) (by kernel_rfl)
   .refine wP ?_
    exact wT (J25 _ H)
end
section
structure CurP(c:l01Cur):Prop where
 i0:0<=c.i
 i1:c.i<=c.b.length
 len:c.b.length<=1048576
theorem L0h(a:Int):0<=bAnd .i64 a 255/\bAnd .i64 a 255<=255:=by
 have h:(BitVec.ofInt 64 a &&& BitVec.ofInt 64 255).toNat<=255:=by
  rw[BitVec.toNat_and]
  exact Nat.le_trans Nat.and_le_right (by decide)
 show 0<=IntKind.i64.wrap _/\IntKind.i64.wrap _<=255
 have e:((BitVec.ofInt IntKind.i64.bits a &&& BitVec.ofInt IntKind.i64.bits 255).toNat:Int)=((BitVec.ofInt 64 a &&& BitVec.ofInt 64 255).toNat:Int):=rfl
 rw[e,L11 (by omega) (by omega)]
 omega
theorem Z05{α:Type}{l:List α}(h:l.length<=9223372036854775807):lenQ l=some ():=by simp[lenQ,h]
theorem O1b{bs:List Int}(h:bs.length<=1048576):∃c,Z0z bs=some c/\CurP c:=⟨⟨bs,0,newH bs⟩,by simp[Z0z,h],by simp,by simp,h⟩
theorem LL{c:l01Cur}(h:CurP c):∃r,O7 c=some r/\0<=r.1/\r.1<=255/\CurP r.2:=by
 unfold O7
 simp only[shrI,Z05 (show c.b.length<=9223372036854775807 by have:=h.len;omega)]
 have h0:=h.i0;have h1:=h.i1;have h2:=h.len
 by_cases hlt:c.i<c.b.length
 .obtain⟨x,hx,_⟩:=Md h0 hlt
  refine⟨_,by simp[hx,hlt,W8];rfl,?_⟩
  simp
  refine⟨(L0h _).1,(L0h _).2,?_,?_,h2⟩<;>simp<;>rw[V4 (by omega)]<;>omega
 .refine⟨_,by simp[hlt,W8];rfl,?_⟩
  simp
  exact⟨(L0h _).1,(L0h _).2,h0,h1,h2⟩
theorem Z7{c:l01Cur}{n:Int}(h:CurP c)(hn:n<=1000000000):∃r,X0 c n=some r/\0<=r.1/\r.1<=max 0 (n-1)/\CurP r.2:=by
 unfold X0
 by_cases h0:n<=0
 .exact⟨(0,c),by simp[h0],by simp,by simp;omega,h⟩
 have hne:¬ n=0:=by omega
 by_cases h256:n<=256
 .obtain⟨r,e,r0,r1,hc⟩:=LL h
  have q0:=Int.tmod_nonneg n r0
  have q1:=Int.tmod_lt_of_pos r.1 (show 0<n by omega)
  exact⟨(r.1.tmod n,r.2),by simp[h0,h256,e,remI,hne],q0,by simp only;omega,hc⟩
 .obtain⟨a,ea,a0,a1,ha⟩:=LL h
  obtain⟨b,eb,b0,b1,hb⟩:=LL ha
  obtain⟨d,ed,d0,d1,hd⟩:=LL hb
  obtain⟨e,ee,e0,e1,he⟩:=LL hd
  have es:w64 ((w64 ((w64 ((w64 (a.1*16777216))+(w64 (b.1*65536))))+(w64 (d.1*256))))+e.1)=a.1*16777216+b.1*65536+d.1*256+e.1:=by
   rw[V4 (n:=a.1*16777216) (by omega),V4 (n:=b.1*65536) (by omega),V4 (n:=d.1*256) (by omega),V4 (n:=a.1*16777216+b.1*65536) (by omega),V4 (n:=a.1*16777216+b.1*65536+d.1*256) (by omega),V4 (by omega)]
  have q0:=Int.tmod_nonneg n (show 0<=a.1*16777216+b.1*65536+d.1*256+e.1 by omega)
  have q1:=Int.tmod_lt_of_pos (a.1*16777216+b.1*65536+d.1*256+e.1) (show 0<n by omega)
  exact⟨((a.1*16777216+b.1*65536+d.1*256+e.1).tmod n,e.2),by simp[h0,h256,ea,eb,ed,ee,es,remI,hne],q0,by simp only;omega,he⟩
theorem M08{c:l01Cur}(h:CurP c):∃r,J3 c=some r/\CurP r.2:=by
 unfold J3
 obtain⟨y2,e2,_,_,h2⟩:=Z7 h (n:=9) (by omega)
 obtain⟨y3,e3,_,_,h3⟩:=Z7 h2 (n:=24) (by omega)
 obtain⟨y4,e4,_,_,h4⟩:=Z7 h2 (n:=3) (by omega)
 obtain⟨y5,e5,_,_,h5⟩:=Z7 h2 (n:=2) (by omega)
 obtain⟨y6,e6,_,_,h6⟩:=Z7 h2 (n:=2000000) (by omega)
 simp only[e2,e3,e4,e5,e6,bS]
 cases decide (y2.1<4)<;>cases y2.1==4<;>cases y2.1==5<;>cases y2.1==6<;>cases y2.1==7<;>exact⟨_,rfl,by assumption⟩
theorem W1b{c:l01Cur}(h:CurP c):∃r,Mu c=some r/\CurP r.2:=by
 unfold Mu
 obtain⟨y2,e2,_,_,h2⟩:=Z7 h (n:=9) (by omega)
 obtain⟨y3,e3,_,_,h3⟩:=Z7 h2 (n:=17) (by omega)
 obtain⟨y4,e4,_,_,h4⟩:=Z7 h3 (n:=3) (by omega)
 obtain⟨y5,e5,_,_,h5⟩:=Z7 h4 (n:=14) (by omega)
 obtain⟨y6,e6,_,_,h6⟩:=Z7 h5 (n:=2) (by omega)
 simp only[e2,e3,e4,e5,e6,bS,Lh]
 cases y5.1==0<;>exact⟨_,rfl,by assumption⟩
theorem L1b{c:l01Cur}(h:CurP c):∃r,Uh c=some r/\CurP r.2:=by
 unfold Uh
 obtain⟨y2,e2,h2⟩:=W1b h
 obtain⟨y3,e3,_,_,h3⟩:=Z7 h2 (n:=12) (by omega)
 obtain⟨y4,e4,h4⟩:=M08 h3
 have j21:∀v5 v7:l01Cur×Int,CurP v7.1->∃r,Lb y2 y3 v5 v7=some r/\CurP r.2:=fun v5 v7 hv=>by
  obtain⟨y8,e8,h8⟩:=M08 hv
  simp only[Lb,Yf,e8,bS]
  cases y3.1==2<;>exact⟨_,rfl,by assumption⟩
 have j22:∀v5:l01Cur×Int,CurP v5.1->∃r,Mb y2 y3 v5=some r/\CurP r.2:=fun v5 hv=>by
  obtain⟨y6,e6,h6⟩:=M08 hv
  simp only[Mb,e6,bS]
  cases y3.1==1
  .exact j21 _ _ hv
  .exact j21 _ _ h6
 simp only[e2,e3,e4,bS]
 cases y3.1==0
 .exact j22 _ h3
 .exact j22 _ h4
theorem Lg{t:Topo}{l:List Int}(h:W5 t l=true)(hl:l.length<=1048576)(s:Nat):We t l (s:Int)=some (l.filter fun n=>hasUp t n s):=by
 unfold We
 rw[M8 (bs:=8) (p:=fun n=>hasUp t n s) (f:=fun n=>n) (fun x hx i b k=>by
  unfold WQ
  exact W0T h hx s _) (by simp;omega)]
 unfold QQ
 simp
def rise(n:Int):List Int->List Int
 |[]=>[n]
 |x::l=>if n<x then n::x::l else x::rise n l
theorem O0f(n:Int):∀l:List Int,(rise n l).length=l.length+1
 |[]=>rfl
 |x::l=>by
  unfold rise
  split
  .rfl
  .simp[O0f n l]
theorem J0O(n m:Int):∀l:List Int,m∈rise n l↔m=n\/m∈l
 |[]=>by simp[rise]
 |x::l=>by
  unfold rise
  split
  .simp
  .simp only[List.mem_cons,J0O n m l]
   constructor<;>rintro(h|h|h)<;>simp[h]
theorem M1r(n x:Int)(i:Nat)(v:Bool×List Int)(k:Bool×List Int->Option (List Int)) :
  Oh n x i v k=bif (!v.1)&&decide (n<x)then(appL 8 v.2 [n]).bind fun xs5=>(appL 8 xs5 [x]).bind fun xs7=>k (true,xs7)else(appL 8 v.2 [x]).bind fun xs7=>k (v.1,xs7):=rfl
theorem Y0M{l:List Int}(n:Int)(hl:l.length<=1048576):Jr l n=some (rise n l):=by
 have key:∀(l:List Int) (i:Nat) (acc:List Int),acc.length+l.length<=1048576 ->
   rgl (Oh n) (Mc n) l i (false,acc)=some (acc++rise n l):=by
  have key2:∀(l:List Int) (i:Nat) (acc:List Int),acc.length+l.length<=1048577->rgl (Oh n) (Mc n) l i (true,acc)=some (acc++l):=by
   intro l
   induction l with
   |nil=>intro i acc _;rw[rgl];unfold Mc Lc;simp
   |cons x l ih =>
    intro i acc h
    simp only[yT]at h
    rw[rgl,M1r]
    simp only[yL,Bool.false_and,yM]
    rw[M0 (by simp;omega),bS,ih _ _ (by simp;omega)]
    simp
  intro l
  induction l with
  |nil =>
   intro i acc h
   rw[rgl]
   unfold Mc Lc
   simp only[Bool.not_false,yN]
   simp only[List.length_nil]at h
   rw[M0 (by simp;omega)]
   rfl
  |cons x l ih =>
   intro i acc h
   simp only[yT]at h
   rw[rgl,M1r]
   unfold rise
   by_cases hx:n<x
   .simp only[Bool.not_false,Bool.true_and,hx,decide_true,yN,yb]
    rw[M0 (by simp;omega),bS,M0 (by simp;omega),bS,key2 _ _ _ (by simp;omega)]
    simp
   .simp only[Bool.not_false,Bool.true_and,hx,decide_false,yM,yc]
    rw[M0 (by simp;omega),bS,ih _ _ (by simp;omega)]
    simp
 unfold Jr
 rw[key l 0 [] (by simpa using hl)]
 rfl
def W0u(n:Int)(v ys:List Int):List Int:=ys.foldl (fun v x=>if(v.length:Int)<n then rise x v else v) v
theorem Q0D(n:Int):∀(ys v:List Int),(v.length:Int)<=n->((W0u n v ys).length:Int)=min n ((v.length:Int)+(ys.length:Int))
 |[],v,h=>by simp only[W0u,List.foldl_nil,List.length_nil];omega
 |y::ys,v,h=>by
  unfold W0u
  rw[List.foldl_cons]
  by_cases hv:(v.length:Int)<n
  .have:=Q0D n ys (rise y v) (by rw[O0f];omega)
   unfold W0u at this
   rw[yd hv,this,O0f]
   simp only[yT];omega
  .have:=Q0D n ys v h
   unfold W0u at this
   rw[ye hv,this]
   simp only[yT];omega
theorem J0Z(n m:Int):∀(ys v:List Int),m∈W0u n v ys->m∈v\/m∈ys
 |[],v,h=>.inl h
 |y::ys,v,h=>by
  unfold W0u at h
  rw[List.foldl_cons]at h
  rcases J0Z n m ys _ h with h|h
  .split at h
   .rcases(J0O y m v).1 h with h|h
    .exact .inr (by simp[h])
    .exact .inl h
   .exact .inl h
  .exact .inr (yH _ h)
def O1m(Q:Nat->Prop)(m:Nat)(v:Int):Prop:=(v<0->∀s,s<m->¬ Q s)/\(0<=v->∃s:Nat,v=(s:Int)/\s<m/\Q s)
def Z0Q(t:Topo)(l taken:List Int)(s:Nat):Prop:=(l.filter fun n=>hasUp t n s)≠[]/\kids t.parents (s:Int)=[]/\(s:Int)∉taken
theorem Q1b{t:Topo}{l:List Int}(h:W5 t l=true)(hl:l.length<=1048576)(taken:List Int):∃v,Uj t l taken=some v/\O1m (Z0Q t l taken) t.parents.length v:=by
 have T:=(O6.1 h).1
 unfold Uj
 refine U7 (l0:=t.parents) (fun i (v:Int)=>O1m (Z0Q t l taken) i v) (fun o=>∃v,o=some v/\O1m (Z0Q t l taken) t.parents.length v) (fun i x v k hx hI hk=>?_) (fun v hI=>⟨v,rfl,hI⟩) ⟨fun _ s hs=>by omega,fun h=>by omega⟩
 have hi:=(yB hx).1
 have skip:¬ Z0Q t l taken i->O1m (Z0Q t l taken) (i+1) v:=fun hq=>by
  refine⟨fun hv s hs=>?_,fun hv=>?_⟩
  .by_cases e:s=i
   .subst e;exact hq
   .exact hI.1 hv s (by omega)
  .obtain⟨s,e,hs,q⟩:=hI.2 hv
   exact⟨s,e,by omega,q⟩
 have take:Z0Q t l taken i->O1m (Z0Q t l taken) (i+1) (i:Int):=fun hq=>⟨fun hv=>by omega,fun _=>⟨i,rfl,by omega,hq⟩⟩
 unfold Jp
 rw[Lg h hl i,bS]
 by_cases h0:(l.filter fun n=>hasUp t n i)=[]
 .simp only[h0,List.length_nil,Int.natCast_zero,beq_self_eq_true,yN,bS,Bool.true_or]
  exact hk v (skip fun q=>q.1 h0)
 .have hne:(((l.filter fun n=>hasUp t n i).length:Int)==0)=false:=by
   rw[beq_eq_false_iff_ne]
   have:=List.length_pos_iff.2 h0
   omega
  rw[hne,yM,Qj t (i:Int) (by have:=T.tree.le;omega),bS]
  by_cases hkd:kids t.parents (i:Int)=[]
  .simp only[hkd,List.map_nil,List.length_nil,Int.natCast_zero,Int.lt_irrefl,decide_false,Bool.or_self,yM,Za,bS,Bool.false_or]
   cases ht:taken.contains (i:Int)with
   |true =>
    rw[yN]
    exact hk v (skip fun q=>q.2.2 (List.contains_iff_mem.1 ht))
   |false =>
    have hq:Z0Q t l taken i:=⟨h0,hkd,fun hm=>by rw[List.contains_iff_mem.2 hm]at ht;cases ht⟩
    rw[yM]
    by_cases hv:v<0
    .simp only[hv,decide_true,yN,bS,Bool.true_or]
     exact hk _ (take hq)
    .obtain⟨s,e,hs,q⟩:=hI.2 (by omega)
     subst e
     rw[show decide ((s:Int)<0)=false by simp,yM,Lg h hl s,bS,Bool.false_or]
     cases decide (((l.filter fun n=>hasUp t n s).length:Int)<((l.filter fun n=>hasUp t n i).length:Int))with
     |true=>exact hk _ (take hq)
     |false=>exact hk _ ⟨fun hv=>by omega,fun _=>⟨s,rfl,by omega,q⟩⟩
  .have hpos:decide (0<(((kids t.parents (i:Int)).map fun(n:Nat)=>(n:Int)).length:Int))=true:=by
    have:=List.length_pos_iff.2 hkd
    simp;omega
   simp only[hpos,Bool.or_true,yN,bS,Bool.true_or]
   exact hk v (skip fun q=>hkd q.2.1)
section
variable{α β γ:Type}
theorem J0x{bd:α->Nat->β->(β->Option γ)->Option γ}{kk:β->Option γ}{l0:List α}{f:β->Nat->β}(I:Nat->β->Prop)(hI:∀j b,j<l0.length->I j b->I (j+1) (f b j))
  (h:∀j x b k,l0[j]?=some x->I j b->bd x j b k=k (f b j)) {b:β} (h0:I 0 b):rgl bd kk l0 0 b=kk ((List.range l0.length).foldl f b)/\I l0.length ((List.range l0.length).foldl f b):=by
 have key:∀(m i:Nat) (b:β),l0.length-i=m->i<=l0.length->I i b->rgl bd kk (l0.drop i) i b=kk ((List.range' i m).foldl f b)/\I l0.length ((List.range' i m).foldl f b):=by
  intro m
  induction m with
  |zero =>
   intro i b hm hi hb
   have:i=l0.length:=by omega
   subst this
   rw[List.drop_length]
   exact⟨rfl,hb⟩
  |succ m ih =>
   intro i b hm hi hb
   have h1:i<l0.length:=by omega
   rw[List.drop_eq_getElem_cons h1,rgl,h i _ b _ (yA h1) hb,List.range'_succ,List.foldl_cons]
   exact ih (i+1) _ (by omega) h1 (hI i b h1 hb)
 have:=key l0.length 0 b (by simp) (Nat.zero_le _) h0
 rwa [List.drop_zero,← List.range_eq_range']at this
end
def cntU(t:Topo)(l:List Int)(s:Nat):Nat:=(l.filter fun n=>hasUp t n s).length
def inR(i:Nat)(v:Int):Prop:=-1<=v/\v<(i:Int)
def O0K(t:Topo)(l:List Int)(n level v:Int)(s:Nat):Int :=
 if(cntU t l s:Int)<n\/level<lev t s then v
 else if v<0\/lev t s<lev t v.toNat\/(lev t s=lev t v.toNat/\(cntU t l s:Int)<cntU t l v.toNat)then(s:Int)else v
def swF(t:Topo)(l:List Int)(n level:Int):Int:=(List.range t.parents.length).foldl (O0K t l n level) (-1)
theorem V0Y{t:Topo}{l:List Int}(h:W5 t l=true)(hl:l.length<=1048576)(n level:Int):Xo t l n level=some (swF t l n level)/\inR t.parents.length (swF t l n level):=by
 have T:=(O6.1 h).1
 unfold Xo swF
 refine(J0x (f:=O0K t l n level) inR (fun j v hj hv=>?_) (fun j x v k hx hv=>?_) ⟨by omega,by omega⟩).imp (fun e=>e) fun e=>e
 .obtain⟨v1,v2⟩:=hv
  unfold O0K inR
  split
  .omega
  .split<;>omega
 .have hj:=(yB hx).1
  obtain⟨v1,v2⟩:=hv
  unfold Lt O0K
  rw[Lg h hl j,bS,Qd T hj,bS]
  rw[show(l.filter fun n=>hasUp t n j).length=cntU t l j from rfl]
  by_cases h1:(cntU t l j:Int)<n\/level<lev t j
  .rw[yd h1,show(decide ((cntU t l j:Int)<n)||decide (level<lev t j))=true by simpa using h1,yN]
  .rw[ye h1,show(decide ((cntU t l j:Int)<n)||decide (level<lev t j))=false by
    rw[Bool.eq_false_iff];intro q;exact h1 (by simpa using q),yM]
   by_cases hv0:v<0
   .rw[yd (.inl hv0),show decide (v<0)=true by simpa using hv0]
    rfl
   .obtain⟨m,rfl⟩:∃m:Nat,v=(m:Int):=⟨v.toNat,by omega⟩
    have hm:m<t.parents.length:=by omega
    rw[show decide ((m:Int)<0)=false by simp]
    simp only[yM,Bool.false_or]
    rw[Qd T hm,bS,yZ]
    by_cases h2:lev t j<lev t m
    .rw[yd (.inr (.inl h2)),show decide (lev t j<lev t m)=true by simpa using h2]
     rfl
    .rw[show decide (lev t j<lev t m)=false by simpa using h2,yM,bS,yM]
     by_cases h3:lev t j=lev t m
     .rw[show(lev t j==lev t m)=true by simpa using h3,yN,Lg h hl m,bS]
      rw[show(l.filter fun n=>hasUp t n m).length=cntU t l m from rfl]
      by_cases h4:(cntU t l j:Int)<cntU t l m
      .rw[yd (.inr (.inr ⟨h3,h4⟩)),show decide ((cntU t l j:Int)<(cntU t l m:Int))=true by simpa using h4]
       rfl
      .rw[ye (by omega),show decide ((cntU t l j:Int)<(cntU t l m:Int))=false by simpa using h4]
       rfl
     .rw[show(lev t j==lev t m)=false by simpa using h3,yM,bS,ye (by omega)]
      rfl
def Z0w(t:Topo)(l taken:List Int)(v:Int)(s:Nat):Int :=
 if cntU t l s=0\/kids t.parents (s:Int)≠[]\/(s:Int)∈taken then v
 else if v<0\/cntU t l v.toNat<cntU t l s then(s:Int)else v
def Y0Q(t:Topo)(l taken:List Int):Int:=(List.range t.parents.length).foldl (Z0w t l taken) (-1)
theorem V18{t:Topo}{l:List Int}(h:W5 t l=true)(hl:l.length<=1048576)(taken:List Int):Uj t l taken=some (Y0Q t l taken)/\inR t.parents.length (Y0Q t l taken):=by
 have T:=(O6.1 h).1
 unfold Uj Y0Q
 refine(J0x (f:=Z0w t l taken) inR (fun j v hj hv=>?_) (fun j x v k hx hv=>?_) ⟨by omega,by omega⟩).imp (fun e=>e) fun e=>e
 .obtain⟨v1,v2⟩:=hv
  unfold Z0w inR
  split
  .omega
  .split<;>omega
 .have hj:=(yB hx).1
  obtain⟨v1,v2⟩:=hv
  unfold Jp Z0w
  rw[Lg h hl j,bS]
  rw[show(l.filter fun n=>hasUp t n j).length=cntU t l j from rfl]
  by_cases h0:cntU t l j=0
  .rw[yd (.inl h0),show((cntU t l j:Int)==0)=true by simpa using h0]
   rfl
  .rw[show((cntU t l j:Int)==0)=false by simpa using h0,yM,Qj t (j:Int) (by have:=T.tree.le;omega),bS]
   by_cases hk:kids t.parents (j:Int)=[]
   .simp only[hk,List.map_nil,List.length_nil,Int.natCast_zero,Int.lt_irrefl,decide_false,Bool.or_self,yM,Za,bS,Bool.false_or]
    by_cases ht:(j:Int)∈taken
    .rw[yd (.inr (.inr ht)),List.contains_iff_mem.2 ht,yN]
    .rw[ye (by rintro(q|q|q);exact h0 q;exact q rfl;exact ht q),show taken.contains (j:Int)=false by
      rw[Bool.eq_false_iff];exact fun q=>ht (List.contains_iff_mem.1 q),yM]
     by_cases hv0:v<0
     .rw[yd (.inl hv0),show decide (v<0)=true by simpa using hv0]
      rfl
     .obtain⟨m,rfl⟩:∃m:Nat,v=(m:Int):=⟨v.toNat,by omega⟩
      rw[show decide ((m:Int)<0)=false by simp,yM,Lg h hl m,bS,Bool.false_or,yZ]
      rw[show(l.filter fun n=>hasUp t n m).length=cntU t l m from rfl]
      by_cases h4:cntU t l m<cntU t l j
      .rw[yd (.inr h4),show decide ((cntU t l m:Int)<(cntU t l j:Int))=true by simpa using h4,yN]
      .rw[ye (by omega),show decide ((cntU t l m:Int)<(cntU t l j:Int))=false by simpa using h4,yM]
   .have hpos:decide (0<(((kids t.parents (j:Int)).map fun(n:Nat)=>(n:Int)).length:Int))=true:=by
     have:=List.length_pos_iff.2 hk
     simp;omega
    rw[yd (.inr (.inl hk))]
    simp only[hpos,Bool.or_true,yN,bS,Bool.true_or]
end
def lfOf(t:Topo)(x:Int):Nat:=match idx t.nodes x with
 |some e=>e.leaf.toNat
 |none=>0
theorem O1s{t:Topo}{l:List Int}(h:W5 t l=true){x:Int}(hx:x∈l):hasUp t x (lfOf t x)=true/\lfOf t x<t.parents.length/\kids t.parents (lfOf t x:Int)=[]:=by
 obtain⟨h1,h2⟩:=O6.1 h
 obtain⟨e,q1,q2⟩:=Md (l:=t.nodes) (i:=x) (h2 x hx).1 (h2 x hx).2
 obtain⟨a1,a2,a3,_⟩:=h1.node e (yE q2)
 have e1:lfOf t x=e.leaf.toNat:=by unfold lfOf;rw[q1]
 have e2:(lfOf t x:Int)=e.leaf:=by omega
 refine⟨?_,by omega,by rw[e2];exact a3⟩
 unfold hasUp
 rw[q1,e1]
 simp only[List.contains_iff_mem]
 exact List.mem_map.2 ⟨_,Y0f _ _,rfl⟩
theorem L0Z{α:Type}{r p q:α->Bool}:∀{l:List α},(∀x∈l,r x=true->p x=true\/q x=true)->(l.filter r).length<=(l.filter p).length+(l.filter q).length
 |[],_=>Nat.zero_le _
 |x::l,h=>by
  have ih:=L0Z fun y hy=>h y (yH _ hy)
  have hx:=h x (yJ ..)
  cases hr:r x with
  |false=>cases hp:p x<;>cases hq:q x<;>simp[hr,hp,hq]<;>omega
  |true =>
   rcases hx hr with hp|hq
   .cases hq:q x<;>simp[hr,hp,hq]<;>omega
   .cases hp:p x<;>simp[hr,hp,hq]<;>omega
def cntT(t:Topo)(l taken:List Int):Nat:=(l.filter fun x=>taken.contains (lfOf t x:Int)).length
theorem L1o{t:Topo}{l:List Int}(h:W5 t l=true)(hl:l.length<=1048576){taken:List Int}(hc:cntT t l taken<l.length):∃m:Nat,Y0Q t l taken=(m:Int)/\m<t.parents.length/\(m:Int)∉taken:=by
 obtain⟨v,h1,h2,h3⟩:=Q1b h hl taken
 have e:=(V18 h hl taken).1
 rw[h1]at e
 have e:v=Y0Q t l taken:=Option.some.inj e
 subst e
 have:∃x∈l,(lfOf t x:Int)∉taken:=by
  by_cases hx:∃x∈l,(lfOf t x:Int)∉taken
  .exact hx
  .have:l.filter (fun x=>taken.contains (lfOf t x:Int))=l:=List.filter_eq_self.2 fun x hxl=>by
    rw[List.contains_iff_mem]
    by_cases hm:(lfOf t x:Int)∈taken
    .exact hm
    .exact absurd ⟨x,hxl,hm⟩ hx
   unfold cntT at hc
   rw[this]at hc
   omega
 obtain⟨x,hx,hm⟩:=this
 obtain⟨q1,q2,q3⟩:=O1s h hx
 have hne:(l.filter fun n=>hasUp t n (lfOf t x))≠[]:=fun q=>by
  have:x∈l.filter fun n=>hasUp t n (lfOf t x):=List.mem_filter.2 ⟨hx,q1⟩
  rw[q]at this
  cases this
 have hQ:Z0Q t l taken (lfOf t x):=⟨hne,q3,hm⟩
 have hv:0<=Y0Q t l taken:=by
  by_cases hv:Y0Q t l taken<0
  .exact absurd hQ (h2 hv _ q2)
  .omega
 obtain⟨m,e,hm,q⟩:=h3 hv
 exact⟨m,e,hm,q.2.2⟩
theorem J0T{n:Int}{k11:(List Int×List Int)->Option (List Int×Bool)}{xs:List Int}:∀(ys:List Int) (i:Nat) (v:List Int),v.length+ys.length<=1048576->rgl (Uv n) (ZL k11 xs) ys i v=k11 (W0u n v ys,xs)
 |[],_,_,_=>rfl
 |y::ys,i,v,h=>by
  simp only[yT]at h
  have e:W0u n v (y::ys)=W0u n (if(v.length:Int)<n then rise y v else v) ys:=rfl
  rw[rgl,e]
  unfold Uv
  by_cases hv:(v.length:Int)<n
  .rw[show decide ((v.length:Int)<n)=true by simpa using hv,yN,Y0M y (by omega),bS,yd hv]
   exact J0T ys _ _ (by rw[O0f];omega)
  .rw[show decide ((v.length:Int)<n)=false by simpa using hv,yM,ye hv]
   exact J0T ys _ _ (by omega)
def chL(t:Topo)(l:List Int)(n:Int):Nat->List Int->List Int->List Int
 |0,out,_=>out
 |k+1,out,taken=>if(out.length:Int)<n then chL t l n k (W0u n out (l.filter fun x=>hasUp t x (Y0Q t l taken).toNat)) (taken++[Y0Q t l taken])else out
theorem O1c{t:Topo}{l:List Int}{n:Int}(h:W5 t l=true)(hl:l.length<=24)(h0:1<=n)(hn:n<=l.length) :
    whl (Qk t n l) 9223372036854775807 ([],[])=some (chL t l n (t.parents.length+1) [] [],true)/\((chL t l n (t.parents.length+1) [] []).length:Int)=n/\∀m∈chL t l n (t.parents.length+1) [] [],m∈l:=by
  have T:=(O6.1 h).1
  have hP:=T.tree.le
  have:=UQ (bd:=Qk t n l) (fun b o=>o=some (chL t l n (t.parents.length+1-b.2.length) b.1 b.2,true)/\((chL t l n (t.parents.length+1-b.2.length) b.1 b.2).length:Int)=n/\∀m∈chL t l n (t.parents.length+1-b.2.length) b.1 b.2,m∈l)
    (fun b=>t.parents.length-b.2.length) (fun b=>(b.1.length:Int)<=n/\(∀m∈b.1,m∈l)/\b.2.Nodup/\(∀s∈b.2,s∈(List.range t.parents.length).map fun(i:Nat)=>(i:Int))/\((b.1.length:Int)<n->cntT t l b.2<=b.1.length)) ?_ 9223372036854775807 ([],[])
    ⟨by simp;omega,by simp,List.nodup_nil,by simp,fun _=>by simp[cntT]⟩ (by simp;omega)
  · simpa using this
  rintro⟨out,taken⟩ k ⟨i1,i2,i3,i4,i5⟩ hk
  simp only at i1 i2 i3 i4 i5 hk ⊢
  have hlen:taken.length<=t.parents.length:=by simpa using i3.length_le_of_subset i4
  unfold Qk
  simp only
  rw[show t.parents.length+1-taken.length=(t.parents.length-taken.length)+1 by omega,chL]
  by_cases ho:(out.length:Int)<n
  · obtain⟨m,e,hm,hmt⟩:=L1o h (by omega) (taken:=taken) (by have:=i5 ho;omega)
    rw[show decide ((out.length:Int)<n)=true by simpa using ho,yN,(V18 h (by omega) taken).1,bS,yd ho]
    rw[e,yZ]
    rw[M0 (by simp;omega),bS,Lg h (by omega) m,bS]
    have hfl:(l.filter fun x=>hasUp t x m).length<=l.length:=List.length_filter_le ..
    rw[J0T _ _ _ (by omega)]
    have hnd:(taken++[(m:Int)]).Nodup:=by
      rw[List.nodup_append]
      exact⟨i3,by simp,fun a ha b hb q=>by simp at hb;subst hb;subst q;exact hmt ha⟩
    have hsub:∀s∈taken++[(m:Int)],s∈(List.range t.parents.length).map fun(i:Nat)=>(i:Int):=fun s hs=>by
      rcases List.mem_append.1 hs with hs|hs
      · exact i4 s hs
      · simp at hs;subst hs
        exact List.mem_map.2 ⟨m,List.mem_range.2 hm,rfl⟩
    have hlen2:taken.length+1<=t.parents.length:=by simpa using hnd.length_le_of_subset hsub
    have hfn:=Q0D n (l.filter fun x=>hasUp t x m) out i1
    have:=hk (W0u n out (l.filter fun x=>hasUp t x m),taken++[(m:Int)]) ⟨by simp only;omega,fun y hy=>?_,hnd,hsub,fun hlt=>?_⟩ (by simp;omega)
    · simp only[yU,yT,List.length_nil]at this
      rw[show t.parents.length+1-(taken.length+(0+1))=t.parents.length-taken.length by omega]at this
      exact this
    · rcases J0Z n y _ _ hy with hy|hy
      · exact i2 y hy
      · exact(List.mem_filter.1 hy).1
    · simp only at hlt ⊢
      have c1:=i5 ho
      have c2:cntT t l (taken++[(m:Int)])<=cntT t l taken+(l.filter fun x=>hasUp t x m).length:=L0Z fun x hx hr=>by
        rw[List.contains_iff_mem]at hr
        rcases List.mem_append.1 hr with hr|hr
        · exact .inl (List.contains_iff_mem.2 hr)
        · have hr:(lfOf t x:Int)=(m:Int):=by simpa using hr
          have hr:lfOf t x=m:=by omega
          exact .inr (hr ▸ (O1s h hx).1)
      omega
  · rw[show decide ((out.length:Int)<n)=false by simpa using ho,yM,ye ho]
    exact⟨rfl,by omega,i2⟩
theorem L15{α γ:Type}{bd:α->Nat->Unit->(Unit->Option γ)->Option γ}{kk:Unit->Option γ}{p:α->Nat->Bool}{r:Option γ}:∀{l:List α} {i:Nat},(∀j x k,l[j]?=some x->bd x (i+j) () k=bif p x (i+j)then r else k ())->rgl bd kk l i ()=bif (l.zipIdx i).any (fun q=>p q.1 q.2)then r else kk ()
 |[],_,_=>rfl
 |x::l,i,h=>by
  have h0:=h 0 x (fun b'=>rgl bd kk l (i+1) b') rfl
  rw[Nat.add_zero]at h0
  rw[rgl,h0,List.zipIdx_cons,List.any_cons]
  cases p x i with
  |true=>rfl
  |false =>
   rw[yM,Bool.false_or]
   exact L15 fun j y k hy=>by
    have:=h (j+1) y k (by simpa using hy)
    rwa [show i+(j+1)=i+1+j by omega]at this
theorem Q0Z{α β:Type}(P:β->Prop){f:β->α->β}(h:∀b x,P b->P (f b x)):∀(l:List α) (b:β),P b->P (l.foldl f b)
 |[],_,hb=>hb
 |x::l,b,hb=>Q0Z P h l _ (h b x hb)
theorem Y1C{t:Topo}{l:List Int}{n level:Int}(h:0<=swF t l n level):n<=cntU t l (swF t l n level).toNat/\lev t (swF t l n level).toNat<=level:=by
 have:=Q0Z (fun v:Int=>v<0\/(n<=cntU t l v.toNat/\lev t v.toNat<=level)) (f:=O0K t l n level) (fun v s hv=>by
  unfold O0K
  split
  .exact hv
  .rename_i h1
   split
   .exact .inr (by rw[yZ];omega)
   .exact hv) (List.range t.parents.length) (-1) (.inl (by omega))
 rcases this with q|q
 .exact absurd q (by unfold swF at h;omega)
 .exact q
def V1g(l:List Int)(i:Nat):Int:=if 0<i then(l[i-1]?).getD default else default
theorem X1g{l:List Int}{i:Nat}(hi:i<l.length)(hl:l.length<=1048576):(bif decide (0<(i:Int))then idx l (w64 ((i:Int)-1))else some default)=some (V1g l i):=by
 unfold V1g
 by_cases h:0<i
 .have e:w64 ((i:Int)-1)=((i-1:Nat):Int):=by rw[V4 (by omega)];omega
  rw[show decide (0<(i:Int))=true by simpa using h,yN,e,Y8,yd h,yA (by omega)]
  rfl
 .rw[show decide (0<(i:Int))=false by simpa using h,yM,ye h]
def Y1z(l:List Int):Bool:=(l.zipIdx 0).any fun q=>decide (0<(q.2:Int))&&decide (q.1<=V1g l q.2)
def Q1i(t:Topo)(l:List Int)(n level:Int):List Int:=l.filter fun x=>hasUp t x (swF t l n level).toNat
noncomputable def X0n(t:Topo)(l:List Int)(n level:Int):List Int×Bool :=
 if W5 t l=true/\1<=n/\Y1z l=false/\0<=swF t l n level then(chL t (Q1i t l n level) n (t.parents.length+1) [] [],true)else([],false)
theorem Q0F{t:Topo}{l:List Int}(hl:l.length<=24)(n level:Int):VL t l n level=some (X0n t l n level)/\((X0n t l n level).2=true->((X0n t l n level).1.length:Int)=n/\∀m∈(X0n t l n level).1,m∈l):=by
 unfold VL X0n
 rw[Xq,bS]
 by_cases hno:W5 t l=true
 .by_cases hn:1<=n
  .rw[hno,show decide (n<1)=false by simp;omega,yL,Bool.or_self,yM]
   rw[L15 (r:=some ([],false)) (p:=fun x i=>decide (0<(i:Int))&&decide (x<=V1g l i)) (fun j x k hx=>by
    have hj:=(yB hx).1
    rw[Nat.zero_add]
    unfold XL
    rw[X1g hj (by omega),bS])]
   rw[show((l.zipIdx 0).any fun q=>decide (0<(q.2:Int))&&decide (q.1<=V1g l q.2))=Y1z l from rfl]
   cases hf:Y1z l with
   |true =>
    rw[ye (by rintro⟨_,_,q,_⟩;cases q)]
    exact⟨rfl,fun q=>by cases q⟩
   |false =>
    rw[yM]
    unfold YL
    obtain⟨s1,s2⟩:=V0Y hno (by omega) n level
    rw[s1,bS]
    by_cases hs:0<=swF t l n level
    .rw[yd ⟨rfl,hn,rfl,hs⟩,show decide (swF t l n level<0)=false by simp;omega,yM]
     obtain⟨m,e⟩:∃m:Nat,swF t l n level=(m:Int):=⟨(swF t l n level).toNat,by omega⟩
     have e2:We t l (swF t l n level)=some (Q1i t l n level):=by
      unfold Q1i
      rw[e,yZ,Lg hno (by omega) m]
     rw[e2,bS]
     have hle:(Q1i t l n level).length<=l.length:=List.length_filter_le ..
     have hmine:W5 t (Q1i t l n level)=true:=O6.2 ⟨(O6.1 hno).1,fun x hx=>(O6.1 hno).2 x (List.mem_filter.1 hx).1⟩
     obtain⟨c1,c2,c3⟩:=O1c (n:=n) hmine (by omega) hn (Y1C hs).1
     rw[c1]
     exact⟨rfl,fun _=>⟨c2,fun x hx=>(List.mem_filter.1 (c3 x hx)).1⟩⟩
    .rw[ye fun q=>hs q.2.2.2,show decide (swF t l n level<0)=true by simp;omega,yN]
     exact⟨rfl,fun q=>by cases q⟩
  .rw[ye fun q=>hn q.2.1,show(!W5 t l||decide (n<1))=true by
    rw[show decide (n<1)=true by simp;omega,Bool.or_true],yN]
   exact⟨rfl,fun q=>by cases q⟩
 .rw[ye fun q=>hno q.1,show W5 t l=false by simpa using hno,Bool.not_false,Bool.true_or,yN]
  exact⟨rfl,fun q=>by cases q⟩
def LY(fr:Int)(v:List Int)(x:Pt):List Int:=bif decide (fr<x.t)&&!v.contains x.t then rise x.t v else v
theorem W1a(fr:Int)(v:List Int)(x:Pt):(LY fr v x).length<=v.length+1:=by
 unfold LY
 cases(decide (fr<x.t)&&!v.contains x.t)with
 |true=>rw[yN,O0f];exact yV _
 |false=>rw[yM];omega
theorem Z1e{fr:Int}{k:List Int->Option (List Int)}:∀(p:List Pt) (i:Nat) (v:List Int),v.length+p.length<=1048576->rgl (Ll fr) (Lx k) p i v=k (p.foldl (LY fr) v)/\(p.foldl (LY fr) v).length<=v.length+p.length
 |[],_,_,_=>⟨rfl,by simp⟩
 |x::p,i,v,h=>by
  simp only[yT]at h
  have hs:=W1a fr v x
  obtain⟨q1,q2⟩:=Z1e (fr:=fr) (k:=k) p (i+1) (LY fr v x) (by omega)
  refine⟨?_,by simp only[List.foldl_cons,yT];omega⟩
  rw[rgl,List.foldl_cons]
  unfold Ll
  rw[← q1]
  unfold LY
  by_cases hx:fr<x.t
  .rw[show decide (fr<x.t)=true by simpa using hx,yN,Za,bS,Bool.true_and]
   cases v.contains x.t with
   |true=>rfl
   |false =>
    simp only[Bool.not_false,yN]
    rw[Y0M _ (by omega),bS]
    rfl
  .rw[show decide (fr<x.t)=false by simpa using hx,yM,bS,Bool.false_and,yM]
   rfl
def timesF(fr:Int)(ps:List (List Pt))(v:List Int):List Int:=ps.foldl (fun v p=>p.foldl (LY fr) v) v
theorem J1d{fr:Int}:∀(ps:List (List Pt)) (i:Nat) (v:List Int),(∀p∈ps,p.length<=200)->v.length+200*ps.length<=1048576->rgl (Ml fr) Mx ps i v=some (timesF fr ps v)/\(timesF fr ps v).length<=v.length+200*ps.length
 |[],_,_,_,_=>⟨rfl,by simp[timesF]⟩
 |p::ps,i,v,hp,h=>by
  simp only[yT]at h
  have h1:=hp p (yJ ..)
  obtain⟨_,b2⟩:=Z1e (fr:=fr) (k:=fun _=>none) p 0 v (by omega)
  obtain⟨q1,q2⟩:=J1d (fr:=fr) ps (i+1) (p.foldl (LY fr) v) (fun q hq=>hp q (yH _ hq)) (by omega)
  have e:timesF fr (p::ps) v=timesF fr ps (p.foldl (LY fr) v):=rfl
  refine⟨?_,by rw[e];simp only[yT];omega⟩
  rw[rgl,e,← q1]
  unfold Ml
  exact(Z1e p 0 v (by omega)).1
theorem V13{r:Room}(h:RoomP r)(fr:Int):Mt r fr=some (timesF fr (r.profs++[r.lics]) [fr]):=by
 have h1:=h.topo.nodes
 have h2:=h.profs
 unfold Mt
 rw[M0 (by simp;omega),bS,List.nil_append,M0 (by simp;omega),bS]
 rw[show lenQ (r.profs++[r.lics])=some () by unfold lenQ;rw[yd (by simp;omega)],bS]
 refine(J1d _ 0 _ (fun p hp=>?_) (by simp;omega)).1
 rcases List.mem_append.1 hp with hp|hp
 .exact(h.prof p hp).le
 .simp at hp;subst hp;exact h.lics.le
def W0x(fr to_:Int):Bool:=time fr&&time to_&&decide (fr<to_)
def X0w(r:Room)(need:Vec)(fr to_:Int)(v:List Int)(i:Nat):List Int :=
 bif (r.up[i]?).getD false&&L3 need (minV ((r.profs[i]?).getD []) fr to_)then v++[(i:Int)]else v
def X1q(r:Room)(need:Vec)(fr to_:Int):List Int:=bif W0x fr to_ then(List.range r.profs.length).foldl (X0w r need fr to_) []else[]
theorem Z08{fr to_:Int}:W0x fr to_=true↔time fr=true/\time to_=true/\fr<to_:=by simp[W0x,and_assoc]
theorem W0q{r:Room}(R:RoomP r)(need:Vec)(fr to_:Int):Vv r need fr to_=some (X1q r need fr to_)/\(X1q r need fr to_).length<=24:=by
 have h24:=R.topo.nodes
 have hpl:=R.profs
 unfold Vv X1q
 rw[JA,bS,XU.2 R,yL,yM]
 cases hs:W0x fr to_ with
 |true =>
  obtain⟨q2,q3,q4⟩:=Z08.1 hs
  rw[yN]
  refine(J0x (b:=([]:List Int)) (f:=X0w r need fr to_) (fun i (v:List Int)=>v.length<=i) (fun j v hj hv=>?_) (fun j x v k hx hv=>?_) (yV 0)).imp (fun e=>e) fun e=>by omega
  .unfold X0w
   cases(r.up[j]?).getD false&&L3 need (minV ((r.profs[j]?).getD []) fr to_)with
   |true=>rw[yN];simp;omega
   |false=>rw[yM];omega
  .have hj:=(yB hx).1
   obtain⟨u,hu⟩:∃u,r.up[j]?=some u:=⟨_,yA (by rw[R.up,← R.profs];exact hj)⟩
   unfold Wm X0w
   rw[Yv,bS,yd ⟨MJ.2 (R.prof _ (yE hx)),q2,q3,q4⟩,Y8,hu,hx]
   simp only[yN,bS,Option.getD_some,Bool.true_and]
   cases(u&&L3 need (minV x fr to_))with
   |true=>rw[yN,yN,M0 (by simp;omega),bS]
   |false=>rfl
 |false =>
  have hn:¬ (time fr=true/\time to_=true/\fr<to_):=fun q=>by rw[Z08.2 q]at hs;cases hs
  rw[yM]
  refine⟨?_,by simp⟩
  refine U7 (l0:=r.profs) (fun i (v:List Int)=>v=[]) (fun o=>o=some []) (fun i x v k hx hI hk=>?_) (fun v hI=>by rw[hI];rfl) rfl
  subst hI
  unfold Wm
  rw[Yv,bS,ye fun q=>hn q.2]
  exact hk _ rfl
noncomputable def canM(r:Room)(j:Job)(t:Int):List Int×Bool :=
 bif W0x t (t+j.wall)&&L3 j.lic (minV r.lics t (t+j.wall))then X0n r.topo (X1q r j.need t (t+j.wall)) j.nodes j.level else([],false)
theorem J1i{r:Room}(R:RoomP r){j:Job}(hj:W1 j=true){t:Int}(ht:time t=true):XK r j t=some (canM r j t):=by
 have hw:=(VD.1 hj).2.2.2.2.2.1
 have ht':=YV.1 ht
 unfold XK canM
 rw[V4 (by omega),Yv,bS]
 by_cases hs:W0x t (t+j.wall)=true
 .obtain⟨q2,q3,q4⟩:=Z08.1 hs
  rw[yd ⟨MJ.2 R.lics,q2,q3,q4⟩,hs,Bool.true_and]
  simp only[yL,Bool.false_or]
  cases L3 j.lic (minV r.lics t (t+j.wall))with
  |false=>rfl
  |true =>
   obtain⟨e1,e2⟩:=W0q R j.need t (t+j.wall)
   rw[yL,yM,yN,e1,bS,(Q0F e2 j.nodes j.level).1]
   rfl
 .rw[ye fun q=>hs (Z08.2 q.2),show W0x t (t+j.wall)=false by simpa using hs]
  rfl
theorem V1r(fr m:Int):∀(p:List Pt) (v:List Int),m∈p.foldl (LY fr) v->m∈v\/∃x∈p,m=x.t
 |[],_,h=>.inl h
 |x::p,v,h=>by
  rw[List.foldl_cons]at h
  rcases V1r fr m p _ h with h|⟨y,hy,e⟩
  .unfold LY at h
   cases hc:(decide (fr<x.t)&&!v.contains x.t)with
   |false=>rw[hc,yM]at h;exact .inl h
   |true =>
    rw[hc,yN]at h
    rcases(J0O x.t m v).1 h with h|h
    .exact .inr ⟨x,yJ ..,h⟩
    .exact .inl h
  .exact .inr ⟨y,yH _ hy,e⟩
theorem W0K(fr m:Int):∀(ps:List (List Pt)) (v:List Int),m∈timesF fr ps v->m∈v\/∃p∈ps,∃x∈p,m=x.t
 |[],_,h=>.inl h
 |p::ps,v,h=>by
  have e:timesF fr (p::ps) v=timesF fr ps (p.foldl (LY fr) v):=rfl
  rw[e]at h
  rcases W0K fr m ps _ h with h|⟨q,hq,x,hx,e⟩
  .rcases V1r fr m p v h with h|⟨x,hx,e⟩
   .exact .inl h
   .exact .inr ⟨p,yJ ..,x,hx,e⟩
  .exact .inr ⟨q,yH _ hq,x,hx,e⟩
theorem M15{α γ:Type}{bd:α->Nat->Unit->(Unit->Option γ)->Option γ}{kk:Unit->Option γ}{p:α->Bool}{g:α->γ}:∀{l:List α} {i:Nat},(∀x∈l,∀i k,bd x i () k=bif p x then some (g x)else k ())->rgl bd kk l i ()=match l.find? p with
  |some x=>some (g x)
  |none=>kk ()
 |[],_,_=>rfl
 |x::l,i,h=>by
  rw[rgl,h x (yJ ..),List.find?_cons]
  cases p x with
  |true=>rfl
  |false=>exact M15 fun y hy=>h y (yH _ hy)
noncomputable def U1z(r:Room)(j:Job)(fr:Int):Int×List Int×Bool :=
 match(timesF fr (r.profs++[r.lics]) [fr]).find? (fun t=>(canM r j t).2)with
 |some t=>(t,(canM r j t).1,true)
 |none=>(0,[],false)
theorem U00(r:Room)(j:Job)(fr:Int):Om r j fr=some (bif roomOk r&&W1 j&&time fr then U1z r j fr else(0,[],false)):=by
 unfold Om
 rw[JA,bS,Je]
 cases hr:roomOk r with
 |false=>rfl
 |true=>cases hj:W1 j with
  |false=>rfl
  |true=>cases ht:time fr with
   |false=>rfl
   |true =>
    have R:=XU.1 hr
    simp only[yL,Bool.or_self,yM,Bool.and_self,yN]
    rw[V13 R,bS]
    have hall:∀t∈timesF fr (r.profs++[r.lics]) [fr],time t=true:=fun t h=>by
     rcases W0K fr t _ _ h with h|⟨p,hp,x,hx,rfl⟩
     .rw[List.mem_singleton.1 h];exact ht
     .rcases List.mem_append.1 hp with hp|hp
      .exact((R.prof p hp).ok x hx).1
      .rw[List.mem_singleton.1 hp]at hx;exact(R.lics.ok x hx).1
    rw[M15 (p:=fun t=>(canM r j t).2) (g:=fun t=>(t,(canM r j t).1,true)) (fun t h i k=>by
     unfold Zz
     rw[J1i R hj (hall t h),bS])]
    unfold U1z Jy
    cases(timesF fr (r.profs++[r.lics]) [fr]).find? (fun t=>(canM r j t).2)<;>rfl
def insJ(x:Job):List Job->List Job
 |[]=>[x]
 |y::l=>if U6 x y then x::y::l else y::insJ x l
theorem J0g(x:Job):∀l:List Job,(insJ x l).Perm (x::l)
 |[]=>.refl _
 |y::l=>by
  unfold insJ
  split
  .exact .refl _
  .exact((J0g x l).cons y).trans (.swap x y l)
theorem X1p(x:Job)(l:List Job):(insJ x l).length=l.length+1:=(J0g x l).length_eq
theorem X0Y{x y:Job}(h:U6 x y=true):Q0r x y=true:=by
 unfold U6 at h;unfold Q0r
 simp at h ⊢;omega
theorem X0Q{x y:Job}(h:¬ U6 x y=true):Q0r y x=true:=by
 unfold U6 at h;unfold Q0r
 simp at h ⊢;omega
theorem Q13{x y z:Job}(h1:Q0r x y=true)(h2:Q0r y z=true):Q0r x z=true:=by
 unfold Q0r at *
 simp at h1 h2 ⊢;omega
theorem Y0C(x:Job):∀{l:List Job},l.Pairwise (fun a b=>Q0r a b=true)->(insJ x l).Pairwise (fun a b=>Q0r a b=true)
 |[],_=>by simp[insJ]
 |y::l,h=>by
  unfold insJ
  obtain⟨h1,h2⟩:=List.pairwise_cons.1 h
  split
  .rename_i hb
   refine List.pairwise_cons.2 ⟨fun z hz=>?_,h⟩
   rcases yX hz with rfl|hz
   .exact X0Y hb
   .exact Q13 (X0Y hb) (h1 z hz)
  .rename_i hb
   refine List.pairwise_cons.2 ⟨fun z hz=>?_,Y0C x h2⟩
   rcases yX ((J0g x l).mem_iff.1 hz)with rfl|hz
   .exact X0Q hb
   .exact h1 z hz
def ordF(l:List Job):List Job:=l.foldl (fun v x=>insJ x v) []
theorem O16:∀(l v:List Job),(l.foldl (fun v x=>insJ x v) v).Perm (l++v)/\(v.Pairwise (fun a b=>Q0r a b=true)->(l.foldl (fun v x=>insJ x v) v).Pairwise (fun a b=>Q0r a b=true))
 |[],v=>⟨.refl _,id⟩
 |x::l,v=>by
  obtain⟨h1,h2⟩:=O16 l (insJ x v)
  exact⟨h1.trans (((J0g x v).append_left l).trans List.perm_middle),fun h=>h2 (Y0C x h)⟩
theorem X0y(l:List Job):(ordF l).Perm l:=by unfold ordF;simpa using(O16 l []).1
theorem V1x(x:Job)(k:List Job->Option (List Job))(l:List Job):∀(i:Nat) (acc:List Job),acc.length+l.length<=1000002->rgl (Wi x) (Qi x k) l i (true,acc)=k (acc++l):=by
 induction l with
 |nil=>intro i acc h;simp[rgl,Qi]
 |cons y l ih =>
  intro i acc h
  simp only[yT]at h
  rw[rgl,Wi]
  simp only[yL,Bool.false_and,yM,Xa]
  rw[M0 (by simp;omega),bS,ih (i+1) (acc++[y]) (by simp;omega)]
  simp
theorem Q1G(x:Job)(k:List Job->Option (List Job))(l:List Job):∀(i:Nat) (p:Bool) (acc:List Job),acc.length+l.length<=1000000->rgl (Wi x) (Qi x k) l i (p,acc)=k (acc++if p then l else insJ x l):=by
 induction l with
 |nil =>
  intro i p acc h
  simp only[rgl,Qi]
  cases p with
  |true=>simp
  |false =>
   simp only[Bool.not_false,yN,insJ]
   rw[M0 (by simp at h ⊢;omega),bS];simp
 |cons y l ih =>
  intro i p acc h
  simp only[yT]at h
  rw[rgl,Wi]
  cases p with
  |true =>
   simp only[yL,Bool.false_and,yM,Xa,yb]
   rw[M0 (by simp;omega),bS,ih (i+1) true (acc++[y]) (by simp;omega)]
   simp
  |false =>
   simp only[Bool.not_false,Bool.true_and,insJ]
   cases hb:U6 x y with
   |true =>
    simp only[yN,yb,Xa]
    rw[M0 (by simp;omega),bS,M0 (by simp;omega),bS]
    rw[V1x x k l (i+1) _ (by simp;omega)]
    simp
   |false =>
    simp only[yM,Xa]
    rw[M0 (by simp;omega),bS,ih (i+1) false (acc++[y]) (by simp;omega)]
    simp
theorem W1o(l:List Job):∀(i:Nat) (v:List Job),v.length+l.length<=1000000->rgl VB VR l i v=some (l.foldl (fun v x=>insJ x v) v):=by
 induction l with
 |nil=>intro i v _;rfl
 |cons x l ih =>
  intro i v h
  simp only[yT]at h
  rw[rgl,VB,Q1G x _ v 0 false [] (by simp;omega)]
  simp only[List.nil_append,yG,yc]
  rw[ih (i+1) (insJ x v) (by rw[X1p];omega)]
  rfl
theorem Mm{l:List Job}(h:queueOk l=true):l.length<=60/\(∀x∈l,W1 x=true)/\(l.map Job.id).Nodup:=by
 unfold queueOk idsOk at h
 simp only[yD,yO,List.all_eq_true]at h
 exact⟨h.1.1,h.1.2,h.2⟩
theorem X0O{l:List Job}(h:queueOk l=true):MT l=some (ordF l):=by
 unfold MT
 rw[MK,bS,h]
 simp only[yL,yM]
 have:=(Mm h).1
 exact W1o l 0 [] (by simp;omega)
theorem L0j(r:Room)(j:Job)(t:Int)(nodes:List Int):∃q,Jj r j t nodes=some q/\(q.2=true->nodes.length<=24):=by
 rw[O03]
 cases hd:(diffOk r j nodes&&time t)with
 |false=>exact⟨Mo,rfl,fun h=>by cases h⟩
 |true =>
  simp only[yD]at hd
  have hd1:=hd.1
  unfold diffOk at hd1
  simp only[yD,yO]at hd1
  obtain⟨q,q1,_⟩:=U0e (XU.1 hd1.1.1.1.1) j.need j.lic t (w64 (t+j.wall)) hd1.1.2
  exact⟨q,q1,fun _=>by have:=VD.1 hd1.1.1.1.2;omega⟩
structure HeldsOk(L:List Job)(hs:List Held):Prop where
 sub:(hs.map Held.id).Sublist (L.map Job.id)
 nodes:∀h∈hs,h.nodes.length<=24
theorem Q1g{r:Room}{now d:Int}{L:List Job}(hL:L.length<=60):∃p,rgl (Wd now d) Xk L 0 (r,[],[])=some p/\HeldsOk L p.1:=by
 refine U7 (fun i (v:Room×List Held×List Held)=>HeldsOk (L.take i) v.2.1/\v.2.1.length<=i/\v.2.2.length<=i) (fun o=>∃p:List Held×List Held×Bool,o=some p/\HeldsOk L p.1) (fun i x v k hx hI hk=>?_) (fun v hI=>?_) ⟨⟨by simp,by simp⟩,by simp,by simp⟩
 .obtain⟨hi,rfl⟩:=yB hx
  obtain⟨hI,l1,l2⟩:=hI
  have grow:∀{hs},HeldsOk (L.take i) hs->HeldsOk (L.take (i+1)) hs:=fun h=>⟨h.sub.trans ((List.take_sublist_take_left (by omega)).map _),h.nodes⟩
  unfold Wd
  rw[U00,bS]
  generalize (bif roomOk v.1&&W1 L[i]&&time now then U1z v.1 L[i] now else(0,[],false))=y
  cases hc:((!y.2.2)||((decide (now<y.1))&&(decide (d<=(v.2.2.length:Int)))))with
  |true=>exact hk _ ⟨grow hI,by simp only;omega,by simp only;omega⟩
  |false =>
   obtain⟨q,q1,q2⟩:=L0j v.1 L[i] y.1 y.2.1
   simp only[yM,q1,bS]
   cases hq:q.2 with
   |false=>exact hk _ ⟨grow hI,by simp only;omega,by simp only;omega⟩
   |true =>
    have hn:=q2 hq
    simp only[yL,yM]
    cases y.1==now with
    |true =>
     simp only[yN]
     rw[M0 (by simp;omega),bS]
     refine hk _ ⟨⟨?_,fun h hh=>?_⟩,by simp;omega,by simp only;omega⟩
     .rw[List.take_succ_eq_append_getElem hi,List.map_append,List.map_append]
      exact hI.sub.append (.refl _)
     .rcases List.mem_append.1 hh with hh|hh
      .exact hI.nodes h hh
      .rw[List.mem_singleton.1 hh];exact hn
    |false =>
     simp only[yM]
     rw[M0 (by simp;omega),bS]
     exact hk _ ⟨grow hI,by simp only;omega,by simp;omega⟩
 .rw[List.take_of_length_le (yV _)]at hI
  exact⟨_,rfl,hI.1⟩
structure SmallS(s:State):Prop where
 up:s.up.length<=1048576
 par:s.topo.parents.length<=1048576
 nodes:s.topo.nodes.length<=1048576
 jobs:s.queue.length+s.runs.length<=1048576
 ends:s.ends.length<=1048576
 run:∀x∈s.runs,x.nodes.length<=1048576
theorem Wj{s:State}(h:SmallS s):J7 s=some s:=by
 unfold J7
 have:=h.up;have:=h.par;have:=h.nodes;have:=h.jobs;have:=h.ends
 rw[M0 (by simp;omega),bS,M0 (by simp;omega),bS,M0 (by simp;omega),bS,M0 (by simp;omega),bS]
 rw[M8 (bd:=Wp) (bs:=120) (p:=fun _=>true) (f:=id) (fun x hx i b k=>by
  have:=h.run x hx
  unfold Wp
  rw[M0 (by simp;omega),bS];simp) (by simp;omega)]
 unfold VE
 rw[M0 (by simp;omega),bS]
 simp[List.filter_eq_self.2]
theorem L1k(j:Job)(b:List Job)(id:Int)(hj:j.id=id):∀(a:List Job) (i:Nat),(∀x∈a,x.id≠id)->rgl (Oc id) UE (a++j::b) i ()=some (j,true)
 |[],i,_=>by simp[rgl,Oc,hj]
 |x::a,i,h=>by
  have hx:(x.id==id)=false:=by simpa using h x (yJ ..)
  rw[List.cons_append,rgl,Oc,hx,yM]
  exact L1k j b id hj a (i+1) fun y hy=>h y (yH _ hy)
theorem U1G{j:Job}{a b:List Job}{id:Int}(hl:a.length+b.length<=1048576)(hj:j.id=id)(ha:∀x∈a,x.id≠id)(hb:∀x∈b,x.id≠id):Vj (a++j::b) id=some (a++b):=by
 unfold Vj
 rw[M8 (bd:=Xt id) (bs:=88) (p:=fun x=>x.id != id) (f:=fun x=>x) (fun x _ i b k=>rfl) (by simp;omega)]
 unfold JJ
 have e1:a.filter (fun x=>x.id != id)=a:=List.filter_eq_self.2 fun x hx=>by simpa using ha x hx
 have e2:b.filter (fun x=>x.id != id)=b:=List.filter_eq_self.2 fun x hx=>by simpa using hb x hx
 rw[List.filter_append,List.filter_cons,e1,e2]
 simp[hj]
structure StartP(s s':State)(new:List Run):Prop where
 topo:s'.topo=s.topo
 up:s'.up=s.up
 lic:s'.lic=s.lic
 depth:s'.depth=s.depth
 now:s'.now=s.now
 ends:s'.ends=s.ends
 runs:s'.runs=s.runs++new
 fresh:∀x∈new,x.t=s.now/\x.nodes.length<=24
 perm:(s'.queue++new.map Run.job).Perm s.queue
theorem StartP.len{s s':State}{new:List Run}(h:StartP s s' new):s'.queue.length+s'.runs.length=s.queue.length+s.runs.length:=by
 have:=h.perm.length_eq
 rw[h.runs]
 simp at this ⊢;omega
def endOf(x:Run):Int:=w64 (x.t+x.job.wall)
def nextStep(v:Int)(x:Run):Int:=bif decide (v<0)||decide (endOf x<v)then endOf x else v
def ML(s:State):Int:=s.runs.foldl nextStep (-1)
theorem J0n(s:State):Lr s=some (ML s):=by
 unfold Lr ML
 rw[YD (f:=nextStep) (fun x _ i b k=>by
  unfold ZE nextStep endOf
  cases(decide (b<0)||decide (w64 (x.t+x.job.wall)<b))<;>rfl)]
 rfl
theorem M17:∀(l:List Run) (v:Int),l.foldl nextStep v=v\/∃x∈l,endOf x=l.foldl nextStep v
 |[],v=>.inl rfl
 |x::l,v=>by
  rw[List.foldl_cons]
  have step:nextStep v x=v\/nextStep v x=endOf x:=by
   unfold nextStep
   cases(decide (v<0)||decide (endOf x<v))with
   |true=>exact .inr rfl
   |false=>exact .inl rfl
  rcases M17 l (nextStep v x)with h|⟨y,hy,h⟩
  .rw[h]
   rcases step with e|e
   .exact .inl e
   .exact .inr ⟨x,yJ ..,e.symm⟩
  .exact .inr ⟨y,yH _ hy,h⟩
theorem X0X{s:State}(h:0<=ML s):∃x∈s.runs,endOf x=ML s:=by
 rcases M17 s.runs (-1)with e|e
 .unfold ML at h;omega
 .exact e
def keepF(n:Int)(l:List Run):List Run:=l.filter fun x=>!(endOf x==n)
def doneF(n:Int)(l:List Run):List End:=(l.filter fun x=>endOf x==n).map fun x=>End.mk x.job.id n 1
def endF(s:State)(n:Int):State:=State.mk s.topo s.up s.lic s.depth n s.queue (keepF n s.runs) (s.ends++doneF n s.runs)
theorem W1e(v:State×Int)(k:List End×List Run->Option (State×Bool))(l:List Run):∀(i:Nat) (es:List End) (rs:List Run),es.length+l.length<=3000000->rs.length+l.length<=3000000 ->
  rgl (MA v) k l i (es,rs)=k (es++doneF v.2 l,rs++keepF v.2 l):=by
 induction l with
 |nil=>intro i es rs _ _;simp[rgl,doneF,keepF]
 |cons x l ih =>
  intro i es rs h1 h2
  simp only[yT]at h1 h2
  rw[rgl,MA]
  have e0:w64 (x.t+x.job.wall)=endOf x:=rfl
  simp only[e0]
  cases hx:(endOf x==v.2)with
  |true =>
   rw[yN,M0 (by simp;omega),bS,ih (i+1) _ _ (by simp;omega) (by omega)]
   simp[doneF,keepF,hx]
  |false =>
   rw[yM,M0 (by simp;omega),bS,ih (i+1) _ _ (by omega) (by simp;omega)]
   simp[doneF,keepF,hx]
theorem Z1p{n:Int}{l:List Run}{x:Run}(hx:x∈l)(he:endOf x=n):(keepF n l).length<l.length:=by
 unfold keepF
 refine Nat.lt_of_le_of_ne (List.length_filter_le ..) fun e=>?_
 have:=List.length_filter_eq_length_iff.1 e x hx
 simp[he]at this
def badS:State×Bool:=(State.mk (Topo.mk [] []) [] (Vec.mk 0 0 0) 0 0 [] [] [],false)
def atT(s:State)(t:Int):State:=State.mk s.topo s.up s.lic s.depth t s.queue s.runs s.ends
theorem L0K(t:Int){s:State}(h:SmallS s)(k:State×Int->Option (State×Bool)):Qo t (s,ML s) k=bif decide (0<=ML s)&&decide (ML s<=t)then(bif decide (300<((endF s (ML s)).ends.length:Int))then some badS else(X2 (endF s (ML s))).bind fun y=>k (y,ML y))else some (atT s t,true):=by
 have h1:=h.jobs
 have h2:=h.ends
 unfold Qo
 simp only
 rw[W1e (s,ML s) _ s.runs 0 s.ends [] (by omega) (by simp;omega)]
 unfold ZR
 simp only[J0n,bS]
 rfl
end Go.Proofs.YtpgaganbacipnaaGreat
