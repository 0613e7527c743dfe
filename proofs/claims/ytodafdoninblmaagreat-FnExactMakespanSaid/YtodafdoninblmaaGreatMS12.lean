/-
  Lemmas, part 12: the engine that steps through the code, the walks of functions, and the laws of what they compute.
-/
import Derived.Test.YtodafdoninblmaaGreatMS11
import Derived.Test.YtodafdoninblmaaGreatMS1
namespace Go.Proofs.YtodafdoninblmaaGreat
open Go Go.RowKit Eng
def ZKi:L :=
.seq (rE 2 (cB false))
 (.seq (sR [mV 6 0,.ln 7 (.t 6),.bi 8 .gtr (.t 7) (kI 60)]
 (.cond (.t 8) (.seq (rE 2 (cB false))
 gR)
 .skip))
 (.seq (sR [mV 9 0,.ln 10 (.t 9),.mv 11 (kI 0)]
 (.blk 0 (.loop (.gw (sR [bI 12 .lss 11 10]
 (.seq (.cond (.t 12) .skip
 (.exit 0))
 (.seq (.blk 1 (sR [mV 13 11,iA 14 9 11 11,lD 15 14 11 true,.al 4 [.int .i64 0,.int .i64 0,.int .i64 0,.int .i64 0,.int .i64 0,.int .i64 0,.int .i64 0,.int .i64 0,.int .i64 0,.int .i64 0,.int .i64 0],mV 3 13,.st (.t 4) (.t 15) 11]
 (.seq (sR [lD 16 4 11 true,cQ 17 ZU6 [16],.un 18 (.t 17)]
 (.cond (.t 18) (.seq (rE 2 (cB false))
 gR)
 .skip))
 (.seq (rE 5 (kI 0))
 (.blk 2 (.loop (.gw (.seq (sR [mV 19 5,mV 20 3,bI 21 .lss 19 20]
 (.cond (.t 21) .skip
 (.exit 2)))
 (.seq (.blk 3 (.seq (.rq 8 [mV 24 0,mV 25 5,iA 26 24 25 11,fA 27 26 0,lD 28 27 1 false,fA 29 4 0,lD 30 29 1 false,bI 31 .eql 28 30])
 (.cond (.t 31) (.seq (rE 2 (cB false))
 gR)
 .skip)))
 (.reg [mV 22 5,.bi 23 .add (.t 22) (kI 1),mV 5 23]))))))))))
 (.reg [.bi 32 .add (.t 11) (kI 1),mV 11 32]))))))))
 (.seq (rE 2 (cB true))
 gR)))
def ZN2(l1:List Job)(i4:Nat)(x4:Job)(k4:Unit->Option Bool)(v5:Int)(k5:Int->Option Bool):Option Bool :=
 bif (decide (v5<(i4:Int)))then((idx l1 v5).bind fun e6=>bif (e6.id==x4.id)then(some false)else(k5 (w64 (v5+1))))else(k4 ())
def Za7(l1:List Job)(x4:Job)(i4:Nat)(_:Unit)(k4:Unit->Option Bool):Option Bool :=
 bif (!(Z9 x4))then(some false)else(whl (ZN2 l1 i4 x4 k4) 9223372036854775807 0)
def Z97(_:Unit):Option Bool :=
 some true
def Z53(l1:List Job):Option Bool :=
 bif (decide (60<(l1.length:Int)))then(some false)else(rgl (Za7 l1) Z97 l1 0 ())
theorem Zd8{l1:List Job}{r:Bool}(H:Z53 l1=some r):Snd Tryz.prog ZC6 [.sl .rd 11 (l1.map eJob)] (.bool r) []:=by
 refine wS ZKi [.t 2] ?_
 unfold Z53 at H
 refine wG [.u 7 (.ln _ _ fun _=>lm l1 eJob)] fun q2=>?_
 refine Z3 H (fun H=>?_) fun H=>?_
 .refine wP ?_
  replace H:=sI H;subst H
  exact wE [(2,.d)]
 .refine wG [.u 10 (.ln _ _ fun _=>lm l1 eJob)] fun q3=>?_
  refine wR (fun(i4:Nat) (v4:Unit)=>⟨[(0,.sl .rd 11 (l1.map eJob)),(9,.sl .rd 11 (l1.map eJob)),(10,.int .i64 (l1.length:Int)),(11,.int .i64 (i4:Int))],[],[],[]⟩) H (fun i4 x4 v4 I m k4 hxv4 hiv4 H N48=>?_) (fun v4 I m H=>?_)
  .unfold Za7 at H
   refine wP ?_
   refine wt (ltT hiv4) ?_
   refine wG [.u 14 (.ix _ _ _ fun _=>Z1 eJob (Z5 hxv4)),.c 17 (Zpa x4)] fun _=>?_
   refine Z3 H (fun H=>?_) fun H=>?_
   .refine wP ?_
    replace H:=sI H;subst H
    exact wE [(2,.d)]
   .refine wP ?_
    refine wW (fun(v5:Int)=>⟨[(0,.sl .rd 11 (l1.map eJob)),(3,.int .i64 (i4:Int)),(4,.ptr 4 0),(5,.int .i64 v5),(9,.sl .rd 11 (l1.map eJob)),(10,.int .i64 (l1.length:Int)),(11,.int .i64 (i4:Int))],[],[(4,(eJob x4).cells)],[]⟩) H (fun v5 I m k5 H N38=>?_)
    unfold ZN2 at H
    refine wP ?_
    refine Z3 H (fun H=>?_) fun H=>?_
    .obtain⟨e6,h6,H⟩:=bB H
     refine wG [.u 26 (.ix _ _ _ fun _=>Z1 eJob h6)] fun _=>?_
     refine Z3 H (fun H=>?_) fun H=>?_
     .refine wP ?_
      replace H:=sI H;subst H
      exact wE [(2,.d)]
     .refine wP ?_
      exact wT (N38 _ H)
    .refine wG [.w 32 (wi .i64 rfl hiv4 q2.1)] fun _=>?_
     exact wT (N48 () H)
  .unfold Z97 at H
   refine wP ?_
   refine wf (ltF l1.length) ?_
   refine wP ?_
   replace H:=sI H;subst H
   exact wE [(2,.d)]
def ZDf:L :=
sR [.bx 2 (.t 0),.bx 3 (.t 1),.mv 4 (cB false)]
 (sR [fA 5 2 1,lD 6 5 1 false,fA 7 3 1,lD 8 7 1 false,bI 9 .gtr 6 8,mV 10 9,.g 10 false (fA 11 2 1),.g 10 false (lD 12 11 1 false),.g 10 false (fA 13 3 1),.g 10 false (lD 14 13 1 false),.g 10 false (bI 15 .eql 12 14),.g 10 false (mV 16 15),.g 16 true (fA 17 2 0),.g 16 true (lD 18 17 1 false),.g 16 true (fA 19 3 0),.g 16 true (lD 20 19 1 false),.g 16 true (bI 21 .lss 18 20),.g 10 false (.pk 22 (.t 16) (.t 21) (cB false)),.pk 23 (.t 10) (cB true) (.t 22),mV 4 23]
 gR)
def Za4(a1:Job)(b2:Job):Option Bool :=
 some ((decide (b2.prio<a1.prio))||((a1.prio==b2.prio)&&(decide (a1.id<b2.id))))
theorem ZFd{a1:Job}{b2:Job}{r:Bool}(H:Za4 a1 b2=some r):Snd Tryz.prog Zo7 [eJob a1,eJob b2] (.bool r) []:=by
 refine wS ZDf [.t 4] ?_
 unfold Za4 at H
 refine wP ?_
 replace H:=sI H;subst H
 exact wE [(4,.d)]
def Z91(a1:Job)(b2:Job):Bool :=
 ((decide (b2.prio<a1.prio))||((a1.prio==b2.prio)&&(decide (a1.id<b2.id))))
theorem Zwg(a1:Job)(b2:Job):Za4 a1 b2=some (Z91 a1 b2):=by
 unfold Za4 Z91
 first|rfl|simp only[Zl]
theorem Zef(a1:Job)(b2:Job):Snd Tryz.prog Zo7 [eJob a1,eJob b2] (.bool (Z91 a1 b2)) []:=ZFd (Zwg a1 b2)
def ZBm:L :=
sR [.mv 2 (.c (.nl))]
 (sR [.bs 10 11 [] true,mV 3 10]
 (.seq (sR [mV 11 0,cQ 12 ZC6 [11],.un 13 (.t 12)]
 (.cond (.t 13) (sR [mV 14 3,mV 2 14]
 gR)
 .skip))
 (.seq (sR [mV 15 0,.ln 16 (.t 15),.mv 17 (kI 0)]
 (.blk 0 (.loop (.gw (sR [bI 18 .lss 17 16]
 (.seq (.cond (.t 18) .skip
 (.exit 0))
 (.seq (.blk 1 (sR [iA 19 15 17 11,lD 20 19 11 true,.al 5 [.int .i64 0,.int .i64 0,.int .i64 0,.int .i64 0,.int .i64 0,.int .i64 0,.int .i64 0,.int .i64 0,.int .i64 0,.int .i64 0,.int .i64 0],.st (.t 5) (.t 20) 11]
 (sR [.bs 21 11 [] true,mV 6 21]
 (.seq (rE 7 (cB false))
 (.seq (sR [mV 22 3,.ln 23 (.t 22),.mv 24 (kI 0)]
 (.blk 2 (.loop (.gw (sR [bI 25 .lss 24 23]
 (.seq (.cond (.t 25) .skip
 (.exit 2))
 (.seq (.blk 3 (sR [iA 26 22 24 11,lD 27 26 11 true,.al 9 [.int .i64 0,.int .i64 0,.int .i64 0,.int .i64 0,.int .i64 0,.int .i64 0,.int .i64 0,.int .i64 0,.int .i64 0,.int .i64 0,.int .i64 0],.st (.t 9) (.t 27) 11]
 (.seq (sR [mV 28 7,.un 29 (.t 28),mV 30 29,.g 30 true (lD 31 5 11 true),.g 30 true (lD 32 9 11 true),.g 30 true (cQ 33 Zo7 [31,32]),.pk 34 (.t 30) (.t 33) (cB false)]
 (.cond (.t 34) (sR [mV 35 6,lD 36 5 11 true,.bs 37 11 [(.t 36)] false,.ap 38 (.t 35) (.t 37) 11 88,mV 6 38]
 (rE 7 (cB true)))
 .skip))
 (.gw (.reg [mV 39 6,lD 40 9 11 true,.bs 41 11 [(.t 40)] false,.ap 42 (.t 39) (.t 41) 11 88,mV 6 42])))))
 (.reg [.bi 43 .add (.t 24) (kI 1),mV 24 43]))))))))
 (.seq (sR [mV 44 7,.un 45 (.t 44)]
 (.cond (.t 45) (.reg [mV 46 6,lD 47 5 11 true,.bs 48 11 [(.t 47)] false,.ap 49 (.t 46) (.t 48) 11 88,mV 6 49])
 .skip))
 (.reg [mV 50 6,mV 3 50])))))))
 (.reg [.bi 51 .add (.t 17) (kI 1),mV 17 51]))))))))
 (sR [mV 52 3,mV 2 52]
 gR))))
def ZL1(x6:Job)(k6:(Bool×(List Job))->Option (List Job))(v8:Bool×(List Job)):Option (List Job) :=
 (appL 88 v8.2 [x6]).bind fun xs9=>k6 (v8.1,xs9)
def ZR2(x4:Job)(x6:Job)(_:Nat)(v6:Bool×(List Job))(k6:(Bool×(List Job))->Option (List Job)):Option (List Job) :=
 bif ((!v6.1)&&(Z91 x4 x6))then((appL 88 v6.2 [x4]).bind fun xs7=>(ZL1 x6 k6) (true,xs7))else((ZL1 x6 k6) (v6.1,v6.2))
def ZQ2(x4:Job)(k4:(List Job)->Option (List Job))(v6:Bool×(List Job)):Option (List Job) :=
 bif (!v6.1)then((appL 88 v6.2 [x4]).bind fun xs10=>k4 xs10)else(k4 v6.2)
def Zq6(x4:Job)(_:Nat)(v4:(List Job))(k4:(List Job)->Option (List Job)):Option (List Job) :=
 rgl (ZR2 x4) (ZQ2 x4 k4) v4 0 (false,[])
def Zv9(v4:(List Job)):Option (List Job) :=
 some v4
def Z1a(l1:List Job):Option (List Job) :=
 (Z53 l1).bind fun b2=>bif (!b2)then(some [])else(rgl Zq6 Zv9 l1 0 [])
theorem ZOl{l1:List Job}{r:(List Job)}(H:Z1a l1=some r):Snd Tryz.prog Zlg [.sl .rd 11 (l1.map eJob)] (.sl .nw 11 (r.map eJob)) []:=by
 refine wS ZBm [.t 2] ?_
 unfold Z1a at H
 obtain⟨b2,h2,H⟩:=bB H
 refine wG [.c 12 (Zd8 h2)] fun _=>?_
 refine Z3 H (fun H=>?_) fun H=>?_
 .refine wP ?_
  replace H:=sI H;subst H
  exact wN [(2,.f)] [] [] [10] [] [⟨_,Zc3 ([]:List Job)⟩]
 .refine wG [.u 16 (.ln _ _ fun _=>lm l1 eJob)] fun q3=>?_
  refine wR (fun(i4:Nat) (v4:(List Job))=>⟨[(3,.sref 10),(15,.sl .rd 11 (l1.map eJob)),(16,.int .i64 (l1.length:Int)),(17,.int .i64 (i4:Int))],[],[],[(10,⟨11,v4.map eJob,false⟩)]⟩) H (fun i4 x4 v4 I m k4 hxv4 hiv4 H N57=>?_) (fun v4 I m H=>?_)
  .unfold Zq6 at H
   refine wP ?_
   refine wt (ltT hiv4) ?_
   refine wG [.u 19 (.ix _ _ _ fun _=>Z1 eJob (Z5 hxv4)),.u 23 (.ln _ _ fun _=>lm v4 eJob)] fun q5=>?_
   refine wR (fun(i6:Nat) (v6:Bool×(List Job))=>⟨[(5,.ptr 5 0),(6,.sref 21),(7,.bool v6.1),(15,.sl .rd 11 (l1.map eJob)),(16,.int .i64 (l1.length:Int)),(17,.int .i64 (i4:Int)),(22,.sref 10),(23,.int .i64 (v4.length:Int)),(24,.int .i64 (i6:Int))],[],[(5,(eJob x4).cells)],[(21,⟨11,v6.2.map eJob,false⟩),(10,⟨11,v4.map eJob,false⟩)]⟩) H (fun i6 x6 v6 I m k6 hxv6 hiv6 H N38=>?_) (fun v6 I m H=>?_)
   .unfold ZR2 at H
    refine wP ?_
    refine wt (ltT hiv6) ?_
    refine wG [.u 26 (.ix _ _ _ fun _=>Z1 eJob (Z5 hxv6)),.u 27 (.el _ _ _ fun _=>gm eJob (Zk1 (Z5 hxv6))),.g 33 [((!v6.1),true)] (.call _ _ _ _ _ (AEs.refl _) (fun _=>Zef x4 x6))] fun _=>?_
    refine Zqc (r:=r) (ZL1 x6 k6) 0 (fun v8:Bool×(List Job)=>⟨[(5,.ptr 5 0),(6,.sref 21),(7,.bool v8.1),(9,.ptr 9 0),(15,.sl .rd 11 (l1.map eJob)),(16,.int .i64 (l1.length:Int)),(17,.int .i64 (i4:Int)),(22,.sref 10),(23,.int .i64 (v4.length:Int)),(24,.int .i64 (i6:Int))],[],[(5,(eJob x4).cells),(9,(eJob x6).cells)],[(21,⟨11,v8.2.map eJob,false⟩),(10,⟨11,v4.map eJob,false⟩)]⟩) (by kernel_rfl) (fun v8 H=>?_) (fun J30=>?_)
    .unfold ZL1 at H
     obtain⟨xs9,h9,H⟩:=bB H
     refine wG [.u 42 (.ap _ _ _ _ fun _=>Z6 eJob h9),.w 43 (wi .i64 rfl hiv6 q5.1)] fun _=>?_
     exact wT (N38 _ H)
    .refine Z3 H (fun H=>?_) fun H=>?_
     .obtain⟨xs7,h7,H⟩:=bB H
      refine wG [.u 38 (.ap _ _ _ _ fun _=>Z6 eJob h7)] fun _=>?_
      exact wT (J30 _ H)
     .refine wP ?_
      exact wT (J30 _ H)
   .unfold ZQ2 at H
    refine wP ?_
    refine wf (ltF v4.length) ?_
    refine wP ?_
    refine Z3 H (fun H=>?_) fun H=>?_
    .obtain⟨xs10,h10,H⟩:=bB H
     refine wG [.u 49 (.ap _ _ _ _ fun _=>Z6 eJob h10),.w 51 (wi .i64 rfl hiv4 q3.1)] fun _=>?_
     exact Zsn (N57 _ H) [] [] [(10,(some 21,0))] [] (by kernel_rfl) (by kernel_rfl)
    .refine wG [.w 51 (wi .i64 rfl hiv4 q3.1)] fun _=>?_
     exact Zsn (N57 _ H) [] [] [(10,(some 21,0))] [] (by kernel_rfl) (by kernel_rfl)
  .unfold Zv9 at H
   refine wP ?_
   refine wf (ltF l1.length) ?_
   refine wP ?_
   replace H:=sI H;subst H
   exact wN [(2,.f)] [] [] [10] [] [⟨_,Zc3 v4⟩]
def Zzi:L :=
sR [.al 4 [.int .i64 0,.int .i64 0,.int .i64 0,.int .i64 0,.int .i64 0,.int .i64 0,.int .i64 0,.int .i64 0,.int .i64 0,.int .i64 0,.int .i64 0],.mv 5 (cB false)]
 (.seq (sR [mV 8 0,.ln 9 (.t 8),.mv 10 (kI 0)]
 (.blk 0 (.loop (.gw (sR [bI 11 .lss 10 9]
 (.seq (.cond (.t 11) .skip
 (.exit 0))
 (.seq (.blk 1 (sR [iA 12 8 10 11,lD 13 12 11 true,.al 7 [.int .i64 0,.int .i64 0,.int .i64 0,.int .i64 0,.int .i64 0,.int .i64 0,.int .i64 0,.int .i64 0,.int .i64 0,.int .i64 0,.int .i64 0],.st (.t 7) (.t 13) 11]
 (sR [fA 14 7 0,lD 15 14 1 false,mV 16 1,bI 17 .eql 15 16]
 (.cond (.t 17) (sR [lD 18 7 11 true,.st (.t 4) (.t 18) 11,.mv 5 (cB true)]
 gR)
 .skip))))
 (.reg [.bi 19 .add (.t 10) (kI 1),mV 10 19]))))))))
 (sR [.bd 20 [.int .i64 0,.int .i64 0,.int .i64 0,.int .i64 0,.int .i64 0,.int .i64 0,.int .i64 0,.int .i64 0,.int .i64 0,.int .i64 0,.int .i64 0] [],.st (.t 4) (.t 20) 11,.mv 5 (cB false)]
 gR))
def ZK2(id2:Int)(x4:Job)(_:Nat)(_:Unit)(k4:Unit->Option (Job×Bool)):Option (Job×Bool) :=
 bif (x4.id==id2)then(some (x4,true))else(k4 ())
def Z27(_:Unit):Option (Job×Bool) :=
 some ((Job.mk 0 0 0 (Vec.mk 0 0 0) (Vec.mk 0 0 0) 0 0),false)
def ZV8(l1:List Job)(id2:Int):Option (Job×Bool) :=
 rgl (ZK2 id2) Z27 l1 0 ()
theorem ZKh{l1:List Job}{id2:Int}{r:Job×Bool}(H:ZV8 l1 id2=some r):Snd Tryz.prog Zrd [.sl .rd 11 (l1.map eJob),.int .i64 id2] (.tup [eJob r.1,.bool r.2]) []:=by
 refine wS Zzi [.c 4 11 true,.t 5] ?_
 unfold ZV8 at H
 refine wG [.u 9 (.ln _ _ fun _=>lm l1 eJob)] fun q3=>?_
 refine wR (fun(i4:Nat) (v4:Unit)=>⟨[(1,.int .i64 id2),(4,.ptr 4 0),(8,.sl .rd 11 (l1.map eJob)),(9,.int .i64 (l1.length:Int)),(10,.int .i64 (i4:Int))],[],[(4,(eJob (Job.mk 0 0 0 (Vec.mk 0 0 0) (Vec.mk 0 0 0) 0 0)).cells)],[]⟩) H (fun i4 x4 v4 I m k4 hxv4 hiv4 H N20=>?_) (fun v4 I m H=>?_)
 .unfold ZK2 at H
  refine wP ?_
  refine wt (ltT hiv4) ?_
  refine wG [.u 12 (.ix _ _ _ fun _=>Z1 eJob (Z5 hxv4))] fun _=>?_
  refine Z3 H (fun H=>?_) fun H=>?_
  .refine wP ?_
   replace H:=sI H;subst H
   exact wN [(4,.d),(5,.d)] [(4,[])] [] [] [] []
  .refine wG [.w 19 (wi .i64 rfl hiv4 q3.1)] fun _=>?_
   exact wT (N20 () H)
 .unfold Z27 at H
  refine wP ?_
  refine wf (ltF l1.length) ?_
  refine wP ?_
  replace H:=sI H;subst H
  exact wN [(4,.d),(5,.d)] [(4,[])] [] [] [] []
def ZIf:L :=
sR [.bx 2 (.t 0),.mv 3 (cB false)]
 (sR [fA 4 2 0,lD 5 4 1 false,fA 6 1 0,lD 7 6 1 false,bI 8 .eql 5 7,mV 3 8]
 gR)
def Zp4(k1:Job)(x2:Job):Option Bool :=
 some (k1.id==x2.id)
theorem ZSd{k1:Job}{x2:Job}{r:Bool}(H:Zp4 k1 x2=some r):Snd Tryz.prog Z12 [eJob k1,.ept (eJob x2) 0] (.bool r) []:=by
 refine wS ZIf [.t 3] ?_
 unfold Zp4 at H
 refine wP ?_
 replace H:=sI H;subst H
 exact wE [(3,.d)]
def Z34(k1:Job)(x2:Job):Bool :=
 (k1.id==x2.id)
theorem Zmh(k1:Job)(x2:Job):Zp4 k1 x2=some (Z34 k1 x2):=by
 unfold Zp4 Z34
 first|rfl|simp only[Zl]
theorem ZPf(k1:Job)(x2:Job):Snd Tryz.prog Z12 [eJob k1,.ept (eJob x2) 0] (.bool (Z34 k1 x2)) []:=ZSd (Zmh k1 x2)
def ZO1:L :=
.seq (rE 4 (kI 0))
 (.seq (sR [mV 6 0,.ln 7 (.t 6),.mv 8 (kI 0)]
 (.blk 0 (.loop (.gw (sR [bI 9 .lss 8 7]
 (.seq (.cond (.t 9) .skip
 (.exit 0))
 (.seq (.blk 1 (sR [mV 10 8,mV 5 10]
 (sR [mV 11 1,mV 12 0,mV 13 5,iA 14 12 13 11,lD 15 14 11 true,.cc 16 (.t 11) [(.t 15)]]
 (.cond (.t 16) (sR [mV 17 5,mV 4 17]
 gR)
 .skip))))
 (.reg [.bi 18 .add (.t 8) (kI 1),mV 8 18]))))))))
 (.seq (rE 4 (kI (-1)))
 gR))
def Zd(c2:Job)(x4:Job)(i4:Nat)(_:Unit)(k4:Unit->Option Int):Option Int :=
 bif (Z34 x4 c2)then(some (i4:Int))else(k4 ())
def Zm(_:Unit):Option Int :=
 some (-1)
def Zh(s1:List Job)(c2:Job):Option Int :=
 rgl (Zd c2) Zm s1 0 ()
theorem ZN1{s1:List Job}{c2:Job}{r:Int}(H:Zh s1 c2=some r):Snd Tryz.prog ZG [.sl .rd 11 (s1.map eJob),.fn Z12 [.ept (eJob c2) 0]] (.int .i64 r) []:=by
 refine wS ZO1 [.t 4] ?_
 unfold Zh at H
 refine wG [.u 7 (.ln _ _ fun _=>lm s1 eJob)] fun q3=>?_
 refine wR (fun(i4:Nat) (v4:Unit)=>⟨[(0,.sl .rd 11 (s1.map eJob)),(1,.fn Z12 [.ept (eJob c2) 0]),(7,.int .i64 (s1.length:Int)),(8,.int .i64 (i4:Int))],[],[],[]⟩) H (fun i4 x4 v4 I m k4 hxv4 hiv4 H N20=>?_) (fun v4 I m H=>?_)
 .unfold Zd at H
  refine wP ?_
  refine wt (ltT hiv4) ?_
  refine wG [.u 14 (.ix _ _ _ fun _=>Z1 eJob (Z5 hxv4)),.u 16 (.clsr _ _ _ _ _ (AEs.refl _) (by kernel_rfl) (fun _=>ZPf x4 c2))] fun _=>?_
  refine Z3 H (fun H=>?_) fun H=>?_
  .refine wP ?_
   replace H:=sI H;subst H
   exact wE [(4,.d)]
  .refine wG [.w 18 (wi .i64 rfl hiv4 q3.1)] fun _=>?_
   exact wT (N20 () H)
 .unfold Zm at H
  refine wP ?_
  refine wf (ltF s1.length) ?_
  refine wP ?_
  replace H:=sI H;subst H
  exact wE [(4,.d)]
def ZC1:L :=
.seq (rE 4 (cB false))
 (sR [mV 5 0,mV 6 1,cQ 7 ZG [5,6],.bi 8 .geq (.t 7) (kI 0),mV 4 8]
 gR)
def Z7(s1:List Job)(c2:Job):Option Bool :=
 (Zh s1 c2).bind fun n3=>some (decide (0<=n3))
theorem ZA1{s1:List Job}{c2:Job}{r:Bool}(H:Z7 s1 c2=some r):Snd Tryz.prog Zr1 [.sl .rd 11 (s1.map eJob),.fn Z12 [.ept (eJob c2) 0]] (.bool r) []:=by
 refine wS ZC1 [.t 4] ?_
 unfold Z7 at H
 obtain⟨n3,h3,H⟩:=bB H
 refine wG [.c 7 (ZN1 h3)] fun _=>?_
 replace H:=sI H;subst H
 exact wE [(4,.d)]
def Z3j:L :=
.seq (rE 2 (cB false))
 (.seq (sR [mV 5 0,.ln 6 (.t 5),.mv 7 (kI 0)]
 (.blk 0 (.loop (.gw (sR [bI 8 .lss 7 6]
 (.seq (.cond (.t 8) .skip
 (.exit 0))
 (.seq (.blk 1 (sR [mV 9 7,iA 10 5 7 11,lD 11 10 11 true,.al 4 [.int .i64 0,.int .i64 0,.int .i64 0,.int .i64 0,.int .i64 0,.int .i64 0,.int .i64 0,.int .i64 0,.int .i64 0,.int .i64 0,.int .i64 0],mV 3 9,.st (.t 4) (.t 11) 11]
 (sR [.fb 4,lD 12 4 11 true,cQ 13 ZU4 [12],.un 14 (.t 13),mV 15 14,.g 15 false (mV 16 0),.g 15 false (mV 17 3),.g 15 false (.sc 18 (.t 16) none (some (.t 17)) 11),.g 15 false (.mf 19 Z12 [(.t 4)]),.g 15 false (cQ 20 Zr1 [18,19]),.pk 21 (.t 15) (cB true) (.t 20)]
 (.cond (.t 21) (.seq (rE 2 (cB false))
 gR)
 .skip))))
 (.reg [.bi 22 .add (.t 7) (kI 1),mV 7 22]))))))))
 (sR [mV 23 0,.ln 24 (.t 23),.bi 25 .leq (.t 24) (kI 60),mV 2 25]
 gR))
def Zm7(l1:List Job)(x3:Job)(i3:Nat)(_:Unit)(k3:Unit->Option Bool):Option Bool :=
 (bif (!(Zj1 x3))then some default else(cutL l1 none (some (i3:Int)))).bind fun xs4=>(bif (!(Zj1 x3))then some default else(Z7 xs4 x3)).bind fun b5=>bif ((!(Zj1 x3))||b5)then(some false)else(k3 ())
def Zl7(l1:List Job)(_:Unit):Option Bool :=
 some (decide ((l1.length:Int)<=60))
def ZR4(l1:List Job):Option Bool :=
 rgl (Zm7 l1) (Zl7 l1) l1 0 ()
theorem Zdc{l1:List Job}{r:Bool}(H:ZR4 l1=some r):Snd Tryz.prog ZX9 [.sl .rd 11 (l1.map eJob)] (.bool r) []:=by
 refine wS Z3j [.t 2] ?_
 unfold ZR4 at H
 refine wG [.u 6 (.ln _ _ fun _=>lm l1 eJob)] fun q2=>?_
 refine wR (fun(i3:Nat) (v3:Unit)=>⟨[(0,.sl .rd 11 (l1.map eJob)),(5,.sl .rd 11 (l1.map eJob)),(6,.int .i64 (l1.length:Int)),(7,.int .i64 (i3:Int))],[],[],[]⟩) H (fun i3 x3 v3 I m k3 hxv3 hiv3 H N20=>?_) (fun v3 I m H=>?_)
 .unfold Zm7 at H
  refine wP ?_
  refine wt (ltT hiv3) ?_
  obtain⟨xs4,h4,H⟩:=bB H
  obtain⟨b5,h5,H⟩:=bB H
  refine wG [.u 10 (.ix _ _ _ fun _=>Z1 eJob (Z5 hxv3)),.c 13 (ZN7 x3),.g 18 [(_,false)] (.sc _ _ _ _ fun q=>Zon eJob (bF q.1 h4)),.g 20 [(_,false)] (.call _ _ _ _ _ (AEs.refl _) (fun q=>ZA1 (bF q.1 h5)))] fun _=>?_
  refine Z3 H (fun H=>?_) fun H=>?_
  .refine wP ?_
   replace H:=sI H;subst H
   exact wE [(2,.d)]
  .refine wG [.w 22 (wi .i64 rfl hiv3 q2.1)] fun _=>?_
   exact wT (N20 () H)
 .unfold Zl7 at H
  refine wP ?_
  refine wf (ltF l1.length) ?_
  refine wG [.u 24 (.ln _ _ fun _=>lm l1 eJob)] fun q6=>?_
  replace H:=sI H;subst H
  exact wE [(2,.d)]
def ZPm:L :=
sR [.mv 2 (.c (.nl))]
 (sR [.bs 4 11 [] true,mV 5 0,.ap 6 (.t 4) (.t 5) 11 88,mV 3 6]
 (sR [mV 7 3,.cm 8 Z61 [(.t 7),(.c (.fn ZU9 []))]]
 (sR [mV 9 3,mV 2 9]
 gR)))
def Zca(l1:List Job):Option (List Job) :=
 (appL 88 ([]:List Job) l1).bind fun xs2=>(Zsh xs2).bind fun xs3=>some xs3
theorem Z3n{l1:List Job}{r:(List Job)}(H:Zca l1=some r):Snd Tryz.prog Zpg [.sl .rd 11 (l1.map eJob)] (.sl .nw 11 (r.map eJob)) []:=by
 refine wS ZPm [.t 2] ?_
 unfold Zca at H
 obtain⟨xs2,h2,H⟩:=bB H
 obtain⟨xs3,h3,H⟩:=bB H
 refine wG [.u 6 (.ap _ _ _ _ fun _=>Z6 eJob h2),.u 8 (.cr Z61 11 _ [.fn ZU9 []] _ false _ (fun _=>by simp) (fun _=>by simp) (fun _=>by simp) (fun _=>ZEo h3))] fun _=>?_
 replace H:=sI H;subst H
 exact wN [(2,.f)] [] [] [4] [] [⟨_,Zc3 xs3⟩]
def ZYi:L :=
sR [.bx 2 (.t 0),.mv 3 (cB false)]
 (sR [fA 4 2 0,lD 5 4 1 false,lD 6 1 1 false,bI 7 .eql 5 6,mV 3 7]
 gR)
def Zt6(j1:Job)(x2:Int):Option Bool :=
 some (j1.id==x2)
theorem ZKf{j1:Job}{x2:Int}{r:Bool}(H:Zt6 j1 x2=some r):Snd Tryz.prog Z84 [eJob j1,.ept (.agg [.int .i64 x2]) 0] (.bool r) []:=by
 refine wS ZYi [.t 3] ?_
 unfold Zt6 at H
 refine wP ?_
 replace H:=sI H;subst H
 exact wE [(3,.d)]
def Zg3(j1:Job)(x2:Int):Bool :=
 (j1.id==x2)
theorem ZSk(j1:Job)(x2:Int):Zt6 j1 x2=some (Zg3 j1 x2):=by
 unfold Zt6 Zg3
 first|rfl|simp only[Zl]
theorem Z8j(j1:Job)(x2:Int):Snd Tryz.prog Z84 [eJob j1,.ept (.agg [.int .i64 x2]) 0] (.bool (Zg3 j1 x2)) []:=ZKf (ZSk j1 x2)
def ZU1:L :=
.seq (rE 4 (kI 0))
 (.seq (sR [mV 6 0,.ln 7 (.t 6),.mv 8 (kI 0)]
 (.blk 0 (.loop (.gw (sR [bI 9 .lss 8 7]
 (.seq (.cond (.t 9) .skip
 (.exit 0))
 (.seq (.blk 1 (sR [mV 10 8,mV 5 10]
 (sR [mV 11 1,mV 12 0,mV 13 5,iA 14 12 13 11,lD 15 14 11 true,.cc 16 (.t 11) [(.t 15)]]
 (.cond (.t 16) (sR [mV 17 5,mV 4 17]
 gR)
 .skip))))
 (.reg [.bi 18 .add (.t 8) (kI 1),mV 8 18]))))))))
 (.seq (rE 4 (kI (-1)))
 gR))
def Z8(c2:Int)(x4:Job)(i4:Nat)(_:Unit)(k4:Unit->Option Int):Option Int :=
 bif (Zg3 x4 c2)then(some (i4:Int))else(k4 ())
def Zr(_:Unit):Option Int :=
 some (-1)
def Zk(s1:List Job)(c2:Int):Option Int :=
 rgl (Z8 c2) Zr s1 0 ()
theorem ZT1{s1:List Job}{c2:Int}{r:Int}(H:Zk s1 c2=some r):Snd Tryz.prog ZG [.sl .rd 11 (s1.map eJob),.fn Z84 [.ept (.agg [.int .i64 c2]) 0]] (.int .i64 r) []:=by
 refine wS ZU1 [.t 4] ?_
 unfold Zk at H
 refine wG [.u 7 (.ln _ _ fun _=>lm s1 eJob)] fun q3=>?_
 refine wR (fun(i4:Nat) (v4:Unit)=>⟨[(0,.sl .rd 11 (s1.map eJob)),(1,.fn Z84 [.ept (.agg [.int .i64 c2]) 0]),(7,.int .i64 (s1.length:Int)),(8,.int .i64 (i4:Int))],[],[],[]⟩) H (fun i4 x4 v4 I m k4 hxv4 hiv4 H N20=>?_) (fun v4 I m H=>?_)
 .unfold Z8 at H
  refine wP ?_
  refine wt (ltT hiv4) ?_
  refine wG [.u 14 (.ix _ _ _ fun _=>Z1 eJob (Z5 hxv4)),.u 16 (.clsr _ _ _ _ _ (AEs.refl _) (by kernel_rfl) (fun _=>Z8j x4 c2))] fun _=>?_
  refine Z3 H (fun H=>?_) fun H=>?_
  .refine wP ?_
   replace H:=sI H;subst H
   exact wE [(4,.d)]
  .refine wG [.w 18 (wi .i64 rfl hiv4 q3.1)] fun _=>?_
   exact wT (N20 () H)
 .unfold Zr at H
  refine wP ?_
  refine wf (ltF s1.length) ?_
  refine wP ?_
  replace H:=sI H;subst H
  exact wE [(4,.d)]
def ZRm:L :=
sR [.bx 3 (.t 1),.mv 4 (kI 0)]
 (sR [.fb 3,mV 5 0,.mf 6 Z84 [(.t 3)],cQ 7 ZG [5,6],mV 4 7]
 gR)
def ZXc(l1:List Job)(id2:Int):Option Int :=
 (Zk l1 id2).bind fun n3=>some n3
theorem Z5n{l1:List Job}{id2:Int}{r:Int}(H:ZXc l1 id2=some r):Snd Tryz.prog Zqg [.sl .rd 11 (l1.map eJob),.int .i64 id2] (.int .i64 r) []:=by
 refine wS ZRm [.t 4] ?_
 unfold ZXc at H
 obtain⟨n3,h3,H⟩:=bB H
 refine wG [.c 7 (ZT1 h3)] fun _=>?_
 replace H:=sI H;subst H
 exact wE [(4,.d)]
end Go.Proofs.YtodafdoninblmaaGreat
namespace Go.Proofs.YtodafdoninblmaaGreat
open Go Go.RowKit Eng Go.Sort
def Zqj(l:List Job)(i j:Int):Option (List Job):=if 0<=i/\i<j/\j<=(l.length:Int)then some (l.take i.toNat++l.drop j.toNat)else none
theorem ZUb:∀(vs:List Value) (s:Nat) (F:Array Value),s+vs.length<=F.size->(setMany F s vs).toList=F.toList.take s++vs++F.toList.drop (s+vs.length)
 |[],s,F,_=>by simp[setMany]
 |v::r,s,F,h=>by
  have h':s+1+r.length<=F.size:=by simp at h;omega
  rw[setMany,ZUb r (s+1) _ (by simpa using h')]
  simp only[Array.toList_setIfInBounds]
  have hs:s<F.toList.length:=by simp at h ⊢;omega
  rw[List.set_eq_take_append_cons_drop,yd hs]
  have hl:(F.toList.take s).length=s:=by simp at hs ⊢;omega
  have e1:(F.toList.take s++v::F.toList.drop (s+1)).take (s+1)=F.toList.take s++[v]:=by
   rw[List.take_append,hl]
   have:s+1-s=1:=by omega
   rw[this,List.take_of_length_le (by rw[hl];omega)]
   rfl
  have e2:(F.toList.take s++v::F.toList.drop (s+1)).drop (s+1+r.length)=F.toList.drop (s+(v::r).length):=by
   rw[List.drop_append,hl,List.drop_of_length_le (by rw[hl];omega)]
   have:s+1+r.length-s=r.length+1:=by omega
   rw[this,List.drop_succ_cons,List.drop_drop]
   simp only[List.nil_append,yT]
   congr 1
   omega
  rw[e1,e2]
  simp
theorem Zjs{w:World}{b:Nat}{cur:Array Value}{ty:TypeId}(h1:w.heap[b]?=some (.cells cur ty (0,0)))(s1 s2:Nat)(v1 v2:List Value)(l1:s1+v1.length<=cur.size)(l2:s2+v2.length<=cur.size) :
  ∃F:Array Value,F=setMany (setMany cur s1 v1) s2 v2/\(w.drew.setCells b s1 v1).setCells b s2 v2=grow (putRow id (Sort.ahead w 1) b 0 F) #[]:=by
 refine⟨_,rfl,?_⟩
 have e0:putRow id w.drew b 0 cur=w.drew:=putRow_self id _ b 0 _ (Zol (w:=w.drew) h1 (List.take_of_length_le (by simp)))
 have e1:=setCells_putRow w.drew b 0 v1 s1 cur l1
 rw[e0,Nat.zero_add]at e1
 have e2:=setCells_putRow w.drew b 0 v2 s2 (setMany cur s1 v1) (by simpa using l2)
 rw[Nat.zero_add]at e2
 rw[e1,e2,grow_empty]
 rfl
theorem Zfo{α:Type}{k:Nat}{enc:α->List Value}(hk:∀x,(enc x).length=k)(l:List α)(i:Nat):(l.flatMap enc).take (i*k)=(l.take i).flatMap enc:=by
 induction l generalizing i with
 |nil=>simp
 |cons x l ih =>
  cases i with
  |zero=>simp
  |succ i =>
   rw[ya,List.take_succ_cons,ya,List.take_append,hk,← ih,List.take_of_length_le (by rw[hk,Nat.succ_mul];omega)]
   congr 2
   rw[Nat.succ_mul];omega
theorem Zgo{α:Type}{k:Nat}{enc:α->List Value}(hk:∀x,(enc x).length=k)(l:List α)(i:Nat):(l.flatMap enc).drop (i*k)=(l.drop i).flatMap enc:=by
 induction l generalizing i with
 |nil=>simp
 |cons x l ih =>
  cases i with
  |zero=>simp
  |succ i =>
   rw[ya,List.drop_succ_cons,List.drop_append,hk,← ih,List.drop_of_length_le (by rw[hk,Nat.succ_mul];omega),List.nil_append]
   congr 1
   rw[Nat.succ_mul];omega
set_option maxRecDepth 20000 in
theorem Zrq{l r:List Job}{i j:Int}(h:Zqj l i j=some r):ZRe Tryz.prog Ze1 11 (l.map eJob) [.int .i64 i,.int .i64 j] true (r.map eJob):=by
 unfold Zqj at h
 split at h
 .rename_i hc
  cases h
  obtain⟨a,rfl⟩:∃a:Nat,i=a:=⟨i.toNat,by omega⟩
  obtain⟨c,rfl⟩:∃c:Nat,j=c:=⟨j.toNat,by omega⟩
  obtain⟨_,hij,hjn⟩:=hc
  have hij:a<c:=by omega
  have hjn:c<=l.length:=by omega
  simp only[yZ]
  have hne:l≠[]:=fun e=>by subst e;simp at hjn;omega
  refine Zth ZNd (fun e=>absurd e hne) (fun e=>by cases e) ?_
  intro w g n0 us H hul hus
  match us,hul with
  |[u1,u2],_ =>
  have hu1:=(hus 0 _ u1 rfl rfl).int_inv
  have hu2:=(hus 1 _ u2 rfl rfl).int_inv
  subst hu1;subst hu2
  refine⟨fun e=>absurd e hne,fun b cap cur ty h1 h2 h3 h4 h5 h6=>?_⟩
  obtain⟨i0,hi0,hz1⟩:∃i0,Tryz.prog.info? 56=some i0/\i0.size=11:=yC (show(Tryz.prog.info? 56).map (fun x=>x.size)=some 11 by kernel_rfl)
  have hlen:((l.drop c).flatMap jobV).length=(l.length-c)*11:=by rw[Zkj ZNd.vlen,List.length_drop]
  obtain⟨zs,hzs⟩:∃zs,zs=(Builtin.zeroCells (Value.agg #[.int .i64 0,.int .i64 0,.int .i64 0,.int .i64 0,.int .i64 0,.int .i64 0,.int .i64 0,.int .i64 0,.int .i64 0,.int .i64 0,.int .i64 0]).cells (l.length-(a+(l.length-c)))).toList:=⟨_,rfl⟩
  have hzl:zs.length=(c-a)*11:=by
   rw[hzs]
   have:(Value.agg #[.int .i64 0,.int .i64 0,.int .i64 0,.int .i64 0,.int .i64 0,.int .i64 0,.int .i64 0,.int .i64 0,.int .i64 0,.int .i64 0,.int .i64 0]).cells.size=11:=rfl
   simp only[Builtin.zeroCells,Array.toList_map,List.length_map,Array.length_toList,Array.size_range,this]
   congr 1
   omega
  have hz0:∀v∈zs,v.oneCell'=true:=by
   intro v hv
   rw[hzs]at hv
   simp only[Builtin.zeroCells,Array.toList_map,List.mem_map]at hv
   obtain⟨q,_,rfl⟩:=hv
   have hc:(Value.agg #[.int .i64 0,.int .i64 0,.int .i64 0,.int .i64 0,.int .i64 0,.int .i64 0,.int .i64 0,.int .i64 0,.int .i64 0,.int .i64 0,.int .i64 0]).cells=#[Value.int .i64 0,.int .i64 0,.int .i64 0,.int .i64 0,.int .i64 0,.int .i64 0,.int .i64 0,.int .i64 0,.int .i64 0,.int .i64 0,.int .i64 0]:=rfl
   rw[hc]
   have hq:q % 11<11:=Nat.mod_lt _ (by omega)
   show Value.oneCell' (#[Value.int .i64 0,.int .i64 0,.int .i64 0,.int .i64 0,.int .i64 0,.int .i64 0,.int .i64 0,.int .i64 0,.int .i64 0,.int .i64 0,.int .i64 0][q % 11]!)=true
   generalize q % 11=k at hq
   match k with
   |0|1|2|3|4|5|6|7|8|9|10=>rfl
   |k+11=>omega
  have hcur:∀k,k<l.length*11->cur[k]?=(l.flatMap jobV)[k]?:=by
   intro k hk
   have:=congrArg (·[k]?) h5
   simp only[List.getElem?_take,hk,yb,Array.getElem?_toList]at this
   exact this
  have hcap:=Nat.mul_le_mul_right 11 h2
  have hcell:∀k,w.cell? ⟨b,k,none⟩=cur[k]?:=by
   intro k
   simp only[World.cell?,h1,Option.isSome_none,yG,yc]
  refine(ZNs b cap l.length a c w ((l.drop c).flatMap jobV) zs i0 hi0 hz1 Tryz.underlying39 _ Tryz.zeroValue56 hzs hzl hz0 (by simp only[maxLen]at h3;omega) hij hjn h2 hlen (fun v hv=>?_) (fun k u hu=>?_) fun k hk=>?_).mono fun e w' hw=>?_
  .obtain⟨x,_,hx⟩:=List.mem_flatMap.1 hv
   exact ZNd.vone x v hx
  .have hkl:k<(l.length-c)*11:=by
    have:=(yB hu).1
    rwa [hlen]at this
   have hm:c*11+(l.length-c)*11=l.length*11:=by rw[← Nat.add_mul];congr 1;omega
   rw[hcell,hcur _ (by omega),← hu,← Zgo ZNd.vlen,List.getElem?_drop]
  .have hk2:k<cur.size:=by rw[h4];omega
   rw[hcell,Array.getElem?_eq_getElem hk2]
   exact⟨rfl,frozen_of_row w b k cur ty h1⟩
  .obtain⟨he,hw⟩:=hw
   have m1:a*11+(l.length-c)*11=(a+(l.length-c))*11:=(Nat.add_mul ..).symm
   have m2:(a+(l.length-c))*11+(c-a)*11=l.length*11:=by rw[← Nat.add_mul];congr 1;omega
   obtain⟨F,hF,hw2⟩:=Zjs h1 (a*11) ((a+(l.length-c))*11) ((l.drop c).flatMap jobV) zs (by rw[hlen,h4];omega) (by rw[hzl,h4];omega)
   have hFs:F.size=cap*11:=by rw[hF];simp[h4]
   rw[hw,hw2]
   obtain⟨cur',q1,q2,q3,q4,q5⟩:=ZWh (F:=F) h1 (by omega) 1 #[]
   have hlr:(l.take a++l.drop c).length=a+(l.length-c):=by simp;omega
   refine⟨by rw[he,hlr];rfl,cur',q1,by rw[q2,h4],?_,by rw[hlr];omega,rfl,rfl,rfl,q4,q5⟩
   have hFl:F.toList.take ((a+(l.length-c))*11)=(l.take a++l.drop c).flatMap jobV:=by
    have hs1:((setMany cur (a*11) ((l.drop c).flatMap jobV)).toList.take ((a+(l.length-c))*11)).length=(a+(l.length-c))*11:=by
     have:(setMany cur (a*11) ((l.drop c).flatMap jobV)).toList.length=cap*11:=by simp[h4]
     rw[List.length_take,this];omega
    rw[hF,ZUb _ _ _ (by simp only[size_setMany];rw[hzl,h4];omega),List.append_assoc,List.take_append,hs1,Nat.sub_self,List.take_zero,List.append_nil,List.take_take,Nat.min_self]
    have hc0:cur.toList.length=cap*11:=by simp[h4]
    have hc1:(cur.toList.take (a*11)).length=a*11:=by rw[List.length_take,hc0];omega
    rw[ZUb _ _ _ (by rw[hlen,h4];omega),List.take_append,yU,hc1,hlen,← m1,Nat.sub_self,List.take_zero,List.append_nil,List.take_of_length_le (by rw[yU,hc1,hlen];omega),List.flatMap_append]
    congr 1
    rw[← Zfo ZNd.vlen l a,← h5,List.take_take,Nat.min_eq_left (by omega)]
   have:=congrArg (·.take ((a+(l.length-c))*11)) q3
   simp only[List.take_take]at this
   rw[Nat.min_eq_left (by omega)]at this
   rw[hlr,this,hFl]
 .cases h
end Go.Proofs.YtodafdoninblmaaGreat
namespace Go.Proofs.YtodafdoninblmaaGreat
open Go Go.RowKit Eng
def ZVg:L :=
sR [.bx 1 (.t 0),.al 2 [.nl,.nl,.nl,.nl,.nl],.mv 3 (cB false)]
 (sR [fA 9 1 0,lD 10 9 2 true,fA 11 1 2,lD 12 11 1 false,.bd 13 [.nl,.nl,.nl,.nl,.nl] [(0,2,(.t 10)),(2,1,(.t 12))],.al 4 [.nl,.nl,.nl,.nl,.nl],.st (.t 4) (.t 13) 5]
 (.seq (sR [fA 14 1 0,lD 15 14 2 true,cQ 16 ZQ7 [15],.un 17 (.t 16),mV 18 17,.g 18 false (fA 19 1 2),.g 18 false (lD 20 19 1 false),.g 18 false (.ln 21 (.t 20)),.g 18 false (fA 22 1 0),.g 18 false (fA 23 22 1),.g 18 false (lD 24 23 1 false),.g 18 false (.ln 25 (.t 24)),.g 18 false (bI 26 .neq 21 25),.pk 27 (.t 18) (cB true) (.t 26),mV 28 27,.g 28 false (fA 29 1 3),.g 28 false (lD 30 29 3 true),.g 28 false (cQ 31 ZR [30]),.g 28 false (.un 32 (.t 31)),.pk 33 (.t 28) (cB true) (.t 32)]
 (.cond (.t 33) (sR [.bd 34 [.nl,.nl,.nl,.nl,.nl] [],.st (.t 2) (.t 34) 5,.mv 3 (cB false)]
 gR)
 .skip))
 (.seq (sR [fA 35 1 0,fA 36 35 1,lD 37 36 1 false,.ln 38 (.t 37),.mv 39 (kI 0)]
 (.blk 0 (.loop (.gw (sR [bI 40 .lss 39 38]
 (.seq (.cond (.t 40) .skip
 (.exit 0))
 (.seq (.blk 1 (sR [iA 41 37 39 4,lD 42 41 4 true,.al 6 [.int .i64 0,.int .i64 0,.int .i64 0,.int .i64 0],.st (.t 6) (.t 42) 4]
 (sR [fA 44 6 1,lD 45 44 3 true,cQ 46 ZD6 [45],mV 43 46,eX 47 43 0,eX 48 43 1,.al 7 [.nl],.st (.t 7) (.t 47) 1,mV 8 48]
 (.reg [fA 49 4 3,lD 50 49 1 false,lD 51 7 1 true,.bs 52 1 [(.t 51)] false,.ap 53 (.t 50) (.t 52) 1 24,fA 54 4 3,.st (.t 54) (.t 53) 1]))))
 (.reg [.bi 55 .add (.t 39) (kI 1),mV 39 55]))))))))
 (sR [fA 57 1 3,lD 58 57 3 true,cQ 59 ZD6 [58],mV 56 59,eX 60 56 0,eX 61 56 1,fA 62 4 4,.st (.t 62) (.t 60) 1]
 (sR [lD 63 4 5 true,.cl 64 ZP9 [(.t 63)],.st (.t 2) (.t 64) 5,.mv 3 (cB true)]
 gR)))))
def ZF5(x4:Node)(_:Nat)(v4:(List (List Pt)))(k4:(List (List Pt))->Option (Room×Bool)):Option (Room×Bool) :=
 (appL 24 v4 [(ZY x4.cap).1]).bind fun xs5=>k4 xs5
def ZE5(s1:State)(v4:(List (List Pt))):Option (Room×Bool) :=
 (ZG4 (Room.mk s1.topo s1.up v4 ((ZY s1.lic).1))).bind fun y6=>some (y6,true)
def ZY4(s1:State):Option (Room×Bool) :=
 (Zc2 s1.topo).bind fun b2=>bif (((!b2)||((s1.up.length:Int)!=(s1.topo.nodes.length:Int)))||(!(Z2 s1.lic)))then(some ((Room.mk (Topo.mk [] []) [] [] []),false))else(rgl ZF5 (ZE5 s1) s1.topo.nodes 0 [])
theorem Zug{s1:State}{r:Room×Bool}(H:ZY4 s1=some r):Snd Tryz.prog Zsc [Zn .rd s1] (.tup [.agg [.sl .nw 1 (r.1.topo.parents.map eI),.sl .nw 4 (r.1.topo.nodes.map Zf),.sref 0,.sl .nw 1 (r.1.profs.map (Zg .nw)),.sl .nw 4 (r.1.lics.map ePt)],.bool r.2]) [⟨1,r.1.up.map eBo,false⟩]:=by
 refine wS ZVg [.c 2 5 true,.t 3] ?_
 unfold ZY4 at H
 obtain⟨b2,h2,H⟩:=bB H
 refine wG [.c 16 (Zu9 h2),.g 21 [((!b2),false)] (.ln _ _ fun _=>lm s1.up eBo),.g 25 [((!b2),false)] (.ln _ _ fun _=>lm s1.topo.nodes Zf),.g 31 [(((!b2)||((s1.up.length:Int)!=(s1.topo.nodes.length:Int))),false)] (.call _ _ _ _ _ (AEs.refl _) (fun _=>ZT s1.lic))] fun _=>?_
 refine Z3 H (fun H=>?_) fun H=>?_
 .refine wP ?_
  replace H:=sI H;subst H
  exact wN [(2,.d),(3,.d)] [(2,[.n 1,.n 4,.d,.n 1,.n 4])] [] [] [none] [⟨_,nw_I ([]:List Int)⟩,⟨_,Zx ([]:List Node)⟩,⟨_,Zb1 ([]:List (List Pt))⟩,⟨_,ZH2 ([]:List Pt)⟩]
 .refine wG [.u 38 (.ln _ _ fun _=>lm s1.topo.nodes Zf)] fun q3=>?_
  refine Zpc (fun(i4:Nat) (v4:(List (List Pt)))=>⟨[(1,.ptr 1 0),(2,.ptr 2 0),(4,.ptr 4 0),(37,.sl .rd 4 (s1.topo.nodes.map Zf)),(38,.int .i64 (s1.topo.nodes.length:Int)),(39,.int .i64 (i4:Int))],[],[(1,(Zn .rd s1).cells),(2,[.nl,.nl,.nl,.nl,.nl]),(4,[.sl .rd 1 (s1.topo.parents.map eI),.sl .rd 4 (s1.topo.nodes.map Zf),.sl .rd 1 (s1.up.map eBo),.sref 524000,.nl])],[(524000,⟨1,v4.map (Zg .nw),false⟩)]⟩) [] [(4,[.d,.d,.d,.z 524000,.d])] [(524000,(none,1))] [] (by kernel_rfl) (by kernel_rfl) H (fun i4 x4 v4 I m k4 hxv4 hiv4 H N24=>?_) (fun v4 I m H=>?_)
  .unfold ZF5 at H
   refine wP ?_
   refine wt (ltT hiv4) ?_
   obtain⟨xs5,h5,H⟩:=bB H
   refine wG [.u 41 (.ix _ _ _ fun _=>Z1 Zf (Z5 hxv4)),.c 46 (ZRb x4.cap),.u 53 (.ap _ _ _ _ fun _=>Z6 (Zg .nw) h5),.w 55 (wi .i64 rfl hiv4 q3.1)] fun _=>?_
   exact wT (N24 _ H)
  .unfold ZE5 at H
   refine wP ?_
   refine wf (ltF s1.topo.nodes.length) ?_
   obtain⟨y6,h6,H⟩:=bB H
   refine wG [.c 59 (ZRb s1.lic),.u 64 (.call _ _ _ _ _ (AEs.of (xs:=[.agg [.sl .rd 1 (s1.topo.parents.map eI),.sl .rd 4 (s1.topo.nodes.map Zf),.sl .rd 1 (s1.up.map eBo),.sl .rd 1 (v4.map (Zg .nw)),.sl .rd 4 (((ZY s1.lic).1).map ePt)]]) (by simp)) (fun _=>ZHb h6))] fun _=>?_
   replace H:=sI H;subst H
   exact wN [(2,.d),(3,.d)] [(2,[.d,.d,.d,.f,.d])] [(65000,some 65000,0)] [65001] [some 65000] [⟨_,nw_I y6.topo.parents⟩,⟨_,Zx y6.topo.nodes⟩,⟨_,Zb1 y6.profs⟩,⟨_,ZH2 y6.lics⟩,⟨_,ZI2 y6.up⟩]
def Zjk:L :=
sR [.bx 1 (.t 0),.al 2 [.nl,.nl,.nl,.nl,.nl],.mv 3 (cB false)]
 (sR [lD 13 1 11 true,cQ 14 Zsc [13],mV 12 14,eX 15 12 0,eX 16 12 1,.al 4 [.nl,.nl,.nl,.nl,.nl],.st (.t 4) (.t 15) 5,mV 5 16]
 (.seq (sR [mV 17 5,.un 18 (.t 17),mV 19 18,.g 19 false (fA 20 1 7),.g 19 false (lD 21 20 1 false),.g 19 false (cQ 22 Z21 [21]),.g 19 false (.un 23 (.t 22)),.pk 24 (.t 19) (cB true) (.t 23)]
 (.cond (.t 24) (sR [.bd 25 [.nl,.nl,.nl,.nl,.nl] [],.st (.t 2) (.t 25) 5,.mv 3 (cB false)]
 gR)
 .skip))
 (.seq (sR [fA 26 1 9,lD 27 26 1 false,.ln 28 (.t 27),.mv 29 (kI 0)]
 (.blk 0 (.loop (.gw (sR [bI 30 .lss 29 28]
 (.seq (.cond (.t 30) .skip
 (.exit 0))
 (.seq (.blk 1 (sR [iA 31 27 29 13,lD 32 31 13 true,.al 7 [.int .i64 0,.int .i64 0,.int .i64 0,.int .i64 0,.int .i64 0,.int .i64 0,.int .i64 0,.int .i64 0,.int .i64 0,.int .i64 0,.int .i64 0,.int .i64 0,.nl],.st (.t 7) (.t 32) 13]
 (sR [fA 33 7 11,lD 34 33 1 false,fA 35 7 0,fA 36 35 9,lD 37 36 1 false,bI 38 .add 34 37,mV 8 38]
 (.seq (sR [lD 39 4 5 true,fA 40 7 0,lD 41 40 11 true,fA 42 7 12,lD 43 42 1 false,cQ 44 ZO9 [39,41,43],.un 45 (.t 44),mV 46 45,.g 46 false (fA 47 7 11),.g 46 false (lD 48 47 1 false),.g 46 false (cQ 49 Z21 [48]),.g 46 false (.un 50 (.t 49)),.pk 51 (.t 46) (cB true) (.t 50),mV 52 51,.g 52 false (fA 53 7 11),.g 52 false (lD 54 53 1 false),.g 52 false (fA 55 1 7),.g 52 false (lD 56 55 1 false),.g 52 false (bI 57 .gtr 54 56),.pk 58 (.t 52) (cB true) (.t 57),mV 59 58,.g 59 false (mV 60 8),.g 59 false (fA 61 1 7),.g 59 false (lD 62 61 1 false),.g 59 false (bI 63 .leq 60 62),.pk 64 (.t 59) (cB true) (.t 63),mV 65 64,.g 65 false (mV 66 8),.g 65 false (.bi 67 .gtr (.t 66) (kI 1000000000)),.pk 68 (.t 65) (cB true) (.t 67)]
 (.cond (.t 68) (sR [.bd 69 [.nl,.nl,.nl,.nl,.nl] [],.st (.t 2) (.t 69) 5,.mv 3 (cB false)]
 gR)
 .skip))
 (sR [fA 70 7 0,lD 71 70 11 true,.al 9 [.int .i64 0,.int .i64 0,.int .i64 0,.int .i64 0,.int .i64 0,.int .i64 0,.int .i64 0,.int .i64 0,.int .i64 0,.int .i64 0,.int .i64 0],.st (.t 9) (.t 71) 11]
 (sR [mV 72 8,fA 73 1 7,lD 74 73 1 false,bI 75 .sub 72 74,fA 76 9 9,.st (.t 76) (.t 75) 1]
 (sR [lD 78 4 5 true,lD 79 9 11 true,fA 80 1 7,lD 81 80 1 false,fA 82 7 12,lD 83 82 1 false,cQ 84 ZR9 [78,79,81,83],mV 77 84,eX 85 77 0,eX 86 77 1,.al 10 [.nl,.nl,.nl,.nl,.nl],.st (.t 10) (.t 85) 5,mV 11 86]
 (.seq (sR [mV 87 11,.un 88 (.t 87)]
 (.cond (.t 88) (sR [.bd 89 [.nl,.nl,.nl,.nl,.nl] [],.st (.t 2) (.t 89) 5,.mv 3 (cB false)]
 gR)
 .skip))
 (.reg [lD 90 10 5 true,.st (.t 4) (.t 90) 5])))))))))
 (.reg [.bi 91 .add (.t 29) (kI 1),mV 29 91]))))))))
 (sR [lD 92 4 5 true,.st (.t 2) (.t 92) 5,.mv 3 (cB true)]
 gR))))
def Z45(s1:State)(x4:Run)(_:Nat)(v4:Room)(k4:Room->Option (Room×Bool)):Option (Room×Bool) :=
 (ZF4 v4 x4.job x4.nodes).bind fun b5=>bif (((((!b5)||(!(Zo x4.t)))||(decide (s1.now<x4.t)))||(decide ((w64 (x4.t+x4.job.wall))<=s1.now)))||(decide (1000000000<(w64 (x4.t+x4.job.wall)))))then(some ((Room.mk (Topo.mk [] []) [] [] []),false))else((ZB2 v4 (Job.mk x4.job.id x4.job.prio x4.job.nodes x4.job.need x4.job.lic (w64 ((w64 (x4.t+x4.job.wall))-s1.now)) x4.job.level) s1.now x4.nodes).bind fun y6=>bif (!y6.2)then(some ((Room.mk (Topo.mk [] []) [] [] []),false))else(k4 y6.1))
def ZNb(v4:Room):Option (Room×Bool) :=
 some (v4,true)
def Zd2(s1:State):Option (Room×Bool) :=
 (ZY4 s1).bind fun y2=>bif ((!y2.2)||(!(Zo s1.now)))then(some ((Room.mk (Topo.mk [] []) [] [] []),false))else(rgl (Z45 s1) ZNb s1.runs 0 y2.1)
theorem Zad{s1:State}{r:Room×Bool}(H:Zd2 s1=some r):Snd Tryz.prog ZTa [Zn .rd s1] (.tup [Zq1 .nw r.1,.bool r.2]) []:=by
 refine wS Zjk [.c 2 5 true,.t 3] ?_
 unfold Zd2 at H
 obtain⟨y2,h2,H⟩:=bB H
 refine wG [.c 14 (Zug h2),.g 22 [((!y2.2),false)] (.call _ _ _ _ _ (AEs.refl _) (fun _=>Za1 s1.now))] fun _=>?_
 refine Z3 H (fun H=>?_) fun H=>?_
 .refine wP ?_
  replace H:=sI H;subst H
  exact wN [(2,.d),(3,.d)] [(2,[.n 1,.n 4,.n 1,.n 1,.n 4])] [] [] [] [⟨_,nw_I ([]:List Int)⟩,⟨_,Zx ([]:List Node)⟩,⟨_,ZI2 ([]:List Bool)⟩,⟨_,Zb1 ([]:List (List Pt))⟩,⟨_,ZH2 ([]:List Pt)⟩]
 .refine wG [.u 28 (.ln _ _ fun _=>lm s1.runs (Za .rd))] fun q3=>?_
  refine wR (fun(i4:Nat) (v4:Room)=>⟨[(1,.ptr 1 0),(2,.ptr 2 0),(4,.ptr 4 0),(27,.sl .rd 13 (s1.runs.map (Za .rd))),(28,.int .i64 (s1.runs.length:Int)),(29,.int .i64 (i4:Int))],[],[(1,(Zn .rd s1).cells),(2,[.nl,.nl,.nl,.nl,.nl]),(4,(Zq1 .nw v4).cells)],[]⟩) H (fun i4 x4 v4 I m k4 hxv4 hiv4 H N46=>?_) (fun v4 I m H=>?_)
  .unfold Z45 at H
   refine wP ?_
   refine wt (ltT hiv4) ?_
   obtain⟨b5,h5,H⟩:=bB H
   refine wG [.u 31 (.ix _ _ _ fun _=>Z1 (Za .rd) (Z5 hxv4)),.u 44 (.call _ _ _ _ _ (AEs.of (xs:=[.agg [.sl .rd 1 (v4.topo.parents.map eI),.sl .rd 4 (v4.topo.nodes.map Zf),.sl .rd 1 (v4.up.map eBo),.sl .rd 1 (v4.profs.map (Zg .nw)),.sl .rd 4 (v4.lics.map ePt)],.agg [.int .i64 x4.job.id,.int .i64 x4.job.prio,.int .i64 x4.job.nodes,.int .i64 x4.job.need.a,.int .i64 x4.job.need.b,.int .i64 x4.job.need.c,.int .i64 x4.job.lic.a,.int .i64 x4.job.lic.b,.int .i64 x4.job.lic.c,.int .i64 x4.job.wall,.int .i64 x4.job.level],.sl .rd 1 (x4.nodes.map eI)]) (by simp)) (fun _=>ZFb h5)),.g 49 [((!b5),false)] (.call _ _ _ _ _ (AEs.refl _) (fun _=>Za1 x4.t))] fun _=>?_
   refine Z3 H (fun H=>?_) fun H=>?_
   .refine wP ?_
    replace H:=sI H;subst H
    exact wN [(2,.d),(3,.d)] [(2,[.n 1,.n 4,.n 1,.n 1,.n 4])] [] [] [] [⟨_,nw_I ([]:List Int)⟩,⟨_,Zx ([]:List Node)⟩,⟨_,ZI2 ([]:List Bool)⟩,⟨_,Zb1 ([]:List (List Pt))⟩,⟨_,ZH2 ([]:List Pt)⟩]
   .obtain⟨y6,h6,H⟩:=bB H
    refine wG [.u 84 (.call _ _ _ _ _ (AEs.of (xs:=[.agg [.sl .rd 1 (v4.topo.parents.map eI),.sl .rd 4 (v4.topo.nodes.map Zf),.sl .rd 1 (v4.up.map eBo),.sl .rd 1 (v4.profs.map (Zg .nw)),.sl .rd 4 (v4.lics.map ePt)],.agg [.int .i64 x4.job.id,.int .i64 x4.job.prio,.int .i64 x4.job.nodes,.int .i64 x4.job.need.a,.int .i64 x4.job.need.b,.int .i64 x4.job.need.c,.int .i64 x4.job.lic.a,.int .i64 x4.job.lic.b,.int .i64 x4.job.lic.c,.int .i64 (w64 ((w64 (x4.t+x4.job.wall))-s1.now)),.int .i64 x4.job.level],.int .i64 s1.now,.sl .rd 1 (x4.nodes.map eI)]) (by simp)) (fun _=>ZOb h6))] fun _=>?_
    refine Z3 H (fun H=>?_) fun H=>?_
    .refine wP ?_
     replace H:=sI H;subst H
     exact wN [(2,.d),(3,.d)] [(2,[.n 1,.n 4,.n 1,.n 1,.n 4])] [] [] [] [⟨_,nw_I ([]:List Int)⟩,⟨_,Zx ([]:List Node)⟩,⟨_,ZI2 ([]:List Bool)⟩,⟨_,Zb1 ([]:List (List Pt))⟩,⟨_,ZH2 ([]:List Pt)⟩]
    .refine wG [.w 91 (wi .i64 rfl hiv4 q3.1)] fun _=>?_
     exact wT (N46 _ H)
  .unfold ZNb at H
   refine wP ?_
   refine wf (ltF s1.runs.length) ?_
   refine wP ?_
   replace H:=sI H;subst H
   exact wN [(2,.d),(3,.d)] [(2,[])] [] [] [] [⟨_,nw_I v4.topo.parents⟩,⟨_,Zx v4.topo.nodes⟩,⟨_,ZI2 v4.up⟩,⟨_,Zb1 v4.profs⟩,⟨_,ZH2 v4.lics⟩]
def Zxi:L :=
sR [.bx 1 (.t 0),.mv 2 (.c (.nl))]
 (sR [.bs 6 11 [] true,fA 7 1 8,lD 8 7 1 false,.ap 9 (.t 6) (.t 8) 11 88,mV 3 9]
 (.seq (sR [fA 10 1 9,lD 11 10 1 false,.ln 12 (.t 11),.mv 13 (kI 0)]
 (.blk 0 (.loop (.gw (sR [bI 14 .lss 13 12]
 (.seq (.cond (.t 14) .skip
 (.exit 0))
 (.seq (.blk 1 (sR [iA 15 11 13 13,lD 16 15 13 true,.al 5 [.int .i64 0,.int .i64 0,.int .i64 0,.int .i64 0,.int .i64 0,.int .i64 0,.int .i64 0,.int .i64 0,.int .i64 0,.int .i64 0,.int .i64 0,.int .i64 0,.nl],.st (.t 5) (.t 16) 13]
 (.reg [mV 17 3,fA 18 5 0,lD 19 18 11 true,.bs 20 11 [(.t 19)] false,.ap 21 (.t 17) (.t 20) 11 88,mV 3 21])))
 (.reg [.bi 22 .add (.t 13) (kI 1),mV 13 22]))))))))
 (sR [mV 23 3,mV 2 23]
 gR)))
def Z07(x4:Run)(_:Nat)(v4:(List Job))(k4:(List Job)->Option (List Job)):Option (List Job) :=
 (appL 88 v4 [x4.job]).bind fun xs5=>k4 xs5
def ZZ6(v4:(List Job)):Option (List Job) :=
 some v4
def ZB4(s1:State):Option (List Job) :=
 (appL 88 ([]:List Job) s1.queue).bind fun xs2=>rgl Z07 ZZ6 s1.runs 0 xs2
theorem ZIh{s1:State}{r:(List Job)}(H:ZB4 s1=some r):Snd Tryz.prog Zqd [Zn .rd s1] (.sl .nw 11 (r.map eJob)) []:=by
 refine wS Zxi [.t 2] ?_
 unfold ZB4 at H
 obtain⟨xs2,h2,H⟩:=bB H
 refine wG [.u 9 (.ap _ _ _ _ fun _=>Z6 eJob h2),.u 12 (.ln _ _ fun _=>lm s1.runs (Za .rd))] fun q3=>?_
 refine wR (fun(i4:Nat) (v4:(List Job))=>⟨[(3,.sref 6),(11,.sl .rd 13 (s1.runs.map (Za .rd))),(12,.int .i64 (s1.runs.length:Int)),(13,.int .i64 (i4:Int))],[],[],[(6,⟨11,v4.map eJob,false⟩)]⟩) H (fun i4 x4 v4 I m k4 hxv4 hiv4 H N15=>?_) (fun v4 I m H=>?_)
 .unfold Z07 at H
  refine wP ?_
  refine wt (ltT hiv4) ?_
  obtain⟨xs5,h5,H⟩:=bB H
  refine wG [.u 15 (.ix _ _ _ fun _=>Z1 (Za .rd) (Z5 hxv4)),.u 21 (.ap _ _ _ _ fun _=>Z6 eJob h5),.w 22 (wi .i64 rfl hiv4 q3.1)] fun _=>?_
  exact wT (N15 _ H)
 .unfold ZZ6 at H
  refine wP ?_
  refine wf (ltF s1.runs.length) ?_
  refine wP ?_
  replace H:=sI H;subst H
  exact wN [(2,.f)] [] [] [6] [] [⟨_,Zc3 v4⟩]
def ZIi:L :=
sR [.bx 1 (.t 0),.mv 2 (cB false)]
 (sR [lD 12 1 11 true,cQ 13 ZTa [12],mV 11 13,eX 14 11 0,eX 15 11 1,.al 3 [.nl,.nl,.nl,.nl,.nl],.st (.t 3) (.t 14) 5,mV 4 15]
 (.seq (sR [mV 16 4,.un 17 (.t 16),mV 18 17,.g 18 false (fA 19 1 6),.g 18 false (lD 20 19 1 false),.g 18 false (.bi 21 .lss (.t 20) (kI 0)),.pk 22 (.t 18) (cB true) (.t 21),mV 23 22,.g 23 false (fA 24 1 6),.g 23 false (lD 25 24 1 false),.g 23 false (.bi 26 .gtr (.t 25) (kI 60)),.pk 27 (.t 23) (cB true) (.t 26),mV 28 27,.g 28 false (lD 29 1 11 true),.g 28 false (cQ 30 Zqd [29]),.g 28 false (cQ 31 ZC6 [30]),.g 28 false (.un 32 (.t 31)),.pk 33 (.t 28) (cB true) (.t 32),mV 34 33,.g 34 false (fA 35 1 10),.g 34 false (lD 36 35 1 false),.g 34 false (.ln 37 (.t 36)),.g 34 false (.bi 38 .gtr (.t 37) (kI 300)),.pk 39 (.t 34) (cB true) (.t 38)]
 (.cond (.t 39) (.seq (rE 2 (cB false))
 gR)
 .skip))
 (.seq (sR [fA 40 1 9,lD 41 40 1 false,.ln 42 (.t 41),.mv 43 (kI 0)]
 (.blk 0 (.loop (.gw (sR [bI 44 .lss 43 42]
 (.seq (.cond (.t 44) .skip
 (.exit 0))
 (.seq (.blk 1 (sR [iA 45 41 43 13,lD 46 45 13 true,.al 6 [.int .i64 0,.int .i64 0,.int .i64 0,.int .i64 0,.int .i64 0,.int .i64 0,.int .i64 0,.int .i64 0,.int .i64 0,.int .i64 0,.int .i64 0,.int .i64 0,.nl],.st (.t 6) (.t 46) 13]
 (.seq (sR [fA 47 6 12,lD 48 47 1 false,.ln 49 (.t 48),.mv 50 (kI 0)]
 (.blk 2 (.loop (.gw (sR [bI 51 .lss 50 49]
 (.seq (.cond (.t 51) .skip
 (.exit 2))
 (.seq (.blk 3 (sR [mV 52 50,iA 53 48 50 1,lD 54 53 1 false,mV 7 52,mV 8 54]
 (sR [fA 55 1 2,lD 56 55 1 false,mV 57 8,iA 58 56 57 1,lD 59 58 1 false,.un 60 (.t 59),mV 61 60,.g 61 false (mV 62 7),.g 61 false (.bi 63 .gtr (.t 62) (kI 0)),.g 61 false (mV 64 63),.g 64 true (fA 65 6 12),.g 64 true (lD 66 65 1 false),.g 64 true (mV 67 7),.g 64 true (.bi 68 .sub (.t 67) (kI 1)),.g 64 true (iA 69 66 68 1),.g 64 true (lD 70 69 1 false),.g 64 true (mV 71 8),.g 64 true (bI 72 .geq 70 71),.g 61 false (.pk 73 (.t 64) (.t 72) (cB false)),.pk 74 (.t 61) (cB true) (.t 73)]
 (.cond (.t 74) (.seq (rE 2 (cB false))
 gR)
 .skip))))
 (.reg [.bi 75 .add (.t 50) (kI 1),mV 50 75]))))))))
 (.seq (.rq 12 [fA 76 1 0,lD 77 76 2 true,fA 78 1 0,lD 79 78 2 true,fA 80 6 12,lD 81 80 1 false,cQ 82 ZVe [79,81],cQ 83 Z11 [77,82],fA 84 6 0,fA 85 84 10,lD 86 85 1 false,bI 87 .gtr 83 86])
 (.cond (.t 87) (.seq (rE 2 (cB false))
 gR)
 .skip)))))
 (.reg [.bi 88 .add (.t 43) (kI 1),mV 43 88]))))))))
 (.seq (sR [fA 89 1 10,lD 90 89 1 false,.ln 91 (.t 90),.mv 92 (kI 0)]
 (.blk 4 (.loop (.gw (sR [bI 93 .lss 92 91]
 (.seq (.cond (.t 93) .skip
 (.exit 4))
 (.seq (.blk 5 (sR [iA 94 90 92 3,lD 95 94 3 true,.al 10 [.int .i64 0,.int .i64 0,.int .i64 0],.st (.t 10) (.t 95) 3]
 (sR [fA 96 10 0,lD 97 96 1 false,.bi 98 .lss (.t 97) (kI 1),mV 99 98,.g 99 false (fA 100 10 0),.g 99 false (lD 101 100 1 false),.g 99 false (.bi 102 .gtr (.t 101) (kI 999)),.pk 103 (.t 99) (cB true) (.t 102),mV 104 103,.g 104 false (fA 105 10 1),.g 104 false (lD 106 105 1 false),.g 104 false (.bi 107 .lss (.t 106) (kI 0)),.pk 108 (.t 104) (cB true) (.t 107),mV 109 108,.g 109 false (fA 110 10 1),.g 109 false (lD 111 110 1 false),.g 109 false (fA 112 1 7),.g 109 false (lD 113 112 1 false),.g 109 false (bI 114 .gtr 111 113),.pk 115 (.t 109) (cB true) (.t 114),mV 116 115,.g 116 false (fA 117 10 2),.g 116 false (lD 118 117 1 false),.g 116 false (.bi 119 .lss (.t 118) (kI 1)),.pk 120 (.t 116) (cB true) (.t 119),mV 121 120,.g 121 false (fA 122 10 2),.g 121 false (lD 123 122 1 false),.g 121 false (.bi 124 .gtr (.t 123) (kI 4)),.pk 125 (.t 121) (cB true) (.t 124)]
 (.cond (.t 125) (.seq (rE 2 (cB false))
 gR)
 .skip))))
 (.reg [.bi 126 .add (.t 92) (kI 1),mV 92 126]))))))))
 (.seq (rE 2 (cB true))
 gR)))))
def Zh4(s1:State)(x6:Run)(x8:Int)(i8:Nat)(_:Unit)(k8:Unit->Option Bool):Option Bool :=
 (idx s1.up x8).bind fun e9=>(bif (!e9)then some default else(bif (decide (0<(i8:Int)))then(idx x6.nodes (w64 ((i8:Int)-1)))else some default)).bind fun e10=>bif ((!e9)||((decide (0<(i8:Int)))&&(decide (x8<=e10))))then(some false)else(k8 ())
def Zy1(s1:State)(x6:Run)(k6:Unit->Option Bool)(_:Unit):Option Bool :=
 (Zs4 s1.topo x6.nodes).bind fun n11=>(Zm1 s1.topo n11).bind fun n12=>bif (decide (x6.job.level<n12))then(some false)else(k6 ())
def Zf4(s1:State)(x14:End)(_:Nat)(_:Unit)(k14:Unit->Option Bool):Option Bool :=
 bif ((((((decide (x14.id<1))||(decide (999<x14.id)))||(decide (x14.t<0)))||(decide (s1.now<x14.t)))||(decide (x14.why<1)))||(decide (4<x14.why)))then(some false)else(k14 ())
def Z67(_:Unit):Option Bool :=
 some true
def Zg4(s1:State)(x6:Run)(_:Nat)(_:Unit)(k6:Unit->Option Bool):Option Bool :=
 rgl (Zh4 s1 x6) (Zy1 s1 x6 k6) x6.nodes 0 ()
def Z77(s1:State)(_:Unit):Option Bool :=
 rgl (Zf4 s1) Z67 s1.ends 0 ()
def ZI4(s1:State):Option Bool :=
 (Zd2 s1).bind fun y2=>(bif (((!y2.2)||(decide (s1.depth<0)))||(decide (60<s1.depth)))then some default else(ZB4 s1)).bind fun y3=>(bif (((!y2.2)||(decide (s1.depth<0)))||(decide (60<s1.depth)))then some default else(Z53 y3)).bind fun b4=>bif (((((!y2.2)||(decide (s1.depth<0)))||(decide (60<s1.depth)))||(!b4))||(decide (300<(s1.ends.length:Int))))then(some false)else(rgl (Zg4 s1) (Z77 s1) s1.runs 0 ())
theorem ZLb{s1:State}{r:Bool}(H:ZI4 s1=some r):Snd Tryz.prog ZQ9 [Zn .rd s1] (.bool r) []:=by
 refine wS ZIi [.t 2] ?_
 unfold ZI4 at H
 obtain⟨y2,h2,H⟩:=bB H
 obtain⟨y3,h3,H⟩:=bB H
 obtain⟨b4,h4,H⟩:=bB H
 refine wG [.c 13 (Zad h2),.g 30 [(_,false)] (.call _ _ _ _ _ (AEs.refl _) (fun q=>ZIh (bF q.1 h3))),.g 31 [(_,false)] (.call _ _ _ _ _ (AEs.refl _) (fun q=>Zd8 (bF q.1 h4))),.g 37 [(((((!y2.2)||(decide (s1.depth<0)))||(decide (60<s1.depth)))||(!b4)),false)] (.ln _ _ fun _=>lm s1.ends eEnd)] fun _=>?_
 refine Z3 H (fun H=>?_) fun H=>?_
 .refine wP ?_
  replace H:=sI H;subst H
  exact wE [(2,.d)]
 .refine wG [.u 42 (.ln _ _ fun _=>lm s1.runs (Za .rd))] fun q5=>?_
  refine wR (fun(i6:Nat) (v6:Unit)=>⟨[(1,.ptr 1 0),(41,.sl .rd 13 (s1.runs.map (Za .rd))),(42,.int .i64 (s1.runs.length:Int)),(43,.int .i64 (i6:Int))],[],[(1,(Zn .rd s1).cells)],[]⟩) H (fun i6 x6 v6 I m k6 hxv6 hiv6 H N51=>?_) (fun v6 I m H=>?_)
  .unfold Zg4 at H
   refine wP ?_
   refine wt (ltT hiv6) ?_
   refine wG [.u 45 (.ix _ _ _ fun _=>Z1 (Za .rd) (Z5 hxv6)),.u 49 (.ln _ _ fun _=>lm x6.nodes eI)] fun q7=>?_
   refine wR (fun(i8:Nat) (v8:Unit)=>⟨[(1,.ptr 1 0),(6,.ptr 6 0),(41,.sl .rd 13 (s1.runs.map (Za .rd))),(42,.int .i64 (s1.runs.length:Int)),(43,.int .i64 (i6:Int)),(48,.sl .rd 1 (x6.nodes.map eI)),(49,.int .i64 (x6.nodes.length:Int)),(50,.int .i64 (i8:Int))],[],[(1,(Zn .rd s1).cells),(6,(Za .rd x6).cells)],[]⟩) H (fun i8 x8 v8 I m k8 hxv8 hiv8 H N34=>?_) (fun v8 I m H=>?_)
   .unfold Zh4 at H
    refine wP ?_
    refine wt (ltT hiv8) ?_
    obtain⟨e9,h9,H⟩:=bB H
    obtain⟨e10,h10,H⟩:=bB H
    refine wG [.u 53 (.ix _ _ _ fun _=>Z1 eI (Z5 hxv8)),.u 58 (.ix _ _ _ fun _=>Z1 eBo h9),.g 69 [(_,true),(_,false)] (.ix _ _ _ fun q=>Z1 eI (bT q.1 (bF q.2.1 h10)))] fun _=>?_
    refine Z3 H (fun H=>?_) fun H=>?_
    .refine wP ?_
     replace H:=sI H;subst H
     exact wE [(2,.d)]
    .refine wG [.w 75 (wi .i64 rfl hiv8 q7.1)] fun _=>?_
     exact wT (N34 () H)
   .unfold Zy1 at H
    refine wP ?_
    refine wf (ltF x6.nodes.length) ?_
    obtain⟨n11,h11,H⟩:=bB H
    obtain⟨n12,h12,H⟩:=bB H
    refine wG [.c 82 (ZGj h11),.c 83 (Zx1 h12)] fun _=>?_
    refine Z3 H (fun H=>?_) fun H=>?_
    .refine wP ?_
     replace H:=sI H;subst H
     exact wE [(2,.d)]
    .refine wG [.w 88 (wi .i64 rfl hiv6 q5.1)] fun _=>?_
     exact wT (N51 () H)
  .unfold Z77 at H
   refine wP ?_
   refine wf (ltF s1.runs.length) ?_
   refine wG [.u 91 (.ln _ _ fun _=>lm s1.ends eEnd)] fun q13=>?_
   refine wR (fun(i14:Nat) (v14:Unit)=>⟨[(1,.ptr 1 0),(90,.sl .rd 3 (s1.ends.map eEnd)),(91,.int .i64 (s1.ends.length:Int)),(92,.int .i64 (i14:Int))],[],[(1,(Zn .rd s1).cells)],[]⟩) H (fun i14 x14 v14 I m k14 hxv14 hiv14 H N73=>?_) (fun v14 I m H=>?_)
   .unfold Zf4 at H
    refine wP ?_
    refine wt (ltT hiv14) ?_
    refine wG [.u 94 (.ix _ _ _ fun _=>Z1 eEnd (Z5 hxv14))] fun _=>?_
    refine Z3 H (fun H=>?_) fun H=>?_
    .refine wP ?_
     replace H:=sI H;subst H
     exact wE [(2,.d)]
    .refine wG [.w 126 (wi .i64 rfl hiv14 q13.1)] fun _=>?_
     exact wT (N73 () H)
   .unfold Z67 at H
    refine wP ?_
    refine wf (ltF s1.ends.length) ?_
    refine wP ?_
    replace H:=sI H;subst H
    exact wE [(2,.d)]
def Zyi:L :=
sR [.bx 1 (.t 0),.al 2 [.nl,.nl,.nl,.int .i64 0,.int .i64 0,.int .i64 0,.int .i64 0,.int .i64 0,.nl,.nl,.nl]]
 (.seq (.rq 12 [.be 6,fA 7 1 0,fA 8 7 0,lD 9 8 1 false,.ae 10 (.t 6) (.t 9) 1 8,.be 11,fA 12 1 0,fA 13 12 1,lD 14 13 1 false,.ae 15 (.t 11) (.t 14) 4 32,.bd 16 [.nl,.nl] [(0,1,(.t 10)),(1,1,(.t 15))],fA 17 1 0,.st (.t 17) (.t 16) 2])
 (sR [.bs 18 1 [] true,fA 19 1 2,lD 20 19 1 false,.ap 21 (.t 18) (.t 20) 1 1,fA 22 1 2,.st (.t 22) (.t 21) 1]
 (sR [.bs 23 11 [] true,fA 24 1 8,lD 25 24 1 false,.ap 26 (.t 23) (.t 25) 11 88,fA 27 1 8,.st (.t 27) (.t 26) 1]
 (sR [.bs 28 13 [] true,mV 3 28]
 (.seq (sR [fA 29 1 9,lD 30 29 1 false,.ln 31 (.t 30),.mv 32 (kI 0)]
 (.blk 0 (.loop (.gw (sR [bI 33 .lss 32 31]
 (.seq (.cond (.t 33) .skip
 (.exit 0))
 (.seq (.blk 1 (sR [iA 34 30 32 13,lD 35 34 13 true,.al 5 [.int .i64 0,.int .i64 0,.int .i64 0,.int .i64 0,.int .i64 0,.int .i64 0,.int .i64 0,.int .i64 0,.int .i64 0,.int .i64 0,.int .i64 0,.int .i64 0,.nl],.st (.t 5) (.t 35) 13]
 (sR [.bs 36 1 [] true,fA 37 5 12,lD 38 37 1 false,.ap 39 (.t 36) (.t 38) 1 8,fA 40 5 12,.st (.t 40) (.t 39) 1]
 (.gw (.reg [mV 41 3,lD 42 5 13 true,.bs 43 13 [(.t 42)] false,.ap 44 (.t 41) (.t 43) 13 120,mV 3 44])))))
 (.reg [.bi 45 .add (.t 32) (kI 1),mV 32 45]))))))))
 (sR [mV 46 3,fA 47 1 9,.st (.t 47) (.t 46) 1]
 (sR [.bs 48 3 [] true,fA 49 1 10,lD 50 49 1 false,.ap 51 (.t 48) (.t 50) 3 24,fA 52 1 10,.st (.t 52) (.t 51) 1]
 (sR [lD 53 1 11 true,.st (.t 2) (.t 53) 11]
 gR))))))))
def Z94(x7:Run)(_:Nat)(v7:(List Run))(k7:(List Run)->Option State):Option State :=
 (appL 8 ([]:List Int) x7.nodes).bind fun xs8=>(appL 120 v7 [(Run.mk x7.job x7.t xs8)]).bind fun xs9=>k7 xs9
def Z17(s1:State)(xs2:List Int)(xs3:List Node)(xs4:List Bool)(xs5:List Job)(v7:(List Run)):Option State :=
 (appL 24 ([]:List End) s1.ends).bind fun xs10=>some (State.mk (Topo.mk xs2 xs3) xs4 s1.lic s1.depth s1.now xs5 v7 xs10)
def ZC4(s1:State):Option State :=
 (appL 8 ([]:List Int) s1.topo.parents).bind fun xs2=>(appL 32 ([]:List Node) s1.topo.nodes).bind fun xs3=>(appL 1 ([]:List Bool) s1.up).bind fun xs4=>(appL 88 ([]:List Job) s1.queue).bind fun xs5=>rgl Z94 (Z17 s1 xs2 xs3 xs4 xs5) s1.runs 0 []
theorem ZCb{s1:State}{r:State}(H:ZC4 s1=some r):Snd Tryz.prog ZL9 [Zn .rd s1] (.agg [.sl .nw 1 (r.topo.parents.map eI),.sl .nw 4 (r.topo.nodes.map Zf),.sl .nw 1 (r.up.map eBo),.int .i64 r.lic.a,.int .i64 r.lic.b,.int .i64 r.lic.c,.int .i64 r.depth,.int .i64 r.now,.sref 0,.sref 1,.sref 2]) [⟨11,r.queue.map eJob,false⟩,⟨13,r.runs.map (Za .nw),false⟩,⟨3,r.ends.map eEnd,false⟩]:=by
 refine wS Zyi [.c 2 11 true] ?_
 unfold ZC4 at H
 obtain⟨xs2,h2,H⟩:=bB H
 obtain⟨xs3,h3,H⟩:=bB H
 obtain⟨xs4,h4,H⟩:=bB H
 obtain⟨xs5,h5,H⟩:=bB H
 refine wG [.u 10 (.ap _ _ _ _ fun _=>Z6 eI h2),.u 15 (.ap _ _ _ _ fun _=>Z6 Zf h3),.u 21 (.ap _ _ _ _ fun _=>Z6 eBo h4),.u 26 (.ap _ _ _ _ fun _=>Z6 eJob h5),.u 31 (.ln _ _ fun _=>lm s1.runs (Za .rd))] fun q6=>?_
 refine wR (fun(i7:Nat) (v7:(List Run))=>⟨[(1,.ptr 1 0),(2,.ptr 2 0),(3,.sref 28),(30,.sl .rd 13 (s1.runs.map (Za .rd))),(31,.int .i64 (s1.runs.length:Int)),(32,.int .i64 (i7:Int))],[],[(1,[.sl .nw 1 (xs2.map eI),.sl .nw 4 (xs3.map Zf),.sref 18,.int .i64 s1.lic.a,.int .i64 s1.lic.b,.int .i64 s1.lic.c,.int .i64 s1.depth,.int .i64 s1.now,.sref 23,.sl .rd 13 (s1.runs.map (Za .rd)),.sl .rd 3 (s1.ends.map eEnd)]),(2,[.nl,.nl,.nl,.int .i64 0,.int .i64 0,.int .i64 0,.int .i64 0,.int .i64 0,.nl,.nl,.nl])],[(18,⟨1,xs4.map eBo,false⟩),(23,⟨11,xs5.map eJob,false⟩),(28,⟨13,v7.map (Za .nw),false⟩)]⟩) H (fun i7 x7 v7 I m k7 hxv7 hiv7 H N20=>?_) (fun v7 I m H=>?_)
 .unfold Z94 at H
  refine wP ?_
  refine wt (ltT hiv7) ?_
  obtain⟨xs8,h8,H⟩:=bB H
  refine wG [.u 34 (.ix _ _ _ fun _=>Z1 (Za .rd) (Z5 hxv7)),.u 39 (.ap _ _ _ _ fun _=>Z6 eI h8)] fun _=>?_
  refine Z7w [(39,.f)] [(5,[.d,.d,.d,.d,.d,.d,.d,.d,.d,.d,.d,.d,.f])] [36] (by kernel_rfl) ?_
  obtain⟨xs9,h9,H⟩:=bB H
  refine wG [.u 44 (.ap _ _ _ _ fun _=>Z6 (Za .nw) h9),.w 45 (wi .i64 rfl hiv7 q6.1)] fun _=>?_
  exact wT (N20 _ H)
 .unfold Z17 at H
  refine wP ?_
  refine wf (ltF s1.runs.length) ?_
  obtain⟨xs10,h10,H⟩:=bB H
  refine wG [.u 51 (.ap _ _ _ _ fun _=>Z6 eEnd h10)] fun _=>?_
  replace H:=sI H;subst H
  exact wN [(2,.d)] [(2,[.d,.d,.f,.d,.d,.d,.d,.d,.d,.d,.d])] [(23,some 23,0),(28,some 28,0),(48,some 48,0)] [18] [some 23,some 28,some 48] [⟨_,nw_I xs2⟩,⟨_,Zx xs3⟩,⟨_,ZI2 xs4⟩,⟨_,Zc3 xs5⟩,⟨_,Zb3 v7⟩,⟨_,ZK6 xs10⟩]
def Zqe:L :=
sR [.bx 4 (.t 0),.mv 8 (.c (.nl)),.mv 9 (.c (.nl)),.mv 10 (cB false)]
 (.seq (sR [lD 20 4 5 true,cQ 21 Zz5 [20],.un 22 (.t 21),mV 23 22,.g 23 false (mV 24 2),.g 23 false (cQ 25 ZC6 [24]),.g 23 false (.un 26 (.t 25)),.pk 27 (.t 23) (cB true) (.t 26),mV 28 27,.g 28 false (mV 29 1),.g 28 false (cQ 30 Z21 [29]),.g 28 false (.un 31 (.t 30)),.pk 32 (.t 28) (cB true) (.t 31),mV 33 32,.g 33 false (mV 34 3),.g 33 false (.bi 35 .lss (.t 34) (kI 0)),.pk 36 (.t 33) (cB true) (.t 35),mV 37 36,.g 37 false (mV 38 3),.g 37 false (.bi 39 .gtr (.t 38) (kI 60)),.pk 40 (.t 37) (cB true) (.t 39)]
 (.cond (.t 40) (sR [.mv 8 (.c (.nl)),.mv 9 (.c (.nl)),.mv 10 (cB false)]
 gR)
 .skip))
 (sR [.bs 41 3 [] true,mV 11 41]
 (sR [.bs 42 3 [] true,mV 12 42]
 (.seq (sR [mV 43 2,cQ 44 Zlg [43],.ln 45 (.t 44),.mv 46 (kI 0)]
 (.blk 0 (.loop (.gw (sR [bI 47 .lss 46 45]
 (.seq (.cond (.t 47) .skip
 (.exit 0))
 (.seq (.blk 1 (sR [iA 48 44 46 11,lD 49 48 11 true,.al 14 [.int .i64 0,.int .i64 0,.int .i64 0,.int .i64 0,.int .i64 0,.int .i64 0,.int .i64 0,.int .i64 0,.int .i64 0,.int .i64 0,.int .i64 0],.st (.t 14) (.t 49) 11]
 (sR [lD 51 4 5 true,lD 52 14 11 true,mV 53 1,cQ 54 Zzc [51,52,53],mV 50 54,eX 55 50 0,eX 56 50 1,eX 57 50 2,mV 15 55,mV 16 56,mV 17 57]
 (.seq (sR [mV 58 17,.un 59 (.t 58),mV 60 59,.g 60 false (mV 61 15),.g 60 false (mV 62 1),.g 60 false (bI 63 .gtr 61 62),.g 60 false (mV 64 63),.g 64 true (mV 65 12),.g 64 true (.ln 66 (.t 65)),.g 64 true (mV 67 3),.g 64 true (bI 68 .geq 66 67),.g 60 false (.pk 69 (.t 64) (.t 68) (cB false)),.pk 70 (.t 60) (cB true) (.t 69)]
 (.cond (.t 70) (.exit 1)
 .skip))
 (sR [lD 72 4 5 true,lD 73 14 11 true,mV 74 15,mV 75 16,cQ 76 ZR9 [72,73,74,75],mV 71 76,eX 77 71 0,eX 78 71 1,.al 18 [.nl,.nl,.nl,.nl,.nl],.st (.t 18) (.t 77) 5,mV 19 78]
 (.seq (sR [mV 79 19,.un 80 (.t 79)]
 (.cond (.t 80) (.exit 1)
 .skip))
 (sR [lD 81 18 5 true,.st (.t 4) (.t 81) 5]
 (sR [mV 82 15,mV 83 1,bI 84 .eql 82 83]
 (.cond (.t 84) (.reg [mV 85 11,fA 86 14 0,lD 87 86 1 false,mV 88 15,mV 89 16,.bd 90 [.int .i64 0,.int .i64 0,.nl] [(0,1,(.t 87)),(1,1,(.t 88)),(2,1,(.t 89))],.bs 91 3 [(.t 90)] false,.ap 92 (.t 85) (.t 91) 3 40,mV 11 92])
 (.reg [mV 93 12,fA 94 14 0,lD 95 94 1 false,mV 96 15,mV 97 16,.bd 98 [.int .i64 0,.int .i64 0,.nl] [(0,1,(.t 95)),(1,1,(.t 96)),(2,1,(.t 97))],.bs 99 3 [(.t 98)] false,.ap 100 (.t 93) (.t 99) 3 40,mV 12 100]))))))))))
 (.reg [.bi 101 .add (.t 46) (kI 1),mV 46 101]))))))))
 (sR [mV 102 11,mV 103 12,mV 8 102,mV 9 103,.mv 10 (cB true)]
 gR)))))
def Z9e:List Rv:=[.t 8,.t 9,.t 10]
theorem ZLe:ZPe Tryz.prog ZUa 4 Zqe Z9e=true:=by kernel_rfl
def ZR1(now2:Int)(depth4:Int)(x11:Job)(_:Nat)(v11:Room×(List Held)×(List Held))(k11:(Room×(List Held)×(List Held))->Option ((List Held)×(List Held)×Bool)):Option ((List Held)×(List Held)×Bool) :=
 (Zy3 v11.1 x11 now2).bind fun y12=>bif ((!y12.2.2)||((decide (now2<y12.1))&&(decide (depth4<=(v11.2.2.length:Int)))))then(k11 (v11.1,v11.2.1,v11.2.2))else((ZB2 v11.1 x11 y12.1 y12.2.1).bind fun y13=>bif (!y13.2)then(k11 (v11.1,v11.2.1,v11.2.2))else(bif (y12.1==now2)then((appL 40 v11.2.1 [(Held.mk x11.id y12.1 y12.2.1)]).bind fun xs14=>k11 (y13.1,xs14,v11.2.2))else((appL 40 v11.2.2 [(Held.mk x11.id y12.1 y12.2.1)]).bind fun xs15=>k11 (y13.1,v11.2.1,xs15))))
def Zr4(v11:Room×(List Held)×(List Held)):Option ((List Held)×(List Held)×Bool) :=
 some (v11.2.1,v11.2.2,true)
def Zn1(r1:Room)(now2:Int)(l3:List Job)(depth4:Int):Option ((List Held)×(List Held)×Bool) :=
 (Z43 r1).bind fun b5=>(bif (!b5)then some default else(Z53 l3)).bind fun b6=>bif (((((!b5)||(!b6))||(!(Zo now2)))||(decide (depth4<0)))||(decide (60<depth4)))then(some ([],[],false))else((Z1a l3).bind fun y9=>rgl (ZR1 now2 depth4) Zr4 y9 0 (r1,[],[]))
set_option maxRecDepth 20000 in
theorem Z5e{r1:Room}{now2:Int}{l3:List Job}{depth4:Int}{r:(List Held)×(List Held)×Bool}(H:Zn1 r1 now2 l3 depth4=some r):ConD Tryz.prog ZUa [Zq1 .nw r1,.int .i64 now2,.sl .rd 11 (l3.map eJob),.int .i64 depth4] [] [] (.tup [.sref 0,.sref 1,.bool r.2.2]) [] [] [(3,r.1.map (ZL3 .nw)),(3,r.2.1.map (ZL3 .nw))]:=by
 refine Zuq [] ZLe rfl (by kernel_rfl) ?_
 unfold Zn1 at H
 obtain⟨b5,h5,H⟩:=bB H
 obtain⟨b6,h6,H⟩:=bB H
 refine wG [.u 21 (.call _ _ _ _ _ (AEs.of (xs:=[.agg [.sl .rd 1 (r1.topo.parents.map eI),.sl .rd 4 (r1.topo.nodes.map Zf),.sl .rd 1 (r1.up.map eBo),.sl .rd 1 (r1.profs.map (Zg .nw)),.sl .rd 4 (r1.lics.map ePt)]]) (by simp)) (fun _=>Zn6 h5)),.g 25 [(_,false)] (.call _ _ _ _ _ (AEs.refl _) (fun q=>Zd8 (bF q.1 h6))),.g 30 [(((!b5)||(!b6)),false)] (.call _ _ _ _ _ (AEs.refl _) (fun _=>Za1 now2))] fun _=>?_
 refine Z3 H (fun H=>?_) fun H=>?_
 .refine wP ?_
  replace H:=sI H;subst H
  exact Zrc [(8,.z 700000007),(9,.z 700000008),(10,.d)] [] [(700000007,none,3),(700000008,none,3)] [] [700000007,700000008] (by kernel_rfl)
 .obtain⟨y9,h9,H⟩:=bB H
  refine wG [.c 44 (ZOl h9),.u 45 (.ln _ _ fun _=>lm y9 eJob)] fun q10=>?_
  refine wR (fun(i11:Nat) (v11:Room×(List Held)×(List Held))=>⟨[(1,.int .i64 now2),(3,.int .i64 depth4),(4,.ptr 4 0),(11,.sref 41),(12,.sref 42),(44,.sl .nw 11 (y9.map eJob)),(45,.int .i64 (y9.length:Int)),(46,.int .i64 (i11:Int))],[],[(4,(Zq1 .nw v11.1).cells)],[(41,⟨3,v11.2.1.map (ZL3 .nw),false⟩),(42,⟨3,v11.2.2.map (ZL3 .nw),false⟩)]⟩) H (fun i11 x11 v11 I m k11 hxv11 hiv11 H N45=>?_) (fun v11 I m H=>?_)
  .unfold ZR1 at H
   refine wP ?_
   refine wt (ltT hiv11) ?_
   obtain⟨y12,h12,H⟩:=bB H
   refine wG [.u 48 (.ix _ _ _ fun _=>Z1 eJob (Z5 hxv11)),.u 54 (.call _ _ _ _ _ (AEs.of (xs:=[.agg [.sl .rd 1 (v11.1.topo.parents.map eI),.sl .rd 4 (v11.1.topo.nodes.map Zf),.sl .rd 1 (v11.1.up.map eBo),.sl .rd 1 (v11.1.profs.map (Zg .nw)),.sl .rd 4 (v11.1.lics.map ePt)],.agg [.int .i64 x11.id,.int .i64 x11.prio,.int .i64 x11.nodes,.int .i64 x11.need.a,.int .i64 x11.need.b,.int .i64 x11.need.c,.int .i64 x11.lic.a,.int .i64 x11.lic.b,.int .i64 x11.lic.c,.int .i64 x11.wall,.int .i64 x11.level],.int .i64 now2]) (by simp)) (fun _=>ZIg h12)),.g 66 [((decide (now2<y12.1)),true),((!y12.2.2),false)] (.ln _ _ fun _=>lm v11.2.2 (ZL3 .nw))] fun _=>?_
   refine Z3 H (fun H=>?_) fun H=>?_
   .refine wG [.w 101 (wi .i64 rfl hiv11 q10.1)] fun _=>?_
    exact wT (N45 _ H)
   .obtain⟨y13,h13,H⟩:=bB H
    refine wG [.u 76 (.call _ _ _ _ _ (AEs.of (xs:=[.agg [.sl .rd 1 (v11.1.topo.parents.map eI),.sl .rd 4 (v11.1.topo.nodes.map Zf),.sl .rd 1 (v11.1.up.map eBo),.sl .rd 1 (v11.1.profs.map (Zg .nw)),.sl .rd 4 (v11.1.lics.map ePt)],.agg [.int .i64 x11.id,.int .i64 x11.prio,.int .i64 x11.nodes,.int .i64 x11.need.a,.int .i64 x11.need.b,.int .i64 x11.need.c,.int .i64 x11.lic.a,.int .i64 x11.lic.b,.int .i64 x11.lic.c,.int .i64 x11.wall,.int .i64 x11.level],.int .i64 y12.1,.sl .rd 1 (y12.2.1.map eI)]) (by simp)) (fun _=>ZOb h13))] fun _=>?_
    refine Z3 H (fun H=>?_) fun H=>?_
    .refine wG [.w 101 (wi .i64 rfl hiv11 q10.1)] fun _=>?_
     exact wT (N45 _ H)
    .refine wP ?_
     refine Z3 H (fun H=>?_) fun H=>?_
     .obtain⟨xs14,h14,H⟩:=bB H
      refine wG [.u 92 (.ap _ _ _ _ fun _=>Z6 (ZL3 .nw) h14),.w 101 (wi .i64 rfl hiv11 q10.1)] fun _=>?_
      exact wT (N45 _ H)
     .obtain⟨xs15,h15,H⟩:=bB H
      refine wG [.u 100 (.ap _ _ _ _ fun _=>Z6 (ZL3 .nw) h15),.w 101 (wi .i64 rfl hiv11 q10.1)] fun _=>?_
      exact wT (N45 _ H)
  .unfold Zr4 at H
   refine wP ?_
   refine wf (ltF y9.length) ?_
   refine wP ?_
   replace H:=sI H;subst H
   exact Zrc [(8,.d),(9,.d),(10,.d)] [] [(41,some 41,0),(42,some 42,0)] [] [41,42] (by kernel_rfl)
def Z9k:L :=
sR [.mv 4 (.c (.nl))]
 (sR [.bs 8 11 [] true,mV 5 8]
 (.seq (sR [mV 9 0,.ln 10 (.t 9),.mv 11 (kI 0)]
 (.blk 0 (.loop (.gw (sR [bI 12 .lss 11 10]
 (.seq (.cond (.t 12) .skip
 (.exit 0))
 (.seq (.blk 1 (sR [iA 13 9 11 11,lD 14 13 11 true,.al 7 [.int .i64 0,.int .i64 0,.int .i64 0,.int .i64 0,.int .i64 0,.int .i64 0,.int .i64 0,.int .i64 0,.int .i64 0,.int .i64 0,.int .i64 0],.st (.t 7) (.t 14) 11]
 (sR [fA 15 7 0,lD 16 15 1 false,mV 17 1,bI 18 .neq 16 17]
 (.cond (.t 18) (.reg [mV 19 5,lD 20 7 11 true,.bs 21 11 [(.t 20)] false,.ap 22 (.t 19) (.t 21) 11 88,mV 5 22])
 .skip))))
 (.reg [.bi 23 .add (.t 11) (kI 1),mV 11 23]))))))))
 (sR [mV 24 5,mV 4 24]
 gR)))
def Z48(id2:Int)(x4:Job)(_:Nat)(v4:(List Job))(k4:(List Job)->Option (List Job)):Option (List Job) :=
 bif (x4.id != id2)then((appL 88 v4 [x4]).bind fun xs5=>k4 xs5)else(k4 v4)
def Z38(v4:(List Job)):Option (List Job) :=
 some v4
def Z58(l1:List Job)(id2:Int):Option (List Job) :=
 rgl (Z48 id2) Z38 l1 0 []
theorem Zyj{l1:List Job}{id2:Int}{r:(List Job)}(H:Z58 l1 id2=some r):Snd Tryz.prog ZTe [.sl .rd 11 (l1.map eJob),.int .i64 id2] (.sl .nw 11 (r.map eJob)) []:=by
 refine wS Z9k [.t 4] ?_
 unfold Z58 at H
 refine wG [.u 10 (.ln _ _ fun _=>lm l1 eJob)] fun q3=>?_
 refine wR (fun(i4:Nat) (v4:(List Job))=>⟨[(1,.int .i64 id2),(5,.sref 8),(9,.sl .rd 11 (l1.map eJob)),(10,.int .i64 (l1.length:Int)),(11,.int .i64 (i4:Int))],[],[],[(8,⟨11,v4.map eJob,false⟩)]⟩) H (fun i4 x4 v4 I m k4 hxv4 hiv4 H N19=>?_) (fun v4 I m H=>?_)
 .unfold Z48 at H
  refine wP ?_
  refine wt (ltT hiv4) ?_
  refine wG [.u 13 (.ix _ _ _ fun _=>Z1 eJob (Z5 hxv4))] fun _=>?_
  refine Z3 H (fun H=>?_) fun H=>?_
  .obtain⟨xs5,h5,H⟩:=bB H
   refine wG [.u 22 (.ap _ _ _ _ fun _=>Z6 eJob h5),.w 23 (wi .i64 rfl hiv4 q3.1)] fun _=>?_
   exact wT (N19 _ H)
  .refine wG [.w 23 (wi .i64 rfl hiv4 q3.1)] fun _=>?_
   exact wT (N19 _ H)
 .unfold Z38 at H
  refine wP ?_
  refine wf (ltF l1.length) ?_
  refine wP ?_
  replace H:=sI H;subst H
  exact wN [(4,.f)] [] [] [8] [] [⟨_,Zc3 v4⟩]
def Zwi:L :=
sR [.bx 1 (.t 0),.mv 2 (kI 0)]
 (.seq (rE 3 (kI (-1)))
 (.seq (sR [fA 6 1 9,lD 7 6 1 false,.ln 8 (.t 7),.mv 9 (kI 0)]
 (.blk 0 (.loop (.gw (sR [bI 10 .lss 9 8]
 (.seq (.cond (.t 10) .skip
 (.exit 0))
 (.seq (.blk 1 (sR [iA 11 7 9 13,lD 12 11 13 true,.al 5 [.int .i64 0,.int .i64 0,.int .i64 0,.int .i64 0,.int .i64 0,.int .i64 0,.int .i64 0,.int .i64 0,.int .i64 0,.int .i64 0,.int .i64 0,.int .i64 0,.nl],.st (.t 5) (.t 12) 13]
 (sR [mV 13 3,.bi 14 .lss (.t 13) (kI 0),mV 15 14,.g 15 false (fA 16 5 11),.g 15 false (lD 17 16 1 false),.g 15 false (fA 18 5 0),.g 15 false (fA 19 18 9),.g 15 false (lD 20 19 1 false),.g 15 false (bI 21 .add 17 20),.g 15 false (mV 22 3),.g 15 false (bI 23 .lss 21 22),.pk 24 (.t 15) (cB true) (.t 23)]
 (.cond (.t 24) (.reg [fA 25 5 11,lD 26 25 1 false,fA 27 5 0,fA 28 27 9,lD 29 28 1 false,bI 30 .add 26 29,mV 3 30])
 .skip))))
 (.reg [.bi 31 .add (.t 9) (kI 1),mV 9 31]))))))))
 (sR [mV 32 3,mV 2 32]
 gR)))
def ZY6(x3:Run)(_:Nat)(v3:Int)(k3:Int->Option Int):Option Int :=
 bif ((decide (v3<0))||(decide ((w64 (x3.t+x3.job.wall))<v3)))then(k3 (w64 (x3.t+x3.job.wall)))else(k3 v3)
def Zab(v3:Int):Option Int :=
 some v3
def ZA2(s1:State):Option Int :=
 rgl ZY6 Zab s1.runs 0 (-1)
theorem ZX4{s1:State}{r:Int}(H:ZA2 s1=some r):Snd Tryz.prog Z64 [Zn .rd s1] (.int .i64 r) []:=by
 refine wS Zwi [.t 2] ?_
 unfold ZA2 at H
 refine wG [.u 8 (.ln _ _ fun _=>lm s1.runs (Za .rd))] fun q2=>?_
 refine wR (fun(i3:Nat) (v3:Int)=>⟨[(3,.int .i64 v3),(7,.sl .rd 13 (s1.runs.map (Za .rd))),(8,.int .i64 (s1.runs.length:Int)),(9,.int .i64 (i3:Int))],[],[],[]⟩) H (fun i3 x3 v3 I m k3 hxv3 hiv3 H N19=>?_) (fun v3 I m H=>?_)
 .unfold ZY6 at H
  refine wP ?_
  refine wt (ltT hiv3) ?_
  refine wG [.u 11 (.ix _ _ _ fun _=>Z1 (Za .rd) (Z5 hxv3))] fun _=>?_
  refine Z3 H (fun H=>?_) fun H=>?_
  .refine wG [.w 31 (wi .i64 rfl hiv3 q2.1)] fun _=>?_
   exact wT (N19 _ H)
  .refine wG [.w 31 (wi .i64 rfl hiv3 q2.1)] fun _=>?_
   exact wT (N19 _ H)
 .unfold Zab at H
  refine wP ?_
  refine wf (ltF s1.runs.length) ?_
  refine wP ?_
  replace H:=sI H;subst H
  exact wE [(2,.d)]
def ZAa:L :=
sR [.bx 1 (.t 0),.al 2 [.nl,.nl,.nl,.int .i64 0,.int .i64 0,.int .i64 0,.int .i64 0,.int .i64 0,.nl,.nl,.nl]]
 (sR [lD 13 1 11 true,cQ 14 ZTa [13],mV 12 14,eX 15 12 0,eX 16 12 1,.al 3 [.nl,.nl,.nl,.nl,.nl],.st (.t 3) (.t 15) 5,mV 4 16]
 (sR [lD 18 3 5 true,fA 19 1 7,lD 20 19 1 false,fA 21 1 8,lD 22 21 1 false,fA 23 1 6,lD 24 23 1 false,.cm 25 ZUa [(.t 18),(.t 20),(.t 22),(.t 24)],mV 17 25,eX 26 17 0,eX 27 17 1,eX 28 17 2,mV 5 26,mV 6 27,mV 7 28]
 (.seq (sR [mV 29 5,.ln 30 (.t 29),.mv 31 (kI 0)]
 (.blk 0 (.loop (.gw (sR [bI 32 .lss 31 30]
 (.seq (.cond (.t 32) .skip
 (.exit 0))
 (.seq (.blk 1 (sR [iA 33 29 31 3,lD 34 33 3 true,.al 9 [.int .i64 0,.int .i64 0,.nl],.st (.t 9) (.t 34) 3]
 (sR [fA 36 1 8,lD 37 36 1 false,fA 38 9 0,lD 39 38 1 false,cQ 40 Zrd [37,39],mV 35 40,eX 41 35 0,eX 42 35 1,.al 10 [.int .i64 0,.int .i64 0,.int .i64 0,.int .i64 0,.int .i64 0,.int .i64 0,.int .i64 0,.int .i64 0,.int .i64 0,.int .i64 0,.int .i64 0],.st (.t 10) (.t 41) 11,mV 11 42]
 (sR [fA 43 1 8,lD 44 43 1 false,fA 45 9 0,lD 46 45 1 false,cQ 47 ZTe [44,46],fA 48 1 8,.st (.t 48) (.t 47) 1]
 (.reg [fA 49 1 9,lD 50 49 1 false,lD 51 10 11 true,fA 52 1 7,lD 53 52 1 false,fA 54 9 2,lD 55 54 1 false,.bd 56 [.int .i64 0,.int .i64 0,.int .i64 0,.int .i64 0,.int .i64 0,.int .i64 0,.int .i64 0,.int .i64 0,.int .i64 0,.int .i64 0,.int .i64 0,.int .i64 0,.nl] [(0,11,(.t 51)),(11,1,(.t 53)),(12,1,(.t 55))],.bs 57 13 [(.t 56)] false,.ap 58 (.t 50) (.t 57) 13 120,fA 59 1 9,.st (.t 59) (.t 58) 1])))))
 (.reg [.bi 60 .add (.t 31) (kI 1),mV 31 60]))))))))
 (sR [lD 61 1 11 true,.st (.t 2) (.t 61) 11]
 gR))))
def Zta:List Rv:=[.c 2 11 true]
theorem ZLa:ZPe Tryz.prog Zv5 1 ZAa Zta=true:=by kernel_rfl
def Zt1(s1:State)(x5:Held)(_:Nat)(v5:(List Job)×(List Run))(k5:((List Job)×(List Run))->Option State):Option State :=
 (ZV8 v5.1 x5.id).bind fun y6=>(Z58 v5.1 x5.id).bind fun y7=>(appL 120 v5.2 [(Run.mk y6.1 s1.now x5.nodes)]).bind fun xs8=>k5 (y7,xs8)
def ZA4(s1:State)(v5:(List Job)×(List Run)):Option State :=
 some (State.mk s1.topo s1.up s1.lic s1.depth s1.now v5.1 v5.2 s1.ends)
def Zf1(s1:State):Option State :=
 (Zd2 s1).bind fun y2=>(Zn1 y2.1 s1.now s1.queue s1.depth).bind fun y3=>rgl (Zt1 s1) (ZA4 s1) y3.1 0 (s1.queue,s1.runs)
set_option maxRecDepth 20000 in
theorem Zna{s1:State}{r:State}(H:Zf1 s1=some r):ConD Tryz.prog Zv5 [.agg [.sl .nw 1 (s1.topo.parents.map eI),.sl .nw 4 (s1.topo.nodes.map Zf),.sl .nw 1 (s1.up.map eBo),.int .i64 s1.lic.a,.int .i64 s1.lic.b,.int .i64 s1.lic.c,.int .i64 s1.depth,.int .i64 s1.now,.sl .nw 11 (s1.queue.map eJob),.sref 0,.sref 1]] [] [(13,s1.runs.map (Za .nw)),(3,s1.ends.map eEnd)] (.agg [.sl .nw 1 (r.topo.parents.map eI),.sl .nw 4 (r.topo.nodes.map Zf),.sl .nw 1 (r.up.map eBo),.int .i64 r.lic.a,.int .i64 r.lic.b,.int .i64 r.lic.c,.int .i64 r.depth,.int .i64 r.now,.sl .nw 11 (r.queue.map eJob),.sref 2,.sref 3]) [] [none,none] [(13,r.runs.map (Za .nw)),(3,r.ends.map eEnd)]:=by
 refine Zuq [false,false] ZLa rfl (by kernel_rfl) ?_
 unfold Zf1 at H
 obtain⟨y2,h2,H⟩:=bB H
 obtain⟨y3,h3,H⟩:=bB H
 refine wG [.u 14 (.call _ _ _ _ _ (AEs.of (xs:=[.agg [.sl .rd 1 (s1.topo.parents.map eI),.sl .rd 4 (s1.topo.nodes.map Zf),.sl .rd 1 (s1.up.map eBo),.int .i64 s1.lic.a,.int .i64 s1.lic.b,.int .i64 s1.lic.c,.int .i64 s1.depth,.int .i64 s1.now,.sl .rd 11 (s1.queue.map eJob),.sl .rd 13 (s1.runs.map (Za .nw)),.sl .rd 3 (s1.ends.map eEnd)]]) (by simp)) (fun _=>Zad h2)),.u 25 (.cw ZUa [] [] [] [] [Zq1 .nw y2.1,.int .i64 s1.now,.sl .nw 11 (s1.queue.map eJob),.int .i64 s1.depth] _ _ _ _ _ (GEs.of [true,false,false,false] (by simp)) (by simp) (by simp) (by simp) (fun _=>Z5e h3)),.u 30 (.ln _ _ fun _=>lm y3.1 (ZL3 .nw))] fun q4=>?_
 refine wR (fun(i5:Nat) (v5:(List Job)×(List Run))=>⟨[(1,.ptr 1 0),(2,.ptr 2 0),(29,.sref 26000),(30,.int .i64 (y3.1.length:Int)),(31,.int .i64 (i5:Int))],[],[(1,[.sl .nw 1 (s1.topo.parents.map eI),.sl .nw 4 (s1.topo.nodes.map Zf),.sl .nw 1 (s1.up.map eBo),.int .i64 s1.lic.a,.int .i64 s1.lic.b,.int .i64 s1.lic.c,.int .i64 s1.depth,.int .i64 s1.now,.sl .nw 11 (v5.1.map eJob),.sref 500000000,.sref 500000001]),(2,[.nl,.nl,.nl,.int .i64 0,.int .i64 0,.int .i64 0,.int .i64 0,.int .i64 0,.nl,.nl,.nl])],[(500000000,⟨13,v5.2.map (Za .nw),false⟩),(500000001,⟨3,s1.ends.map eEnd,false⟩),(26000,⟨3,y3.1.map (ZL3 .nw),false⟩)]⟩) H (fun i5 x5 v5 I m k5 hxv5 hiv5 H N20=>?_) (fun v5 I m H=>?_)
 .unfold Zt1 at H
  refine wP ?_
  refine wt (ltT hiv5) ?_
  obtain⟨y6,h6,H⟩:=bB H
  obtain⟨y7,h7,H⟩:=bB H
  obtain⟨xs8,h8,H⟩:=bB H
  refine wG [.u 33 (.ix _ _ _ fun _=>Z1 (ZL3 .nw) (Z5 hxv5)),.u 34 (.el _ _ _ fun _=>gm (ZL3 .nw) (Zk1 (Z5 hxv5))),.c 40 (ZKh h6),.c 47 (Zyj h7),.u 58 (.ap _ _ _ _ fun _=>Z6 (Za .nw) h8),.w 60 (wi .i64 rfl hiv5 q4.1)] fun _=>?_
  exact wT (N20 _ H)
 .unfold ZA4 at H
  refine wP ?_
  refine wf (ltF y3.1.length) ?_
  refine wP ?_
  replace H:=sI H;subst H
  exact Zrc [(2,.d)] [(2,[])] [(500000000,some 500000000,0),(500000001,some 500000001,0)] [] [500000000,500000001] (by kernel_rfl)
def ZAm:L :=
sR [.bx 2 (.t 0),.al 4 [.nl,.nl,.nl,.int .i64 0,.int .i64 0,.int .i64 0,.int .i64 0,.int .i64 0,.nl,.nl,.nl],.mv 5 (cB false)]
 (.seq (sR [lD 10 2 11 true,cQ 11 ZQ9 [10],.un 12 (.t 11),mV 13 12,.g 13 false (mV 14 1),.g 13 false (cQ 15 Z21 [14]),.g 13 false (.un 16 (.t 15)),.pk 17 (.t 13) (cB true) (.t 16),mV 18 17,.g 18 false (mV 19 1),.g 18 false (fA 20 2 7),.g 18 false (lD 21 20 1 false),.g 18 false (bI 22 .lss 19 21),.pk 23 (.t 18) (cB true) (.t 22)]
 (.cond (.t 23) (sR [.bd 24 [.nl,.nl,.nl,.int .i64 0,.int .i64 0,.int .i64 0,.int .i64 0,.int .i64 0,.nl,.nl,.nl] [],.st (.t 4) (.t 24) 11,.mv 5 (cB false)]
 gR)
 .skip))
 (sR [lD 25 2 11 true,.cl 26 ZL9 [(.t 25)],.st (.t 2) (.t 26) 11]
 (.seq (sR [lD 27 2 11 true,cQ 28 Z64 [27],mV 6 28]
 (.blk 0 (.loop (.gw (.seq (sR [mV 29 6,.bi 30 .geq (.t 29) (kI 0),mV 31 30,.g 31 true (mV 32 6),.g 31 true (mV 33 1),.g 31 true (bI 34 .leq 32 33),.pk 35 (.t 31) (.t 34) (cB false)]
 (.cond (.t 35) .skip
 (.exit 0)))
 (.seq (.blk 1 (sR [mV 38 6,fA 39 2 7,.st (.t 39) (.t 38) 1]
 (sR [.bs 40 13 [] true,mV 7 40]
 (.seq (sR [fA 41 2 9,lD 42 41 1 false,.ln 43 (.t 42),.mv 44 (kI 0)]
 (.blk 2 (.loop (.gw (sR [bI 45 .lss 44 43]
 (.seq (.cond (.t 45) .skip
 (.exit 2))
 (.seq (.blk 3 (sR [iA 46 42 44 13,lD 47 46 13 true,.al 9 [.int .i64 0,.int .i64 0,.int .i64 0,.int .i64 0,.int .i64 0,.int .i64 0,.int .i64 0,.int .i64 0,.int .i64 0,.int .i64 0,.int .i64 0,.int .i64 0,.nl],.st (.t 9) (.t 47) 13]
 (sR [fA 48 9 11,lD 49 48 1 false,fA 50 9 0,fA 51 50 9,lD 52 51 1 false,bI 53 .add 49 52,mV 54 6,bI 55 .eql 53 54]
 (.cond (.t 55) (.reg [fA 56 2 10,lD 57 56 1 false,fA 58 9 0,fA 59 58 0,lD 60 59 1 false,mV 61 6,.bd 62 [.int .i64 0,.int .i64 0,.int .i64 0] [(0,1,(.t 60)),(1,1,(.t 61)),(2,1,(kI 1))],.bs 63 3 [(.t 62)] false,.ap 64 (.t 57) (.t 63) 3 24,fA 65 2 10,.st (.t 65) (.t 64) 1])
 (.reg [mV 66 7,lD 67 9 13 true,.bs 68 13 [(.t 67)] false,.ap 69 (.t 66) (.t 68) 13 120,mV 7 69])))))
 (.reg [.bi 70 .add (.t 44) (kI 1),mV 44 70]))))))))
 (sR [mV 71 7,fA 72 2 9,.st (.t 72) (.t 71) 1]
 (.seq (sR [fA 73 2 10,lD 74 73 1 false,.ln 75 (.t 74),.bi 76 .gtr (.t 75) (kI 300)]
 (.cond (.t 76) (sR [.bd 77 [.nl,.nl,.nl,.int .i64 0,.int .i64 0,.int .i64 0,.int .i64 0,.int .i64 0,.nl,.nl,.nl] [],.st (.t 4) (.t 77) 11,.mv 5 (cB false)]
 gR)
 .skip))
 (.reg [lD 78 2 11 true,.cm 79 Zv5 [(.t 78)],.st (.t 2) (.t 79) 11])))))))
 (.reg [lD 36 2 11 true,cQ 37 Z64 [36],mV 6 37])))))))
 (sR [mV 80 1,fA 81 2 7,.st (.t 81) (.t 80) 1]
 (sR [lD 82 2 11 true,.st (.t 4) (.t 82) 11,.mv 5 (cB true)]
 gR)))))
def Zm6(v14:State×Int)(x16:Run)(_:Nat)(v16:(List End)×(List Run))(k16:((List End)×(List Run))->Option (State×Bool)):Option (State×Bool) :=
 bif ((w64 (x16.t+x16.job.wall))==v14.2)then((appL 24 v16.1 [(End.mk x16.job.id v14.2 1)]).bind fun xs17=>k16 (xs17,v16.2))else((appL 120 v16.2 [x16]).bind fun xs18=>k16 (v16.1,xs18))
def Zt9(v14:State×Int)(k14:(State×Int)->Option (State×Bool))(v16:(List End)×(List Run)):Option (State×Bool) :=
 bif (decide (300<(v16.1.length:Int)))then(some ((State.mk (Topo.mk [] []) [] (Vec.mk 0 0 0) 0 0 [] [] []),false))else((Zf1 (State.mk v14.1.topo v14.1.up v14.1.lic v14.1.depth v14.2 v14.1.queue v16.2 v16.1)).bind fun y20=>(ZA2 y20).bind fun n21=>k14 (y20,n21))
def ZU3(t2:Int)(v14:State×Int)(k14:(State×Int)->Option (State×Bool)):Option (State×Bool) :=
 bif ((decide (0<=v14.2))&&(decide (v14.2<=t2)))then(rgl (Zm6 v14) (Zt9 v14 k14) v14.1.runs 0 (v14.1.ends,[]))else(some ((State.mk v14.1.topo v14.1.up v14.1.lic v14.1.depth t2 v14.1.queue v14.1.runs v14.1.ends),true))
def ZN5(s1:State)(t2:Int):Option (State×Bool) :=
 (ZI4 s1).bind fun b3=>bif (((!b3)||(!(Zo t2)))||(decide (t2<s1.now)))then(some ((State.mk (Topo.mk [] []) [] (Vec.mk 0 0 0) 0 0 [] [] []),false))else((ZC4 s1).bind fun y4=>(ZA2 y4).bind fun n5=>whl (ZU3 t2) 9223372036854775807 (y4,n5))
theorem ZNl{s1:State}{t2:Int}{r:State×Bool}(H:ZN5 s1 t2=some r):Snd Tryz.prog Zkg [Zn .rd s1,.int .i64 t2] (.tup [Zn .nw r.1,.bool r.2]) []:=by
 refine wS ZAm [.c 4 11 true,.t 5] ?_
 unfold ZN5 at H
 obtain⟨b3,h3,H⟩:=bB H
 refine wG [.c 11 (ZLb h3),.g 15 [((!b3),false)] (.call _ _ _ _ _ (AEs.refl _) (fun _=>Za1 t2))] fun _=>?_
 refine Z3 H (fun H=>?_) fun H=>?_
 .refine wP ?_
  replace H:=sI H;subst H
  exact wN [(4,.d),(5,.d)] [(4,[.n 1,.n 4,.n 1,.d,.d,.d,.d,.d,.n 11,.n 13,.n 3])] [] [] [] [⟨_,nw_I ([]:List Int)⟩,⟨_,Zx ([]:List Node)⟩,⟨_,ZI2 ([]:List Bool)⟩,⟨_,Zc3 ([]:List Job)⟩,⟨_,Zb3 ([]:List Run)⟩,⟨_,ZK6 ([]:List End)⟩]
 .obtain⟨y4,h4,H⟩:=bB H
  obtain⟨n5,h5,H⟩:=bB H
  refine wG [.c 26 (ZCb h4),.u 28 (.call _ _ _ _ _ (AEs.of (xs:=[.agg [.sl .rd 1 (y4.topo.parents.map eI),.sl .rd 4 (y4.topo.nodes.map Zf),.sl .rd 1 (y4.up.map eBo),.int .i64 y4.lic.a,.int .i64 y4.lic.b,.int .i64 y4.lic.c,.int .i64 y4.depth,.int .i64 y4.now,.sl .rd 11 (y4.queue.map eJob),.sl .rd 13 (y4.runs.map (Za .nw)),.sl .rd 3 (y4.ends.map eEnd)]]) (by simp)) (fun _=>ZX4 h5))] fun _=>?_
  refine Z1q (fun(v14:State×Int)=>⟨[(1,.int .i64 t2),(2,.ptr 2 0),(4,.ptr 4 0),(6,.int .i64 v14.2)],[],[(2,[.sl .nw 1 (v14.1.topo.parents.map eI),.sl .nw 4 (v14.1.topo.nodes.map Zf),.sl .nw 1 (v14.1.up.map eBo),.int .i64 v14.1.lic.a,.int .i64 v14.1.lic.b,.int .i64 v14.1.lic.c,.int .i64 v14.1.depth,.int .i64 v14.1.now,.sl .nw 11 (v14.1.queue.map eJob),.sref 27001,.sref 27002]),(4,[.nl,.nl,.nl,.int .i64 0,.int .i64 0,.int .i64 0,.int .i64 0,.int .i64 0,.nl,.nl,.nl])],[(27001,⟨13,v14.1.runs.map (Za .nw),false⟩),(27002,⟨3,v14.1.ends.map eEnd,false⟩)]⟩) [] [(2,[.d,.d,.d,.d,.d,.d,.d,.d,.f,.d,.d])] [] [27000] (by kernel_rfl) (by kernel_rfl) H (fun v14 I m k14 H N55=>?_)
  unfold ZU3 at H
  refine wP ?_
  refine Z3 H (fun H=>?_) fun H=>?_
  .refine wG [.u 43 (.ln _ _ fun _=>lm v14.1.runs (Za .nw))] fun q15=>?_
   refine wR (fun(i16:Nat) (v16:(List End)×(List Run))=>⟨[(1,.int .i64 t2),(2,.ptr 2 0),(4,.ptr 4 0),(6,.int .i64 v14.2),(7,.sref 40),(42,.sref 27001),(43,.int .i64 (v14.1.runs.length:Int)),(44,.int .i64 (i16:Int))],[],[(2,[.sl .nw 1 (v14.1.topo.parents.map eI),.sl .nw 4 (v14.1.topo.nodes.map Zf),.sl .nw 1 (v14.1.up.map eBo),.int .i64 v14.1.lic.a,.int .i64 v14.1.lic.b,.int .i64 v14.1.lic.c,.int .i64 v14.1.depth,.int .i64 v14.2,.sl .nw 11 (v14.1.queue.map eJob),.sref 27001,.sref 27002]),(4,[.nl,.nl,.nl,.int .i64 0,.int .i64 0,.int .i64 0,.int .i64 0,.int .i64 0,.nl,.nl,.nl])],[(27001,⟨13,v14.1.runs.map (Za .nw),false⟩),(27002,⟨3,v16.1.map eEnd,false⟩),(40,⟨13,v16.2.map (Za .nw),false⟩)]⟩) H (fun i16 x16 v16 I m k16 hxv16 hiv16 H N34=>?_) (fun v16 I m H=>?_)
   .unfold Zm6 at H
    refine wP ?_
    refine wt (ltT hiv16) ?_
    refine wG [.u 46 (.ix _ _ _ fun _=>Z1 (Za .nw) (Z5 hxv16)),.u 47 (.el _ _ _ fun _=>gm (Za .nw) (Zk1 (Z5 hxv16)))] fun _=>?_
    refine Z3 H (fun H=>?_) fun H=>?_
    .obtain⟨xs17,h17,H⟩:=bB H
     refine wG [.u 64 (.ap _ _ _ _ fun _=>Z6 eEnd h17),.w 70 (wi .i64 rfl hiv16 q15.1)] fun _=>?_
     exact wT (N34 _ H)
    .obtain⟨xs18,h18,H⟩:=bB H
     refine wG [.u 69 (.ap _ _ _ _ fun _=>Z6 (Za .nw) h18),.w 70 (wi .i64 rfl hiv16 q15.1)] fun _=>?_
     exact wT (N34 _ H)
   .unfold Zt9 at H
    refine wP ?_
    refine wf (ltF v14.1.runs.length) ?_
    refine wG [.u 75 (.ln _ _ fun _=>lm v16.1 eEnd)] fun q19=>?_
    refine Z3 H (fun H=>?_) fun H=>?_
    .refine wP ?_
     replace H:=sI H;subst H
     exact wN [(4,.d),(5,.d)] [(4,[.n 1,.n 4,.n 1,.d,.d,.d,.d,.d,.n 11,.n 13,.n 3])] [] [] [] [⟨_,nw_I ([]:List Int)⟩,⟨_,Zx ([]:List Node)⟩,⟨_,ZI2 ([]:List Bool)⟩,⟨_,Zc3 ([]:List Job)⟩,⟨_,Zb3 ([]:List Run)⟩,⟨_,ZK6 ([]:List End)⟩]
    .obtain⟨y20,h20,H⟩:=bB H
     obtain⟨n21,h21,H⟩:=bB H
     refine wG [.u 79 (.cw Zv5 [] [40,27002] [] [(13,v16.2.map (Za .nw)),(3,v16.1.map eEnd)] [.agg [.sl .nw 1 (v14.1.topo.parents.map eI),.sl .nw 4 (v14.1.topo.nodes.map Zf),.sl .nw 1 (v14.1.up.map eBo),.int .i64 v14.1.lic.a,.int .i64 v14.1.lic.b,.int .i64 v14.1.lic.c,.int .i64 v14.1.depth,.int .i64 v14.2,.sl .nw 11 (v14.1.queue.map eJob),.sref 0,.sref 1]] _ _ _ _ _ (GEs.of [true] (by simp)) (by simp) (by simp) (by simp) (fun _=>Zna h20)),.u 37 (.call _ _ _ _ _ (AEs.of (xs:=[.agg [.sl .rd 1 (y20.topo.parents.map eI),.sl .rd 4 (y20.topo.nodes.map Zf),.sl .rd 1 (y20.up.map eBo),.int .i64 y20.lic.a,.int .i64 y20.lic.b,.int .i64 y20.lic.c,.int .i64 y20.depth,.int .i64 y20.now,.sl .rd 11 (y20.queue.map eJob),.sl .rd 13 (y20.runs.map (Za .nw)),.sl .rd 3 (y20.ends.map eEnd)]]) (by simp)) (fun _=>ZX4 h21))] fun _=>?_
     exact Zsn (N55 _ H) [] [] [(27001,(some 80000,0)),(27002,(some 80001,0))] [] (by kernel_rfl) (by kernel_rfl)
  .refine wP ?_
   replace H:=sI H;subst H
   exact wN [(4,.d),(5,.d)] [(4,[.d,.d,.d,.d,.d,.d,.d,.d,.d,.f,.f])] [] [27001,27002] [] [⟨_,nw_I v14.1.topo.parents⟩,⟨_,Zx v14.1.topo.nodes⟩,⟨_,ZI2 v14.1.up⟩,⟨_,Zc3 v14.1.queue⟩,⟨_,Zb3 v14.1.runs⟩,⟨_,ZK6 v14.1.ends⟩]
def ZGf:L :=
sR [.bx 1 (.t 0),.al 2 [.nl,.nl,.nl,.int .i64 0,.int .i64 0,.int .i64 0,.int .i64 0,.int .i64 0,.nl,.nl,.nl]]
 (sR [fA 6 1 0,lD 7 6 2 true,cQ 8 ZB5 [7],fA 9 1 0,.st (.t 9) (.t 8) 2]
 (sR [fA 10 1 2,lD 11 10 1 false,.ap 12 (.c (.nl)) (.t 11) 1 1,fA 13 1 2,.st (.t 13) (.t 12) 1]
 (sR [fA 14 1 8,lD 15 14 1 false,.ap 16 (.c (.nl)) (.t 15) 11 88,fA 17 1 8,.st (.t 17) (.t 16) 1]
 (sR [.mv 3 (.c (.nl))]
 (.seq (sR [fA 18 1 9,lD 19 18 1 false,.ln 20 (.t 19),.mv 21 (kI 0)]
 (.blk 0 (.loop (.gw (sR [bI 22 .lss 21 20]
 (.seq (.cond (.t 22) .skip
 (.exit 0))
 (.seq (.blk 1 (sR [iA 23 19 21 13,lD 24 23 13 true,.al 5 [.int .i64 0,.int .i64 0,.int .i64 0,.int .i64 0,.int .i64 0,.int .i64 0,.int .i64 0,.int .i64 0,.int .i64 0,.int .i64 0,.int .i64 0,.int .i64 0,.nl],.st (.t 5) (.t 24) 13]
 (sR [fA 25 5 12,lD 26 25 1 false,cQ 27 ZM8 [26],fA 28 5 12,.st (.t 28) (.t 27) 1]
 (.reg [mV 29 3,lD 30 5 13 true,.bs 31 13 [(.t 30)] false,.ap 32 (.t 29) (.t 31) 13 120,mV 3 32]))))
 (.reg [.bi 33 .add (.t 21) (kI 1),mV 21 33]))))))))
 (sR [mV 34 3,fA 35 1 9,.st (.t 35) (.t 34) 1]
 (sR [fA 36 1 10,lD 37 36 1 false,.ap 38 (.c (.nl)) (.t 37) 3 24,fA 39 1 10,.st (.t 39) (.t 38) 1]
 (sR [lD 40 1 11 true,.st (.t 2) (.t 40) 11]
 gR))))))))
def ZY2(x6:Run)(_:Nat)(v6:(List Run))(k6:(List Run)->Option State):Option State :=
 (Z82 x6.nodes).bind fun y7=>(appL 120 v6 [(Run.mk x6.job x6.t y7)]).bind fun xs8=>k6 xs8
def Zm5(s1:State)(y2:Topo)(xs3:List Bool)(xs4:List Job)(v6:(List Run)):Option State :=
 (appL 24 ([]:List End) s1.ends).bind fun xs9=>some (State.mk y2 xs3 s1.lic s1.depth s1.now xs4 v6 xs9)
def Zf2(s1:State):Option State :=
 (Z72 s1.topo).bind fun y2=>(appL 1 ([]:List Bool) s1.up).bind fun xs3=>(appL 88 ([]:List Job) s1.queue).bind fun xs4=>rgl ZY2 (Zm5 s1 y2 xs3 xs4) s1.runs 0 []
theorem Z46{s1:State}{r:State}(H:Zf2 s1=some r):Snd Tryz.prog Zq4 [Zn .rd s1] (.agg [.sl .nw 1 (r.topo.parents.map eI),.sl .nw 4 (r.topo.nodes.map Zf),.sl .nw 1 (r.up.map eBo),.int .i64 r.lic.a,.int .i64 r.lic.b,.int .i64 r.lic.c,.int .i64 r.depth,.int .i64 r.now,.sref 0,.sref 1,.sref 2]) [⟨11,r.queue.map eJob,false⟩,⟨13,r.runs.map (Za .nw),false⟩,⟨3,r.ends.map eEnd,false⟩]:=by
 refine wS ZGf [.c 2 11 true] ?_
 unfold Zf2 at H
 obtain⟨y2,h2,H⟩:=bB H
 obtain⟨xs3,h3,H⟩:=bB H
 obtain⟨xs4,h4,H⟩:=bB H
 refine wG [.c 8 (Ze7 h2),.u 12 (.ap _ _ _ _ fun _=>Z6 eBo h3),.u 16 (.ap _ _ _ _ fun _=>Z6 eJob h4),.u 20 (.ln _ _ fun _=>lm s1.runs (Za .rd))] fun q5=>?_
 refine Zpc (fun(i6:Nat) (v6:(List Run))=>⟨[(1,.ptr 1 0),(2,.ptr 2 0),(3,.sref 515002),(19,.sl .rd 13 (s1.runs.map (Za .rd))),(20,.int .i64 (s1.runs.length:Int)),(21,.int .i64 (i6:Int))],[],[(1,[.sl .nw 1 (y2.parents.map eI),.sl .nw 4 (y2.nodes.map Zf),.sref 12,.int .i64 s1.lic.a,.int .i64 s1.lic.b,.int .i64 s1.lic.c,.int .i64 s1.depth,.int .i64 s1.now,.sref 16,.sl .rd 13 (s1.runs.map (Za .rd)),.sl .rd 3 (s1.ends.map eEnd)]),(2,[.nl,.nl,.nl,.int .i64 0,.int .i64 0,.int .i64 0,.int .i64 0,.int .i64 0,.nl,.nl,.nl])],[(12,⟨1,xs3.map eBo,false⟩),(16,⟨11,xs4.map eJob,false⟩),(515002,⟨13,v6.map (Za .nw),false⟩)]⟩) [(3,.z 515002)] [] [(515002,(none,13))] [] (by kernel_rfl) (by kernel_rfl) H (fun i6 x6 v6 I m k6 hxv6 hiv6 H N20=>?_) (fun v6 I m H=>?_)
 .unfold ZY2 at H
  refine wP ?_
  refine wt (ltT hiv6) ?_
  obtain⟨y7,h7,H⟩:=bB H
  obtain⟨xs8,h8,H⟩:=bB H
  refine wG [.u 23 (.ix _ _ _ fun _=>Z1 (Za .rd) (Z5 hxv6)),.c 27 (Zpb h7),.u 32 (.ap _ _ _ _ fun _=>Z6 (Za .nw) h8),.w 33 (wi .i64 rfl hiv6 q5.1)] fun _=>?_
  exact wT (N20 _ H)
 .unfold Zm5 at H
  refine wP ?_
  refine wf (ltF s1.runs.length) ?_
  obtain⟨xs9,h9,H⟩:=bB H
  refine wG [.u 38 (.ap _ _ _ _ fun _=>Z6 eEnd h9)] fun _=>?_
  replace H:=sI H;subst H
  exact wN [(2,.d)] [(2,[.d,.d,.f,.d,.d,.d,.d,.d,.d,.d,.d])] [(16,some 16,0),(515002,some 515002,0),(38,some 38,0)] [12] [some 16,some 515002,some 38] [⟨_,nw_I y2.parents⟩,⟨_,Zx y2.nodes⟩,⟨_,ZI2 xs3⟩,⟨_,Zc3 xs4⟩,⟨_,Zb3 v6⟩,⟨_,ZK6 xs9⟩]
def ZSm:L :=
sR [.bx 3 (.t 0),.bx 5 (.t 2),.al 6 [.nl,.nl,.nl,.nl,.nl]]
 (sR [lD 12 3 2 true,cQ 13 ZB5 [12],mV 14 1,.ap 15 (.c (.nl)) (.t 14) 1 1,.bd 16 [.nl,.nl,.nl,.nl,.nl] [(0,2,(.t 13)),(2,1,(.t 15))],.al 7 [.nl,.nl,.nl,.nl,.nl],.st (.t 7) (.t 16) 5]
 (.seq (sR [fA 17 3 1,lD 18 17 1 false,.ln 19 (.t 18),.mv 20 (kI 0)]
 (.blk 0 (.loop (.gw (sR [bI 21 .lss 20 19]
 (.seq (.cond (.t 21) .skip
 (.exit 0))
 (.seq (.blk 1 (sR [iA 22 18 20 4,lD 23 22 4 true,.al 9 [.int .i64 0,.int .i64 0,.int .i64 0,.int .i64 0],.st (.t 9) (.t 23) 4]
 (sR [fA 25 9 1,lD 26 25 3 true,cQ 27 ZH6 [26],mV 24 27,eX 28 24 0,eX 29 24 1,.al 10 [.nl],.st (.t 10) (.t 28) 1,mV 11 29]
 (.reg [fA 30 7 3,lD 31 30 1 false,lD 32 10 1 true,.bs 33 1 [(.t 32)] false,.ap 34 (.t 31) (.t 33) 1 24,fA 35 7 3,.st (.t 35) (.t 34) 1]))))
 (.reg [.bi 36 .add (.t 20) (kI 1),mV 20 36]))))))))
 (sR [lD 38 5 3 true,cQ 39 ZH6 [38],mV 37 39,eX 40 37 0,eX 41 37 1,fA 42 7 4,.st (.t 42) (.t 40) 1]
 (sR [lD 43 7 5 true,.st (.t 6) (.t 43) 5]
 gR))))
def ZA9(x7:Node)(_:Nat)(v7:(List (List Pt)))(k7:(List (List Pt))->Option Room):Option Room :=
 (appL 24 v7 [(ZE2 x7.cap).1]).bind fun xs8=>k7 xs8
def Zz9(lic3:Vec)(y4:Topo)(xs5:List Bool)(v7:(List (List Pt))):Option Room :=
 some (Room.mk y4 xs5 v7 ((ZE2 lic3).1))
def Zda(t1:Topo)(up2:List Bool)(lic3:Vec):Option Room :=
 (Z72 t1).bind fun y4=>(appL 1 ([]:List Bool) up2).bind fun xs5=>rgl ZA9 (Zz9 lic3 y4 xs5) t1.nodes 0 []
theorem Z8n{t1:Topo}{up2:List Bool}{lic3:Vec}{r:Room}(H:Zda t1 up2 lic3=some r):Snd Tryz.prog Zrg [Zy .rd t1,.sl .rd 1 (up2.map eBo),eVec lic3] (Zq1 .nw r) []:=by
 refine wS ZSm [.c 6 5 true] ?_
 unfold Zda at H
 obtain⟨y4,h4,H⟩:=bB H
 obtain⟨xs5,h5,H⟩:=bB H
 refine wG [.c 13 (Ze7 h4),.u 15 (.ap _ _ _ _ fun _=>Z6 eBo h5),.u 19 (.ln _ _ fun _=>lm t1.nodes Zf)] fun q6=>?_
 refine Zpc (fun(i7:Nat) (v7:(List (List Pt)))=>⟨[(5,.ptr 5 0),(6,.ptr 6 0),(7,.ptr 7 0),(18,.sl .rd 4 (t1.nodes.map Zf)),(19,.int .i64 (t1.nodes.length:Int)),(20,.int .i64 (i7:Int))],[],[(5,(eVec lic3).cells),(6,[.nl,.nl,.nl,.nl,.nl]),(7,[.sl .nw 1 (y4.parents.map eI),.sl .nw 4 (y4.nodes.map Zf),.sref 15,.sref 190001,.nl])],[(15,⟨1,xs5.map eBo,false⟩),(190001,⟨1,v7.map (Zg .nw),false⟩)]⟩) [] [(7,[.d,.d,.d,.z 190001,.d])] [(190001,(none,1))] [] (by kernel_rfl) (by kernel_rfl) H (fun i7 x7 v7 I m k7 hxv7 hiv7 H N17=>?_) (fun v7 I m H=>?_)
 .unfold ZA9 at H
  refine wP ?_
  refine wt (ltT hiv7) ?_
  obtain⟨xs8,h8,H⟩:=bB H
  refine wG [.u 22 (.ix _ _ _ fun _=>Z1 Zf (Z5 hxv7)),.c 27 (Zhc x7.cap),.u 34 (.ap _ _ _ _ fun _=>Z6 (Zg .nw) h8),.w 36 (wi .i64 rfl hiv7 q6.1)] fun _=>?_
  exact wT (N17 _ H)
 .unfold Zz9 at H
  refine wP ?_
  refine wf (ltF t1.nodes.length) ?_
  refine wG [.c 39 (Zhc lic3)] fun _=>?_
  replace H:=sI H;subst H
  exact wN [(6,.d)] [(6,[.d,.d,.f,.f,.d])] [] [15,190001] [] [⟨_,nw_I y4.parents⟩,⟨_,Zx y4.nodes⟩,⟨_,ZI2 xs5⟩,⟨_,Zb1 v7⟩,⟨_,ZH2 ((ZE2 lic3).1)⟩]
def ZOk:L :=
sR [.bx 1 (.t 0),.al 2 [.nl,.nl,.nl,.nl,.nl],.mv 3 (cB false)]
 (.seq (sR [fA 9 1 0,lD 10 9 2 true,cQ 11 ZS7 [10],.un 12 (.t 11),mV 13 12,.g 13 false (fA 14 1 2),.g 13 false (lD 15 14 1 false),.g 13 false (.ln 16 (.t 15)),.g 13 false (fA 17 1 0),.g 13 false (fA 18 17 1),.g 13 false (lD 19 18 1 false),.g 13 false (.ln 20 (.t 19)),.g 13 false (bI 21 .neq 16 20),.pk 22 (.t 13) (cB true) (.t 21),mV 23 22,.g 23 false (fA 24 1 3),.g 23 false (lD 25 24 3 true),.g 23 false (cQ 26 ZZ [25]),.g 23 false (.un 27 (.t 26)),.pk 28 (.t 23) (cB true) (.t 27),mV 29 28,.g 29 false (fA 30 1 7),.g 29 false (lD 31 30 1 false),.g 29 false (cQ 32 ZJ1 [31]),.g 29 false (.un 33 (.t 32)),.pk 34 (.t 29) (cB true) (.t 33)]
 (.cond (.t 34) (sR [.bd 35 [.nl,.nl,.nl,.nl,.nl] [],.st (.t 2) (.t 35) 5,.mv 3 (cB false)]
 gR)
 .skip))
 (sR [fA 36 1 0,lD 37 36 2 true,fA 38 1 2,lD 39 38 1 false,fA 40 1 3,lD 41 40 3 true,cQ 42 Zrg [37,39,41],.al 4 [.nl,.nl,.nl,.nl,.nl],.st (.t 4) (.t 42) 5]
 (.seq (sR [fA 43 1 9,lD 44 43 1 false,.ln 45 (.t 44),.mv 46 (kI 0)]
 (.blk 0 (.loop (.gw (sR [bI 47 .lss 46 45]
 (.seq (.cond (.t 47) .skip
 (.exit 0))
 (.seq (.blk 1 (sR [iA 48 44 46 13,lD 49 48 13 true,.al 6 [.int .i64 0,.int .i64 0,.int .i64 0,.int .i64 0,.int .i64 0,.int .i64 0,.int .i64 0,.int .i64 0,.int .i64 0,.int .i64 0,.int .i64 0,.int .i64 0,.nl],.st (.t 6) (.t 49) 13]
 (.seq (sR [fA 50 6 0,lD 51 50 11 true,cQ 52 ZU4 [51],.un 53 (.t 52),mV 54 53,.g 54 false (fA 55 6 11),.g 54 false (lD 56 55 1 false),.g 54 false (fA 57 1 7),.g 54 false (lD 58 57 1 false),.g 54 false (.cq 59 Ze [(.t 56),(kI 0),(.t 58)]),.g 54 false (.un 60 (.t 59)),.pk 61 (.t 54) (cB true) (.t 60),mV 62 61,.g 62 false (fA 63 6 11),.g 62 false (lD 64 63 1 false),.g 62 false (fA 65 6 0),.g 62 false (fA 66 65 9),.g 62 false (lD 67 66 1 false),.g 62 false (bI 68 .add 64 67),.g 62 false (fA 69 1 7),.g 62 false (lD 70 69 1 false),.g 62 false (.bi 71 .add (.t 70) (kI 1)),.g 62 false (.cq 72 Ze [(.t 68),(.t 71),(kI 1000000000)]),.g 62 false (.un 73 (.t 72)),.pk 74 (.t 62) (cB true) (.t 73)]
 (.cond (.t 74) (sR [.bd 75 [.nl,.nl,.nl,.nl,.nl] [],.st (.t 2) (.t 75) 5,.mv 3 (cB false)]
 gR)
 .skip))
 (sR [lD 77 4 5 true,fA 78 6 0,lD 79 78 11 true,fA 80 1 7,lD 81 80 1 false,fA 82 6 11,lD 83 82 1 false,fA 84 6 0,fA 85 84 9,lD 86 85 1 false,bI 87 .add 83 86,fA 88 6 12,lD 89 88 1 false,.cq 90 ZEc [(.t 77),(.t 79),(.t 81),(.t 87),(.t 89),(.c (.fn Zy2 []))],mV 76 90,eX 91 76 0,eX 92 76 1,.al 7 [.nl,.nl,.nl,.nl,.nl],.st (.t 7) (.t 91) 5,mV 8 92]
 (.seq (sR [mV 93 8,.un 94 (.t 93)]
 (.cond (.t 94) (sR [.bd 95 [.nl,.nl,.nl,.nl,.nl] [],.st (.t 2) (.t 95) 5,.mv 3 (cB false)]
 gR)
 .skip))
 (.reg [lD 96 7 5 true,.st (.t 4) (.t 96) 5]))))))
 (.reg [.bi 97 .add (.t 46) (kI 1),mV 46 97]))))))))
 (sR [lD 98 4 5 true,.st (.t 2) (.t 98) 5,.mv 3 (cB true)]
 gR))))
def Zr5(s1:State)(x5:Run)(_:Nat)(v5:Room)(k5:Room->Option (Room×Bool)):Option (Room×Bool) :=
 bif (((!(Zj1 x5.job))||(!(Z0 x5.t 0 s1.now)))||(!(Z0 (w64 (x5.t+x5.job.wall)) (w64 (s1.now+1)) 1000000000)))then(some ((Room.mk (Topo.mk [] []) [] [] []),false))else((ZQ v5 x5.job s1.now (w64 (x5.t+x5.job.wall)) x5.nodes).bind fun y6=>bif (!y6.2)then(some ((Room.mk (Topo.mk [] []) [] [] []),false))else(k5 y6.1))
def Zcc(v5:Room):Option (Room×Bool) :=
 some (v5,true)
def Za6(s1:State):Option (Room×Bool) :=
 (Zk3 s1.topo).bind fun b2=>bif ((((!b2)||((s1.up.length:Int)!=(s1.topo.nodes.length:Int)))||(!(Zb s1.lic)))||(!(ZK s1.now)))then(some ((Room.mk (Topo.mk [] []) [] [] []),false))else((Zda s1.topo s1.up s1.lic).bind fun y3=>rgl (Zr5 s1) Zcc s1.runs 0 y3)
theorem Znd{s1:State}{r:Room×Bool}(H:Za6 s1=some r):Snd Tryz.prog Z7b [Zn .rd s1] (.tup [Zq1 .nw r.1,.bool r.2]) []:=by
 refine wS ZOk [.c 2 5 true,.t 3] ?_
 unfold Za6 at H
 obtain⟨b2,h2,H⟩:=bB H
 refine wG [.c 11 (ZE9 h2),.g 16 [((!b2),false)] (.ln _ _ fun _=>lm s1.up eBo),.g 20 [((!b2),false)] (.ln _ _ fun _=>lm s1.topo.nodes Zf),.g 26 [(((!b2)||((s1.up.length:Int)!=(s1.topo.nodes.length:Int))),false)] (.call _ _ _ _ _ (AEs.refl _) (fun _=>Z41 s1.lic)),.g 32 [((((!b2)||((s1.up.length:Int)!=(s1.topo.nodes.length:Int)))||(!(Zb s1.lic))),false)] (.call _ _ _ _ _ (AEs.refl _) (fun _=>Ze2 s1.now))] fun _=>?_
 refine Z3 H (fun H=>?_) fun H=>?_
 .refine wP ?_
  replace H:=sI H;subst H
  exact wN [(2,.d),(3,.d)] [(2,[.n 1,.n 4,.n 1,.n 1,.n 4])] [] [] [] [⟨_,nw_I ([]:List Int)⟩,⟨_,Zx ([]:List Node)⟩,⟨_,ZI2 ([]:List Bool)⟩,⟨_,Zb1 ([]:List (List Pt))⟩,⟨_,ZH2 ([]:List Pt)⟩]
 .obtain⟨y3,h3,H⟩:=bB H
  refine wG [.c 42 (Z8n h3),.u 45 (.ln _ _ fun _=>lm s1.runs (Za .rd))] fun q4=>?_
  refine wR (fun(i5:Nat) (v5:Room)=>⟨[(1,.ptr 1 0),(2,.ptr 2 0),(4,.ptr 4 0),(44,.sl .rd 13 (s1.runs.map (Za .rd))),(45,.int .i64 (s1.runs.length:Int)),(46,.int .i64 (i5:Int))],[],[(1,(Zn .rd s1).cells),(2,[.nl,.nl,.nl,.nl,.nl]),(4,(Zq1 .nw v5).cells)],[]⟩) H (fun i5 x5 v5 I m k5 hxv5 hiv5 H N40=>?_) (fun v5 I m H=>?_)
  .unfold Zr5 at H
   refine wP ?_
   refine wt (ltT hiv5) ?_
   refine wG [.u 48 (.ix _ _ _ fun _=>Z1 (Za .rd) (Z5 hxv5)),.c 52 (ZN7 x5.job),.g 59 [((!(Zj1 x5.job)),false)] (.call _ _ _ _ _ (AEs.refl _) (fun _=>Zc x5.t 0 s1.now)),.g 72 [(((!(Zj1 x5.job))||(!(Z0 x5.t 0 s1.now))),false)] (.call _ _ _ _ _ (AEs.refl _) (fun _=>Zc (w64 (x5.t+x5.job.wall)) (w64 (s1.now+1)) 1000000000))] fun _=>?_
   refine Z3 H (fun H=>?_) fun H=>?_
   .refine wP ?_
    replace H:=sI H;subst H
    exact wN [(2,.d),(3,.d)] [(2,[.n 1,.n 4,.n 1,.n 1,.n 4])] [] [] [] [⟨_,nw_I ([]:List Int)⟩,⟨_,Zx ([]:List Node)⟩,⟨_,ZI2 ([]:List Bool)⟩,⟨_,Zb1 ([]:List (List Pt))⟩,⟨_,ZH2 ([]:List Pt)⟩]
   .obtain⟨y6,h6,H⟩:=bB H
    refine wG [.u 90 (.call _ _ _ _ _ (AEs.of (xs:=[.agg [.sl .rd 1 (v5.topo.parents.map eI),.sl .rd 4 (v5.topo.nodes.map Zf),.sl .rd 1 (v5.up.map eBo),.sl .rd 1 (v5.profs.map (Zg .nw)),.sl .rd 4 (v5.lics.map ePt)],.agg [.int .i64 x5.job.id,.int .i64 x5.job.prio,.int .i64 x5.job.nodes,.int .i64 x5.job.need.a,.int .i64 x5.job.need.b,.int .i64 x5.job.need.c,.int .i64 x5.job.lic.a,.int .i64 x5.job.lic.b,.int .i64 x5.job.lic.c,.int .i64 x5.job.wall,.int .i64 x5.job.level],.int .i64 s1.now,.int .i64 (w64 (x5.t+x5.job.wall)),.sl .rd 1 (x5.nodes.map eI),.fn Zy2 []]) (by simp)) (fun _=>Zf3 h6))] fun _=>?_
    refine Z3 H (fun H=>?_) fun H=>?_
    .refine wP ?_
     replace H:=sI H;subst H
     exact wN [(2,.d),(3,.d)] [(2,[.n 1,.n 4,.n 1,.n 1,.n 4])] [] [] [] [⟨_,nw_I ([]:List Int)⟩,⟨_,Zx ([]:List Node)⟩,⟨_,ZI2 ([]:List Bool)⟩,⟨_,Zb1 ([]:List (List Pt))⟩,⟨_,ZH2 ([]:List Pt)⟩]
    .refine wG [.w 97 (wi .i64 rfl hiv5 q4.1)] fun _=>?_
     exact wT (N40 _ H)
  .unfold Zcc at H
   refine wP ?_
   refine wf (ltF s1.runs.length) ?_
   refine wP ?_
   replace H:=sI H;subst H
   exact wN [(2,.d),(3,.d)] [(2,[])] [] [] [] [⟨_,nw_I v5.topo.parents⟩,⟨_,Zx v5.topo.nodes⟩,⟨_,ZI2 v5.up⟩,⟨_,Zb1 v5.profs⟩,⟨_,ZH2 v5.lics⟩]
def ZHf:L :=
sR [.bx 1 (.t 0),.mv 2 (.c (.nl))]
 (sR [.bs 6 11 [] true,fA 7 1 8,lD 8 7 1 false,.ap 9 (.t 6) (.t 8) 11 88,mV 3 9]
 (.seq (sR [fA 10 1 9,lD 11 10 1 false,.ln 12 (.t 11),.mv 13 (kI 0)]
 (.blk 0 (.loop (.gw (sR [bI 14 .lss 13 12]
 (.seq (.cond (.t 14) .skip
 (.exit 0))
 (.seq (.blk 1 (sR [iA 15 11 13 13,lD 16 15 13 true,.al 5 [.int .i64 0,.int .i64 0,.int .i64 0,.int .i64 0,.int .i64 0,.int .i64 0,.int .i64 0,.int .i64 0,.int .i64 0,.int .i64 0,.int .i64 0,.int .i64 0,.nl],.st (.t 5) (.t 16) 13]
 (.reg [mV 17 3,fA 18 5 0,lD 19 18 11 true,.bs 20 11 [(.t 19)] false,.ap 21 (.t 17) (.t 20) 11 88,mV 3 21])))
 (.reg [.bi 22 .add (.t 13) (kI 1),mV 13 22]))))))))
 (sR [mV 23 3,mV 2 23]
 gR)))
def Zd9(x4:Run)(_:Nat)(v4:(List Job))(k4:(List Job)->Option (List Job)):Option (List Job) :=
 (appL 88 v4 [x4.job]).bind fun xs5=>k4 xs5
def Zc9(v4:(List Job)):Option (List Job) :=
 some v4
def Zx6(s1:State):Option (List Job) :=
 (appL 88 ([]:List Job) s1.queue).bind fun xs2=>rgl Zd9 Zc9 s1.runs 0 xs2
theorem ZNf{s1:State}{r:(List Job)}(H:Zx6 s1=some r):Snd Tryz.prog Zwb [Zn .rd s1] (.sl .nw 11 (r.map eJob)) []:=by
 refine wS ZHf [.t 2] ?_
 unfold Zx6 at H
 obtain⟨xs2,h2,H⟩:=bB H
 refine wG [.u 9 (.ap _ _ _ _ fun _=>Z6 eJob h2),.u 12 (.ln _ _ fun _=>lm s1.runs (Za .rd))] fun q3=>?_
 refine wR (fun(i4:Nat) (v4:(List Job))=>⟨[(3,.sref 6),(11,.sl .rd 13 (s1.runs.map (Za .rd))),(12,.int .i64 (s1.runs.length:Int)),(13,.int .i64 (i4:Int))],[],[],[(6,⟨11,v4.map eJob,false⟩)]⟩) H (fun i4 x4 v4 I m k4 hxv4 hiv4 H N15=>?_) (fun v4 I m H=>?_)
 .unfold Zd9 at H
  refine wP ?_
  refine wt (ltT hiv4) ?_
  obtain⟨xs5,h5,H⟩:=bB H
  refine wG [.u 15 (.ix _ _ _ fun _=>Z1 (Za .rd) (Z5 hxv4)),.u 21 (.ap _ _ _ _ fun _=>Z6 eJob h5),.w 22 (wi .i64 rfl hiv4 q3.1)] fun _=>?_
  exact wT (N15 _ H)
 .unfold Zc9 at H
  refine wP ?_
  refine wf (ltF s1.runs.length) ?_
  refine wP ?_
  replace H:=sI H;subst H
  exact wN [(2,.f)] [] [] [6] [] [⟨_,Zc3 v4⟩]
def Z1j:L :=
sR [.bx 1 (.t 0),.mv 2 (cB false)]
 (.seq (sR [lD 12 1 11 true,cQ 13 Z7b [12],mV 11 13,eX 14 11 0,eX 15 11 1,.al 3 [.nl,.nl,.nl,.nl,.nl],.st (.t 3) (.t 14) 5,mV 4 15]
 (sR [mV 16 4,.un 17 (.t 16),mV 18 17,.g 18 false (fA 19 1 6),.g 18 false (lD 20 19 1 false),.g 18 false (.cq 21 Ze [(.t 20),(kI 0),(kI 60)]),.g 18 false (.un 22 (.t 21)),.pk 23 (.t 18) (cB true) (.t 22),mV 24 23,.g 24 false (lD 25 1 11 true),.g 24 false (cQ 26 Zwb [25]),.g 24 false (cQ 27 ZX9 [26]),.g 24 false (.un 28 (.t 27)),.pk 29 (.t 24) (cB true) (.t 28),mV 30 29,.g 30 false (fA 31 1 10),.g 30 false (lD 32 31 1 false),.g 30 false (.ln 33 (.t 32)),.g 30 false (.bi 34 .gtr (.t 33) (kI 300)),.pk 35 (.t 30) (cB true) (.t 34)]
 (.cond (.t 35) (.seq (rE 2 (cB false))
 gR)
 .skip)))
 (.seq (sR [fA 36 1 9,lD 37 36 1 false,.ln 38 (.t 37),.mv 39 (kI 0)]
 (.blk 0 (.loop (.gw (sR [bI 40 .lss 39 38]
 (.seq (.cond (.t 40) .skip
 (.exit 0))
 (.seq (.blk 1 (sR [iA 41 37 39 13,lD 42 41 13 true,.al 6 [.int .i64 0,.int .i64 0,.int .i64 0,.int .i64 0,.int .i64 0,.int .i64 0,.int .i64 0,.int .i64 0,.int .i64 0,.int .i64 0,.int .i64 0,.int .i64 0,.nl],.st (.t 6) (.t 42) 13]
 (.seq (sR [fA 43 6 12,lD 44 43 1 false,.ln 45 (.t 44),.mv 46 (kI 0)]
 (.blk 2 (.loop (.gw (sR [bI 47 .lss 46 45]
 (.seq (.cond (.t 47) .skip
 (.exit 2))
 (.seq (.blk 3 (sR [iA 48 44 46 1,lD 49 48 1 false,mV 8 49]
 (sR [fA 50 1 2,lD 51 50 1 false,mV 52 8,iA 53 51 52 1,lD 54 53 1 false,.un 55 (.t 54)]
 (.cond (.t 55) (.seq (rE 2 (cB false))
 gR)
 .skip))))
 (.reg [.bi 56 .add (.t 46) (kI 1),mV 46 56]))))))))
 (.seq (.rq 18 [fA 57 6 12,lD 58 57 1 false,cQ 59 ZP8 [58],.un 60 (.t 59),mV 61 60,.g 61 false (fA 62 1 0),.g 61 false (lD 63 62 2 true),.g 61 false (fA 64 1 0),.g 61 false (lD 65 64 2 true),.g 61 false (fA 66 6 12),.g 61 false (lD 67 66 1 false),.g 61 false (cQ 68 Z8f [65,67]),.g 61 false (cQ 69 ZV6 [63,68]),.g 61 false (fA 70 6 0),.g 61 false (fA 71 70 10),.g 61 false (lD 72 71 1 false),.g 61 false (bI 73 .gtr 69 72),.pk 74 (.t 61) (cB true) (.t 73)])
 (.cond (.t 74) (.seq (rE 2 (cB false))
 gR)
 .skip)))))
 (.reg [.bi 75 .add (.t 39) (kI 1),mV 39 75]))))))))
 (.seq (sR [fA 76 1 10,lD 77 76 1 false,.ln 78 (.t 77),.mv 79 (kI 0)]
 (.blk 4 (.loop (.gw (sR [bI 80 .lss 79 78]
 (.seq (.cond (.t 80) .skip
 (.exit 4))
 (.seq (.blk 5 (sR [iA 81 77 79 3,lD 82 81 3 true,.al 10 [.int .i64 0,.int .i64 0,.int .i64 0],.st (.t 10) (.t 82) 3]
 (sR [fA 83 10 0,lD 84 83 1 false,.cq 85 Ze [(.t 84),(kI 1),(kI 999)],.un 86 (.t 85),mV 87 86,.g 87 false (fA 88 10 1),.g 87 false (lD 89 88 1 false),.g 87 false (fA 90 1 7),.g 87 false (lD 91 90 1 false),.g 87 false (.cq 92 Ze [(.t 89),(kI 0),(.t 91)]),.g 87 false (.un 93 (.t 92)),.pk 94 (.t 87) (cB true) (.t 93),mV 95 94,.g 95 false (fA 96 10 2),.g 95 false (lD 97 96 1 false),.g 95 false (.cq 98 Ze [(.t 97),(kI 1),(kI 4)]),.g 95 false (.un 99 (.t 98)),.pk 100 (.t 95) (cB true) (.t 99)]
 (.cond (.t 100) (.seq (rE 2 (cB false))
 gR)
 .skip))))
 (.reg [.bi 101 .add (.t 79) (kI 1),mV 79 101]))))))))
 (.seq (rE 2 (cB true))
 gR))))
def Zk7(s1:State)(x8:Int)(_:Nat)(_:Unit)(k8:Unit->Option Bool):Option Bool :=
 (idx s1.up x8).bind fun e9=>bif (!e9)then(some false)else(k8 ())
def Zj7(s1:State)(x6:Run)(k6:Unit->Option Bool)(_:Unit):Option Bool :=
 (Zs2 x6.nodes).bind fun b10=>(bif (!b10)then some default else(Zc6 s1.topo x6.nodes)).bind fun n11=>(bif (!b10)then some default else(ZO4 s1.topo n11)).bind fun n12=>bif ((!b10)||(decide (x6.job.level<n12)))then(some false)else(k6 ())
def Zn4(s1:State)(x14:End)(_:Nat)(_:Unit)(k14:Unit->Option Bool):Option Bool :=
 bif (((!(Z0 x14.id 1 999))||(!(Z0 x14.t 0 s1.now)))||(!(Z0 x14.why 1 4)))then(some false)else(k14 ())
def Zh7(_:Unit):Option Bool :=
 some true
def Zo4(s1:State)(x6:Run)(_:Nat)(_:Unit)(k6:Unit->Option Bool):Option Bool :=
 rgl (Zk7 s1) (Zj7 s1 x6 k6) x6.nodes 0 ()
def Zi7(s1:State)(_:Unit):Option Bool :=
 rgl (Zn4 s1) Zh7 s1.ends 0 ()
def ZQ4(s1:State):Option Bool :=
 (Za6 s1).bind fun y2=>(bif ((!y2.2)||(!(Z0 s1.depth 0 60)))then some default else(Zx6 s1)).bind fun y3=>(bif ((!y2.2)||(!(Z0 s1.depth 0 60)))then some default else(ZR4 y3)).bind fun b4=>bif ((((!y2.2)||(!(Z0 s1.depth 0 60)))||(!b4))||(decide (300<(s1.ends.length:Int))))then(some false)else(rgl (Zo4 s1) (Zi7 s1) s1.runs 0 ())
theorem Zbc{s1:State}{r:Bool}(H:ZQ4 s1=some r):Snd Tryz.prog ZW9 [Zn .rd s1] (.bool r) []:=by
 refine wS Z1j [.t 2] ?_
 unfold ZQ4 at H
 obtain⟨y2,h2,H⟩:=bB H
 obtain⟨y3,h3,H⟩:=bB H
 obtain⟨b4,h4,H⟩:=bB H
 refine wG [.c 13 (Znd h2),.g 21 [((!y2.2),false)] (.call _ _ _ _ _ (AEs.refl _) (fun _=>Zc s1.depth 0 60)),.g 26 [(_,false)] (.call _ _ _ _ _ (AEs.refl _) (fun q=>ZNf (bF q.1 h3))),.g 27 [(_,false)] (.call _ _ _ _ _ (AEs.refl _) (fun q=>Zdc (bF q.1 h4))),.g 33 [((((!y2.2)||(!(Z0 s1.depth 0 60)))||(!b4)),false)] (.ln _ _ fun _=>lm s1.ends eEnd)] fun _=>?_
 refine Z3 H (fun H=>?_) fun H=>?_
 .refine wP ?_
  replace H:=sI H;subst H
  exact wE [(2,.d)]
 .refine wG [.u 38 (.ln _ _ fun _=>lm s1.runs (Za .rd))] fun q5=>?_
  refine wR (fun(i6:Nat) (v6:Unit)=>⟨[(1,.ptr 1 0),(37,.sl .rd 13 (s1.runs.map (Za .rd))),(38,.int .i64 (s1.runs.length:Int)),(39,.int .i64 (i6:Int))],[],[(1,(Zn .rd s1).cells)],[]⟩) H (fun i6 x6 v6 I m k6 hxv6 hiv6 H N52=>?_) (fun v6 I m H=>?_)
  .unfold Zo4 at H
   refine wP ?_
   refine wt (ltT hiv6) ?_
   refine wG [.u 41 (.ix _ _ _ fun _=>Z1 (Za .rd) (Z5 hxv6)),.u 45 (.ln _ _ fun _=>lm x6.nodes eI)] fun q7=>?_
   refine wR (fun(i8:Nat) (v8:Unit)=>⟨[(1,.ptr 1 0),(6,.ptr 6 0),(37,.sl .rd 13 (s1.runs.map (Za .rd))),(38,.int .i64 (s1.runs.length:Int)),(39,.int .i64 (i6:Int)),(44,.sl .rd 1 (x6.nodes.map eI)),(45,.int .i64 (x6.nodes.length:Int)),(46,.int .i64 (i8:Int))],[],[(1,(Zn .rd s1).cells),(6,(Za .rd x6).cells)],[]⟩) H (fun i8 x8 v8 I m k8 hxv8 hiv8 H N35=>?_) (fun v8 I m H=>?_)
   .unfold Zk7 at H
    refine wP ?_
    refine wt (ltT hiv8) ?_
    obtain⟨e9,h9,H⟩:=bB H
    refine wG [.u 48 (.ix _ _ _ fun _=>Z1 eI (Z5 hxv8)),.u 53 (.ix _ _ _ fun _=>Z1 eBo h9)] fun _=>?_
    refine Z3 H (fun H=>?_) fun H=>?_
    .refine wP ?_
     replace H:=sI H;subst H
     exact wE [(2,.d)]
    .refine wG [.w 56 (wi .i64 rfl hiv8 q7.1)] fun _=>?_
     exact wT (N35 () H)
   .unfold Zj7 at H
    refine wP ?_
    refine wf (ltF x6.nodes.length) ?_
    obtain⟨b10,h10,H⟩:=bB H
    obtain⟨n11,h11,H⟩:=bB H
    obtain⟨n12,h12,H⟩:=bB H
    refine wG [.c 59 (Z4d h10),.g 68 [(_,false)] (.call _ _ _ _ _ (AEs.refl _) (fun q=>Z4l (bF q.1 h11))),.g 69 [(_,false)] (.call _ _ _ _ _ (AEs.refl _) (fun q=>ZI7 (bF q.1 h12)))] fun _=>?_
    refine Z3 H (fun H=>?_) fun H=>?_
    .refine wP ?_
     replace H:=sI H;subst H
     exact wE [(2,.d)]
    .refine wG [.w 75 (wi .i64 rfl hiv6 q5.1)] fun _=>?_
     exact wT (N52 () H)
  .unfold Zi7 at H
   refine wP ?_
   refine wf (ltF s1.runs.length) ?_
   refine wG [.u 78 (.ln _ _ fun _=>lm s1.ends eEnd)] fun q13=>?_
   refine wR (fun(i14:Nat) (v14:Unit)=>⟨[(1,.ptr 1 0),(77,.sl .rd 3 (s1.ends.map eEnd)),(78,.int .i64 (s1.ends.length:Int)),(79,.int .i64 (i14:Int))],[],[(1,(Zn .rd s1).cells)],[]⟩) H (fun i14 x14 v14 I m k14 hxv14 hiv14 H N74=>?_) (fun v14 I m H=>?_)
   .unfold Zn4 at H
    refine wP ?_
    refine wt (ltT hiv14) ?_
    refine wG [.u 81 (.ix _ _ _ fun _=>Z1 eEnd (Z5 hxv14)),.c 85 (Zc x14.id 1 999),.g 92 [((!(Z0 x14.id 1 999)),false)] (.call _ _ _ _ _ (AEs.refl _) (fun _=>Zc x14.t 0 s1.now)),.g 98 [(((!(Z0 x14.id 1 999))||(!(Z0 x14.t 0 s1.now))),false)] (.call _ _ _ _ _ (AEs.refl _) (fun _=>Zc x14.why 1 4))] fun _=>?_
    refine Z3 H (fun H=>?_) fun H=>?_
    .refine wP ?_
     replace H:=sI H;subst H
     exact wE [(2,.d)]
    .refine wG [.w 101 (wi .i64 rfl hiv14 q13.1)] fun _=>?_
     exact wT (N74 () H)
   .unfold Zh7 at H
    refine wP ?_
    refine wf (ltF s1.ends.length) ?_
    refine wP ?_
    replace H:=sI H;subst H
    exact wE [(2,.d)]
def Zte:L :=
sR [.bx 4 (.t 0),.mv 8 (.c (.nl)),.mv 9 (.c (.nl)),.mv 10 (cB false)]
 (.seq (sR [lD 21 4 5 true,cQ 22 ZT7 [21],.un 23 (.t 22),mV 24 23,.g 24 false (mV 25 2),.g 24 false (cQ 26 ZX9 [25]),.g 24 false (.un 27 (.t 26)),.pk 28 (.t 24) (cB true) (.t 27),mV 29 28,.g 29 false (mV 30 1),.g 29 false (cQ 31 ZJ1 [30]),.g 29 false (.un 32 (.t 31)),.pk 33 (.t 29) (cB true) (.t 32),mV 34 33,.g 34 false (mV 35 3),.g 34 false (.cq 36 Ze [(.t 35),(kI 0),(kI 60)]),.g 34 false (.un 37 (.t 36)),.pk 38 (.t 34) (cB true) (.t 37)]
 (.cond (.t 38) (sR [.mv 8 (.c (.nl)),.mv 9 (.c (.nl)),.mv 10 (cB false)]
 gR)
 .skip))
 (sR [.bs 39 3 [] true,.bs 40 3 [] true,mV 11 39,mV 12 40]
 (.seq (sR [mV 41 2,cQ 42 Zpg [41],.ln 43 (.t 42),.mv 44 (kI 0)]
 (.blk 0 (.loop (.gw (sR [bI 45 .lss 44 43]
 (.seq (.cond (.t 45) .skip
 (.exit 0))
 (.seq (.blk 1 (sR [iA 46 42 44 11,lD 47 46 11 true,.al 14 [.int .i64 0,.int .i64 0,.int .i64 0,.int .i64 0,.int .i64 0,.int .i64 0,.int .i64 0,.int .i64 0,.int .i64 0,.int .i64 0,.int .i64 0],.st (.t 14) (.t 47) 11]
 (sR [lD 49 4 5 true,lD 50 14 11 true,mV 51 1,cQ 52 ZJc [49,50,51],mV 48 52,eX 53 48 0,eX 54 48 1,eX 55 48 2,mV 15 53,mV 16 54,mV 17 55]
 (.seq (sR [mV 56 17,.un 57 (.t 56),mV 58 57,.g 58 false (mV 59 15),.g 58 false (mV 60 1),.g 58 false (bI 61 .gtr 59 60),.g 58 false (mV 62 61),.g 62 true (mV 63 12),.g 62 true (.ln 64 (.t 63)),.g 62 true (mV 65 3),.g 62 true (bI 66 .geq 64 65),.g 58 false (.pk 67 (.t 62) (.t 66) (cB false)),.pk 68 (.t 58) (cB true) (.t 67)]
 (.cond (.t 68) (.exit 1)
 .skip))
 (sR [lD 70 4 5 true,lD 71 14 11 true,mV 72 15,mV 73 16,cQ 74 ZAd [70,71,72,73],mV 69 74,eX 75 69 0,eX 76 69 1,.al 18 [.nl,.nl,.nl,.nl,.nl],.st (.t 18) (.t 75) 5,mV 19 76]
 (.seq (sR [mV 77 19,.un 78 (.t 77)]
 (.cond (.t 78) (.exit 1)
 .skip))
 (sR [lD 79 18 5 true,.st (.t 4) (.t 79) 5]
 (sR [fA 80 14 0,lD 81 80 1 false,mV 82 15,mV 83 16,.bd 84 [.int .i64 0,.int .i64 0,.nl] [(0,1,(.t 81)),(1,1,(.t 82)),(2,1,(.t 83))],.al 20 [.int .i64 0,.int .i64 0,.nl],.st (.t 20) (.t 84) 3]
 (sR [mV 85 15,mV 86 1,bI 87 .eql 85 86]
 (.cond (.t 87) (.reg [mV 88 11,lD 89 20 3 true,.bs 90 3 [(.t 89)] false,.ap 91 (.t 88) (.t 90) 3 40,mV 11 91])
 (.reg [mV 92 12,lD 93 20 3 true,.bs 94 3 [(.t 93)] false,.ap 95 (.t 92) (.t 94) 3 40,mV 12 95])))))))))))
 (.reg [.bi 96 .add (.t 44) (kI 1),mV 44 96]))))))))
 (sR [mV 97 11,mV 98 12,mV 8 97,mV 9 98,.mv 10 (cB true)]
 gR))))
def Zae:List Rv:=[.t 8,.t 9,.t 10]
theorem ZMe:ZPe Tryz.prog Z8b 4 Zte Zae=true:=by kernel_rfl
def Zx4(now2:Int)(depth4:Int)(x11:Job)(_:Nat)(v11:Room×(List Held)×(List Held))(k11:(Room×(List Held)×(List Held))->Option ((List Held)×(List Held)×Bool)):Option ((List Held)×(List Held)×Bool) :=
 (ZI3 v11.1 x11 now2).bind fun y12=>bif ((!y12.2.2)||((decide (now2<y12.1))&&(decide (depth4<=(v11.2.2.length:Int)))))then(k11 (v11.1,v11.2.1,v11.2.2))else((ZS6 v11.1 x11 y12.1 y12.2.1).bind fun y13=>bif (!y13.2)then(k11 (v11.1,v11.2.1,v11.2.2))else(bif (y12.1==now2)then((appL 40 v11.2.1 [(Held.mk x11.id y12.1 y12.2.1)]).bind fun xs14=>k11 (y13.1,xs14,v11.2.2))else((appL 40 v11.2.2 [(Held.mk x11.id y12.1 y12.2.1)]).bind fun xs15=>k11 (y13.1,v11.2.1,xs15))))
def ZH8(v11:Room×(List Held)×(List Held)):Option ((List Held)×(List Held)×Bool) :=
 some (v11.2.1,v11.2.2,true)
def Zu2(r1:Room)(now2:Int)(l3:List Job)(depth4:Int):Option ((List Held)×(List Held)×Bool) :=
 (Zu4 r1).bind fun b5=>(bif (!b5)then some default else(ZR4 l3)).bind fun b6=>bif ((((!b5)||(!b6))||(!(ZK now2)))||(!(Z0 depth4 0 60)))then(some ([],[],false))else((Zca l3).bind fun y9=>rgl (Zx4 now2 depth4) ZH8 y9 0 (r1,[],[]))
set_option maxRecDepth 20000 in
theorem ZCe{r1:Room}{now2:Int}{l3:List Job}{depth4:Int}{r:(List Held)×(List Held)×Bool}(H:Zu2 r1 now2 l3 depth4=some r):ConD Tryz.prog Z8b [Zq1 .nw r1,.int .i64 now2,.sl .rd 11 (l3.map eJob),.int .i64 depth4] [] [] (.tup [.sref 0,.sref 1,.bool r.2.2]) [] [] [(3,r.1.map (ZL3 .nw)),(3,r.2.1.map (ZL3 .nw))]:=by
 refine Zuq [] ZMe rfl (by kernel_rfl) ?_
 unfold Zu2 at H
 obtain⟨b5,h5,H⟩:=bB H
 obtain⟨b6,h6,H⟩:=bB H
 refine wG [.u 22 (.call _ _ _ _ _ (AEs.of (xs:=[.agg [.sl .rd 1 (r1.topo.parents.map eI),.sl .rd 4 (r1.topo.nodes.map Zf),.sl .rd 1 (r1.up.map eBo),.sl .rd 1 (r1.profs.map (Zg .nw)),.sl .rd 4 (r1.lics.map ePt)]]) (by simp)) (fun _=>ZG9 h5)),.g 26 [(_,false)] (.call _ _ _ _ _ (AEs.refl _) (fun q=>Zdc (bF q.1 h6))),.g 31 [(((!b5)||(!b6)),false)] (.call _ _ _ _ _ (AEs.refl _) (fun _=>Ze2 now2)),.g 36 [((((!b5)||(!b6))||(!(ZK now2))),false)] (.call _ _ _ _ _ (AEs.refl _) (fun _=>Zc depth4 0 60))] fun _=>?_
 refine Z3 H (fun H=>?_) fun H=>?_
 .refine wP ?_
  replace H:=sI H;subst H
  exact Zrc [(8,.z 700000007),(9,.z 700000008),(10,.d)] [] [(700000007,none,3),(700000008,none,3)] [] [700000007,700000008] (by kernel_rfl)
 .obtain⟨y9,h9,H⟩:=bB H
  refine wG [.c 42 (Z3n h9),.u 43 (.ln _ _ fun _=>lm y9 eJob)] fun q10=>?_
  refine wR (fun(i11:Nat) (v11:Room×(List Held)×(List Held))=>⟨[(1,.int .i64 now2),(3,.int .i64 depth4),(4,.ptr 4 0),(11,.sref 39),(12,.sref 40),(42,.sl .nw 11 (y9.map eJob)),(43,.int .i64 (y9.length:Int)),(44,.int .i64 (i11:Int))],[],[(4,(Zq1 .nw v11.1).cells)],[(39,⟨3,v11.2.1.map (ZL3 .nw),false⟩),(40,⟨3,v11.2.2.map (ZL3 .nw),false⟩)]⟩) H (fun i11 x11 v11 I m k11 hxv11 hiv11 H N46=>?_) (fun v11 I m H=>?_)
  .unfold Zx4 at H
   refine wP ?_
   refine wt (ltT hiv11) ?_
   obtain⟨y12,h12,H⟩:=bB H
   refine wG [.u 46 (.ix _ _ _ fun _=>Z1 eJob (Z5 hxv11)),.u 52 (.call _ _ _ _ _ (AEs.of (xs:=[.agg [.sl .rd 1 (v11.1.topo.parents.map eI),.sl .rd 4 (v11.1.topo.nodes.map Zf),.sl .rd 1 (v11.1.up.map eBo),.sl .rd 1 (v11.1.profs.map (Zg .nw)),.sl .rd 4 (v11.1.lics.map ePt)],.agg [.int .i64 x11.id,.int .i64 x11.prio,.int .i64 x11.nodes,.int .i64 x11.need.a,.int .i64 x11.need.b,.int .i64 x11.need.c,.int .i64 x11.lic.a,.int .i64 x11.lic.b,.int .i64 x11.lic.c,.int .i64 x11.wall,.int .i64 x11.level],.int .i64 now2]) (by simp)) (fun _=>Zoh h12)),.g 64 [((decide (now2<y12.1)),true),((!y12.2.2),false)] (.ln _ _ fun _=>lm v11.2.2 (ZL3 .nw))] fun _=>?_
   refine Z3 H (fun H=>?_) fun H=>?_
   .refine wG [.w 96 (wi .i64 rfl hiv11 q10.1)] fun _=>?_
    exact wT (N46 _ H)
   .obtain⟨y13,h13,H⟩:=bB H
    refine wG [.u 74 (.call _ _ _ _ _ (AEs.of (xs:=[.agg [.sl .rd 1 (v11.1.topo.parents.map eI),.sl .rd 4 (v11.1.topo.nodes.map Zf),.sl .rd 1 (v11.1.up.map eBo),.sl .rd 1 (v11.1.profs.map (Zg .nw)),.sl .rd 4 (v11.1.lics.map ePt)],.agg [.int .i64 x11.id,.int .i64 x11.prio,.int .i64 x11.nodes,.int .i64 x11.need.a,.int .i64 x11.need.b,.int .i64 x11.need.c,.int .i64 x11.lic.a,.int .i64 x11.lic.b,.int .i64 x11.lic.c,.int .i64 x11.wall,.int .i64 x11.level],.int .i64 y12.1,.sl .rd 1 (y12.2.1.map eI)]) (by simp)) (fun _=>Zcj h13))] fun _=>?_
    refine Z3 H (fun H=>?_) fun H=>?_
    .refine wG [.w 96 (wi .i64 rfl hiv11 q10.1)] fun _=>?_
     exact wT (N46 _ H)
    .refine wP ?_
     refine Z3 H (fun H=>?_) fun H=>?_
     .obtain⟨xs14,h14,H⟩:=bB H
      refine wG [.u 91 (.ap _ _ _ _ fun _=>Z6 (ZL3 .nw) h14),.w 96 (wi .i64 rfl hiv11 q10.1)] fun _=>?_
      exact wT (N46 _ H)
     .obtain⟨xs15,h15,H⟩:=bB H
      refine wG [.u 95 (.ap _ _ _ _ fun _=>Z6 (ZL3 .nw) h15),.w 96 (wi .i64 rfl hiv11 q10.1)] fun _=>?_
      exact wT (N46 _ H)
  .unfold ZH8 at H
   refine wP ?_
   refine wf (ltF y9.length) ?_
   refine wP ?_
   replace H:=sI H;subst H
   exact Zrc [(8,.d),(9,.d),(10,.d)] [] [(39,some 39,0),(40,some 40,0)] [] [39,40] (by kernel_rfl)
def ZWi:L :=
sR [.bx 1 (.t 0),.al 2 [.nl,.nl,.nl,.int .i64 0,.int .i64 0,.int .i64 0,.int .i64 0,.int .i64 0,.nl,.nl,.nl]]
 (sR [lD 13 1 11 true,cQ 14 Z7b [13],mV 12 14,eX 15 12 0,eX 16 12 1,.al 3 [.nl,.nl,.nl,.nl,.nl],.st (.t 3) (.t 15) 5,mV 4 16]
 (sR [lD 18 3 5 true,fA 19 1 7,lD 20 19 1 false,fA 21 1 8,lD 22 21 1 false,fA 23 1 6,lD 24 23 1 false,.cm 25 Z8b [(.t 18),(.t 20),(.t 22),(.t 24)],mV 17 25,eX 26 17 0,eX 27 17 1,eX 28 17 2,mV 5 26,mV 6 27,mV 7 28]
 (sR [lD 29 1 11 true,.cl 30 Zq4 [(.t 29)],.al 8 [.nl,.nl,.nl,.int .i64 0,.int .i64 0,.int .i64 0,.int .i64 0,.int .i64 0,.nl,.nl,.nl],.st (.t 8) (.t 30) 11]
 (.seq (sR [mV 31 5,.ln 32 (.t 31),.mv 33 (kI 0)]
 (.blk 0 (.loop (.gw (sR [bI 34 .lss 33 32]
 (.seq (.cond (.t 34) .skip
 (.exit 0))
 (.seq (.blk 1 (sR [iA 35 31 33 3,lD 36 35 3 true,.al 10 [.int .i64 0,.int .i64 0,.nl],.st (.t 10) (.t 36) 3]
 (sR [fA 37 8 8,lD 38 37 1 false,fA 39 10 0,lD 40 39 1 false,cQ 41 Zqg [38,40],mV 11 41]
 (.seq (.rq 13 [fA 42 8 9,lD 43 42 1 false,fA 44 8 8,lD 45 44 1 false,mV 46 11,iA 47 45 46 11,lD 48 47 11 true,fA 49 1 7,lD 50 49 1 false,fA 51 10 2,lD 52 51 1 false,.bd 53 [.int .i64 0,.int .i64 0,.int .i64 0,.int .i64 0,.int .i64 0,.int .i64 0,.int .i64 0,.int .i64 0,.int .i64 0,.int .i64 0,.int .i64 0,.int .i64 0,.nl] [(0,11,(.t 48)),(11,1,(.t 50)),(12,1,(.t 52))],.bs 54 13 [(.t 53)] false,.ap 55 (.t 43) (.t 54) 13 120,fA 56 8 9,.st (.t 56) (.t 55) 1])
 (.reg [fA 57 8 8,lD 58 57 1 false,mV 59 11,mV 60 11,.bi 61 .add (.t 60) (kI 1),.cm 62 Ze1 [(.t 58),(.t 59),(.t 61)],fA 63 8 8,.st (.t 63) (.t 62) 1])))))
 (.reg [.bi 64 .add (.t 33) (kI 1),mV 33 64]))))))))
 (sR [lD 65 8 11 true,.st (.t 2) (.t 65) 11]
 gR)))))
def Zm4(s1:State)(x6:Held)(_:Nat)(v6:(List Job)×(List Run))(k6:((List Job)×(List Run))->Option State):Option State :=
 (ZXc v6.1 x6.id).bind fun n7=>(idx v6.1 n7).bind fun e8=>(appL 120 v6.2 [(Run.mk e8 s1.now x6.nodes)]).bind fun xs9=>(Zqj v6.1 n7 (w64 (n7+1))).bind fun xs10=>k6 (xs10,xs9)
def Zmb(y4:State)(v6:(List Job)×(List Run)):Option State :=
 some (State.mk y4.topo y4.up y4.lic y4.depth y4.now v6.1 v6.2 y4.ends)
def ZM4(s1:State):Option State :=
 (Za6 s1).bind fun y2=>(Zu2 y2.1 s1.now s1.queue s1.depth).bind fun y3=>(Zf2 s1).bind fun y4=>rgl (Zm4 s1) (Zmb y4) y3.1 0 (y4.queue,y4.runs)
theorem Z7j{s1:State}{r:State}(H:ZM4 s1=some r):Snd Tryz.prog Zzd [Zn .rd s1] (.agg [.sl .nw 1 (r.topo.parents.map eI),.sl .nw 4 (r.topo.nodes.map Zf),.sl .nw 1 (r.up.map eBo),.int .i64 r.lic.a,.int .i64 r.lic.b,.int .i64 r.lic.c,.int .i64 r.depth,.int .i64 r.now,.sl .nw 11 (r.queue.map eJob),.sl .nw 13 (r.runs.map (Za .nw)),.sref 0]) [⟨3,r.ends.map eEnd,false⟩]:=by
 refine wS ZWi [.c 2 11 true] ?_
 unfold ZM4 at H
 obtain⟨y2,h2,H⟩:=bB H
 obtain⟨y3,h3,H⟩:=bB H
 obtain⟨y4,h4,H⟩:=bB H
 refine wG [.c 14 (Znd h2),.u 25 (.cw Z8b [] [] [] [] [Zq1 .nw y2.1,.int .i64 s1.now,.sl .rd 11 (s1.queue.map eJob),.int .i64 s1.depth] _ _ _ _ _ (GEs.of [true,false,false,false] (by simp)) (by simp) (by simp) (by simp) (fun _=>ZCe h3)),.c 30 (Z46 h4),.u 32 (.ln _ _ fun _=>lm y3.1 (ZL3 .nw))] fun q5=>?_
 refine wR (fun(i6:Nat) (v6:(List Job)×(List Run))=>⟨[(1,.ptr 1 0),(2,.ptr 2 0),(8,.ptr 8 0),(31,.sref 26000),(32,.int .i64 (y3.1.length:Int)),(33,.int .i64 (i6:Int))],[],[(1,(Zn .rd s1).cells),(2,[.nl,.nl,.nl,.int .i64 0,.int .i64 0,.int .i64 0,.int .i64 0,.int .i64 0,.nl,.nl,.nl]),(8,[.sl .nw 1 (y4.topo.parents.map eI),.sl .nw 4 (y4.topo.nodes.map Zf),.sl .nw 1 (y4.up.map eBo),.int .i64 y4.lic.a,.int .i64 y4.lic.b,.int .i64 y4.lic.c,.int .i64 y4.depth,.int .i64 y4.now,.sref 31000,.sref 31001,.sref 31002])],[(31000,⟨11,v6.1.map eJob,false⟩),(31001,⟨13,v6.2.map (Za .nw),false⟩),(31002,⟨3,y4.ends.map eEnd,false⟩),(26000,⟨3,y3.1.map (ZL3 .nw),false⟩)]⟩) H (fun i6 x6 v6 I m k6 hxv6 hiv6 H N21=>?_) (fun v6 I m H=>?_)
 .unfold Zm4 at H
  refine wP ?_
  refine wt (ltT hiv6) ?_
  obtain⟨n7,h7,H⟩:=bB H
  obtain⟨e8,h8,H⟩:=bB H
  obtain⟨xs9,h9,H⟩:=bB H
  obtain⟨xs10,h10,H⟩:=bB H
  refine wG [.u 35 (.ix _ _ _ fun _=>Z1 (ZL3 .nw) (Z5 hxv6)),.u 36 (.el _ _ _ fun _=>gm (ZL3 .nw) (Zk1 (Z5 hxv6))),.c 41 (Z5n h7),.u 47 (.ix _ _ _ fun _=>Z1 eJob h8),.u 48 (.el _ _ _ fun _=>gm eJob (Zk1 h8)),.u 55 (.ap _ _ _ _ fun _=>Z6 (Za .nw) h9),.u 62 (.cr Ze1 11 _ [.int .i64 n7,.int .i64 (w64 (n7+1))] _ true _ (fun _=>by simp) (fun _=>by simp) (fun _=>rfl) (fun _=>Zrq h10)),.w 64 (wi .i64 rfl hiv6 q5.1)] fun _=>?_
  exact Zsn (N21 _ H) [] [] [(31000,(some 63000,0))] [] (by kernel_rfl) (by kernel_rfl)
 .unfold Zmb at H
  refine wP ?_
  refine wf (ltF y3.1.length) ?_
  refine wP ?_
  replace H:=sI H;subst H
  exact wN [(2,.d)] [(2,[.d,.d,.d,.d,.d,.d,.d,.d,.f,.f,.d])] [(31002,some 31002,0)] [31000,31001] [some 31002] [⟨_,nw_I y4.topo.parents⟩,⟨_,Zx y4.topo.nodes⟩,⟨_,ZI2 y4.up⟩,⟨_,Zc3 v6.1⟩,⟨_,Zb3 v6.2⟩,⟨_,ZK6 y4.ends⟩]
def ZXi:L :=
sR [.bx 1 (.t 0),.mv 2 (kI 0)]
 (.seq (rE 3 (kI (-1)))
 (.seq (sR [fA 7 1 9,lD 8 7 1 false,.ln 9 (.t 8),.mv 10 (kI 0)]
 (.blk 0 (.loop (.gw (sR [bI 11 .lss 10 9]
 (.seq (.cond (.t 11) .skip
 (.exit 0))
 (.seq (.blk 1 (sR [iA 12 8 10 13,lD 13 12 13 true,.al 5 [.int .i64 0,.int .i64 0,.int .i64 0,.int .i64 0,.int .i64 0,.int .i64 0,.int .i64 0,.int .i64 0,.int .i64 0,.int .i64 0,.int .i64 0,.int .i64 0,.nl],.st (.t 5) (.t 13) 13]
 (sR [fA 14 5 11,lD 15 14 1 false,fA 16 5 0,fA 17 16 9,lD 18 17 1 false,bI 19 .add 15 18,mV 6 19]
 (sR [mV 20 3,.bi 21 .lss (.t 20) (kI 0),mV 22 21,.g 22 false (mV 23 6),.g 22 false (mV 24 3),.g 22 false (bI 25 .lss 23 24),.pk 26 (.t 22) (cB true) (.t 25)]
 (.cond (.t 26) (.reg [mV 27 6,mV 3 27])
 .skip)))))
 (.reg [.bi 28 .add (.t 10) (kI 1),mV 10 28]))))))))
 (sR [mV 29 3,mV 2 29]
 gR)))
def Zd7(x3:Run)(_:Nat)(v3:Int)(k3:Int->Option Int):Option Int :=
 bif ((decide (v3<0))||(decide ((w64 (x3.t+x3.job.wall))<v3)))then(k3 (w64 (x3.t+x3.job.wall)))else(k3 v3)
def Znb(v3:Int):Option Int :=
 some v3
def ZN4(s1:State):Option Int :=
 rgl Zd7 Znb s1.runs 0 (-1)
theorem Z6c{s1:State}{r:Int}(H:ZN4 s1=some r):Snd Tryz.prog ZV9 [Zn .rd s1] (.int .i64 r) []:=by
 refine wS ZXi [.t 2] ?_
 unfold ZN4 at H
 refine wG [.u 9 (.ln _ _ fun _=>lm s1.runs (Za .rd))] fun q2=>?_
 refine wR (fun(i3:Nat) (v3:Int)=>⟨[(3,.int .i64 v3),(8,.sl .rd 13 (s1.runs.map (Za .rd))),(9,.int .i64 (s1.runs.length:Int)),(10,.int .i64 (i3:Int))],[],[],[]⟩) H (fun i3 x3 v3 I m k3 hxv3 hiv3 H N21=>?_) (fun v3 I m H=>?_)
 .unfold Zd7 at H
  refine wP ?_
  refine wt (ltT hiv3) ?_
  refine wG [.u 12 (.ix _ _ _ fun _=>Z1 (Za .rd) (Z5 hxv3))] fun _=>?_
  refine Z3 H (fun H=>?_) fun H=>?_
  .refine wG [.w 28 (wi .i64 rfl hiv3 q2.1)] fun _=>?_
   exact wT (N21 _ H)
  .refine wG [.w 28 (wi .i64 rfl hiv3 q2.1)] fun _=>?_
   exact wT (N21 _ H)
 .unfold Znb at H
  refine wP ?_
  refine wf (ltF s1.runs.length) ?_
  refine wP ?_
  replace H:=sI H;subst H
  exact wE [(2,.d)]
def Z0j:L :=
sR [.bx 2 (.t 0),.mv 3 (cB false)]
 (sR [fA 4 2 11,lD 5 4 1 false,fA 6 2 0,fA 7 6 9,lD 8 7 1 false,bI 9 .add 5 8,lD 10 1 1 false,bI 11 .eql 9 10,mV 3 11]
 gR)
def Zw6(x1:Run)(x2:Int):Option Bool :=
 some ((w64 (x1.t+x1.job.wall))==x2)
theorem ZMf{x1:Run}{x2:Int}{r:Bool}(H:Zw6 x1 x2=some r):Snd Tryz.prog ZT2 [Za .rd x1,.ept (.agg [.int .i64 x2]) 0] (.bool r) []:=by
 refine wS Z0j [.t 3] ?_
 unfold Zw6 at H
 refine wP ?_
 replace H:=sI H;subst H
 exact wE [(3,.d)]
def ZR6(x1:Run)(x2:Int):Bool :=
 ((w64 (x1.t+x1.job.wall))==x2)
theorem Z2l(x1:Run)(x2:Int):Zw6 x1 x2=some (ZR6 x1 x2):=by
 unfold Zw6 ZR6
 first|rfl|simp only[Zl]
theorem Zaj(x1:Run)(x2:Int):Snd Tryz.prog ZT2 [Za .rd x1,.ept (.agg [.int .i64 x2]) 0] (.bool (ZR6 x1 x2)) []:=ZMf (Z2l x1 x2)
def Ze3:L :=
sR [.mv 6 (.c (.nl))]
 (sR [.bs 11 11 [] true,mV 7 11]
 (sR [.mv 8 (.c (.nl))]
 (.seq (sR [mV 12 0,.nc 13 (.t 12),fA 14 13 9,lD 15 14 1 false,.ln 16 (.t 15),.mv 17 (kI 0)]
 (.blk 0 (.loop (.gw (sR [bI 18 .lss 17 16]
 (.seq (.cond (.t 18) .skip
 (.exit 0))
 (.seq (.blk 1 (sR [iA 19 15 17 13,lD 20 19 13 true,.al 10 [.int .i64 0,.int .i64 0,.int .i64 0,.int .i64 0,.int .i64 0,.int .i64 0,.int .i64 0,.int .i64 0,.int .i64 0,.int .i64 0,.int .i64 0,.int .i64 0,.nl],.st (.t 10) (.t 20) 13]
 (.seq (sR [mV 21 2,lD 22 10 13 true,.cc 23 (.t 21) [(.t 22)],.un 24 (.t 23)]
 (.cond (.t 24) (sR [mV 25 8,lD 26 10 13 true,.bs 27 13 [(.t 26)] false,.ap 28 (.t 25) (.t 27) 13 120,mV 8 28]
 (.exit 1))
 .skip))
 (sR [mV 29 7,fA 30 10 0,lD 31 30 11 true,.bs 32 11 [(.t 31)] false,.ap 33 (.t 29) (.t 32) 11 88,mV 7 33]
 (.rz [] [(0,false,mV 34 0),
 (1,false,mV 35 0),
 (2,false,.nc 36 (.t 35)),
 (3,false,fA 37 36 10),
 (5,false,fA 39 10 0),
 (6,false,fA 40 39 0),
 (7,false,lD 41 40 1 false),
 (8,false,mV 42 0),
 (9,false,.nc 43 (.t 42)),
 (10,false,fA 44 43 7),
 (11,false,lD 45 44 1 false),
 (12,false,mV 46 1),
 (13,false,.bd 47 [.int .i64 0,.int .i64 0,.int .i64 0] [(0,1,(.t 41)),(1,1,(.t 45)),(2,1,(.t 46))]),
 (14,false,.bs 48 3 [(.t 47)] false),
 (4,true,lD 38 37 1 false),
 (15,true,.ap 49 (.t 38) (.t 48) 3 24)]
 [.nc 50 (.t 34),fA 51 50 10,.st (.t 51) (.t 49) 1])))))
 (.reg [.bi 52 .add (.t 17) (kI 1),mV 17 52]))))))))
 (sR [mV 53 0,mV 54 8,.nc 55 (.t 53),fA 56 55 9,.st (.t 56) (.t 54) 1]
 (sR [mV 57 7,mV 6 57]
 gR)))))
def Z93:List Rv:=[.t 6]
theorem Zn3:ZPe Tryz.prog ZZ2 3 Ze3 Z93=true:=by kernel_rfl
def Zj(s1:State)(why2:Int)(c3:Int)(x5:Run)(_:Nat)(v5:(List End)×(List Job)×(List Run))(k5:((List End)×(List Job)×(List Run))->Option ((List Job)×State)):Option ((List Job)×State) :=
 bif (!(ZR6 x5 c3))then((appL 120 v5.2.2 [x5]).bind fun xs6=>k5 (v5.1,v5.2.1,xs6))else((appL 88 v5.2.1 [x5.job]).bind fun xs7=>(appL 24 v5.1 [(End.mk x5.job.id s1.now why2)]).bind fun xs8=>k5 (xs8,xs7,v5.2.2))
def Zt(s1:State)(v5:(List End)×(List Job)×(List Run)):Option ((List Job)×State) :=
 some (v5.2.1,(State.mk s1.topo s1.up s1.lic s1.depth s1.now s1.queue v5.2.2 v5.1))
def ZF(s1:State)(why2:Int)(c3:Int):Option ((List Job)×State) :=
 rgl (Zj s1 why2 c3) (Zt s1) s1.runs 0 (s1.ends,[],[])
set_option maxRecDepth 20000 in
theorem Zl3{s1:State}{why2:Int}{c3:Int}{r:(List Job)×State}(H:ZF s1 why2 c3=some r):ConD Tryz.prog ZZ2 [.ptr 0 0,.int .i64 why2,.fn ZT2 [.ept (.agg [.int .i64 c3]) 0]] [[.sl .nw 1 (s1.topo.parents.map eI),.sl .nw 4 (s1.topo.nodes.map Zf),.sl .nw 1 (s1.up.map eBo),.int .i64 s1.lic.a,.int .i64 s1.lic.b,.int .i64 s1.lic.c,.int .i64 s1.depth,.int .i64 s1.now,.sl .nw 11 (s1.queue.map eJob),.sl .nw 13 (s1.runs.map (Za .nw)),.sref 0]] [(3,s1.ends.map eEnd)] (.sref 1) [[.sl .nw 1 (r.2.topo.parents.map eI),.sl .nw 4 (r.2.topo.nodes.map Zf),.sl .nw 1 (r.2.up.map eBo),.int .i64 r.2.lic.a,.int .i64 r.2.lic.b,.int .i64 r.2.lic.c,.int .i64 r.2.depth,.int .i64 r.2.now,.sl .nw 11 (r.2.queue.map eJob),.sref 2,.sref 3]] [none] [(11,r.1.map eJob),(13,r.2.runs.map (Za .nw)),(3,r.2.ends.map eEnd)]:=by
 refine Zuq [false] Zn3 rfl (by kernel_rfl) ?_
 unfold ZF at H
 refine wG [.u 16 (.ln _ _ fun _=>lm s1.runs (Za .nw))] fun q4=>?_
 refine Zpc (fun(i5:Nat) (v5:(List End)×(List Job)×(List Run))=>⟨[(0,.ptr 2000000000 0),(1,.int .i64 why2),(2,.fn ZT2 [.ept (.agg [.int .i64 c3]) 0]),(7,.sref 11),(8,.sref 228002),(15,.sl .nw 13 (s1.runs.map (Za .nw))),(16,.int .i64 (s1.runs.length:Int)),(17,.int .i64 (i5:Int))],[],[(2000000000,[.sl .nw 1 (s1.topo.parents.map eI),.sl .nw 4 (s1.topo.nodes.map Zf),.sl .nw 1 (s1.up.map eBo),.int .i64 s1.lic.a,.int .i64 s1.lic.b,.int .i64 s1.lic.c,.int .i64 s1.depth,.int .i64 s1.now,.sl .nw 11 (s1.queue.map eJob),.sl .nw 13 (s1.runs.map (Za .nw)),.sref 500000000])],[(500000000,⟨3,v5.1.map eEnd,false⟩),(11,⟨11,v5.2.1.map eJob,false⟩),(228002,⟨13,v5.2.2.map (Za .nw),false⟩)]⟩) [(8,.z 228002)] [] [(228002,(none,13))] [] (by kernel_rfl) (by kernel_rfl) H (fun i5 x5 v5 I m k5 hxv5 hiv5 H N26=>?_) (fun v5 I m H=>?_)
 .unfold Zj at H
  refine wP ?_
  refine wt (ltT hiv5) ?_
  refine wG [.u 19 (.ix _ _ _ fun _=>Z1 (Za .nw) (Z5 hxv5)),.u 23 (.clsr _ _ _ _ _ (AEs.refl _) (by kernel_rfl) (fun _=>Zaj x5 c3))] fun _=>?_
  refine Z3 H (fun H=>?_) fun H=>?_
  .obtain⟨xs6,h6,H⟩:=bB H
   refine wG [.u 28 (.ap _ _ _ _ fun _=>Z6 (Za .nw) h6),.w 52 (wi .i64 rfl hiv5 q4.1)] fun _=>?_
   exact wT (N26 _ H)
  .obtain⟨xs7,h7,H⟩:=bB H
   obtain⟨xs8,h8,H⟩:=bB H
   refine wG [.u 33 (.ap _ _ _ _ fun _=>Z6 eJob h7),.u 49 (.ap _ _ _ _ fun _=>Z6 eEnd h8),.w 52 (wi .i64 rfl hiv5 q4.1)] fun _=>?_
   exact wT (N26 _ H)
 .unfold Zt at H
  refine wP ?_
  refine wf (ltF s1.runs.length) ?_
  refine wP ?_
  replace H:=sI H;subst H
  exact Zrc [(6,.d)] [(2000000000,[])] [(11,some 11,0),(228002,some 228002,0),(500000000,some 500000000,0)] [] [11,228002,500000000] (by kernel_rfl)
def ZXm:L :=
sR [.bx 2 (.t 0),.al 4 [.nl,.nl,.nl,.int .i64 0,.int .i64 0,.int .i64 0,.int .i64 0,.int .i64 0,.nl,.nl,.nl],.mv 5 (cB false)]
 (.seq (sR [lD 7 2 11 true,cQ 8 ZW9 [7],.un 9 (.t 8),mV 10 9,.g 10 false (mV 11 1),.g 10 false (fA 12 2 7),.g 10 false (lD 13 12 1 false),.g 10 false (.cq 14 Ze [(.t 11),(.t 13),(kI 1000000000)]),.g 10 false (.un 15 (.t 14)),.pk 16 (.t 10) (cB true) (.t 15)]
 (.cond (.t 16) (sR [.bd 17 [.nl,.nl,.nl,.int .i64 0,.int .i64 0,.int .i64 0,.int .i64 0,.int .i64 0,.nl,.nl,.nl] [],.st (.t 4) (.t 17) 11,.mv 5 (cB false)]
 gR)
 .skip))
 (sR [lD 18 2 11 true,.cl 19 Zq4 [(.t 18)],.st (.t 2) (.t 19) 11]
 (.seq (.blk 0 (.loop (.gw (.blk 1 (sR [lD 20 2 11 true,cQ 21 ZV9 [20],.al 6 [.int .i64 0],.st (.t 6) (.t 21) 1]
 (.seq (sR [lD 22 6 1 false,.bi 23 .lss (.t 22) (kI 0),mV 24 23,.g 24 false (lD 25 6 1 false),.g 24 false (mV 26 1),.g 24 false (bI 27 .gtr 25 26),.pk 28 (.t 24) (cB true) (.t 27)]
 (.cond (.t 28) (.exit 0)
 .skip))
 (sR [lD 29 6 1 false,fA 30 2 7,.st (.t 30) (.t 29) 1]
 (sR [.fb 6,.mf 31 ZT2 [(.t 6)],.cm 32 ZZ2 [(.t 2),(kI 1),(.t 31)]]
 (.seq (sR [fA 33 2 10,lD 34 33 1 false,.ln 35 (.t 34),.bi 36 .gtr (.t 35) (kI 300)]
 (.cond (.t 36) (sR [.bd 37 [.nl,.nl,.nl,.int .i64 0,.int .i64 0,.int .i64 0,.int .i64 0,.int .i64 0,.nl,.nl,.nl] [],.st (.t 4) (.t 37) 11,.mv 5 (cB false)]
 gR)
 .skip))
 (.reg [lD 38 2 11 true,.cl 39 Zzd [(.t 38)],.st (.t 2) (.t 39) 11]))))))))))
 (sR [mV 40 1,fA 41 2 7,.st (.t 41) (.t 40) 1]
 (sR [lD 42 2 11 true,.st (.t 4) (.t 42) 11,.mv 5 (cB true)]
 gR)))))
def Z24(t2:Int)(v5:State)(k5:State->Option (State×Bool)):Option (State×Bool) :=
 (ZN4 v5).bind fun n6=>bif ((decide (n6<0))||(decide (t2<n6)))then(some ((State.mk v5.topo v5.up v5.lic v5.depth t2 v5.queue v5.runs v5.ends),true))else((ZF (State.mk v5.topo v5.up v5.lic v5.depth n6 v5.queue v5.runs v5.ends) 1 n6).bind fun y7=>bif (decide (300<(y7.2.ends.length:Int)))then(some ((State.mk (Topo.mk [] []) [] (Vec.mk 0 0 0) 0 0 [] [] []),false))else((ZM4 y7.2).bind fun y9=>k5 y9))
def Z28(s1:State)(t2:Int):Option (State×Bool) :=
 (ZQ4 s1).bind fun b3=>bif ((!b3)||(!(Z0 t2 s1.now 1000000000)))then(some ((State.mk (Topo.mk [] []) [] (Vec.mk 0 0 0) 0 0 [] [] []),false))else((Zf2 s1).bind fun y4=>whl (Z24 t2) 9223372036854775807 y4)
theorem Zdn{s1:State}{t2:Int}{r:State×Bool}(H:Z28 s1 t2=some r):Snd Tryz.prog Ztg [Zn .rd s1,.int .i64 t2] (.tup [Zn .nw r.1,.bool r.2]) []:=by
 refine wS ZXm [.c 4 11 true,.t 5] ?_
 unfold Z28 at H
 obtain⟨b3,h3,H⟩:=bB H
 refine wG [.c 8 (Zbc h3),.g 14 [((!b3),false)] (.call _ _ _ _ _ (AEs.refl _) (fun _=>Zc t2 s1.now 1000000000))] fun _=>?_
 refine Z3 H (fun H=>?_) fun H=>?_
 .refine wP ?_
  replace H:=sI H;subst H
  exact wN [(4,.d),(5,.d)] [(4,[.n 1,.n 4,.n 1,.d,.d,.d,.d,.d,.n 11,.n 13,.n 3])] [] [] [] [⟨_,nw_I ([]:List Int)⟩,⟨_,Zx ([]:List Node)⟩,⟨_,ZI2 ([]:List Bool)⟩,⟨_,Zc3 ([]:List Job)⟩,⟨_,Zb3 ([]:List Run)⟩,⟨_,ZK6 ([]:List End)⟩]
 .obtain⟨y4,h4,H⟩:=bB H
  refine wG [.c 19 (Z46 h4)] fun _=>?_
  refine Z1q (fun(v5:State)=>⟨[(1,.int .i64 t2),(2,.ptr 2 0),(4,.ptr 4 0)],[],[(2,[.sl .nw 1 (v5.topo.parents.map eI),.sl .nw 4 (v5.topo.nodes.map Zf),.sl .nw 1 (v5.up.map eBo),.int .i64 v5.lic.a,.int .i64 v5.lic.b,.int .i64 v5.lic.c,.int .i64 v5.depth,.int .i64 v5.now,.sl .nw 11 (v5.queue.map eJob),.sl .nw 13 (v5.runs.map (Za .nw)),.sref 20002]),(4,[.nl,.nl,.nl,.int .i64 0,.int .i64 0,.int .i64 0,.int .i64 0,.int .i64 0,.nl,.nl,.nl])],[(20002,⟨3,v5.ends.map eEnd,false⟩)]⟩) [] [(2,[.d,.d,.d,.d,.d,.d,.d,.d,.f,.f,.d])] [] [20000,20001] (by kernel_rfl) (by kernel_rfl) H (fun v5 I m k5 H N31=>?_)
  unfold Z24 at H
  obtain⟨n6,h6,H⟩:=bB H
  refine wG [.u 21 (.call _ _ _ _ _ (AEs.of (xs:=[.agg [.sl .rd 1 (v5.topo.parents.map eI),.sl .rd 4 (v5.topo.nodes.map Zf),.sl .rd 1 (v5.up.map eBo),.int .i64 v5.lic.a,.int .i64 v5.lic.b,.int .i64 v5.lic.c,.int .i64 v5.depth,.int .i64 v5.now,.sl .rd 11 (v5.queue.map eJob),.sl .rd 13 (v5.runs.map (Za .nw)),.sl .rd 3 (v5.ends.map eEnd)]]) (by simp)) (fun _=>Z6c h6))] fun _=>?_
  refine Z3 H (fun H=>?_) fun H=>?_
  .refine wP ?_
   replace H:=sI H;subst H
   exact wN [(4,.d),(5,.d)] [(4,[.d,.d,.d,.d,.d,.d,.d,.d,.d,.d,.f])] [] [20002] [] [⟨_,nw_I v5.topo.parents⟩,⟨_,Zx v5.topo.nodes⟩,⟨_,ZI2 v5.up⟩,⟨_,Zc3 v5.queue⟩,⟨_,Zb3 v5.runs⟩,⟨_,ZK6 v5.ends⟩]
  .obtain⟨y7,h7,H⟩:=bB H
   refine wG [.u 32 (.cw ZZ2 [2] [20002] [[.sl .nw 1 (v5.topo.parents.map eI),.sl .nw 4 (v5.topo.nodes.map Zf),.sl .nw 1 (v5.up.map eBo),.int .i64 v5.lic.a,.int .i64 v5.lic.b,.int .i64 v5.lic.c,.int .i64 v5.depth,.int .i64 n6,.sl .nw 11 (v5.queue.map eJob),.sl .nw 13 (v5.runs.map (Za .nw)),.sref 0]] [(3,v5.ends.map eEnd)] [.ptr 0 0,.int .i64 1,.fn ZT2 [.ept (.agg [.int .i64 n6]) 0]] _ _ _ _ _ (GEs.of [true,false,false] (by simp)) (by simp) (by simp) (by simp) (fun _=>Zl3 h7)),.u 35 (.ln _ _ fun _=>lm y7.2.ends eEnd)] fun q8=>?_
   refine Z3 H (fun H=>?_) fun H=>?_
   .refine wP ?_
    replace H:=sI H;subst H
    exact wN [(4,.d),(5,.d)] [(4,[.n 1,.n 4,.n 1,.d,.d,.d,.d,.d,.n 11,.n 13,.n 3])] [] [] [] [⟨_,nw_I ([]:List Int)⟩,⟨_,Zx ([]:List Node)⟩,⟨_,ZI2 ([]:List Bool)⟩,⟨_,Zc3 ([]:List Job)⟩,⟨_,Zb3 ([]:List Run)⟩,⟨_,ZK6 ([]:List End)⟩]
   .obtain⟨y9,h9,H⟩:=bB H
    refine wG [.u 39 (.call _ _ _ _ _ (AEs.of (xs:=[.agg [.sl .rd 1 (y7.2.topo.parents.map eI),.sl .rd 4 (y7.2.topo.nodes.map Zf),.sl .rd 1 (y7.2.up.map eBo),.int .i64 y7.2.lic.a,.int .i64 y7.2.lic.b,.int .i64 y7.2.lic.c,.int .i64 y7.2.depth,.int .i64 y7.2.now,.sl .rd 11 (y7.2.queue.map eJob),.sl .rd 13 (y7.2.runs.map (Za .nw)),.sl .rd 3 (y7.2.ends.map eEnd)]]) (by simp)) (fun _=>Z7j h9))] fun _=>?_
    exact Zsn (N31 _ H) [] [] [(20002,(some 40000,0))] [] (by kernel_rfl) (by kernel_rfl)
theorem Zxe(r:Room)(j:Job)(from_ to_:Int)(nodes:List Int):ZQ r j from_ to_ nodes=bif diffOk r j nodes then takeRoom r j.need j.lic from_ to_ nodes else some noRoom:=by
 unfold ZQ diffOk
 rw[ZH9,bS,ZO7]
 cases hr:roomOk r with
 |false=>rfl
 |true =>
  have hR:=ZZ7.1 hr
  rw[ZRd hR.small.nodes]
  cases Z9 j with
  |false=>rfl
  |true =>
   simp only[yL,Bool.or_self,yM,Bool.true_and,bS]
   cases(decide ((nodes.length:Int)=j.nodes)&&ZJ r.topo nodes&&decide nodes.Nodup)with
   |false=>rfl
   |true =>
    simp only[yL,Bool.or_self,yM,yN]
    rw[Zjh hR.small,bS]
    unfold takeRoom ZI1 ZH1
    simp only[fun p f t v=>(ZUd p f t v).1]
    rfl
def idsOk(l:List Job):Bool:=decide (l.map Job.id).Nodup
noncomputable def queueOk(l:List Job):Bool:=decide (l.length<=60)&&l.all Z9&&idsOk l
theorem ZLp{l:List Job}{i:Nat}{x:Job}(hx:l[i]?=some x):((l.take (i+1)).map Job.id).Nodup↔((l.take i).map Job.id).Nodup/\∀y∈l.take i,y.id≠x.id:=by
 obtain⟨hi,rfl⟩:=yB hx
 rw[List.take_succ_eq_append_getElem hi,List.map_append,List.nodup_append]
 constructor
 .intro h;exact⟨h.1,fun y hy e=>h.2.2 _ (List.mem_map_of_mem hy) _ (List.mem_singleton.2 rfl) e⟩
 .intro h;exact⟨h.1,by simp,fun a ha b hb e=>by
   obtain⟨y,hy,rfl⟩:=yY ha
   rw[show b=l[i].id by simpa using hb]at e
   exact h.2 y hy e⟩
theorem Zbl{γ:Type}{bd:Job->Nat->Unit->(Unit->Option γ)->Option γ}{kk:Unit->Option γ}{r:Option γ}{l:List Job}
  (hb:∀i x k,l[i]?=some x->bd x i () k=bif (!Z9 x)||(l.take i).any (fun y=>y.id==x.id)then r else k ()):rgl bd kk l 0 ()=bif l.all Z9&&idsOk l then kk ()else r:=by
 refine ZG2 (fun i (_:Unit)=>(∀y∈l.take i,Z9 y=true)/\((l.take i).map Job.id).Nodup) (fun o=>o=bif l.all Z9&&idsOk l then kk ()else r) (fun i x b k hx hI hk=>?_) (fun b hI=>?_) (by simp)
 .have hil:=(yB hx).1
  rw[hb i x k hx]
  cases hj:Z9 x with
  |false =>
   have:l.all Z9=false:=List.all_eq_false.2 ⟨x,yE hx,by rw[hj];simp⟩
   rw[this];rfl
  |true =>
   cases hc:(l.take i).any (fun y=>y.id==x.id)with
   |true =>
    obtain⟨y,hy,he⟩:=List.any_eq_true.1 hc
    have:idsOk l=false:=by
     unfold idsOk
     rw[decide_eq_false_iff_not]
     intro q
     have q2:((l.take (i+1)).map Job.id).Nodup:=q.sublist ((List.take_sublist _ _).map _)
     exact((ZLp hx).1 q2).2 y hy (by simpa using he)
    rw[this,Bool.and_false];rfl
   |false =>
    refine hk () ⟨fun y hy=>?_,(ZLp hx).2 ⟨hI.2,fun y hy e=>?_⟩⟩
    .obtain⟨hi,rfl⟩:=yB hx
     rw[List.take_succ_eq_append_getElem hi]at hy
     rcases List.mem_append.1 hy with hy|hy
     .exact hI.1 y hy
     .rw[List.mem_singleton.1 hy];exact hj
    .have:=List.any_eq_false.1 hc y hy
     simp[e]at this
 .rw[List.take_of_length_le (yV _)]at hI
  rw[List.all_eq_true.2 hI.1]
  unfold idsOk
  rw[decide_eq_true hI.2];rfl
theorem Z55(l:List Job):Z53 l=some (queueOk l):=by
 unfold Z53 queueOk
 by_cases h:60<l.length
 .simp[show(60:Int)<l.length by omega,show ¬ l.length<=60 by omega]
 .rw[show decide ((60:Int)<(l.length:Int))=false by simp;omega,show decide (l.length<=60)=true by simp;omega]
  simp only[yM,Bool.true_and]
  rw[Zbl (r:=some false) (fun i x k hx=>?_)]
  .unfold Z97
   cases(l.all Z9&&idsOk l)<;>rfl
  .have hil:=(yB hx).1
   unfold Za7
   cases Z9 x with
   |false=>rfl
   |true =>
    simp only[yL,yM,Bool.false_or]
    have h:=ZCd (bd:=ZN2 l i x k) (fun(i:Nat) (_:Unit)=>(i:Int)) (n:=i)
     (B:=fun m _ _ k=>bif (match l[m]? with|some e=>e.id==x.id|none=>false)then some false else k ()) (kk:=fun _=>k ()) (fun m st k hm=>by
      obtain⟨e,he⟩:∃e,l[m]?=some e:=⟨_,yA (by omega)⟩
      have hlt:(m:Int)<(i:Int):=by omega
      simp only[ZN2,hlt,decide_true,yN,Zq,he,bS,Zj2 (n:=m) (by omega)])
     (fun m st k hm=>by
      have hlt:¬ (m:Int)<(i:Int):=by omega
      simp only[ZN2,hlt,decide_false,yM]) 9223372036854775807 0 () (by omega)
    refine h.trans ?_
    rw[ZU2 (r:=some false) (p:=fun(m:Nat)=>match l[m]? with|some e=>e.id==x.id|none=>false) (fun m _ i k=>rfl)]
    have e:(List.range' 0 (i-0)).any (fun(m:Nat)=>match l[m]? with|some e=>e.id==x.id|none=>false)=(l.take i).any (fun y=>y.id==x.id):=by
     rw[Bool.eq_iff_iff,List.any_eq_true,List.any_eq_true]
     constructor
     .rintro⟨m,hm,hq⟩
      obtain⟨j,hj,rfl⟩:=List.mem_range'.1 hm
      have hlt:0+1*j<l.length:=by omega
      rw[yA hlt]at hq
      exact⟨_,List.mem_take_iff_getElem.2 ⟨0+1*j,by omega,rfl⟩,hq⟩
     .rintro⟨y,hy,hq⟩
      obtain⟨m,hm,rfl⟩:=List.mem_take_iff_getElem.1 hy
      exact⟨m,List.mem_range'.2 ⟨m,by omega,by omega⟩,by rw[yA (by omega)];exact hq⟩
    rw[e]
theorem ZWo(l:List Job)(c:Job):Z7 l c=some (l.any fun y=>y.id==c.id):=by
 unfold Z7 Zh
 have:∃r:Int,rgl (Zd c) Zm l 0 ()=some r/\decide (0<=r)=l.any fun y=>y.id==c.id:=by
  refine ZG2 (fun i (_:Unit)=>∀y∈l.take i,(y.id==c.id)=false) (fun o=>∃r:Int,o=some r/\decide (0<=r)=l.any fun y=>y.id==c.id) (fun i x b k hx hI hk=>?_) (fun b hI=>?_) (by simp)
  .unfold Zd Z34
   cases h:(x.id==c.id)with
   |true=>exact⟨i,rfl,by rw[List.any_eq_true.2 ⟨x,yE hx,h⟩];simp⟩
   |false =>
    refine hk () fun y hy=>?_
    obtain⟨hi,rfl⟩:=yB hx
    rw[List.take_succ_eq_append_getElem hi]at hy
    rcases List.mem_append.1 hy with hy|hy
    .exact hI y hy
    .rw[List.mem_singleton.1 hy];exact h
  .rw[List.take_of_length_le (yV _)]at hI
   exact⟨-1,rfl,by rw[List.any_eq_false.2 fun y hy=>by rw[hI y hy];simp];rfl⟩
 obtain⟨r,h1,h2⟩:=this
 rw[h1,bS,h2]
theorem Zec(l:List Job):ZR4 l=some (queueOk l):=by
 unfold ZR4 queueOk
 rw[Zbl (r:=some false) (fun i x k hx=>?_)]
 .unfold Zl7
  have e:decide ((l.length:Int)<=60)=decide (l.length<=60):=by rw[Bool.eq_iff_iff];simp;omega
  rw[e]
  cases l.all Z9<;>cases idsOk l<;>cases decide (l.length<=60)<;>rfl
 .have hil:=(yB hx).1
  unfold Zm7
  rw[ZO7,Znn (by omega)]
  cases Z9 x with
  |false=>rfl
  |true =>
   simp only[yL,yM,bS,ZWo,Bool.false_or]
theorem Zdj(v:Vec):ZE2 v=ZY v:=rfl
def ZJ8(t:Topo)(up:List Bool)(lic:Vec):Room:=⟨t,up,t.nodes.map fun x=>(ZY x.cap).1,(ZY lic).1⟩
theorem Zwl{v:Vec}(h:Z2 v=true):ProfP (ZY v).1:=by
 unfold ZY
 rw[h]
 simp only[yL,yM]
 exact⟨by simp,by simp,fun x hx=>by simp at hx;rw[← hx],fun x hx=>by simp at hx;subst hx;exact⟨rfl,h⟩,fun i x y hx hy=>by simp at hy⟩
theorem Zeg{t:Topo}(h:TopoP t){up:List Bool}(hu:up.length=t.nodes.length){lic:Vec}(hl:Z2 lic=true):RoomP (ZJ8 t up lic) :=
  ⟨h,hu,by simp[ZJ8],fun p hp=>by
    obtain⟨x,hx,rfl⟩:=yY hp
    exact Zwl (h.node x hx).2.2.2,Zwl hl⟩
theorem Z9n{t:Topo}(h:TopoP t){up:List Bool}(hu:up.length=t.nodes.length)(lic:Vec):Zda t up lic=some (ZJ8 t up lic):=by
 have:=h.tree.le;have:=h.nodes
 unfold Zda Z72 Z82
 rw[Z4 (by simp;omega),bS,bS,Z4 (by simp;omega),bS,bS,Z4 (by simp;omega),bS]
 rw[Z71 (bd:=ZA9) (bs:=24) (p:=fun _=>true) (f:=fun x=>(ZY x.cap).1) (fun x hx i b k=>rfl) (by simp;omega)]
 unfold Zz9 ZJ8
 simp[List.filter_eq_self.2,Zdj]
theorem Zvg(s:State):ZY4 s=some (bif topoOk s.topo&&decide (s.up.length=s.topo.nodes.length)&&Z2 s.lic then(ZJ8 s.topo s.up s.lic,true)else noRoom):=by
 unfold ZY4
 rw[ZV3,bS,Zcm]
 cases ht:topoOk s.topo with
 |false=>rfl
 |true =>
 cases hu:decide (s.up.length=s.topo.nodes.length)with
 |false=>rfl
 |true =>
 cases hl:Z2 s.lic with
 |false=>rfl
 |true =>
  have h:=ZV7.1 ht
  have hu:=of_decide_eq_true hu
  have:=h.nodes
  simp only[yL,Bool.or_self,yM,Bool.and_self,yN]
  rw[Z71 (bd:=ZF5) (bs:=24) (p:=fun _=>true) (f:=fun x=>(ZY x.cap).1) (fun x hx i b k=>rfl) (by simp;omega)]
  unfold ZE5
  rw[show(s.topo.nodes.filter fun _=>true)=s.topo.nodes from List.filter_eq_self.2 fun _ _=>rfl,List.nil_append]
  have hR:=Zeg h hu hl
  unfold ZJ8 at hR
  rw[ZIb hR.small,bS]
  rfl
def ZLj(s:State)(x:Run):Bool:=time x.t&&decide (x.t<=s.now)&&decide (s.now<x.t+x.job.wall)&&decide (x.t+x.job.wall<=1000000000)
noncomputable def ZOc(s:State)(x:Run)(v:Room):Option (Room×Bool):=bif diffOk v x.job x.nodes&&ZLj s x then takeRoom v x.job.need x.job.lic s.now (x.t+x.job.wall) x.nodes else some noRoom
theorem ZFl{s:State}(hs:time s.now=true)(x:Run)(i:Nat)(v:Room)(k:Room->Option (Room×Bool)):Z45 s x i v k=(ZOc s x v).bind fun y=>bif !y.2 then some noRoom else k y.1:=by
 have hn:=ZE1.1 hs
 unfold Z45 ZOc
 rw[ZGb,bS,ZQ1]
 cases hd:diffOk v x.job x.nodes with
 |false=>rfl
 |true =>
  have hj:Z9 x.job=true:=by unfold diffOk at hd;simp only[yD]at hd;exact hd.1.1.1.2
  have hj':=ZO2.1 hj
  unfold ZLj
  by_cases ht:time x.t=true/\x.t<=s.now
  .have ht1:=ZE1.1 ht.1
   rw[ht.1,ZV1 (n:=x.t+x.job.wall) (by omega),show decide (s.now<x.t)=false by simp;omega,show decide (x.t<=s.now)=true by simpa using ht.2]
   by_cases h3:s.now<x.t+x.job.wall
   .rw[show decide (x.t+x.job.wall<=s.now)=false by simp;omega,show decide (s.now<x.t+x.job.wall)=true by simpa using h3]
    by_cases h4:x.t+x.job.wall<=1000000000
    .rw[show decide (1000000000<x.t+x.job.wall)=false by simp;omega,show decide (x.t+x.job.wall<=1000000000)=true by simpa using h4]
     simp only[yL,Bool.or_self,yM,Bool.and_self,yN]
     rw[ZV1 (n:=x.t+x.job.wall-s.now) (by omega),Zc8]
     have e:diffOk v ⟨x.job.id,x.job.prio,x.job.nodes,x.job.need,x.job.lic,x.t+x.job.wall-s.now,x.job.level⟩ x.nodes=true:=by
      have hj2:Z9 ⟨x.job.id,x.job.prio,x.job.nodes,x.job.need,x.job.lic,x.t+x.job.wall-s.now,x.job.level⟩=true:=by
       rw[ZO2];simp only;refine⟨hj'.1,hj'.2.1,hj'.2.2.1,hj'.2.2.2.1,hj'.2.2.2.2.1,by omega,hj'.2.2.2.2.2.2⟩
      unfold diffOk at hd ⊢
      rw[hj]at hd
      rw[hj2];exact hd
     rw[e,hs]
     simp only[Bool.and_self,yN]
     rw[show s.now+(x.t+x.job.wall-s.now)=x.t+x.job.wall by omega,ZV1 (by omega)]
     rfl
    .rw[show decide (1000000000<x.t+x.job.wall)=true by simp;omega,show decide (x.t+x.job.wall<=1000000000)=false by simpa using h4]
     simp[noRoom]
   .rw[show decide (x.t+x.job.wall<=s.now)=true by simp;omega,show decide (s.now<x.t+x.job.wall)=false by simpa using h3]
    simp[noRoom]
  .have:(time x.t&&decide (x.t<=s.now))=false:=by
    rw[Bool.eq_false_iff];intro q;simp only[yD,yO]at q;exact ht q
   rw[this]
   have h2:(!(time x.t)||decide (s.now<x.t))=true:=by
    cases hx:time x.t with
    |false=>rfl
    |true =>
     have:¬ x.t<=s.now:=fun q=>ht ⟨hx,q⟩
     simp;omega
   simp only[yL,Bool.false_or,h2,Bool.true_or,yN,Bool.false_and,Bool.and_false,yM,bS]
   rfl
theorem Z2n{s:State}(hs:time s.now=true)(x:Run)(i:Nat)(v:Room)(k:Room->Option (Room×Bool)):Zr5 s x i v k=(ZOc s x v).bind fun y=>bif !y.2 then some noRoom else k y.1:=by
 have hn:=ZE1.1 hs
 unfold Zr5 ZOc
 rw[ZO7,Zxe]
 cases hj:Z9 x.job with
 |false =>
  have hd:diffOk v x.job x.nodes=false:=by unfold diffOk;rw[hj];simp
  rw[hd];rfl
 |true =>
  have hj':=ZO2.1 hj
  by_cases h1:0<=x.t/\x.t<=s.now
  .rw[ZV1 (n:=x.t+x.job.wall) (by omega),ZV1 (n:=s.now+1) (by omega)]
   have e1:Z0 x.t 0 s.now=true:=by simp[Z0];exact h1
   have e2:Z0 (x.t+x.job.wall) (s.now+1) 1000000000=(decide (s.now<x.t+x.job.wall)&&decide (x.t+x.job.wall<=1000000000)):=by
    unfold Z0;congr 1
   have e3:time x.t=true:=by rw[ZE1];omega
   unfold ZLj
   rw[e1,e2,e3,show decide (x.t<=s.now)=true by simpa using h1.2]
   simp only[yL,Bool.false_or,Bool.and_self,Bool.true_and]
   cases(decide (s.now<x.t+x.job.wall)&&decide (x.t+x.job.wall<=1000000000))<;>cases diffOk v x.job x.nodes<;>rfl
  .have e1:Z0 x.t 0 s.now=false:=by
    unfold Z0;rw[Bool.eq_false_iff];intro q;simp only[yD,yO]at q;exact h1 q
   have e2:ZLj s x=false:=by
    unfold ZLj;rw[Bool.eq_false_iff];intro q;simp only[yD,yO,ZE1]at q;exact h1 ⟨q.1.1.1.1,q.1.1.2⟩
   rw[e1,e2]
   simp[noRoom]
noncomputable def Zde(s:State):Option (Room×Bool):=rgl (fun x _ v k=>(ZOc s x v).bind fun y=>bif !y.2 then some noRoom else k y.1) (fun v=>some (v,true)) s.runs 0 (ZJ8 s.topo s.up s.lic)
noncomputable def ZS8(s:State):Bool:=topoOk s.topo&&decide (s.up.length=s.topo.nodes.length)&&Z2 s.lic&&time s.now
theorem Zbd(s:State):Zd2 s=bif ZS8 s then Zde s else some noRoom:=by
 unfold Zd2 ZS8
 rw[Zvg,bS,ZQ1]
 cases(topoOk s.topo&&decide (s.up.length=s.topo.nodes.length)&&Z2 s.lic)with
 |false=>rfl
 |true =>
  cases hs:time s.now with
  |false=>rfl
  |true =>
   simp only[yN,yL,Bool.or_self,yM,Bool.and_self]
   unfold Zde
   exact ZWb (fun i x b k _=>ZFl hs x i b k) fun b=>rfl
theorem Zod(s:State):Za6 s=Zd2 s:=by
 rw[Zbd]
 unfold Za6 ZS8
 rw[ZF9,ZV3,bS,Zcm,ZC3,Z04]
 cases ht:topoOk s.topo with
 |false=>rfl
 |true =>
 cases hu:decide (s.up.length=s.topo.nodes.length)with
 |false=>rfl
 |true =>
 cases hl:Z2 s.lic with
 |false=>rfl
 |true =>
 cases hs:time s.now with
 |false=>rfl
 |true =>
  simp only[yL,Bool.or_self,yM,Bool.and_self,yN]
  rw[Z9n (ZV7.1 ht) (of_decide_eq_true hu),bS]
  unfold Zde
  exact ZWb (fun i x b k _=>Z2n hs x i b k) fun b=>rfl
structure RunsP(s:State):Prop where
 job:∀x∈s.runs,Z9 x.job=true/\(x.nodes.length:Int)=x.job.nodes/\ZJ s.topo x.nodes=true/\x.nodes.Nodup/\ZLj s x=true
theorem ZXl{s:State}(h:ZS8 s=true):∃q,Zde s=some q/\(q.2=true->RoomP q.1/\q.1.topo=s.topo/\q.1.up=s.up/\RunsP s):=by
 unfold ZS8 at h
 simp only[yD,yO,ZV7]at h
 unfold Zde
 refine ZG2 (fun i (v:Room)=>RoomP v/\v.topo=s.topo/\v.up=s.up/\∀x∈s.runs.take i,Z9 x.job=true/\(x.nodes.length:Int)=x.job.nodes/\ZJ s.topo x.nodes=true/\x.nodes.Nodup/\ZLj s x=true) (fun o=>∃q:Room×Bool,o=some q/\(q.2=true->RoomP q.1/\q.1.topo=s.topo/\q.1.up=s.up/\RunsP s)) (fun i x v k hx hI hk=>?_) (fun v hI=>?_) ⟨Zeg h.1.1.1 h.1.1.2 h.1.2,rfl,rfl,by simp⟩
 .obtain⟨h1,h2,h3,h4⟩:=hI
  unfold ZOc
  cases hd:(diffOk v x.job x.nodes&&ZLj s x)with
  |false=>exact⟨noRoom,rfl,fun h=>by cases h⟩
  |true =>
   simp only[yD]at hd
   have hd1:=hd.1
   unfold diffOk at hd1
   simp only[yD,yO]at hd1
   obtain⟨q,q1,q2⟩:=ZZd h1 x.job.need x.job.lic s.now (x.t+x.job.wall) hd1.1.2
   simp only[yN]
   rw[q1,bS]
   cases hq:q.2 with
   |false=>exact⟨noRoom,rfl,fun h=>by cases h⟩
   |true =>
    obtain⟨a1,a2,a3⟩:=q2 hq
    refine hk q.1 ⟨a1,a2.trans h2,a3.trans h3,fun y hy=>?_⟩
    obtain⟨hi,rfl⟩:=yB hx
    rw[List.take_succ_eq_append_getElem hi]at hy
    rcases List.mem_append.1 hy with hy|hy
    .exact h4 y hy
    .rw[List.mem_singleton.1 hy]
     exact⟨hd1.1.1.1.2,hd1.1.1.2,by rw[← h2];exact hd1.1.2,hd1.2,hd.2⟩
 .obtain⟨h1,h2,h3,h4⟩:=hI
  rw[List.take_of_length_le (yV _)]at h4
  exact⟨_,rfl,fun _=>⟨h1,h2,h3,⟨h4⟩⟩⟩
theorem Z87(s:State):∃q,Zd2 s=some q/\(q.2=true->ZS8 s=true/\RoomP q.1/\q.1.topo=s.topo/\q.1.up=s.up/\RunsP s):=by
 rw[Zbd]
 cases h:ZS8 s with
 |false=>exact⟨noRoom,rfl,fun h=>by cases h⟩
 |true =>
  obtain⟨q,h1,h2⟩:=ZXl h
  exact⟨q,h1,fun h=>⟨rfl,h2 h⟩⟩
def allJobs(s:State):List Job:=s.queue++s.runs.map Run.job
theorem ZJh{s:State}(h:s.queue.length+s.runs.length<=1048576):ZB4 s=some (allJobs s):=by
 unfold ZB4
 rw[Z4 (by simp;omega),bS,Z71 (bd:=Z07) (bs:=88) (p:=fun _=>true) (f:=Run.job) (fun x hx i b k=>rfl) (by simp;omega)]
 unfold ZZ6 allJobs
 simp[List.filter_eq_self.2]
theorem ZOf(s:State):Zx6 s=ZB4 s:=rfl
def AscP(l:List Int):Prop:=∀(i:Nat) (x y:Int),l[i]?=some x->l[i+1]?=some y->x<y
open Classical in
noncomputable def ascB(l:List Int):Bool:=decide (AscP l)
theorem ZDh{l:List Int}:ascB l=true↔AscP l:=by unfold ascB;simp
theorem Z5d{l:List Int}(hl:l.length<=1048576):Zs2 l=some (ascB l):=by
 unfold Zs2
 have h:=ZCd (bd:=Zp1 l) (fun(i:Nat) (_:Unit)=>((i+1:Nat):Int)) (n:=l.length-1)
  (B:=fun x _ _ k=>bif (match l[x]?,l[x+1]? with|some a,some b=>decide (b<=a)|_,_=>true)then some false else k ()) (kk:=fun _=>some true) (fun i st k hi=>by
   obtain⟨a,ha⟩:∃e,l[i]?=some e:=⟨_,yA (by omega)⟩
   obtain⟨b,hb⟩:∃e,l[i+1]?=some e:=⟨_,yA (by omega)⟩
   have hlt:((i+1:Nat):Int)<(l.length:Int):=by omega
   simp only[Zp1,hlt,decide_true,yN,Zqh (n:=i+1) (by omega) (by omega),Nat.add_sub_cancel,Zq,ha,hb,bS,Zj2 (n:=i+1) (by omega)])
  (fun i st k hi=>by
   have hlt:¬ ((i+1:Nat):Int)<(l.length:Int):=by omega
   simp only[Zp1,hlt,decide_false,yM]) 9223372036854775807 0 () (by omega)
 refine h.trans ?_
 rw[ZU2 (r:=some false) (p:=fun(x:Nat)=>match l[x]?,l[x+1]? with|some a,some b=>decide (b<=a)|_,_=>true) (fun x _ i k=>rfl)]
 cases hany:(List.range' 0 (l.length-1-0)).any (fun(x:Nat)=>match l[x]?,l[x+1]? with|some a,some b=>decide (b<=a)|_,_=>true)with
 |true =>
  obtain⟨x,hx,hq⟩:=List.any_eq_true.1 hany
  obtain⟨j,hj,rfl⟩:=List.mem_range'.1 hx
  obtain⟨a,ha⟩:∃e,l[0+1*j]?=some e:=⟨_,yA (by omega)⟩
  obtain⟨b,hb⟩:∃e,l[0+1*j+1]?=some e:=⟨_,yA (by omega)⟩
  rw[ha,hb]at hq
  have:ascB l=false:=by
   rw[Bool.eq_false_iff]
   intro q
   have:=ZDh.1 q _ a b ha hb
   simp at hq;omega
  rw[this];rfl
 |false =>
  have:ascB l=true:=ZDh.2 fun i x y hx hy=>by
   have hlt:=(yB hy).1
   have:=List.any_eq_false.1 hany i (List.mem_range'.2 ⟨i,by omega,by omega⟩)
   rw[hx,hy]at this
   simpa using this
  rw[this];rfl
noncomputable def lowN(t:Topo)(l:List Int):Nat:=((Zs4 t l).getD 0).toNat
theorem Zjr{t:Topo}{l:List Int}(h:ZJ t l=true)(hne:l≠[]):lowN t l<t.parents.length/\Zs4 t l=some (lowN t l:Int)/\Zc6 t l=some (lowN t l:Int):=by
 obtain⟨s,h1,h2,h3⟩:=Z2p h hne
 have:lowN t l=s:=by unfold lowN;rw[h2];simp
 rw[this];exact⟨h1,h2,h3⟩
def isUp(s:State)(n:Int):Bool:=(idx s.up n).getD false
noncomputable def runFit(s:State)(x:Run):Bool:=x.nodes.all (isUp s)&&ascB x.nodes&&decide (lev s.topo (lowN s.topo x.nodes)<=x.job.level)
def endOk(s:State)(e:End):Bool:=(decide (1<=e.id)&&decide (e.id<=999))&&(decide (0<=e.t)&&decide (e.t<=s.now))&&(decide (1<=e.why)&&decide (e.why<=4))
noncomputable def ZAb(s:State):Bool:=((Zd2 s).getD noRoom).2&&(decide (0<=s.depth)&&decide (s.depth<=60))&&queueOk (allJobs s)&&decide (s.ends.length<=300)&&s.runs.all (runFit s)&&s.ends.all (endOk s)
theorem ZXn{a b:Int}:decide (b<a) = !decide (a<=b):=by rw[Bool.eq_iff_iff];simp
theorem ZEn{s:State}(_:TopoP s.topo)(hu:s.up.length=s.topo.nodes.length)(hR:RunsP s){x:Run}(hx:x∈s.runs) :
  x.nodes≠[]/\ZJ s.topo x.nodes=true/\x.nodes.length<=24/\∀n∈x.nodes,∃b,idx s.up n=some b:=by
 obtain⟨h1,h2,h3,_,_⟩:=hR.job x hx
 have hj:=(ZO2.1 h1).2.2.1
 refine⟨fun e=>by rw[e]at h2;simp at h2;omega,h3,by omega,fun n hn=>?_⟩
 have:=(Zv.1 h3).2 n hn
 obtain⟨b,q,_⟩:=ZAh (l:=s.up) (i:=n) this.1 (by rw[hu];exact this.2)
 exact⟨b,q⟩
theorem ZEl{s:State}(hT:TopoP s.topo)(hu:s.up.length=s.topo.nodes.length)(hR:RunsP s){x:Run}(hx:x∈s.runs)(k:Unit->Option Bool)(i:Nat):Zg4 s x i () k=bif !runFit s x then some false else k ():=by
 obtain⟨h1,h2,h3,h4⟩:=ZEn hT hu hR hx
 obtain⟨l1,l2,l3⟩:=Zjr h2 h1
 unfold Zg4
 have hk:Zy1 s x k ()=bif decide (lev s.topo (lowN s.topo x.nodes)<=x.job.level)then k ()else some false:=by
  unfold Zy1
  rw[l2,bS,Z42 hT l1,bS,ZXn]
  cases decide (lev s.topo (lowN s.topo x.nodes)<=x.job.level)<;>rfl
 have:rgl (Zh4 s x) (Zy1 s x k) x.nodes 0 ()=bif x.nodes.all (isUp s)&&ascB x.nodes then Zy1 s x k ()else some false:=by
  refine ZG2 (fun i (_:Unit)=>(∀j n,j<i->x.nodes[j]?=some n->isUp s n=true)/\∀j a b,j+1<i->x.nodes[j]?=some a->x.nodes[j+1]?=some b->a<b) (fun o=>o=bif x.nodes.all (isUp s)&&ascB x.nodes then Zy1 s x k ()else some false) (fun i n b kc hi hI hkc=>?_) (fun b hI=>?_) ⟨fun j n h=>by omega,fun j a b h=>by omega⟩
  .have hil:=(yB hi).1
   obtain⟨u,hu'⟩:=h4 n (yE hi)
   have hup:isUp s n=u:=by unfold isUp;rw[hu'];rfl
   unfold Zh4
   rw[hu',bS]
   cases u with
   |false =>
    have:x.nodes.all (isUp s)=false:=List.all_eq_false.2 ⟨n,yE hi,by rw[hup];simp⟩
    rw[this];rfl
   |true =>
    have new:∀j m,j<i+1->x.nodes[j]?=some m->isUp s m=true:=by
     intro j m hj hm
     by_cases e:j=i
     .subst e;rw[hi]at hm;cases hm;exact hup
     .exact hI.1 j m (by omega) hm
    by_cases h0:i=0
    .subst h0
     exact hkc () ⟨new,fun j a b hj=>by omega⟩
    .have hgt:decide ((0:Int)<(i:Int))=true:=by simp;omega
     obtain⟨q,hq⟩:∃q,x.nodes[i-1]?=some q:=⟨_,yA (by omega)⟩
     rw[hgt,Zqh (by omega) (by omega)]
     simp only[yL,yM,yN,Bool.false_or,Bool.true_and,Zq,hq,bS]
     by_cases h5:n<=q
     .have:ascB x.nodes=false:=by
       rw[Bool.eq_false_iff]
       intro w
       have:=ZDh.1 w (i-1) q n hq (by rw[show i-1+1=i by omega];exact hi)
       omega
      rw[this,Bool.and_false];simp[h5]
     .simp only[h5,decide_false,yM]
      refine hkc () ⟨new,fun j a b hj ha hb=>?_⟩
      by_cases e:j+1=i
      .have:j=i-1:=by omega
       subst this
       rw[hq]at ha;cases ha
       rw[show i-1+1=i by omega,hi]at hb;cases hb
       omega
      .exact hI.2 j a b (by omega) ha hb
  .have e1:x.nodes.all (isUp s)=true:=List.all_eq_true.2 fun n hn=>by
    obtain⟨j,hj⟩:=List.getElem?_of_mem hn
    exact hI.1 j n (yB hj).1 hj
   have e2:ascB x.nodes=true:=ZDh.2 fun j a b ha hb=>hI.2 j a b (yB hb).1 ha hb
   rw[e1,e2];rfl
 rw[this,hk]
 unfold runFit
 cases x.nodes.all (isUp s)<;>cases ascB x.nodes<;>cases decide (lev s.topo (lowN s.topo x.nodes)<=x.job.level)<;>rfl
theorem ZAs{s:State}(hT:TopoP s.topo)(hu:s.up.length=s.topo.nodes.length)(hR:RunsP s){x:Run}(hx:x∈s.runs)(k:Unit->Option Bool)(i:Nat):Zo4 s x i () k=bif !runFit s x then some false else k ():=by
 obtain⟨h1,h2,h3,h4⟩:=ZEn hT hu hR hx
 obtain⟨l1,l2,l3⟩:=Zjr h2 h1
 unfold Zo4
 rw[ZU2 (r:=some false) (p:=fun n=>!isUp s n) (fun n hn i k=>by
  obtain⟨u,hu'⟩:=h4 n hn
  unfold Zk7 isUp
  rw[hu',bS];rfl),← List.not_all_eq_any_not]
 unfold Zj7
 rw[Z5d (by omega),bS]
 unfold runFit
 cases x.nodes.all (isUp s)with
 |false=>rfl
 |true =>
 cases ascB x.nodes with
 |false=>rfl
 |true =>
  simp only[yL,yM,l3,bS,Zk5 hT l1,Bool.false_or,Bool.true_and,ZXn]
theorem Z2g{s:State}(hs:s.queue.length+s.runs.length<=1048576):ZI4 s=some (ZAb s)/\ZQ4 s=some (ZAb s):=by
 obtain⟨q,h1,h2⟩:=Z87 s
 unfold ZI4 ZQ4 ZAb
 rw[Zod,h1,bS,bS,ZOf,ZJh hs,Option.getD_some]
 have e1:(decide (s.depth<0)||decide (60<s.depth)) = !(decide (0<=s.depth)&&decide (s.depth<=60)):=by rw[Bool.eq_iff_iff];simp
 have e2:Z0 s.depth 0 60=(decide (0<=s.depth)&&decide (s.depth<=60)):=rfl
 have e3:decide ((300:Int)<(s.ends.length:Int)) = !decide (s.ends.length<=300):=by rw[Bool.eq_iff_iff];simp;omega
 rw[Bool.or_assoc,e1,e2,e3]
 cases hq:q.2 with
 |false=>exact⟨rfl,rfl⟩
 |true =>
 obtain⟨a1,a2,a3,a4,a5⟩:=h2 hq
 have hT:TopoP s.topo:=by rw[← a3];exact a2.topo
 have hu:s.up.length=s.topo.nodes.length:=by rw[← a3,← a4];exact a2.up
 cases(decide (0<=s.depth)&&decide (s.depth<=60))with
 |false=>exact⟨rfl,rfl⟩
 |true =>
 simp only[yL,Bool.or_self,yM,bS,Z55,Zec,Bool.false_or,Bool.true_and]
 cases queueOk (allJobs s)with
 |false=>exact⟨rfl,rfl⟩
 |true =>
 cases decide (s.ends.length<=300)with
 |false=>exact⟨rfl,rfl⟩
 |true =>
 simp only[yL,Bool.or_self,yM,Bool.true_and]
 rw[ZU2 (r:=some false) (p:=fun x=>!runFit s x) (fun x hx i k=>ZEl hT hu a5 hx k i),ZU2 (r:=some false) (p:=fun x=>!runFit s x) (fun x hx i k=>ZAs hT hu a5 hx k i),← List.not_all_eq_any_not]
 unfold Z77 Zi7
 have f1:∀e:End,((((((decide (e.id<1))||(decide (999<e.id)))||(decide (e.t<0)))||(decide (s.now<e.t)))||(decide (e.why<1)))||(decide (4<e.why))) = !endOk s e:=by
  intro e;unfold endOk;rw[Bool.eq_iff_iff];simp;omega
 have f2:∀e:End,(((!(Z0 e.id 1 999))||(!(Z0 e.t 0 s.now)))||(!(Z0 e.why 1 4))) = !endOk s e:=by
  intro e;unfold endOk Z0
  cases(decide (1<=e.id)&&decide (e.id<=999))<;>cases(decide (0<=e.t)&&decide (e.t<=s.now))<;>cases(decide (1<=e.why)&&decide (e.why<=4))<;>rfl
 rw[ZU2 (bd:=Zf4 s) (r:=some false) (p:=fun e=>!endOk s e) (fun e he i k=>by unfold Zf4;rw[f1]),ZU2 (bd:=Zn4 s) (r:=some false) (p:=fun e=>!endOk s e) (fun e he i k=>by unfold Zn4;rw[f2]),← List.not_all_eq_any_not]
 unfold Z67 Zh7
 cases s.runs.all (runFit s)<;>cases s.ends.all (endOk s)<;>exact⟨rfl,rfl⟩
structure StateP(s:State):Prop where
 topo:TopoP s.topo
 up:s.up.length=s.topo.nodes.length
 lic:Z2 s.lic=true
 now:time s.now=true
 room:∃r,Zd2 s=some (r,true)/\RoomP r/\r.topo=s.topo/\r.up=s.up
 runs:RunsP s
 depth:0<=s.depth/\s.depth<=60
 queue:queueOk (allJobs s)=true
 ends:s.ends.length<=300
 fit:∀x∈s.runs,runFit s x=true
 fin:∀e∈s.ends,endOk s e=true
theorem ZHh{s:State}(h:ZAb s=true):StateP s:=by
 obtain⟨q,h1,h2⟩:=Z87 s
 unfold ZAb at h
 rw[h1,Option.getD_some]at h
 simp only[yD,yO,List.all_eq_true]at h
 obtain⟨⟨⟨⟨⟨a1,a2⟩,a3⟩,a4⟩,a5⟩,a6⟩:=h
 obtain⟨b1,b2,b3,b4,b5⟩:=h2 a1
 unfold ZS8 at b1
 simp only[yD,yO,ZV7]at b1
 exact⟨b1.1.1.1,b1.1.1.2,b1.1.2,b1.2,⟨q.1,by rw[h1,← a1],b2,b3,b4⟩,b5,a2,a3,a4,a5,a6⟩
def insJ(x:Job):List Job->List Job
 |[]=>[x]
 |y::l=>if Z91 x y then x::y::l else y::insJ x l
theorem Zue(x:Job):∀l:List Job,(insJ x l).Perm (x::l)
 |[]=>.refl _
 |y::l=>by
  unfold insJ
  split
  .exact .refl _
  .exact((Zue x l).cons y).trans (.swap x y l)
theorem Zzs(x:Job)(l:List Job):(insJ x l).length=l.length+1:=(Zue x l).length_eq
theorem ZYn{x y:Job}(h:Z91 x y=true):Zc7 x y=true:=by
 unfold Z91 at h;unfold Zc7
 simp at h ⊢;omega
theorem Zfm{x y:Job}(h:¬ Z91 x y=true):Zc7 y x=true:=by
 unfold Z91 at h;unfold Zc7
 simp at h ⊢;omega
theorem Zui{x y z:Job}(h1:Zc7 x y=true)(h2:Zc7 y z=true):Zc7 x z=true:=by
 unfold Zc7 at *
 simp at h1 h2 ⊢;omega
theorem ZQo(x y:Job):(Zc7 x y||Zc7 y x)=true:=by
 unfold Zc7
 simp;omega
theorem Z5j(x:Job):∀{l:List Job},l.Pairwise (fun a b=>Zc7 a b=true)->(insJ x l).Pairwise (fun a b=>Zc7 a b=true)
 |[],_=>by simp[insJ]
 |y::l,h=>by
  unfold insJ
  obtain⟨h1,h2⟩:=List.pairwise_cons.1 h
  split
  .rename_i hb
   refine List.pairwise_cons.2 ⟨fun z hz=>?_,h⟩
   rcases yX hz with rfl|hz
   .exact ZYn hb
   .exact Zui (ZYn hb) (h1 z hz)
  .rename_i hb
   refine List.pairwise_cons.2 ⟨fun z hz=>?_,Z5j x h2⟩
   rcases yX ((Zue x l).mem_iff.1 hz)with rfl|hz
   .exact Zfm hb
   .exact h1 z hz
def ordF(l:List Job):List Job:=l.foldl (fun v x=>insJ x v) []
theorem Z3m:∀(l v:List Job),(l.foldl (fun v x=>insJ x v) v).Perm (l++v)/\(v.Pairwise (fun a b=>Zc7 a b=true)->(l.foldl (fun v x=>insJ x v) v).Pairwise (fun a b=>Zc7 a b=true))
 |[],v=>⟨.refl _,id⟩
 |x::l,v=>by
  obtain⟨h1,h2⟩:=Z3m l (insJ x v)
  exact⟨h1.trans (((Zue x v).append_left l).trans List.perm_middle),fun h=>h2 (Z5j x h)⟩
theorem ZZb(l:List Job):(ordF l).Perm l:=by unfold ordF;simpa using(Z3m l []).1
theorem ZJo(l:List Job):(ordF l).Pairwise (fun a b=>Zc7 a b=true):=(Z3m l []).2 .nil
theorem Z0u(x:Job)(k:List Job->Option (List Job))(l:List Job):∀(i:Nat) (acc:List Job),acc.length+l.length<=1000002->rgl (ZR2 x) (ZQ2 x k) l i (true,acc)=k (acc++l):=by
 induction l with
 |nil=>intro i acc h;simp[rgl,ZQ2]
 |cons y l ih =>
  intro i acc h
  simp only[yT]at h
  rw[rgl,ZR2]
  simp only[yL,Bool.false_and,yM,ZL1]
  rw[Z4 (by simp;omega),bS,ih (i+1) (acc++[y]) (by simp;omega)]
  simp
theorem Ztv(x:Job)(k:List Job->Option (List Job))(l:List Job):∀(i:Nat) (p:Bool) (acc:List Job),acc.length+l.length<=1000000->rgl (ZR2 x) (ZQ2 x k) l i (p,acc)=k (acc++if p then l else insJ x l):=by
 induction l with
 |nil =>
  intro i p acc h
  simp only[rgl,ZQ2]
  cases p with
  |true=>simp
  |false =>
   simp only[Bool.not_false,yN,insJ]
   rw[Z4 (by simp at h ⊢;omega),bS];simp
 |cons y l ih =>
  intro i p acc h
  simp only[yT]at h
  rw[rgl,ZR2]
  cases p with
  |true =>
   simp only[yL,Bool.false_and,yM,ZL1,yb]
   rw[Z4 (by simp;omega),bS,ih (i+1) true (acc++[y]) (by simp;omega)]
   simp
  |false =>
   simp only[Bool.not_false,Bool.true_and,insJ]
   cases hb:Z91 x y with
   |true =>
    simp only[yN,yb,ZL1]
    rw[Z4 (by simp;omega),bS,Z4 (by simp;omega),bS]
    rw[Z0u x k l (i+1) _ (by simp;omega)]
    simp
   |false =>
    simp only[yM,ZL1]
    rw[Z4 (by simp;omega),bS,ih (i+1) false (acc++[y]) (by simp;omega)]
    simp
theorem Zqs(l:List Job):∀(i:Nat) (v:List Job),v.length+l.length<=1000000->rgl Zq6 Zv9 l i v=some (l.foldl (fun v x=>insJ x v) v):=by
 induction l with
 |nil=>intro i v _;rfl
 |cons x l ih =>
  intro i v h
  simp only[yT]at h
  rw[rgl,Zq6,Ztv x _ v 0 false [] (by simp;omega)]
  simp only[List.nil_append,yG,yc]
  rw[ih (i+1) (insJ x v) (by rw[Zzs];omega)]
  rfl
theorem Z52{l:List Job}(h:queueOk l=true):l.length<=60/\(∀x∈l,Z9 x=true)/\(l.map Job.id).Nodup:=by
 unfold queueOk idsOk at h
 simp only[yD,yO,List.all_eq_true]at h
 exact⟨h.1.1,h.1.2,h.2⟩
theorem Z6e{l:List Job}(h:queueOk l=true):Z1a l=some (ordF l):=by
 unfold Z1a
 rw[Z55,bS,h]
 simp only[yL,yM]
 have:=(Z52 h).1
 exact Zqs l 0 [] (by simp;omega)
theorem Zit:∀{l:List Job},(l.map Job.id).Nodup->∀{a b:Job},a∈l->b∈l->a.id=b.id->a=b
 |[],_,a,b,ha,_,_=>by simp at ha
 |x::l,h,a,b,ha,hb,e=>by
  rw[List.map_cons,List.nodup_cons]at h
  rcases yX ha with ha'|ha'<;>rcases yX hb with hb'|hb'
  .rw[ha',hb']
  .rw[ha']at e;exact absurd (e ▸ List.mem_map_of_mem hb') h.1
  .rw[hb']at e;exact absurd (e ▸ List.mem_map_of_mem ha') h.1
  .exact Zit h.2 ha' hb' e
theorem Z4n{l:List Job}(h:queueOk l=true):Zca l=some (ordF l):=by
 obtain⟨h1,h2,h3⟩:=Z52 h
 unfold Zca
 rw[Z4 (by simp;omega),bS,List.nil_append]
 have hj:ZMd l:=⟨h3,fun j hj=>by have:=ZO2.1 (h2 j hj);omega,by omega⟩
 unfold Zsh
 rw[yd hj,bS]
 congr 1
 have hs:(l.mergeSort Zc7).Pairwise (fun a b=>Zc7 a b=true):=List.pairwise_mergeSort (le:=Zc7) (fun a b c=>Zui) ZQo l
 refine List.Perm.eq_of_pairwise (le:=fun a b=>Zc7 a b=true) (fun a b ha hb q1 q2=>?_) hs (ZJo l) ((List.mergeSort_perm l _).trans (ZZb l).symm)
 refine Zit h3 ((List.mergeSort_perm l Zc7).mem_iff.1 ha) ((ZZb l).mem_iff.1 hb) ?_
 unfold Zc7 at q1 q2
 simp at q1 q2;omega
theorem Zyq(r:Room)(j:Job)(t:Int)(nodes:List Int):ZS6 r j t nodes=ZB2 r j t nodes:=by
 rw[Zc8]
 unfold ZS6
 rw[Zxe,Z04]
 cases time t<;>cases diffOk r j nodes<;>simp only[noRoom,yL,Bool.not_false,yN,yM,Bool.and_true,Bool.and_false,bS]
 cases takeRoom r j.need j.lic t (w64 (t+j.wall)) nodes<;>rfl
theorem Zjf(r:Room)(j:Job)(t:Int)(nodes:List Int):∃q,ZB2 r j t nodes=some q/\(q.2=true->nodes.length<=24):=by
 rw[Zc8]
 cases hd:(diffOk r j nodes&&time t)with
 |false=>exact⟨noRoom,rfl,fun h=>by cases h⟩
 |true =>
  simp only[yD]at hd
  have hd1:=hd.1
  unfold diffOk at hd1
  simp only[yD,yO]at hd1
  obtain⟨q,q1,_⟩:=ZZd (ZZ7.1 hd1.1.1.1.1) j.need j.lic t (w64 (t+j.wall)) hd1.1.2
  exact⟨q,q1,fun _=>by have:=ZO2.1 hd1.1.1.1.2;omega⟩
structure HeldsOk(L:List Job)(hs:List Held):Prop where
 sub:(hs.map Held.id).Sublist (L.map Job.id)
 nodes:∀h∈hs,h.nodes.length<=24
theorem Z0r{r:Room}{now d:Int}{L:List Job}(hL:L.length<=60):∃p,rgl (ZR1 now d) Zr4 L 0 (r,[],[])=some p/\HeldsOk L p.1:=by
 refine ZG2 (fun i (v:Room×List Held×List Held)=>HeldsOk (L.take i) v.2.1/\v.2.1.length<=i/\v.2.2.length<=i) (fun o=>∃p:List Held×List Held×Bool,o=some p/\HeldsOk L p.1) (fun i x v k hx hI hk=>?_) (fun v hI=>?_) ⟨⟨by simp,by simp⟩,by simp,by simp⟩
 .obtain⟨hi,rfl⟩:=yB hx
  obtain⟨hI,l1,l2⟩:=hI
  have grow:∀{hs},HeldsOk (L.take i) hs->HeldsOk (L.take (i+1)) hs:=fun h=>⟨h.sub.trans ((List.take_sublist_take_left (by omega)).map _),h.nodes⟩
  unfold ZR1
  rw[Zjb,bS]
  generalize (bif roomOk v.1&&Z9 L[i]&&time now then ZLs v.1 L[i] now else(0,[],false))=y
  cases hc:((!y.2.2)||((decide (now<y.1))&&(decide (d<=(v.2.2.length:Int)))))with
  |true=>exact hk _ ⟨grow hI,by simp only;omega,by simp only;omega⟩
  |false =>
   obtain⟨q,q1,q2⟩:=Zjf v.1 L[i] y.1 y.2.1
   simp only[yM,q1,bS]
   cases hq:q.2 with
   |false=>exact hk _ ⟨grow hI,by simp only;omega,by simp only;omega⟩
   |true =>
    have hn:=q2 hq
    simp only[yL,yM]
    cases y.1==now with
    |true =>
     simp only[yN]
     rw[Z4 (by simp;omega),bS]
     refine hk _ ⟨⟨?_,fun h hh=>?_⟩,by simp;omega,by simp only;omega⟩
     .rw[List.take_succ_eq_append_getElem hi,List.map_append,List.map_append]
      exact hI.sub.append (.refl _)
     .rcases List.mem_append.1 hh with hh|hh
      .exact hI.nodes h hh
      .rw[List.mem_singleton.1 hh];exact hn
    |false =>
     simp only[yM]
     rw[Z4 (by simp;omega),bS]
     exact hk _ ⟨grow hI,by simp only;omega,by simp;omega⟩
 .rw[List.take_of_length_le (yV _)]at hI
  exact⟨_,rfl,hI.1⟩
theorem Zyu(r:Room)(now:Int)(l:List Job)(d:Int):∃p,Zn1 r now l d=some p/\Zu2 r now l d=some p/\(p.1=[]\/(queueOk l=true/\HeldsOk (ordF l) p.1)):=by
 have e0:Zu2 r now l d=Zn1 r now l d:=by
  unfold Zu2 Zn1
  rw[ZW3,ZH9,Z55,Zec,bS,bS]
  cases hr:roomOk r with
  |false=>rfl
  |true =>
   simp only[yL,yM,bS,Bool.false_or]
   cases hq:queueOk l with
   |false=>rfl
   |true =>
    simp only[yL,Bool.false_or,Z04,Z6e hq,Z4n hq,bS]
    have e1:(((!Zo now)||decide (d<0))||decide (60<d))=((!time now)||!(Z0 d 0 60)):=by
     have e2:Z0 d 0 60=((!decide (d<0))&&(!decide (60<d))):=by
      unfold Z0
      rw[Bool.eq_iff_iff]
      simp
     rw[e2,Bool.not_and,Bool.not_not,Bool.not_not,← Bool.or_assoc]
     rfl
    rw[e1]
    congr 1
    refine ZWb (fun i x b k hx=>?_) fun b=>rfl
    unfold Zx4 ZR1
    simp only[Z3p,Zyq]
 rw[e0]
 suffices h:∃p,Zn1 r now l d=some p/\(p.1=[]\/(queueOk l=true/\HeldsOk (ordF l) p.1)) by
  obtain⟨p,h1,h2⟩:=h
  exact⟨p,h1,h1,h2⟩
 unfold Zn1
 rw[ZW3,Z55,bS]
 cases hr:roomOk r with
 |false=>exact⟨_,rfl,.inl rfl⟩
 |true =>
  simp only[yL,yM,bS,Bool.false_or]
  cases hq:queueOk l with
  |false=>exact⟨_,rfl,.inl rfl⟩
  |true =>
   simp only[yL,Bool.false_or]
   cases(((!Zo now)||decide (d<0))||decide (60<d))with
   |true=>exact⟨_,rfl,.inl rfl⟩
   |false =>
    simp only[yM,Z6e hq,bS]
    obtain⟨p,h1,h2⟩:=Z0r (r:=r) (now:=now) (d:=d) (L:=ordF l) (by rw[(ZZb l).length_eq];exact(Z52 hq).1)
    exact⟨p,h1,.inr ⟨by simp,h2⟩⟩
structure SmallS(s:State):Prop where
 up:s.up.length<=1048576
 par:s.topo.parents.length<=1048576
 nodes:s.topo.nodes.length<=1048576
 jobs:s.queue.length+s.runs.length<=1048576
 ends:s.ends.length<=1048576
 run:∀x∈s.runs,x.nodes.length<=1048576
theorem StateP.small{s:State}(h:StateP s):SmallS s:=by
 have hq:=(Z52 h.queue).1
 unfold allJobs at hq
 simp only[yU,List.length_map]at hq
 exact⟨by have:=h.up;have:=h.topo.nodes;omega,by have:=h.topo.tree.le;omega,by have:=h.topo.nodes;omega,by omega,by have:=h.ends;omega,fun x hx=>by
  obtain⟨h1,h2,_⟩:=h.runs.job x hx
  have:=ZO2.1 h1;omega⟩
theorem ZKb{s:State}(h:SmallS s):ZC4 s=some s:=by
 unfold ZC4
 have:=h.up;have:=h.par;have:=h.nodes;have:=h.jobs;have:=h.ends
 rw[Z4 (by simp;omega),bS,Z4 (by simp;omega),bS,Z4 (by simp;omega),bS,Z4 (by simp;omega),bS]
 rw[Z71 (bd:=Z94) (bs:=120) (p:=fun _=>true) (f:=id) (fun x hx i b k=>by
  have:=h.run x hx
  unfold Z94
  rw[Z4 (by simp;omega),bS];simp) (by simp;omega)]
 unfold Z17
 rw[Z4 (by simp;omega),bS]
 simp[List.filter_eq_self.2]
theorem Z7c{s:State}(h:SmallS s):Zf2 s=some s:=by
 unfold Zf2 Z72 Z82
 have:=h.up;have:=h.par;have:=h.nodes;have:=h.jobs;have:=h.ends
 rw[Z4 (by simp;omega),bS,bS,Z4 (by simp;omega),bS,bS,Z4 (by simp;omega),bS,Z4 (by simp;omega),bS]
 rw[Z71 (bd:=ZY2) (bs:=120) (p:=fun _=>true) (f:=id) (fun x hx i b k=>by
  have:=h.run x hx
  unfold ZY2 Z82
  rw[Z4 (by simp;omega),bS,bS];simp) (by simp;omega)]
 unfold Zm5
 rw[Z4 (by simp;omega),bS]
 simp[List.filter_eq_self.2]
theorem ZNr(j:Job)(b:List Job)(id:Int)(hj:j.id=id):∀(a:List Job) (i:Nat),(∀x∈a,x.id≠id)->rgl (ZK2 id) Z27 (a++j::b) i ()=some (j,true)
 |[],i,_=>by simp[rgl,ZK2,hj]
 |x::a,i,h=>by
  have hx:(x.id==id)=false:=by simpa using h x (yJ ..)
  rw[List.cons_append,rgl,ZK2,hx,yM]
  exact ZNr j b id hj a (i+1) fun y hy=>h y (yH _ hy)
theorem ZIp(j:Job)(b:List Job)(id:Int)(hj:j.id=id):∀(a:List Job) (i:Nat),(∀x∈a,x.id≠id)->rgl (Z8 id) Zr (a++j::b) i ()=some ((i+a.length:Nat):Int)
 |[],i,_=>by simp[rgl,Z8,Zg3,hj]
 |x::a,i,h=>by
  have hx:Zg3 x id=false:=by unfold Zg3;simpa using h x (yJ ..)
  rw[List.cons_append,rgl,Z8,hx,yM,ZIp j b id hj a (i+1) fun y hy=>h y (yH _ hy)]
  congr 2
  simp;omega
theorem Zsv{j:Job}{a b:List Job}{id:Int}(hl:a.length+b.length<=1048576)(hj:j.id=id)(ha:∀x∈a,x.id≠id)(hb:∀x∈b,x.id≠id):Z58 (a++j::b) id=some (a++b):=by
 unfold Z58
 rw[Z71 (bd:=Z48 id) (bs:=88) (p:=fun x=>x.id != id) (f:=fun x=>x) (fun x _ i b k=>rfl) (by simp;omega)]
 unfold Z38
 have e1:a.filter (fun x=>x.id != id)=a:=List.filter_eq_self.2 fun x hx=>by simpa using ha x hx
 have e2:b.filter (fun x=>x.id != id)=b:=List.filter_eq_self.2 fun x hx=>by simpa using hb x hx
 rw[List.filter_append,List.filter_cons,e1,e2]
 simp[hj]
theorem ZVv{j:Job}{a b:List Job}(hl:a.length+b.length<=1048576):Zqj (a++j::b) (a.length:Int) (w64 ((a.length:Int)+1))=some (a++b):=by
 rw[Zj2 (by omega)]
 unfold Zqj
 rw[yd ⟨by omega,by omega,by simp;omega⟩]
 simp
theorem Z7q(s:State)(hs:List Held):∀(i:Nat) (q:List Job) (rs:List Run),(hs.map Held.id).Nodup->(∀h∈hs,∃j∈q,j.id=h.id)->(q.map Job.id).Nodup->q.length+rs.length<=1048576 ->
  ∃q' new,(∀k,rgl (Zt1 s) k hs i (q,rs)=k (q',rs++new))/\(∀k,rgl (Zm4 s) k hs i (q,rs)=k (q',rs++new)) /\
   (∀x∈new,x.t=s.now/\∃h∈hs,x.nodes=h.nodes)/\(q'++new.map Run.job).Perm q:=by
 induction hs with
 |nil=>intro i q rs _ _ _ _;exact⟨q,[],fun k=>by simp[rgl],fun k=>by simp[rgl],by simp,by simp⟩
 |cons h hs ih =>
  intro i q rs hn hm hq hl
  obtain⟨j,hj,hid⟩:=hm h (yJ ..)
  obtain⟨a,b,rfl⟩:=List.append_of_mem hj
  have hq2:(j.id::((a++b).map Job.id)).Nodup:=by
   have:((a++j::b).map Job.id).Perm ((j::(a++b)).map Job.id):=List.perm_middle.map _
   exact(this.nodup_iff.1 hq)
  rw[List.nodup_cons]at hq2
  have hab:∀x∈a++b,x.id≠h.id:=fun x hx e=>hq2.1 (by rw[hid,← e];exact List.mem_map_of_mem hx)
  have ha:∀x∈a,x.id≠h.id:=fun x hx=>hab x (List.mem_append_left _ hx)
  have hb:∀x∈b,x.id≠h.id:=fun x hx=>hab x (List.mem_append_right _ hx)
  simp only[yU,yT]at hl
  rw[List.map_cons,List.nodup_cons]at hn
  obtain⟨q',new,h1,h2,h3,h4⟩:=ih (i+1) (a++b) (rs++[Run.mk j s.now h.nodes]) hn.2 (fun h' hh'=>by
   obtain⟨j',hj',hid'⟩:=hm h' (yH _ hh')
   have hne:j'.id≠j.id:=fun e=>hn.1 (by rw[← hid,← e,hid'];exact List.mem_map_of_mem hh')
   rcases List.mem_append.1 hj' with q|q
   .exact⟨j',List.mem_append_left _ q,hid'⟩
   .rcases yX q with q|q
    .exact absurd (by rw[q]) hne
    .exact⟨j',List.mem_append_right _ q,hid'⟩) hq2.2 (by simp;omega)
  refine⟨q',Run.mk j s.now h.nodes::new,fun k=>?_,fun k=>?_,fun x hx=>?_,?_⟩
  .rw[rgl,Zt1]
   unfold ZV8
   simp only
   rw[ZNr j b h.id hid a 0 ha,bS,Zsv (by omega) hid ha hb,bS,Z4 (by simp;omega),bS,h1 k]
   simp
  .rw[rgl,Zm4]
   unfold ZXc Zk
   simp only
   rw[ZIp j b h.id hid a 0 ha,bS,bS,Nat.zero_add,Zq,yS (yV _),Nat.sub_self,List.getElem?_cons_zero,bS,Z4 (by simp;omega),bS,ZVv (by omega),bS,h2 k]
   simp
  .rcases yX hx with rfl|hx
   .exact⟨rfl,h,yJ ..,rfl⟩
   .obtain⟨e1,h',hh',e2⟩:=h3 x hx
    exact⟨e1,h',yH _ hh',e2⟩
  .rw[List.map_cons]
   refine List.perm_middle.trans ?_
   exact(h4.cons j).trans List.perm_middle.symm
structure StartP(s s':State)(new:List Run):Prop where
 topo:s'.topo=s.topo
 up:s'.up=s.up
 lic:s'.lic=s.lic
 depth:s'.depth=s.depth
 now:s'.now=s.now
 ends:s'.ends=s.ends
 runs:s'.runs=s.runs++new
 fresh:∀x∈new,x.t=s.now/\x.nodes.length<=24
 perm:(s'.queue++new.map Run.job).Perm s.queue
theorem StartP.len{s s':State}{new:List Run}(h:StartP s s' new):s'.queue.length+s'.runs.length=s.queue.length+s.runs.length:=by
 have:=h.perm.length_eq
 rw[h.runs]
 simp at this ⊢;omega
theorem StartP.small{s s':State}{new:List Run}(h:StartP s s' new)(hs:SmallS s):SmallS s' :=
  ⟨by rw[h.up];exact hs.up,by rw[h.topo];exact hs.par,by rw[h.topo];exact hs.nodes,by rw[h.len];exact hs.jobs,by rw[h.ends];exact hs.ends,fun x hx=>by
    rw[h.runs]at hx
    rcases List.mem_append.1 hx with hx|hx
    · exact hs.run x hx
    · have:=(h.fresh x hx).2;omega⟩
theorem Zcp{s:State}(hs:SmallS s):∃s' new,Zf1 s=some s'/\ZM4 s=some s'/\StartP s s' new:=by
 obtain⟨r,hr,_⟩:=Z87 s
 obtain⟨p,p1,p2,p3⟩:=Zyu r.1 s.now s.queue s.depth
 unfold Zf1 ZM4
 rw[Zod,hr,bS,bS,p1,p2,bS,bS,Z7c hs,bS]
 have key:(p.1.map Held.id).Nodup/\(∀h∈p.1,∃j∈s.queue,j.id=h.id)/\(∀h∈p.1,h.nodes.length<=24)/\(p.1=[]\/(s.queue.map Job.id).Nodup):=by
  rcases p3 with p3|⟨p3,p4⟩
  .rw[p3];exact⟨by simp,by simp,by simp,.inl rfl⟩
  .have hn:=(Z52 p3).2.2
   have ho:((ordF s.queue).map Job.id).Nodup:=((ZZb s.queue).map _).nodup_iff.2 hn
   refine⟨ho.sublist p4.sub,fun h hh=>?_,p4.nodes,.inr hn⟩
   have:h.id∈(ordF s.queue).map Job.id:=p4.sub.subset (List.mem_map_of_mem hh)
   obtain⟨j,hj,e⟩:=yY this
   exact⟨j,(ZZb s.queue).mem_iff.1 hj,e⟩
 obtain⟨k1,k2,k3,k4⟩:=key
 rcases k4 with k4|k4
 .rw[k4]
  exact⟨s,[],rfl,rfl,rfl,rfl,rfl,rfl,rfl,rfl,by simp,by simp,by simp⟩
 .obtain⟨q',new,h1,h2,h3,h4⟩:=Z7q s p.1 0 s.queue s.runs k1 k2 k4 hs.jobs
  rw[h1,h2]
  exact⟨_,new,rfl,rfl,rfl,rfl,rfl,rfl,rfl,rfl,rfl,fun x hx=>by
   obtain⟨e1,h,hh,e2⟩:=h3 x hx
   exact⟨e1,by rw[e2];exact k3 h hh⟩,h4⟩
def endOf(x:Run):Int:=w64 (x.t+x.job.wall)
def nextStep(v:Int)(x:Run):Int:=bif decide (v<0)||decide (endOf x<v)then endOf x else v
def nextF(s:State):Int:=s.runs.foldl nextStep (-1)
theorem ZI6(s:State):ZA2 s=some (nextF s):=by
 unfold ZA2 nextF
 rw[Za3 (f:=nextStep) (fun x _ i b k=>by
  unfold ZY6 nextStep endOf
  cases(decide (b<0)||decide (w64 (x.t+x.job.wall)<b))<;>rfl)]
 rfl
theorem Z5c(s:State):ZN4 s=some (nextF s):=by
 unfold ZN4 nextF
 rw[Za3 (f:=nextStep) (fun x _ i b k=>by
  unfold Zd7 nextStep endOf
  cases(decide (b<0)||decide (w64 (x.t+x.job.wall)<b))<;>rfl)]
 rfl
theorem ZAp:∀(l:List Run) (v:Int),l.foldl nextStep v=v\/∃x∈l,endOf x=l.foldl nextStep v
 |[],v=>.inl rfl
 |x::l,v=>by
  rw[List.foldl_cons]
  have step:nextStep v x=v\/nextStep v x=endOf x:=by
   unfold nextStep
   cases(decide (v<0)||decide (endOf x<v))with
   |true=>exact .inr rfl
   |false=>exact .inl rfl
  rcases ZAp l (nextStep v x)with h|⟨y,hy,h⟩
  .rw[h]
   rcases step with e|e
   .exact .inl e
   .exact .inr ⟨x,yJ ..,e.symm⟩
  .exact .inr ⟨y,yH _ hy,h⟩
theorem Z6a{s:State}(h:0<=nextF s):∃x∈s.runs,endOf x=nextF s:=by
 rcases ZAp s.runs (-1)with e|e
 .unfold nextF at h;omega
 .exact e
theorem Zcr:∀(l:List Run) (v:Int),(∀x∈l,0<=endOf x)->(0<=v->l.foldl nextStep v<=v)/\(∀x∈l,l.foldl nextStep v<=endOf x)
 |[],v,_=>⟨fun _=>Int.le_refl _,by simp⟩
 |x::l,v,h=>by
  obtain⟨h1,h2⟩:=Zcr l (nextStep v x) fun y hy=>h y (yH _ hy)
  have hx:=h x (yJ ..)
  have hv:0<=nextStep v x/\nextStep v x<=endOf x/\(0<=v->nextStep v x<=v):=by
   unfold nextStep
   by_cases a:v<0
   .simp[a];omega
   .by_cases b:endOf x<v
    .simp[b];omega
    .simp[a,b];omega
  rw[List.foldl_cons]
  have:=h1 hv.1
  refine⟨fun q=>by have:=hv.2.2 q;omega,fun y hy=>?_⟩
  rcases yX hy with rfl|hy
  .omega
  .exact h2 y hy
def keepF(n:Int)(l:List Run):List Run:=l.filter fun x=>!(endOf x==n)
def doneF(n:Int)(l:List Run):List End:=(l.filter fun x=>endOf x==n).map fun x=>End.mk x.job.id n 1
def endF(s:State)(n:Int):State:=State.mk s.topo s.up s.lic s.depth n s.queue (keepF n s.runs) (s.ends++doneF n s.runs)
theorem ZNq(v:State×Int)(k:List End×List Run->Option (State×Bool))(l:List Run):∀(i:Nat) (es:List End) (rs:List Run),es.length+l.length<=3000000->rs.length+l.length<=3000000 ->
  rgl (Zm6 v) k l i (es,rs)=k (es++doneF v.2 l,rs++keepF v.2 l):=by
 induction l with
 |nil=>intro i es rs _ _;simp[rgl,doneF,keepF]
 |cons x l ih =>
  intro i es rs h1 h2
  simp only[yT]at h1 h2
  rw[rgl,Zm6]
  have e0:w64 (x.t+x.job.wall)=endOf x:=rfl
  simp only[e0]
  cases hx:(endOf x==v.2)with
  |true =>
   rw[yN,Z4 (by simp;omega),bS,ih (i+1) _ _ (by simp;omega) (by omega)]
   simp[doneF,keepF,hx]
  |false =>
   rw[yM,Z4 (by simp;omega),bS,ih (i+1) _ _ (by omega) (by simp;omega)]
   simp[doneF,keepF,hx]
theorem Zyr(s:State)(n:Int)(hn:s.now=n)(k:List End×List Job×List Run->Option (List Job×State))(l:List Run):∀(i:Nat) (es:List End) (js:List Job) (rs:List Run),es.length+l.length<=3000000->js.length+l.length<=3000000->rs.length+l.length<=3000000 ->
  ∃js',rgl (Zj s 1 n) k l i (es,js,rs)=k (es++doneF n l,js',rs++keepF n l):=by
 induction l with
 |nil=>intro i es js rs _ _ _;exact⟨js,by simp[rgl,doneF,keepF]⟩
 |cons x l ih =>
  intro i es js rs h1 h2 h3
  simp only[yT]at h1 h2 h3
  have e0:ZR6 x n=(endOf x==n):=rfl
  cases hx:(endOf x==n)with
  |true =>
   obtain⟨js',hj⟩:=ih (i+1) (es++[End.mk x.job.id n 1]) (js++[x.job]) rs (by simp;omega) (by simp;omega) (by omega)
   refine⟨js',?_⟩
   rw[rgl,Zj,e0,hx]
   simp only[yL,yM]
   rw[Z4 (by simp;omega),bS,Z4 (by simp;omega),bS,hn,hj]
   simp[doneF,keepF,hx]
  |false =>
   obtain⟨js',hj⟩:=ih (i+1) es js (rs++[x]) (by omega) (by omega) (by simp;omega)
   refine⟨js',?_⟩
   rw[rgl,Zj,e0,hx]
   simp only[Bool.not_false,yN]
   rw[Z4 (by simp;omega),bS,hj]
   simp[doneF,keepF,hx]
theorem ZHp{n:Int}{l:List Run}{x:Run}(hx:x∈l)(he:endOf x=n):(keepF n l).length<l.length:=by
 unfold keepF
 refine Nat.lt_of_le_of_ne (List.length_filter_le ..) fun e=>?_
 have:=List.length_filter_eq_length_iff.1 e x hx
 simp[he]at this
theorem ZVf{s:State}(h:SmallS s)(n:Int)(he:(endF s n).ends.length<=1048576):SmallS (endF s n) :=
  ⟨h.up,h.par,h.nodes,by
    have:=h.jobs
    have:(keepF n s.runs).length<=s.runs.length:=List.length_filter_le ..
    simp only[endF];omega,he,fun x hx=>h.run x ((List.mem_filter.1 hx).1)⟩
def badS:State×Bool:=(State.mk (Topo.mk [] []) [] (Vec.mk 0 0 0) 0 0 [] [] [],false)
def atT(s:State)(t:Int):State:=State.mk s.topo s.up s.lic s.depth t s.queue s.runs s.ends
theorem ZKc(t:Int){s:State}(h:SmallS s)(k:State×Int->Option (State×Bool)):ZU3 t (s,nextF s) k=bif decide (0<=nextF s)&&decide (nextF s<=t)then(bif decide (300<((endF s (nextF s)).ends.length:Int))then some badS else(Zf1 (endF s (nextF s))).bind fun y=>k (y,nextF y))else some (atT s t,true):=by
 have h1:=h.jobs
 have h2:=h.ends
 unfold ZU3
 simp only
 rw[ZNq (s,nextF s) _ s.runs 0 s.ends [] (by omega) (by simp;omega)]
 unfold Zt9
 simp only[ZI6,bS]
 rfl
theorem Zml(t:Int){s:State}(h:SmallS s)(k:State->Option (State×Bool)):Z24 t s k=bif decide (0<=nextF s)&&decide (nextF s<=t)then(bif decide (300<((endF s (nextF s)).ends.length:Int))then some badS else(ZM4 (endF s (nextF s))).bind fun y=>k y)else some (atT s t,true):=by
 have h1:=h.jobs
 have h2:=h.ends
 unfold Z24 ZF
 simp only[Z5c,bS]
 obtain⟨js',hj⟩:=Zyr (State.mk s.topo s.up s.lic s.depth (nextF s) s.queue s.runs s.ends) (nextF s) rfl (Zt (State.mk s.topo s.up s.lic s.depth (nextF s) s.queue s.runs s.ends)) s.runs 0 s.ends [] [] (by omega) (by simp;omega) (by simp;omega)
 rw[hj]
 unfold Zt
 simp only[bS]
 have e:(decide (nextF s<0)||decide (t<nextF s)) = !(decide (0<=nextF s)&&decide (nextF s<=t)):=by
  rw[Bool.eq_iff_iff];simp
 rw[e]
 cases(decide (0<=nextF s)&&decide (nextF s<=t))<;>rfl
theorem ZCo(t:Int):∀(m:Nat) (s:State) (f1 f2:Nat),SmallS s->s.queue.length+s.runs.length<=m->m<f1->m<f2->∃r,whl (ZU3 t) f1 (s,nextF s)=some r/\whl (Z24 t) f2 s=some r:=by
 intro m
 induction m with
 |zero =>
  intro s f1 f2 hs hm h1 h2
  obtain⟨f1,rfl⟩:∃f,f1=f+1:=⟨f1-1,by omega⟩
  obtain⟨f2,rfl⟩:∃f,f2=f+1:=⟨f2-1,by omega⟩
  rw[whl,whl,ZKc t hs,Zml t hs]
  cases hc:(decide (0<=nextF s)&&decide (nextF s<=t))with
  |false=>exact⟨_,rfl,rfl⟩
  |true =>
   simp only[yD,yO]at hc
   obtain⟨x,hx,_⟩:=Z6a hc.1
   have:=List.length_pos_of_mem hx
   omega
 |succ m ih =>
  intro s f1 f2 hs hm h1 h2
  obtain⟨f1,rfl⟩:∃f,f1=f+1:=⟨f1-1,by omega⟩
  obtain⟨f2,rfl⟩:∃f,f2=f+1:=⟨f2-1,by omega⟩
  rw[whl,whl,ZKc t hs,Zml t hs]
  cases hc:(decide (0<=nextF s)&&decide (nextF s<=t))with
  |false=>exact⟨_,rfl,rfl⟩
  |true =>
   simp only[yD,yO]at hc
   obtain⟨x,hx,he⟩:=Z6a hc.1
   have hk:=ZHp hx he
   simp only[yN]
   by_cases h3:300<((endF s (nextF s)).ends.length:Int)
   .rw[decide_eq_true h3];exact⟨_,rfl,rfl⟩
   .rw[decide_eq_false h3]
    simp only[yM]
    have hsm:=ZVf hs (nextF s) (by omega)
    obtain⟨s',new,e1,e2,hS⟩:=Zcp hsm
    rw[e1,e2,bS,bS]
    have hl:=hS.len
    have:(endF s (nextF s)).queue.length+(endF s (nextF s)).runs.length=s.queue.length+(keepF (nextF s) s.runs).length:=rfl
    exact ih s' f1 f2 (hS.small hsm) (by omega) (by omega) (by omega)
theorem ZTs{s:State}(hs:SmallS s)(t:Int):∃r,ZN5 s t=some r/\Z28 s t=some r:=by
 obtain⟨h1,h2⟩:=Z2g hs.jobs
 unfold ZN5 Z28
 rw[h1,h2,bS,bS,ZKb hs,Z7c hs,bS,bS,ZI6,bS]
 cases hS:ZAb s with
 |false=>exact⟨_,rfl,rfl⟩
 |true =>
  have hn:=ZE1.1 (ZHh hS).now
  have e:((!Zo t)||decide (t<s.now)) = !(Z0 t s.now 1000000000):=by
   rw[ZQ1]
   unfold Z0
   rw[Bool.eq_iff_iff]
   cases ht:time t with
   |true=>have:=ZE1.1 ht;simp;omega
   |false =>
    have:¬ (0<=t/\t<=1000000000):=fun q=>by rw[ZE1.2 q]at ht;cases ht
    simp;omega
  simp only[yL,Bool.false_or,e]
  cases Z0 t s.now 1000000000 with
  |false=>exact⟨_,rfl,rfl⟩
  |true=>exact ZCo t (s.queue.length+s.runs.length) s _ _ hs (yV _) (by have:=hs.jobs;omega) (by have:=hs.jobs;omega)
end Go.Proofs.YtodafdoninblmaaGreat
