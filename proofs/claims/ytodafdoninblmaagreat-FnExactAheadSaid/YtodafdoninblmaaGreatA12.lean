/-
  Lemmas, part 12.
-/
import Derived.Test.YtodafdoninblmaaGreatA11
import Derived.Test.YtodafdoninblmaaGreatA1
namespace Go.Proofs.YtodafdoninblmaaGreat
open Go Go.RowKit Eng
def J0N:L :=
.seq (rE 2 (cB false))
 (.seq (sR [mV 6 0,.ln 7 6,.bi 8 .gtr 7 (kI 60)]
 (.cond 8 (.seq (rE 2 (cB false))
 gR)
 .skip))
 (.seq (sR [mV 9 0,.ln 10 9,.mv 11 (kI 0)]
 (.blk 0 (.loop (.gw (sR [bI 12 .lss 11 10]
 (.seq (.cond 12 .skip
 (.exit 0))
 (.seq (.blk 1 (sR [mV 13 11,iA 14 9 11 11,lT 15 14 11,.al 4 [.int .i64 0,.int .i64 0,.int .i64 0,.int .i64 0,.int .i64 0,.int .i64 0,.int .i64 0,.int .i64 0,.int .i64 0,.int .i64 0,.int .i64 0],mV 3 13,.st 4 15 11]
 (.seq (sR [lT 16 4 11,cQ 17 UE [16],.un 18 17]
 (.cond 18 (.seq (rE 2 (cB false))
 gR)
 .skip))
 (.seq (rE 5 (kI 0))
 (.blk 2 (.loop (.gw (.seq (sR [mV 19 5,mV 20 3,bI 21 .lss 19 20]
 (.cond 21 .skip
 (.exit 2)))
 (.seq (.blk 3 (.seq (.rq 8 [mV 24 0,mV 25 5,iA 26 24 25 11,fA 27 26 0,lF 28 27 1,fA 29 4 0,lF 30 29 1,bI 31 .eql 28 30])
 (.cond 31 (.seq (rE 2 (cB false))
 gR)
 .skip)))
 (.reg [mV 22 5,.bi 23 .add 22 (kI 1),mV 5 23]))))))))))
 (.reg [.bi 32 .add 11 (kI 1),mV 11 32]))))))))
 (.seq (rE 2 (cB true))
 gR)))
def Zg(l1:List Job)(i4:Nat)(x4:Job)(k4:Unit->Option Bool)(v5:Int)(k5:Int->Option Bool):Option Bool :=
 bif (decide (v5<(i4:Int)))then((idx l1 v5).bind fun e6=>bif (e6.id==x4.id)then(some false)else(k5 (w64 (v5+1))))else(k4 ())
def LF(l1:List Job)(x4:Job)(i4:Nat)(_:Unit)(k4:Unit->Option Bool):Option Bool :=
 bif (!(L0 x4))then(some false)else(whl (Zg l1 i4 x4 k4) 9223372036854775807 0)
def MF(_:Unit):Option Bool :=
 some true
def Zi(l1:List Job):Option Bool :=
 bif (decide (60<(l1.length:Int)))then(some false)else(rgl (LF l1) MF l1 0 ())
theorem QM{l1:List Job}{r:Bool}(H:Zi l1=some r):Snd Tryz.prog LC [rV 11 (l1.map eJob)] (.bool r) []:=by
 refine wS J0N [.t 2] ?_
 unfold Zi at H
 refine wG [.u 7 (.ln _ _ fun _=>lm l1 eJob)] fun q2=>?_
 refine V0 H ?_ ?_<;>intro H
 .obtain rfl:=sI H
  exact wP (wE [(2,.d)])
 .refine wG [.u 10 (.ln _ _ fun _=>lm l1 eJob)] fun q3=>?_
  refine wR (fun(i4:Nat) (v4:Unit)=>⟨[(0,rV 11 (l1.map eJob)),(9,rV 11 (l1.map eJob)),(10,iV (l1.length:Int)),(11,iV (i4:Int))],[],[],[]⟩) H (fun i4 x4 v4 I m k4 hxv4 hiv4 H N48=>?_) (fun v4 I m H=>?_)
  .unfold LF at H
   refine wP ?_
   refine wt (ltT hiv4) ?_
   refine wH [.u 14 (.ix _ _ _ fun _=>Y0 eJob (W0 hxv4)),.c 17 (W01 x4)] ?_
   refine V0 H ?_ ?_<;>intro H
   .obtain rfl:=sI H
    exact wP (wE [(2,.d)])
   .refine wP ?_
    refine wW (fun(v5:Int)=>⟨[(0,rV 11 (l1.map eJob)),(3,iV (i4:Int)),(4,.ptr 4 0),(5,iV v5),(9,rV 11 (l1.map eJob)),(10,iV (l1.length:Int)),(11,iV (i4:Int))],[],[(4,(eJob x4).cells)],[]⟩) H (fun v5 I m k5 H N38=>?_)
    unfold Zg at H
    refine wP ?_
    refine V0 H ?_ ?_<;>intro H
    .obtain⟨e6,h6,H⟩:=bB H
     refine wH [.u 26 (.ix _ _ _ fun _=>Y0 eJob h6)] ?_
     refine V0 H ?_ ?_<;>intro H
     .obtain rfl:=sI H
      exact wP (wE [(2,.d)])
     .refine wP ?_
      exact wT (N38 _ H)
    .refine wH [.w 32 (wi .i64 rfl hiv4 q2.1)] ?_
     exact wT (N48 () H)
  .unfold MF at H
   refine wP ?_
   refine wf (ltF l1.length) ?_
   obtain rfl:=sI H
   exact wP (wE [(2,.d)])
def L0v:L :=
sR [.bx 2 0,.bx 3 1,.mv 4 (cB false)]
 (sR [fA 5 2 1,lF 6 5 1,fA 7 3 1,lF 8 7 1,bI 9 .gtr 6 8,mV 10 9,gF 10 (fA 11 2 1),gF 10 (lF 12 11 1),gF 10 (fA 13 3 1),gF 10 (lF 14 13 1),gF 10 (bI 15 .eql 12 14),gF 10 (mV 16 15),gT 16 (fA 17 2 0),gT 16 (lF 18 17 1),gT 16 (fA 19 3 0),gT 16 (lF 20 19 1),gT 16 (bI 21 .lss 18 20),gF 10 (.pk 22 16 21 (cB false)),.pk 23 10 (cB true) 22,mV 4 23]
 gR)
def Zo(a1 b2:Job):Option Bool :=
 some ((decide (b2.prio<a1.prio))||((a1.prio==b2.prio)&&(decide (a1.id<b2.id))))
theorem M0j{a1 b2:Job}{r:Bool}(H:Zo a1 b2=some r):Snd Tryz.prog YH [eJob a1,eJob b2] (.bool r) []:=by
 refine wS L0v [.t 4] ?_
 unfold Zo at H
 obtain rfl:=sI H
 exact wP (wE [(4,.d)])
def Q6(a1 b2:Job):Bool :=
 ((decide (b2.prio<a1.prio))||((a1.prio==b2.prio)&&(decide (a1.id<b2.id))))
theorem O0B(a1 b2:Job):Zo a1 b2=some (Q6 a1 b2):=by
 unfold Zo Q6
 first|rfl|simp only[X2]
theorem U0t(a1 b2:Job):Snd Tryz.prog YH [eJob a1,eJob b2] (.bool (Q6 a1 b2)) []:=M0j (O0B a1 b2)
def W1a:L :=
sR [.mv 2 (.c (.nl))]
 (sR [.bs 10 11 [] true,mV 3 10]
 (.seq (sR [mV 11 0,cQ 12 LC [11],.un 13 12]
 (.cond 13 (sR [mV 14 3,mV 2 14]
 gR)
 .skip))
 (.seq (sR [mV 15 0,.ln 16 15,.mv 17 (kI 0)]
 (.blk 0 (.loop (.gw (sR [bI 18 .lss 17 16]
 (.seq (.cond 18 .skip
 (.exit 0))
 (.seq (.blk 1 (sR [iA 19 15 17 11,lT 20 19 11,.al 5 [.int .i64 0,.int .i64 0,.int .i64 0,.int .i64 0,.int .i64 0,.int .i64 0,.int .i64 0,.int .i64 0,.int .i64 0,.int .i64 0,.int .i64 0],.st 5 20 11]
 (sR [.bs 21 11 [] true,mV 6 21]
 (.seq (rE 7 (cB false))
 (.seq (sR [mV 22 3,.ln 23 22,.mv 24 (kI 0)]
 (.blk 2 (.loop (.gw (sR [bI 25 .lss 24 23]
 (.seq (.cond 25 .skip
 (.exit 2))
 (.seq (.blk 3 (sR [iA 26 22 24 11,lT 27 26 11,.al 9 [.int .i64 0,.int .i64 0,.int .i64 0,.int .i64 0,.int .i64 0,.int .i64 0,.int .i64 0,.int .i64 0,.int .i64 0,.int .i64 0,.int .i64 0],.st 9 27 11]
 (.seq (sR [mV 28 7,.un 29 28,mV 30 29,gT 30 (lT 31 5 11),gT 30 (lT 32 9 11),gT 30 (cQ 33 YH [31,32]),.pk 34 30 33 (cB false)]
 (.cond 34 (sR [mV 35 6,lT 36 5 11,.bs 37 11 [36] false,.ap 38 35 37 11 88,mV 6 38]
 (rE 7 (cB true)))
 .skip))
 (.gw (.reg [mV 39 6,lT 40 9 11,.bs 41 11 [40] false,.ap 42 39 41 11 88,mV 6 42])))))
 (.reg [.bi 43 .add 24 (kI 1),mV 24 43]))))))))
 (.seq (sR [mV 44 7,.un 45 44]
 (.cond 45 (.reg [mV 46 6,lT 47 5 11,.bs 48 11 [47] false,.ap 49 46 48 11 88,mV 6 49])
 .skip))
 (.reg [mV 50 6,mV 3 50])))))))
 (.reg [.bi 51 .add 17 (kI 1),mV 17 51]))))))))
 (sR [mV 52 3,mV 2 52]
 gR))))
def Za(x6:Job)(k6:(Bool×(List Job))->Option (List Job))(v8:Bool×(List Job)):Option (List Job) :=
 (appL 88 v8.2 [x6]).bind fun xs9=>k6 (v8.1,xs9)
def Qg(x4 x6:Job)(_:Nat)(v6:Bool×(List Job))(k6:(Bool×(List Job))->Option (List Job)):Option (List Job) :=
 bif ((!v6.1)&&(Q6 x4 x6))then((appL 88 v6.2 [x4]).bind fun xs7=>(Za x6 k6) (true,xs7))else((Za x6 k6) (v6.1,v6.2))
def Ug(x4:Job)(k4:(List Job)->Option (List Job))(v6:Bool×(List Job)):Option (List Job) :=
 bif (!v6.1)then((appL 88 v6.2 [x4]).bind fun xs10=>k4 xs10)else(k4 v6.2)
def LB(x4:Job)(_:Nat)(v4:(List Job))(k4:(List Job)->Option (List Job)):Option (List Job) :=
 rgl (Qg x4) (Ug x4 k4) v4 0 (false,[])
def WV(v4:(List Job)):Option (List Job) :=
 some v4
def WY(l1:List Job):Option (List Job) :=
 (Zi l1).bind fun b2=>bif (!b2)then(some [])else(rgl LB WV l1 0 [])
theorem M15{l1:List Job}{r:(List Job)}(H:WY l1=some r):Snd Tryz.prog O0A [rV 11 (l1.map eJob)] (nV 11 (r.map eJob)) []:=by
 refine wS W1a [.t 2] ?_
 unfold WY at H
 obtain⟨b2,h2,H⟩:=bB H
 refine wH [.c 12 (QM h2)] ?_
 refine V0 H ?_ ?_<;>intro H
 .refine wP ?_
  replace H:=sI H;subst H
  exact wN [(2,.f)] [] [] [10] [] [⟨_,Wi ([]:List Job)⟩]
 .refine wG [.u 16 (.ln _ _ fun _=>lm l1 eJob)] fun q3=>?_
  refine wR (fun(i4:Nat) (v4:(List Job))=>⟨[(3,.sref 10),(15,rV 11 (l1.map eJob)),(16,iV (l1.length:Int)),(17,iV (i4:Int))],[],[],[(10,⟨11,v4.map eJob,false⟩)]⟩) H (fun i4 x4 v4 I m k4 hxv4 hiv4 H N57=>?_) (fun v4 I m H=>?_)
  .unfold LB at H
   refine wP ?_
   refine wt (ltT hiv4) ?_
   refine wG [.u 19 (.ix _ _ _ fun _=>Y0 eJob (W0 hxv4)),.u 23 (.ln _ _ fun _=>lm v4 eJob)] fun q5=>?_
   refine wR (fun(i6:Nat) (v6:Bool×(List Job))=>⟨[(5,.ptr 5 0),(6,.sref 21),(7,.bool v6.1),(15,rV 11 (l1.map eJob)),(16,iV (l1.length:Int)),(17,iV (i4:Int)),(22,.sref 10),(23,iV (v4.length:Int)),(24,iV (i6:Int))],[],[(5,(eJob x4).cells)],[(21,⟨11,v6.2.map eJob,false⟩),(10,⟨11,v4.map eJob,false⟩)]⟩) H (fun i6 x6 v6 I m k6 hxv6 hiv6 H N38=>?_) (fun v6 I m H=>?_)
   .unfold Qg at H
    refine wP ?_
    refine wt (ltT hiv6) ?_
    refine wH [.u 26 (.ix _ _ _ fun _=>Y0 eJob (W0 hxv6)),.u 27 (.el _ _ _ fun _=>gm eJob (Q7 (W0 hxv6))),.g 33 [((!v6.1),true)] (.call _ _ _ _ _ (AEs.refl _) (fun _=>U0t x4 x6))] ?_
    refine W0c (r:=r) (Za x6 k6) 0 (fun v8:Bool×(List Job)=>⟨[(5,.ptr 5 0),(6,.sref 21),(7,.bool v8.1),(9,.ptr 9 0),(15,.sl .rd 11 (l1.map eJob)),(16,.int .i64 (l1.length:Int)),(17,.int .i64 (i4:Int)),(22,.sref 10),(23,.int .i64 (v4.length:Int)),(24,.int .i64 (i6:Int))],[],[(5,(eJob x4).cells),(9,(eJob x6).cells)],[(21,⟨11,v8.2.map eJob,false⟩),(10,⟨11,v4.map eJob,false⟩)]⟩) (by kernel_rfl) (fun v8 H=>?_) (fun J30=>?_)
    .unfold Za at H
     obtain⟨xs9,h9,H⟩:=bB H
     refine wH [.u 42 (.ap _ _ _ _ fun _=>Q0 eJob h9),.w 43 (wi .i64 rfl hiv6 q5.1)] ?_
     exact wT (N38 _ H)
    .refine V0 H ?_ ?_<;>intro H
     .obtain⟨xs7,h7,H⟩:=bB H
      refine wH [.u 38 (.ap _ _ _ _ fun _=>Q0 eJob h7)] ?_
      exact wT (J30 _ H)
     .refine wP ?_
      exact wT (J30 _ H)
   .unfold Ug at H
    refine wP ?_
    refine wf (ltF v4.length) ?_
    refine wP ?_
    refine V0 H ?_ ?_<;>intro H
    .obtain⟨xs10,h10,H⟩:=bB H
     refine wH [.u 49 (.ap _ _ _ _ fun _=>Q0 eJob h10),.w 51 (wi .i64 rfl hiv4 q3.1)] ?_
     exact wU (N57 _ H) [] [] [(10,(some 21,0))] []
    .refine wH [.w 51 (wi .i64 rfl hiv4 q3.1)] ?_
     exact wU (N57 _ H) [] [] [(10,(some 21,0))] []
  .unfold WV at H
   refine wP ?_
   refine wf (ltF l1.length) ?_
   refine wP ?_
   replace H:=sI H;subst H
   exact wN [(2,.f)] [] [] [10] [] [⟨_,Wi v4⟩]
def J0M:L :=
sR [.al 4 [.int .i64 0,.int .i64 0,.int .i64 0,.int .i64 0,.int .i64 0,.int .i64 0,.int .i64 0,.int .i64 0,.int .i64 0,.int .i64 0,.int .i64 0],.mv 5 (cB false)]
 (.seq (sR [mV 8 0,.ln 9 8,.mv 10 (kI 0)]
 (.blk 0 (.loop (.gw (sR [bI 11 .lss 10 9]
 (.seq (.cond 11 .skip
 (.exit 0))
 (.seq (.blk 1 (sR [iA 12 8 10 11,lT 13 12 11,.al 7 [.int .i64 0,.int .i64 0,.int .i64 0,.int .i64 0,.int .i64 0,.int .i64 0,.int .i64 0,.int .i64 0,.int .i64 0,.int .i64 0,.int .i64 0],.st 7 13 11]
 (sR [fA 14 7 0,lF 15 14 1,mV 16 1,bI 17 .eql 15 16]
 (.cond 17 (sR [lT 18 7 11,.st 4 18 11,.mv 5 (cB true)]
 gR)
 .skip))))
 (.reg [.bi 19 .add 10 (kI 1),mV 10 19]))))))))
 (sR [.bd 20 [.int .i64 0,.int .i64 0,.int .i64 0,.int .i64 0,.int .i64 0,.int .i64 0,.int .i64 0,.int .i64 0,.int .i64 0,.int .i64 0,.int .i64 0] [],.st 4 20 11,.mv 5 (cB false)]
 gR))
def Mf(id2:Int)(x4:Job)(_:Nat)(_:Unit)(k4:Unit->Option (Job×Bool)):Option (Job×Bool) :=
 bif (x4.id==id2)then(some (x4,true))else(k4 ())
def YF(_:Unit):Option (Job×Bool) :=
 some ((Job.mk 0 0 0 (Vec.mk 0 0 0) (Vec.mk 0 0 0) 0 0),false)
def LQ(l1:List Job)(id2:Int):Option (Job×Bool) :=
 rgl (Mf id2) YF l1 0 ()
theorem Q0I{l1:List Job}{id2:Int}{r:Job×Bool}(H:LQ l1 id2=some r):Snd Tryz.prog W0i [rV 11 (l1.map eJob),iV id2] (.tup [eJob r.1,.bool r.2]) []:=by
 refine wS J0M [.c 4 11 true,.t 5] ?_
 unfold LQ at H
 refine wG [.u 9 (.ln _ _ fun _=>lm l1 eJob)] fun q3=>?_
 refine wR (fun(i4:Nat) (v4:Unit)=>⟨[(1,iV id2),(4,.ptr 4 0),(8,rV 11 (l1.map eJob)),(9,iV (l1.length:Int)),(10,iV (i4:Int))],[],[(4,(eJob (Job.mk 0 0 0 (Vec.mk 0 0 0) (Vec.mk 0 0 0) 0 0)).cells)],[]⟩) H (fun i4 x4 v4 I m k4 hxv4 hiv4 H N20=>?_) (fun v4 I m H=>?_)
 .unfold Mf at H
  refine wP ?_
  refine wt (ltT hiv4) ?_
  refine wH [.u 12 (.ix _ _ _ fun _=>Y0 eJob (W0 hxv4))] ?_
  refine V0 H ?_ ?_<;>intro H
  .refine wP ?_
   replace H:=sI H;subst H
   exact wN [(4,.d),(5,.d)] [(4,[])] [] [] [] []
  .refine wH [.w 19 (wi .i64 rfl hiv4 q3.1)] ?_
   exact wT (N20 () H)
 .unfold YF at H
  refine wP ?_
  refine wf (ltF l1.length) ?_
  refine wP ?_
  replace H:=sI H;subst H
  exact wN [(4,.d),(5,.d)] [(4,[])] [] [] [] []
def V0w:L :=
sR [.bx 2 0,.mv 3 (cB false)]
 (sR [fA 4 2 0,lF 5 4 1,fA 6 1 0,lF 7 6 1,bI 8 .eql 5 7,mV 3 8]
 gR)
def Qp(k1 x2:Job):Option Bool :=
 some (k1.id==x2.id)
theorem Z0l{k1 x2:Job}{r:Bool}(H:Qp k1 x2=some r):Snd Tryz.prog Qb [eJob k1,.ept (eJob x2) 0] (.bool r) []:=by
 refine wS V0w [.t 3] ?_
 unfold Qp at H
 obtain rfl:=sI H
 exact wP (wE [(3,.d)])
def Un(k1 x2:Job):Bool :=
 (k1.id==x2.id)
theorem V0G(k1 x2:Job):Qp k1 x2=some (Un k1 x2):=by
 unfold Qp Un
 first|rfl|simp only[X2]
theorem J0w(k1 x2:Job):Snd Tryz.prog Qb [eJob k1,.ept (eJob x2) 0] (.bool (Un k1 x2)) []:=Z0l (V0G k1 x2)
def Va:L :=
.seq (rE 4 (kI 0))
 (.seq (sR [mV 6 0,.ln 7 6,.mv 8 (kI 0)]
 (.blk 0 (.loop (.gw (sR [bI 9 .lss 8 7]
 (.seq (.cond 9 .skip
 (.exit 0))
 (.seq (.blk 1 (sR [mV 10 8,mV 5 10]
 (sR [mV 11 1,mV 12 0,mV 13 5,iA 14 12 13 11,lT 15 14 11,.cc 16 11 [15]]
 (.cond 16 (sR [mV 17 5,mV 4 17]
 gR)
 .skip))))
 (.reg [.bi 18 .add 8 (kI 1),mV 8 18]))))))))
 (.seq (rE 4 (kI (-1)))
 gR))
def X1(c2 x4:Job)(i4:Nat)(_:Unit)(k4:Unit->Option Int):Option Int :=
 bif (Un x4 c2)then(some (i4:Int))else(k4 ())
def U2(_:Unit):Option Int :=
 some (-1)
def O1(s1:List Job)(c2:Job):Option Int :=
 rgl (X1 c2) U2 s1 0 ()
theorem Xa{s1:List Job}{c2:Job}{r:Int}(H:O1 s1 c2=some r):Snd Tryz.prog J3 [rV 11 (s1.map eJob),.fn Qb [.ept (eJob c2) 0]] (iV r) []:=by
 refine wS Va [.t 4] ?_
 unfold O1 at H
 refine wG [.u 7 (.ln _ _ fun _=>lm s1 eJob)] fun q3=>?_
 refine wR (fun(i4:Nat) (v4:Unit)=>⟨[(0,rV 11 (s1.map eJob)),(1,.fn Qb [.ept (eJob c2) 0]),(7,iV (s1.length:Int)),(8,iV (i4:Int))],[],[],[]⟩) H (fun i4 x4 v4 I m k4 hxv4 hiv4 H N20=>?_) (fun v4 I m H=>?_)
 .unfold X1 at H
  refine wP ?_
  refine wt (ltT hiv4) ?_
  refine wH [.u 14 (.ix _ _ _ fun _=>Y0 eJob (W0 hxv4)),.u 16 (.clsr _ _ _ _ _ (AEs.refl _) (by kernel_rfl) (fun _=>J0w x4 c2))] ?_
  refine V0 H ?_ ?_<;>intro H
  .refine wP ?_
   replace H:=sI H;subst H
   exact wE [(4,.d)]
  .refine wH [.w 18 (wi .i64 rfl hiv4 q3.1)] ?_
   exact wT (N20 () H)
 .unfold U2 at H
  refine wP ?_
  refine wf (ltF s1.length) ?_
  obtain rfl:=sI H
  exact wP (wE [(4,.d)])
def Y9:L :=
.seq (rE 4 (cB false))
 (sR [mV 5 0,mV 6 1,cQ 7 J3 [5,6],.bi 8 .geq 7 (kI 0),mV 4 8]
 gR)
def O0(s1:List Job)(c2:Job):Option Bool :=
 (O1 s1 c2).bind fun n3=>some (decide (0<=n3))
theorem J8{s1:List Job}{c2:Job}{r:Bool}(H:O0 s1 c2=some r):Snd Tryz.prog Y8 [rV 11 (s1.map eJob),.fn Qb [.ept (eJob c2) 0]] (.bool r) []:=by
 refine wS Y9 [.t 4] ?_
 unfold O0 at H
 obtain⟨n3,h3,H⟩:=bB H
 refine wH [.c 7 (Xa h3)] ?_
 obtain rfl:=sI H
 exact wE [(4,.d)]
def M0P:L :=
.seq (rE 2 (cB false))
 (.seq (sR [mV 5 0,.ln 6 5,.mv 7 (kI 0)]
 (.blk 0 (.loop (.gw (sR [bI 8 .lss 7 6]
 (.seq (.cond 8 .skip
 (.exit 0))
 (.seq (.blk 1 (sR [mV 9 7,iA 10 5 7 11,lT 11 10 11,.al 4 [.int .i64 0,.int .i64 0,.int .i64 0,.int .i64 0,.int .i64 0,.int .i64 0,.int .i64 0,.int .i64 0,.int .i64 0,.int .i64 0,.int .i64 0],mV 3 9,.st 4 11 11]
 (sR [.fb 4,lT 12 4 11,cQ 13 Ms [12],.un 14 13,mV 15 14,gF 15 (mV 16 0),gF 15 (mV 17 3),gF 15 (.sc 18 16 none (some 17) 11),gF 15 (.mf 19 Qb [4]),gF 15 (cQ 20 Y8 [18,19]),.pk 21 15 (cB true) 20]
 (.cond 21 (.seq (rE 2 (cB false))
 gR)
 .skip))))
 (.reg [.bi 22 .add 7 (kI 1),mV 7 22]))))))))
 (sR [mV 23 0,.ln 24 23,.bi 25 .leq 24 (kI 60),mV 2 25]
 gR))
def JG(l1:List Job)(x3:Job)(i3:Nat)(_:Unit)(k3:Unit->Option Bool):Option Bool :=
 (bif (!(U7 x3))then some default else(cutL l1 none (some (i3:Int)))).bind fun xs4=>(bif (!(U7 x3))then some default else(O0 xs4 x3)).bind fun b5=>bif ((!(U7 x3))||b5)then(some false)else(k3 ())
def LG(l1:List Job)(_:Unit):Option Bool :=
 some (decide ((l1.length:Int)<=60))
def Us(l1:List Job):Option Bool :=
 rgl (JG l1) (LG l1) l1 0 ()
theorem V0b{l1:List Job}{r:Bool}(H:Us l1=some r):Snd Tryz.prog XY [rV 11 (l1.map eJob)] (.bool r) []:=by
 refine wS M0P [.t 2] ?_
 unfold Us at H
 refine wG [.u 6 (.ln _ _ fun _=>lm l1 eJob)] fun q2=>?_
 refine wR (fun(i3:Nat) (v3:Unit)=>⟨[(0,rV 11 (l1.map eJob)),(5,rV 11 (l1.map eJob)),(6,iV (l1.length:Int)),(7,iV (i3:Int))],[],[],[]⟩) H (fun i3 x3 v3 I m k3 hxv3 hiv3 H N20=>?_) (fun v3 I m H=>?_)
 .unfold JG at H
  refine wP ?_
  refine wt (ltT hiv3) ?_
  obtain⟨xs4,h4,H⟩:=bB H
  obtain⟨b5,h5,H⟩:=bB H
  refine wH [.u 10 (.ix _ _ _ fun _=>Y0 eJob (W0 hxv3)),.c 13 (ZK x3),.g 18 [(_,false)] (.sc _ _ _ _ fun q=>X1f eJob (bF q.1 h4)),.g 20 [(_,false)] (.call _ _ _ _ _ (AEs.refl _) (fun q=>J8 (bF q.1 h5)))] ?_
  refine V0 H ?_ ?_<;>intro H
  .obtain rfl:=sI H
   exact wP (wE [(2,.d)])
  .refine wH [.w 22 (wi .i64 rfl hiv3 q2.1)] ?_
   exact wT (N20 () H)
 .unfold LG at H
  refine wP ?_
  refine wf (ltF l1.length) ?_
  refine wG [.u 24 (.ln _ _ fun _=>lm l1 eJob)] fun q6=>?_
  obtain rfl:=sI H
  exact wE [(2,.d)]
def L1b:L :=
sR [.mv 2 (.c (.nl))]
 (sR [.bs 4 11 [] true,mV 5 0,.ap 6 4 5 11 88,mV 3 6]
 (sR [mV 7 3,.cm 8 X6 [7,(.c (.fn JX []))]]
 (sR [mV 9 3,mV 2 9]
 gR)))
def W00(l1:List Job):Option (List Job) :=
 (appL 88 ([]:List Job) l1).bind fun xs2=>(J0G xs2).bind fun xs3=>some xs3
theorem X1d{l1:List Job}{r:(List Job)}(H:W00 l1=some r):Snd Tryz.prog Z0B [rV 11 (l1.map eJob)] (nV 11 (r.map eJob)) []:=by
 refine wS L1b [.t 2] ?_
 unfold W00 at H
 obtain⟨xs2,h2,H⟩:=bB H
 obtain⟨xs3,h3,H⟩:=bB H
 refine wH [.u 6 (.ap _ _ _ _ fun _=>Q0 eJob h2),.u 8 (.cr X6 11 _ [.fn JX []] _ false _ (fun _=>by simp) (fun _=>by simp) (fun _=>by simp) (fun _=>M1m h3))] ?_
 replace H:=sI H;subst H
 exact wN [(2,.f)] [] [] [4] [] [⟨_,Wi xs3⟩]
def V0P:L :=
sR [.bx 2 0,.mv 3 (cB false)]
 (sR [fA 4 2 0,lF 5 4 1,lF 6 1 1,bI 7 .eql 5 6,mV 3 7]
 gR)
def YC(j1:Job)(x2:Int):Option Bool :=
 some (j1.id==x2)
theorem Q0w{j1:Job}{x2:Int}{r:Bool}(H:YC j1 x2=some r):Snd Tryz.prog Ln [eJob j1,.ept (.agg [iV x2]) 0] (.bool r) []:=by
 refine wS V0P [.t 3] ?_
 unfold YC at H
 obtain rfl:=sI H
 exact wP (wE [(3,.d)])
def Ji(j1:Job)(x2:Int):Bool :=
 (j1.id==x2)
theorem Q10(j1:Job)(x2:Int):YC j1 x2=some (Ji j1 x2):=by
 unfold YC Ji
 first|rfl|simp only[X2]
theorem X0Q(j1:Job)(x2:Int):Snd Tryz.prog Ln [eJob j1,.ept (.agg [iV x2]) 0] (.bool (Ji j1 x2)) []:=Q0w (Q10 j1 x2)
def La:L :=
.seq (rE 4 (kI 0))
 (.seq (sR [mV 6 0,.ln 7 6,.mv 8 (kI 0)]
 (.blk 0 (.loop (.gw (sR [bI 9 .lss 8 7]
 (.seq (.cond 9 .skip
 (.exit 0))
 (.seq (.blk 1 (sR [mV 10 8,mV 5 10]
 (sR [mV 11 1,mV 12 0,mV 13 5,iA 14 12 13 11,lT 15 14 11,.cc 16 11 [15]]
 (.cond 16 (sR [mV 17 5,mV 4 17]
 gR)
 .skip))))
 (.reg [.bi 18 .add 8 (kI 1),mV 8 18]))))))))
 (.seq (rE 4 (kI (-1)))
 gR))
def M0(c2:Int)(x4:Job)(i4:Nat)(_:Unit)(k4:Unit->Option Int):Option Int :=
 bif (Ji x4 c2)then(some (i4:Int))else(k4 ())
def M2(_:Unit):Option Int :=
 some (-1)
def Z2(s1:List Job)(c2:Int):Option Int :=
 rgl (M0 c2) M2 s1 0 ()
theorem Ma{s1:List Job}{c2 r:Int}(H:Z2 s1 c2=some r):Snd Tryz.prog J3 [rV 11 (s1.map eJob),.fn Ln [.ept (.agg [iV c2]) 0]] (iV r) []:=by
 refine wS La [.t 4] ?_
 unfold Z2 at H
 refine wG [.u 7 (.ln _ _ fun _=>lm s1 eJob)] fun q3=>?_
 refine wR (fun(i4:Nat) (v4:Unit)=>⟨[(0,rV 11 (s1.map eJob)),(1,.fn Ln [.ept (.agg [iV c2]) 0]),(7,iV (s1.length:Int)),(8,iV (i4:Int))],[],[],[]⟩) H (fun i4 x4 v4 I m k4 hxv4 hiv4 H N20=>?_) (fun v4 I m H=>?_)
 .unfold M0 at H
  refine wP ?_
  refine wt (ltT hiv4) ?_
  refine wH [.u 14 (.ix _ _ _ fun _=>Y0 eJob (W0 hxv4)),.u 16 (.clsr _ _ _ _ _ (AEs.refl _) (by kernel_rfl) (fun _=>X0Q x4 c2))] ?_
  refine V0 H ?_ ?_<;>intro H
  .refine wP ?_
   replace H:=sI H;subst H
   exact wE [(4,.d)]
  .refine wH [.w 18 (wi .i64 rfl hiv4 q3.1)] ?_
   exact wT (N20 () H)
 .unfold M2 at H
  refine wP ?_
  refine wf (ltF s1.length) ?_
  obtain rfl:=sI H
  exact wP (wE [(4,.d)])
def Z1c:L :=
sR [.bx 3 1,.mv 4 (kI 0)]
 (sR [.fb 3,mV 5 0,.mf 6 Ln [3],cQ 7 J3 [5,6],mV 4 7]
 gR)
def Q0f(l1:List Job)(id2:Int):Option Int :=
 (Z2 l1 id2).bind fun n3=>some n3
theorem U1d{l1:List Job}{id2 r:Int}(H:Q0f l1 id2=some r):Snd Tryz.prog Y0B [rV 11 (l1.map eJob),iV id2] (iV r) []:=by
 refine wS Z1c [.t 4] ?_
 unfold Q0f at H
 obtain⟨n3,h3,H⟩:=bB H
 refine wH [.c 7 (Ma h3)] ?_
 obtain rfl:=sI H
 exact wE [(4,.d)]
end Go.Proofs.YtodafdoninblmaaGreat
namespace Go.Proofs.YtodafdoninblmaaGreat
open Go Go.RowKit Eng Go.Sort
def J0R(l:List Job)(i j:Int):Option (List Job):=if 0<=i/\i<j/\j<=(l.length:Int)then some (l.take i.toNat++l.drop j.toNat)else none
theorem O09:∀(vs:List Value) (s:Nat) (F:Array Value),s+vs.length<=F.size->(setMany F s vs).toList=F.toList.take s++vs++F.toList.drop (s+vs.length)
 |[],s,F,_=>by simp[setMany]
 |v::r,s,F,h=>by
  have h':s+1+r.length<=F.size:=by simp at h;omega
  rw[setMany,O09 r (s+1) _ (by simpa using h')]
  simp only[Array.toList_setIfInBounds]
  have hs:s<F.toList.length:=by simp at h ⊢;omega
  rw[List.set_eq_take_append_cons_drop,yd hs]
  have hl:(F.toList.take s).length=s:=by simp at hs ⊢;omega
  have e1:(F.toList.take s++v::F.toList.drop (s+1)).take (s+1)=F.toList.take s++[v]:=by
   rw[List.take_append,hl]
   have:s+1-s=1:=by omega
   rw[this,List.take_of_length_le (by rw[hl];omega)]
   rfl
  have e2:(F.toList.take s++v::F.toList.drop (s+1)).drop (s+1+r.length)=F.toList.drop (s+(v::r).length):=by
   rw[List.drop_append,hl,List.drop_of_length_le (by rw[hl];omega)]
   have:s+1+r.length-s=r.length+1:=by omega
   rw[this,List.drop_succ_cons,List.drop_drop]
   simp only[List.nil_append,yT]
   congr 1
   omega
  rw[e1,e2]
  simp
theorem O1H{w:World}{b:Nat}{cur:Array Value}{ty:TypeId}(h1:w.heap[b]?=some (.cells cur ty (0,0)))(s1 s2:Nat)(v1 v2:List Value)(l1:s1+v1.length<=cur.size)(l2:s2+v2.length<=cur.size) :
  ∃F:Array Value,F=setMany (setMany cur s1 v1) s2 v2/\(w.drew.setCells b s1 v1).setCells b s2 v2=grow (putRow id (Sort.ahead w 1) b 0 F) #[]:=by
 refine⟨_,rfl,?_⟩
 have e0:putRow id w.drew b 0 cur=w.drew:=putRow_self id _ b 0 _ (Q13 (w:=w.drew) h1 (List.take_of_length_le (by simp)))
 have e1:=setCells_putRow w.drew b 0 v1 s1 cur l1
 rw[e0,Nat.zero_add]at e1
 have e2:=setCells_putRow w.drew b 0 v2 s2 (setMany cur s1 v1) (by simpa using l2)
 rw[Nat.zero_add]at e2
 rw[e1,e2,grow_empty]
 rfl
theorem W1k{α:Type}{k:Nat}{enc:α->List Value}(hk:∀x,(enc x).length=k)(l:List α)(i:Nat):(l.flatMap enc).take (i*k)=(l.take i).flatMap enc:=by
 induction l generalizing i with
 |nil=>simp
 |cons x l ih =>
  cases i with
  |zero=>simp
  |succ i =>
   rw[ya,List.take_succ_cons,ya,List.take_append,hk,← ih,List.take_of_length_le (by rw[hk,Nat.succ_mul];omega)]
   congr 2
   rw[Nat.succ_mul];omega
theorem O1k{α:Type}{k:Nat}{enc:α->List Value}(hk:∀x,(enc x).length=k)(l:List α)(i:Nat):(l.flatMap enc).drop (i*k)=(l.drop i).flatMap enc:=by
 induction l generalizing i with
 |nil=>simp
 |cons x l ih =>
  cases i with
  |zero=>simp
  |succ i =>
   rw[ya,List.drop_succ_cons,List.drop_append,hk,← ih,List.drop_of_length_le (by rw[hk,Nat.succ_mul];omega),List.nil_append]
   congr 1
   rw[Nat.succ_mul];omega
set_option maxRecDepth 20000 in
theorem L1w{l r:List Job}{i j:Int}(h:J0R l i j=some r):V0r Tryz.prog J6 11 (l.map eJob) [.int .i64 i,.int .i64 j] true (r.map eJob):=by
 unfold J0R at h
 split at h
 .rename_i hc
  cases h
  obtain⟨a,rfl⟩:∃a:Nat,i=a:=⟨i.toNat,by omega⟩
  obtain⟨c,rfl⟩:∃c:Nat,j=c:=⟨j.toNat,by omega⟩
  obtain⟨_,hij,hjn⟩:=hc
  have hij:a<c:=by omega
  have hjn:c<=l.length:=by omega
  simp only[yZ]
  have hne:l≠[]:=fun e=>by subst e;simp at hjn;omega
  refine Z0H W0k (fun e=>absurd e hne) (fun e=>by cases e) ?_
  intro w g n0 us H hul hus
  match us,hul with
  |[u1,u2],_ =>
  have hu1:=(hus 0 _ u1 rfl rfl).int_inv
  have hu2:=(hus 1 _ u2 rfl rfl).int_inv
  subst hu1;subst hu2
  refine⟨fun e=>absurd e hne,fun b cap cur ty h1 h2 h3 h4 h5 h6=>?_⟩
  obtain⟨i0,hi0,hz1⟩:∃i0,Tryz.prog.info? 56=some i0/\i0.size=11:=yC (show(Tryz.prog.info? 56).map (fun x=>x.size)=some 11 by kernel_rfl)
  have hlen:((l.drop c).flatMap jobV).length=(l.length-c)*11:=by rw[V0R W0k.vlen,List.length_drop]
  obtain⟨zs,hzs⟩:∃zs,zs=(Builtin.zeroCells (Value.agg #[.int .i64 0,.int .i64 0,.int .i64 0,.int .i64 0,.int .i64 0,.int .i64 0,.int .i64 0,.int .i64 0,.int .i64 0,.int .i64 0,.int .i64 0]).cells (l.length-(a+(l.length-c)))).toList:=⟨_,rfl⟩
  have hzl:zs.length=(c-a)*11:=by
   rw[hzs]
   have:(Value.agg #[.int .i64 0,.int .i64 0,.int .i64 0,.int .i64 0,.int .i64 0,.int .i64 0,.int .i64 0,.int .i64 0,.int .i64 0,.int .i64 0,.int .i64 0]).cells.size=11:=rfl
   simp only[Builtin.zeroCells,Array.toList_map,List.length_map,Array.length_toList,Array.size_range,this]
   congr 1
   omega
  have hz0:∀v∈zs,v.oneCell'=true:=by
   intro v hv
   rw[hzs]at hv
   simp only[Builtin.zeroCells,Array.toList_map,List.mem_map]at hv
   obtain⟨q,_,rfl⟩:=hv
   have hc:(Value.agg #[.int .i64 0,.int .i64 0,.int .i64 0,.int .i64 0,.int .i64 0,.int .i64 0,.int .i64 0,.int .i64 0,.int .i64 0,.int .i64 0,.int .i64 0]).cells=#[Value.int .i64 0,.int .i64 0,.int .i64 0,.int .i64 0,.int .i64 0,.int .i64 0,.int .i64 0,.int .i64 0,.int .i64 0,.int .i64 0,.int .i64 0]:=rfl
   rw[hc]
   have hq:q % 11<11:=Nat.mod_lt _ (by omega)
   show Value.oneCell' (#[Value.int .i64 0,.int .i64 0,.int .i64 0,.int .i64 0,.int .i64 0,.int .i64 0,.int .i64 0,.int .i64 0,.int .i64 0,.int .i64 0,.int .i64 0][q % 11]!)=true
   generalize q % 11=k at hq
   match k with
   |0|1|2|3|4|5|6|7|8|9|10=>rfl
   |k+11=>omega
  have hcur:∀k,k<l.length*11->cur[k]?=(l.flatMap jobV)[k]?:=by
   intro k hk
   have:=congrArg (·[k]?) h5
   simp only[List.getElem?_take,hk,yb,Array.getElem?_toList]at this
   exact this
  have hcap:=Nat.mul_le_mul_right 11 h2
  have hcell:∀k,w.cell? ⟨b,k,none⟩=cur[k]?:=by
   intro k
   simp only[World.cell?,h1,Option.isSome_none,yG,yc]
  refine(Q1K b cap l.length a c w ((l.drop c).flatMap jobV) zs i0 hi0 hz1 Tryz.underlying39 _ Tryz.zeroValue56 hzs hzl hz0 (by simp only[maxLen]at h3;omega) hij hjn h2 hlen (fun v hv=>?_) (fun k u hu=>?_) fun k hk=>?_).mono fun e w' hw=>?_
  .obtain⟨x,_,hx⟩:=List.mem_flatMap.1 hv
   exact W0k.vone x v hx
  .have hkl:k<(l.length-c)*11:=by
    have:=(yB hu).1
    rwa [hlen]at this
   have hm:c*11+(l.length-c)*11=l.length*11:=by rw[← Nat.add_mul];congr 1;omega
   rw[hcell,hcur _ (by omega),← hu,← O1k W0k.vlen,List.getElem?_drop]
  .have hk2:k<cur.size:=by rw[h4];omega
   rw[hcell,Array.getElem?_eq_getElem hk2]
   exact⟨rfl,frozen_of_row w b k cur ty h1⟩
  .obtain⟨he,hw⟩:=hw
   have m1:a*11+(l.length-c)*11=(a+(l.length-c))*11:=(Nat.add_mul ..).symm
   have m2:(a+(l.length-c))*11+(c-a)*11=l.length*11:=by rw[← Nat.add_mul];congr 1;omega
   obtain⟨F,hF,hw2⟩:=O1H h1 (a*11) ((a+(l.length-c))*11) ((l.drop c).flatMap jobV) zs (by rw[hlen,h4];omega) (by rw[hzl,h4];omega)
   have hFs:F.size=cap*11:=by rw[hF];simp[h4]
   rw[hw,hw2]
   obtain⟨cur',q1,q2,q3,q4,q5⟩:=U0J (F:=F) h1 (by omega) 1 #[]
   have hlr:(l.take a++l.drop c).length=a+(l.length-c):=by simp;omega
   refine⟨by rw[he,hlr];rfl,cur',q1,by rw[q2,h4],?_,by rw[hlr];omega,rfl,rfl,rfl,q4,q5⟩
   have hFl:F.toList.take ((a+(l.length-c))*11)=(l.take a++l.drop c).flatMap jobV:=by
    have hs1:((setMany cur (a*11) ((l.drop c).flatMap jobV)).toList.take ((a+(l.length-c))*11)).length=(a+(l.length-c))*11:=by
     have:(setMany cur (a*11) ((l.drop c).flatMap jobV)).toList.length=cap*11:=by simp[h4]
     rw[List.length_take,this];omega
    rw[hF,O09 _ _ _ (by simp only[size_setMany];rw[hzl,h4];omega),List.append_assoc,List.take_append,hs1,Nat.sub_self,List.take_zero,List.append_nil,List.take_take,Nat.min_self]
    have hc0:cur.toList.length=cap*11:=by simp[h4]
    have hc1:(cur.toList.take (a*11)).length=a*11:=by rw[List.length_take,hc0];omega
    rw[O09 _ _ _ (by rw[hlen,h4];omega),List.take_append,yU,hc1,hlen,← m1,Nat.sub_self,List.take_zero,List.append_nil,List.take_of_length_le (by rw[yU,hc1,hlen];omega),List.flatMap_append]
    congr 1
    rw[← W1k W0k.vlen l a,← h5,List.take_take,Nat.min_eq_left (by omega)]
   have:=congrArg (·.take ((a+(l.length-c))*11)) q3
   simp only[List.take_take]at this
   rw[Nat.min_eq_left (by omega)]at this
   rw[hlr,this,hFl]
 .cases h
end Go.Proofs.YtodafdoninblmaaGreat
namespace Go.Proofs.YtodafdoninblmaaGreat
open Go Go.RowKit Eng
def Z0E:L :=
sR [.bx 1 0,.al 2 [.nl,.nl,.nl,.nl,.nl],.mv 3 (cB false)]
 (sR [fA 9 1 0,lT 10 9 2,fA 11 1 2,lF 12 11 1,.bd 13 [.nl,.nl,.nl,.nl,.nl] [(0,2,10),(2,1,12)],.al 4 [.nl,.nl,.nl,.nl,.nl],.st 4 13 5]
 (.seq (sR [fA 14 1 0,lT 15 14 2,cQ 16 VK [15],.un 17 16,mV 18 17,gF 18 (fA 19 1 2),gF 18 (lF 20 19 1),gF 18 (.ln 21 20),gF 18 (fA 22 1 0),gF 18 (fA 23 22 1),gF 18 (lF 24 23 1),gF 18 (.ln 25 24),gF 18 (bI 26 .neq 21 25),.pk 27 18 (cB true) 26,mV 28 27,gF 28 (fA 29 1 3),gF 28 (lT 30 29 3),gF 28 (cQ 31 L4 [30]),gF 28 (.un 32 31),.pk 33 28 (cB true) 32]
 (.cond 33 (sR [.bd 34 [.nl,.nl,.nl,.nl,.nl] [],.st 2 34 5,.mv 3 (cB false)]
 gR)
 .skip))
 (.seq (sR [fA 35 1 0,fA 36 35 1,lF 37 36 1,.ln 38 37,.mv 39 (kI 0)]
 (.blk 0 (.loop (.gw (sR [bI 40 .lss 39 38]
 (.seq (.cond 40 .skip
 (.exit 0))
 (.seq (.blk 1 (sR [iA 41 37 39 4,lT 42 41 4,.al 6 [.int .i64 0,.int .i64 0,.int .i64 0,.int .i64 0],.st 6 42 4]
 (sR [fA 44 6 1,lT 45 44 3,cQ 46 JC [45],mV 43 46,eX 47 43 0,eX 48 43 1,.al 7 [.nl],.st 7 47 1,mV 8 48]
 (.reg [fA 49 4 3,lF 50 49 1,lT 51 7 1,.bs 52 1 [51] false,.ap 53 50 52 1 24,fA 54 4 3,.st 54 53 1]))))
 (.reg [.bi 55 .add 39 (kI 1),mV 39 55]))))))))
 (sR [fA 57 1 3,lT 58 57 3,cQ 59 JC [58],mV 56 59,eX 60 56 0,eX 61 56 1,fA 62 4 4,.st 62 60 1]
 (sR [lT 63 4 5,.cl 64 UX [63],.st 2 64 5,.mv 3 (cB true)]
 gR)))))
def Xx(x4:Node)(_:Nat)(v4:(List (List Pt)))(k4:(List (List Pt))->Option (Room×Bool)):Option (Room×Bool) :=
 (appL 24 v4 [(Q5 x4.cap).1]).bind fun xs5=>k4 xs5
def Yx(s1:State)(v4:(List (List Pt))):Option (Room×Bool) :=
 (Vr (Room.mk s1.topo s1.up v4 ((Q5 s1.lic).1))).bind fun y6=>some (y6,true)
def Yt(s1:State):Option (Room×Bool) :=
 (Oc s1.topo).bind fun b2=>bif (((!b2)||((s1.up.length:Int)!=(s1.topo.nodes.length:Int)))||(!(X0 s1.lic)))then(some ((Room.mk (Topo.mk [] []) [] [] []),false))else(rgl Xx (Yx s1) s1.topo.nodes 0 [])
theorem Q0B{s1:State}{r:Room×Bool}(H:Yt s1=some r):Snd Tryz.prog M0c [Y2 .rd s1] (.tup [.agg [nV 1 (r.1.topo.parents.map eI),nV 4 (r.1.topo.nodes.map Q1),.sref 0,nV 1 (r.1.profs.map (U1 .nw)),nV 4 (r.1.lics.map ePt)],.bool r.2]) [⟨1,r.1.up.map eBo,false⟩]:=by
 refine wS Z0E [.c 2 5 true,.t 3] ?_
 unfold Yt at H
 obtain⟨b2,h2,H⟩:=bB H
 refine wH [.c 16 (QV h2),.g 21 [((!b2),false)] (.ln _ _ fun _=>lm s1.up eBo),.g 25 [((!b2),false)] (.ln _ _ fun _=>lm s1.topo.nodes Q1),.g 31 [(((!b2)||((s1.up.length:Int)!=(s1.topo.nodes.length:Int))),false)] (.call _ _ _ _ _ (AEs.refl _) (fun _=>Z5 s1.lic))] ?_
 refine V0 H ?_ ?_<;>intro H
 .refine wP ?_
  replace H:=sI H;subst H
  exact wN [(2,.d),(3,.d)] [(2,[.n 1,.n 4,.d,.n 1,.n 4])] [] [] [none] [⟨_,nw_I ([]:List Int)⟩,⟨_,V3 ([]:List Node)⟩,⟨_,O6 ([]:List (List Pt))⟩,⟨_,Uf ([]:List Pt)⟩]
 .refine wG [.u 38 (.ln _ _ fun _=>lm s1.topo.nodes Q1)] fun q3=>?_
  refine Q0c (fun(i4:Nat) (v4:(List (List Pt)))=>⟨[(1,.ptr 1 0),(2,.ptr 2 0),(4,.ptr 4 0),(37,rV 4 (s1.topo.nodes.map Q1)),(38,iV (s1.topo.nodes.length:Int)),(39,iV (i4:Int))],[],[(1,(Y2 .rd s1).cells),(2,[.nl,.nl,.nl,.nl,.nl]),(4,[rV 1 (s1.topo.parents.map eI),rV 4 (s1.topo.nodes.map Q1),rV 1 (s1.up.map eBo),.sref 524000,.nl])],[(524000,⟨1,v4.map (U1 .nw),false⟩)]⟩) [] [(4,[.d,.d,.d,.z 524000,.d])] [(524000,(none,1))] [] (by kernel_rfl) (by kernel_rfl) H (fun i4 x4 v4 I m k4 hxv4 hiv4 H N24=>?_) (fun v4 I m H=>?_)
  .unfold Xx at H
   refine wP ?_
   refine wt (ltT hiv4) ?_
   obtain⟨xs5,h5,H⟩:=bB H
   refine wH [.u 41 (.ix _ _ _ fun _=>Y0 Q1 (W0 hxv4)),.c 46 (Q09 x4.cap),.u 53 (.ap _ _ _ _ fun _=>Q0 (U1 .nw) h5),.w 55 (wi .i64 rfl hiv4 q3.1)] ?_
   exact wT (N24 _ H)
  .unfold Yx at H
   refine wP ?_
   refine wf (ltF s1.topo.nodes.length) ?_
   obtain⟨y6,h6,H⟩:=bB H
   refine wH [.c 59 (Q09 s1.lic),.u 64 (.call _ _ _ _ _ (AEs.of (xs:=[.agg [rV 1 (s1.topo.parents.map eI),rV 4 (s1.topo.nodes.map Q1),rV 1 (s1.up.map eBo),rV 1 (v4.map (U1 .nw)),rV 4 (((Q5 s1.lic).1).map ePt)]]) (by simp)) (fun _=>W08 h6))] ?_
   replace H:=sI H;subst H
   exact wN [(2,.d),(3,.d)] [(2,[.d,.d,.d,.f,.d])] [(65000,some 65000,0)] [65001] [some 65000] [⟨_,nw_I y6.topo.parents⟩,⟨_,V3 y6.topo.nodes⟩,⟨_,O6 y6.profs⟩,⟨_,Uf y6.lics⟩,⟨_,Qf y6.up⟩]
def X0X:L :=
sR [.bx 1 0,.al 2 [.nl,.nl,.nl,.nl,.nl],.mv 3 (cB false)]
 (sR [lT 13 1 11,cQ 14 M0c [13],mV 12 14,eX 15 12 0,eX 16 12 1,.al 4 [.nl,.nl,.nl,.nl,.nl],.st 4 15 5,mV 5 16]
 (.seq (sR [mV 17 5,.un 18 17,mV 19 18,gF 19 (fA 20 1 7),gF 19 (lF 21 20 1),gF 19 (cQ 22 L5 [21]),gF 19 (.un 23 22),.pk 24 19 (cB true) 23]
 (.cond 24 (sR [.bd 25 [.nl,.nl,.nl,.nl,.nl] [],.st 2 25 5,.mv 3 (cB false)]
 gR)
 .skip))
 (.seq (sR [fA 26 1 9,lF 27 26 1,.ln 28 27,.mv 29 (kI 0)]
 (.blk 0 (.loop (.gw (sR [bI 30 .lss 29 28]
 (.seq (.cond 30 .skip
 (.exit 0))
 (.seq (.blk 1 (sR [iA 31 27 29 13,lT 32 31 13,.al 7 [.int .i64 0,.int .i64 0,.int .i64 0,.int .i64 0,.int .i64 0,.int .i64 0,.int .i64 0,.int .i64 0,.int .i64 0,.int .i64 0,.int .i64 0,.int .i64 0,.nl],.st 7 32 13]
 (sR [fA 33 7 11,lF 34 33 1,fA 35 7 0,fA 36 35 9,lF 37 36 1,bI 38 .add 34 37,mV 8 38]
 (.seq (sR [lT 39 4 5,fA 40 7 0,lT 41 40 11,fA 42 7 12,lF 43 42 1,cQ 44 VX [39,41,43],.un 45 44,mV 46 45,gF 46 (fA 47 7 11),gF 46 (lF 48 47 1),gF 46 (cQ 49 L5 [48]),gF 46 (.un 50 49),.pk 51 46 (cB true) 50,mV 52 51,gF 52 (fA 53 7 11),gF 52 (lF 54 53 1),gF 52 (fA 55 1 7),gF 52 (lF 56 55 1),gF 52 (bI 57 .gtr 54 56),.pk 58 52 (cB true) 57,mV 59 58,gF 59 (mV 60 8),gF 59 (fA 61 1 7),gF 59 (lF 62 61 1),gF 59 (bI 63 .leq 60 62),.pk 64 59 (cB true) 63,mV 65 64,gF 65 (mV 66 8),gF 65 (.bi 67 .gtr 66 (kI 1000000000)),.pk 68 65 (cB true) 67]
 (.cond 68 (sR [.bd 69 [.nl,.nl,.nl,.nl,.nl] [],.st 2 69 5,.mv 3 (cB false)]
 gR)
 .skip))
 (sR [fA 70 7 0,lT 71 70 11,.al 9 [.int .i64 0,.int .i64 0,.int .i64 0,.int .i64 0,.int .i64 0,.int .i64 0,.int .i64 0,.int .i64 0,.int .i64 0,.int .i64 0,.int .i64 0],.st 9 71 11]
 (sR [mV 72 8,fA 73 1 7,lF 74 73 1,bI 75 .sub 72 74,fA 76 9 9,.st 76 75 1]
 (sR [lT 78 4 5,lT 79 9 11,fA 80 1 7,lF 81 80 1,fA 82 7 12,lF 83 82 1,cQ 84 WX [78,79,81,83],mV 77 84,eX 85 77 0,eX 86 77 1,.al 10 [.nl,.nl,.nl,.nl,.nl],.st 10 85 5,mV 11 86]
 (.seq (sR [mV 87 11,.un 88 87]
 (.cond 88 (sR [.bd 89 [.nl,.nl,.nl,.nl,.nl] [],.st 2 89 5,.mv 3 (cB false)]
 gR)
 .skip))
 (.reg [lT 90 10 5,.st 4 90 5])))))))))
 (.reg [.bi 91 .add 29 (kI 1),mV 29 91]))))))))
 (sR [lT 92 4 5,.st 2 92 5,.mv 3 (cB true)]
 gR))))
def Ot(s1:State)(x4:Run)(_:Nat)(v4:Room)(k4:Room->Option (Room×Bool)):Option (Room×Bool) :=
 (Xr v4 x4.job x4.nodes).bind fun b5=>bif (((((!b5)||(!(Q2 x4.t)))||(decide (s1.now<x4.t)))||(decide ((w64 (x4.t+x4.job.wall))<=s1.now)))||(decide (1000000000<(w64 (x4.t+x4.job.wall)))))then(some ((Room.mk (Topo.mk [] []) [] [] []),false))else((Le v4 (Job.mk x4.job.id x4.job.prio x4.job.nodes x4.job.need x4.job.lic (w64 ((w64 (x4.t+x4.job.wall))-s1.now)) x4.job.level) s1.now x4.nodes).bind fun y6=>bif (!y6.2)then(some ((Room.mk (Topo.mk [] []) [] [] []),false))else(k4 y6.1))
def Y09(v4:Room):Option (Room×Bool) :=
 some (v4,true)
def Mc(s1:State):Option (Room×Bool) :=
 (Yt s1).bind fun y2=>bif ((!y2.2)||(!(Q2 s1.now)))then(some ((Room.mk (Topo.mk [] []) [] [] []),false))else(rgl (Ot s1) Y09 s1.runs 0 y2.1)
theorem L0g{s1:State}{r:Room×Bool}(H:Mc s1=some r):Snd Tryz.prog Y04 [Y2 .rd s1] (.tup [Z8 .nw r.1,.bool r.2]) []:=by
 refine wS X0X [.c 2 5 true,.t 3] ?_
 unfold Mc at H
 obtain⟨y2,h2,H⟩:=bB H
 refine wH [.c 14 (Q0B h2),.g 22 [((!y2.2),false)] (.call _ _ _ _ _ (AEs.refl _) (fun _=>W6 s1.now))] ?_
 refine V0 H ?_ ?_<;>intro H
 .refine wP ?_
  replace H:=sI H;subst H
  exact wN [(2,.d),(3,.d)] [(2,[.n 1,.n 4,.n 1,.n 1,.n 4])] [] [] [] [⟨_,nw_I ([]:List Int)⟩,⟨_,V3 ([]:List Node)⟩,⟨_,Qf ([]:List Bool)⟩,⟨_,O6 ([]:List (List Pt))⟩,⟨_,Uf ([]:List Pt)⟩]
 .refine wG [.u 28 (.ln _ _ fun _=>lm s1.runs (J0 .rd))] fun q3=>?_
  refine wR (fun(i4:Nat) (v4:Room)=>⟨[(1,.ptr 1 0),(2,.ptr 2 0),(4,.ptr 4 0),(27,rV 13 (s1.runs.map (J0 .rd))),(28,iV (s1.runs.length:Int)),(29,iV (i4:Int))],[],[(1,(Y2 .rd s1).cells),(2,[.nl,.nl,.nl,.nl,.nl]),(4,(Z8 .nw v4).cells)],[]⟩) H (fun i4 x4 v4 I m k4 hxv4 hiv4 H N46=>?_) (fun v4 I m H=>?_)
  .unfold Ot at H
   refine wP ?_
   refine wt (ltT hiv4) ?_
   obtain⟨b5,h5,H⟩:=bB H
   refine wH [.u 31 (.ix _ _ _ fun _=>Y0 (J0 .rd) (W0 hxv4)),.u 44 (.call _ _ _ _ _ (AEs.of (xs:=[.agg [rV 1 (v4.topo.parents.map eI),rV 4 (v4.topo.nodes.map Q1),rV 1 (v4.up.map eBo),rV 1 (v4.profs.map (U1 .nw)),rV 4 (v4.lics.map ePt)],.agg [iV x4.job.id,iV x4.job.prio,iV x4.job.nodes,iV x4.job.need.a,iV x4.job.need.b,iV x4.job.need.c,iV x4.job.lic.a,iV x4.job.lic.b,iV x4.job.lic.c,iV x4.job.wall,iV x4.job.level],rV 1 (x4.nodes.map eI)]) (by simp)) (fun _=>U08 h5)),.g 49 [((!b5),false)] (.call _ _ _ _ _ (AEs.refl _) (fun _=>W6 x4.t))] ?_
   refine V0 H ?_ ?_<;>intro H
   .refine wP ?_
    replace H:=sI H;subst H
    exact wN [(2,.d),(3,.d)] [(2,[.n 1,.n 4,.n 1,.n 1,.n 4])] [] [] [] [⟨_,nw_I ([]:List Int)⟩,⟨_,V3 ([]:List Node)⟩,⟨_,Qf ([]:List Bool)⟩,⟨_,O6 ([]:List (List Pt))⟩,⟨_,Uf ([]:List Pt)⟩]
   .obtain⟨y6,h6,H⟩:=bB H
    refine wH [.u 84 (.call _ _ _ _ _ (AEs.of (xs:=[.agg [rV 1 (v4.topo.parents.map eI),rV 4 (v4.topo.nodes.map Q1),rV 1 (v4.up.map eBo),rV 1 (v4.profs.map (U1 .nw)),rV 4 (v4.lics.map ePt)],.agg [iV x4.job.id,iV x4.job.prio,iV x4.job.nodes,iV x4.job.need.a,iV x4.job.need.b,iV x4.job.need.c,iV x4.job.lic.a,iV x4.job.lic.b,iV x4.job.lic.c,iV (w64 ((w64 (x4.t+x4.job.wall))-s1.now)),iV x4.job.level],iV s1.now,rV 1 (x4.nodes.map eI)]) (by simp)) (fun _=>X09 h6))] ?_
    refine V0 H ?_ ?_<;>intro H
    .refine wP ?_
     replace H:=sI H;subst H
     exact wN [(2,.d),(3,.d)] [(2,[.n 1,.n 4,.n 1,.n 1,.n 4])] [] [] [] [⟨_,nw_I ([]:List Int)⟩,⟨_,V3 ([]:List Node)⟩,⟨_,Qf ([]:List Bool)⟩,⟨_,O6 ([]:List (List Pt))⟩,⟨_,Uf ([]:List Pt)⟩]
    .refine wH [.w 91 (wi .i64 rfl hiv4 q3.1)] ?_
     exact wT (N46 _ H)
  .unfold Y09 at H
   refine wP ?_
   refine wf (ltF s1.runs.length) ?_
   refine wP ?_
   replace H:=sI H;subst H
   exact wN [(2,.d),(3,.d)] [(2,[])] [] [] [] [⟨_,nw_I v4.topo.parents⟩,⟨_,V3 v4.topo.nodes⟩,⟨_,Qf v4.up⟩,⟨_,O6 v4.profs⟩,⟨_,Uf v4.lics⟩]
def M0M:L :=
sR [.bx 1 0,.mv 2 (.c (.nl))]
 (sR [.bs 6 11 [] true,fA 7 1 8,lF 8 7 1,.ap 9 6 8 11 88,mV 3 9]
 (.seq (sR [fA 10 1 9,lF 11 10 1,.ln 12 11,.mv 13 (kI 0)]
 (.blk 0 (.loop (.gw (sR [bI 14 .lss 13 12]
 (.seq (.cond 14 .skip
 (.exit 0))
 (.seq (.blk 1 (sR [iA 15 11 13 13,lT 16 15 13,.al 5 [.int .i64 0,.int .i64 0,.int .i64 0,.int .i64 0,.int .i64 0,.int .i64 0,.int .i64 0,.int .i64 0,.int .i64 0,.int .i64 0,.int .i64 0,.int .i64 0,.nl],.st 5 16 13]
 (.reg [mV 17 3,fA 18 5 0,lT 19 18 11,.bs 20 11 [19] false,.ap 21 17 20 11 88,mV 3 21])))
 (.reg [.bi 22 .add 13 (kI 1),mV 13 22]))))))))
 (sR [mV 23 3,mV 2 23]
 gR)))
def JE(x4:Run)(_:Nat)(v4:(List Job))(k4:(List Job)->Option (List Job)):Option (List Job) :=
 (appL 88 v4 [x4.job]).bind fun xs5=>k4 xs5
def LE(v4:(List Job)):Option (List Job) :=
 some v4
def Lq(s1:State):Option (List Job) :=
 (appL 88 ([]:List Job) s1.queue).bind fun xs2=>rgl JE LE s1.runs 0 xs2
theorem V0I{s1:State}{r:(List Job)}(H:Lq s1=some r):Snd Tryz.prog Q0i [Y2 .rd s1] (nV 11 (r.map eJob)) []:=by
 refine wS M0M [.t 2] ?_
 unfold Lq at H
 obtain⟨xs2,h2,H⟩:=bB H
 refine wG [.u 9 (.ap _ _ _ _ fun _=>Q0 eJob h2),.u 12 (.ln _ _ fun _=>lm s1.runs (J0 .rd))] fun q3=>?_
 refine wR (fun(i4:Nat) (v4:(List Job))=>⟨[(3,.sref 6),(11,rV 13 (s1.runs.map (J0 .rd))),(12,iV (s1.runs.length:Int)),(13,iV (i4:Int))],[],[],[(6,⟨11,v4.map eJob,false⟩)]⟩) H (fun i4 x4 v4 I m k4 hxv4 hiv4 H N15=>?_) (fun v4 I m H=>?_)
 .unfold JE at H
  refine wP ?_
  refine wt (ltT hiv4) ?_
  obtain⟨xs5,h5,H⟩:=bB H
  refine wH [.u 15 (.ix _ _ _ fun _=>Y0 (J0 .rd) (W0 hxv4)),.u 21 (.ap _ _ _ _ fun _=>Q0 eJob h5),.w 22 (wi .i64 rfl hiv4 q3.1)] ?_
  exact wT (N15 _ H)
 .unfold LE at H
  refine wP ?_
  refine wf (ltF s1.runs.length) ?_
  refine wP ?_
  replace H:=sI H;subst H
  exact wN [(2,.f)] [] [] [6] [] [⟨_,Wi v4⟩]
def M0N:L :=
sR [.bx 1 0,.mv 2 (cB false)]
 (sR [lT 12 1 11,cQ 13 Y04 [12],mV 11 13,eX 14 11 0,eX 15 11 1,.al 3 [.nl,.nl,.nl,.nl,.nl],.st 3 14 5,mV 4 15]
 (.seq (sR [mV 16 4,.un 17 16,mV 18 17,gF 18 (fA 19 1 6),gF 18 (lF 20 19 1),gF 18 (.bi 21 .lss 20 (kI 0)),.pk 22 18 (cB true) 21,mV 23 22,gF 23 (fA 24 1 6),gF 23 (lF 25 24 1),gF 23 (.bi 26 .gtr 25 (kI 60)),.pk 27 23 (cB true) 26,mV 28 27,gF 28 (lT 29 1 11),gF 28 (cQ 30 Q0i [29]),gF 28 (cQ 31 LC [30]),gF 28 (.un 32 31),.pk 33 28 (cB true) 32,mV 34 33,gF 34 (fA 35 1 10),gF 34 (lF 36 35 1),gF 34 (.ln 37 36),gF 34 (.bi 38 .gtr 37 (kI 300)),.pk 39 34 (cB true) 38]
 (.cond 39 (.seq (rE 2 (cB false))
 gR)
 .skip))
 (.seq (sR [fA 40 1 9,lF 41 40 1,.ln 42 41,.mv 43 (kI 0)]
 (.blk 0 (.loop (.gw (sR [bI 44 .lss 43 42]
 (.seq (.cond 44 .skip
 (.exit 0))
 (.seq (.blk 1 (sR [iA 45 41 43 13,lT 46 45 13,.al 6 [.int .i64 0,.int .i64 0,.int .i64 0,.int .i64 0,.int .i64 0,.int .i64 0,.int .i64 0,.int .i64 0,.int .i64 0,.int .i64 0,.int .i64 0,.int .i64 0,.nl],.st 6 46 13]
 (.seq (sR [fA 47 6 12,lF 48 47 1,.ln 49 48,.mv 50 (kI 0)]
 (.blk 2 (.loop (.gw (sR [bI 51 .lss 50 49]
 (.seq (.cond 51 .skip
 (.exit 2))
 (.seq (.blk 3 (sR [mV 52 50,iA 53 48 50 1,lF 54 53 1,mV 7 52,mV 8 54]
 (sR [fA 55 1 2,lF 56 55 1,mV 57 8,iA 58 56 57 1,lF 59 58 1,.un 60 59,mV 61 60,gF 61 (mV 62 7),gF 61 (.bi 63 .gtr 62 (kI 0)),gF 61 (mV 64 63),gT 64 (fA 65 6 12),gT 64 (lF 66 65 1),gT 64 (mV 67 7),gT 64 (.bi 68 .sub 67 (kI 1)),gT 64 (iA 69 66 68 1),gT 64 (lF 70 69 1),gT 64 (mV 71 8),gT 64 (bI 72 .geq 70 71),gF 61 (.pk 73 64 72 (cB false)),.pk 74 61 (cB true) 73]
 (.cond 74 (.seq (rE 2 (cB false))
 gR)
 .skip))))
 (.reg [.bi 75 .add 50 (kI 1),mV 50 75]))))))))
 (.seq (.rq 12 [fA 76 1 0,lT 77 76 2,fA 78 1 0,lT 79 78 2,fA 80 6 12,lF 81 80 1,cQ 82 W0r [79,81],cQ 83 M5 [77,82],fA 84 6 0,fA 85 84 10,lF 86 85 1,bI 87 .gtr 83 86])
 (.cond 87 (.seq (rE 2 (cB false))
 gR)
 .skip)))))
 (.reg [.bi 88 .add 43 (kI 1),mV 43 88]))))))))
 (.seq (sR [fA 89 1 10,lF 90 89 1,.ln 91 90,.mv 92 (kI 0)]
 (.blk 4 (.loop (.gw (sR [bI 93 .lss 92 91]
 (.seq (.cond 93 .skip
 (.exit 4))
 (.seq (.blk 5 (sR [iA 94 90 92 3,lT 95 94 3,.al 10 [.int .i64 0,.int .i64 0,.int .i64 0],.st 10 95 3]
 (sR [fA 96 10 0,lF 97 96 1,.bi 98 .lss 97 (kI 1),mV 99 98,gF 99 (fA 100 10 0),gF 99 (lF 101 100 1),gF 99 (.bi 102 .gtr 101 (kI 999)),.pk 103 99 (cB true) 102,mV 104 103,gF 104 (fA 105 10 1),gF 104 (lF 106 105 1),gF 104 (.bi 107 .lss 106 (kI 0)),.pk 108 104 (cB true) 107,mV 109 108,gF 109 (fA 110 10 1),gF 109 (lF 111 110 1),gF 109 (fA 112 1 7),gF 109 (lF 113 112 1),gF 109 (bI 114 .gtr 111 113),.pk 115 109 (cB true) 114,mV 116 115,gF 116 (fA 117 10 2),gF 116 (lF 118 117 1),gF 116 (.bi 119 .lss 118 (kI 1)),.pk 120 116 (cB true) 119,mV 121 120,gF 121 (fA 122 10 2),gF 121 (lF 123 122 1),gF 121 (.bi 124 .gtr 123 (kI 4)),.pk 125 121 (cB true) 124]
 (.cond 125 (.seq (rE 2 (cB false))
 gR)
 .skip))))
 (.reg [.bi 126 .add 92 (kI 1),mV 92 126]))))))))
 (.seq (rE 2 (cB true))
 gR)))))
def Oo(s1:State)(x6:Run)(x8:Int)(i8:Nat)(_:Unit)(k8:Unit->Option Bool):Option Bool :=
 (idx s1.up x8).bind fun e9=>(bif (!e9)then some default else(bif (decide (0<(i8:Int)))then(idx x6.nodes (w64 ((i8:Int)-1)))else some default)).bind fun e10=>bif ((!e9)||((decide (0<(i8:Int)))&&(decide (x8<=e10))))then(some false)else(k8 ())
def M8(s1:State)(x6:Run)(k6:Unit->Option Bool)(_:Unit):Option Bool :=
 (Zq s1.topo x6.nodes).bind fun n11=>(O7 s1.topo n11).bind fun n12=>bif (decide (x6.job.level<n12))then(some false)else(k6 ())
def Qo(s1:State)(x14:End)(_:Nat)(_:Unit)(k14:Unit->Option Bool):Option Bool :=
 bif ((((((decide (x14.id<1))||(decide (999<x14.id)))||(decide (x14.t<0)))||(decide (s1.now<x14.t)))||(decide (x14.why<1)))||(decide (4<x14.why)))then(some false)else(k14 ())
def QF(_:Unit):Option Bool :=
 some true
def Wo(s1:State)(x6:Run)(_:Nat)(_:Unit)(k6:Unit->Option Bool):Option Bool :=
 rgl (Oo s1 x6) (M8 s1 x6 k6) x6.nodes 0 ()
def WF(s1:State)(_:Unit):Option Bool :=
 rgl (Qo s1) QF s1.ends 0 ()
def Qr(s1:State):Option Bool :=
 (Mc s1).bind fun y2=>(bif (((!y2.2)||(decide (s1.depth<0)))||(decide (60<s1.depth)))then some default else(Lq s1)).bind fun y3=>(bif (((!y2.2)||(decide (s1.depth<0)))||(decide (60<s1.depth)))then some default else(Zi y3)).bind fun b4=>bif (((((!y2.2)||(decide (s1.depth<0)))||(decide (60<s1.depth)))||(!b4))||(decide (300<(s1.ends.length:Int))))then(some false)else(rgl (Wo s1) (WF s1) s1.runs 0 ())
theorem J08{s1:State}{r:Bool}(H:Qr s1=some r):Snd Tryz.prog QX [Y2 .rd s1] (.bool r) []:=by
 refine wS M0N [.t 2] ?_
 unfold Qr at H
 obtain⟨y2,h2,H⟩:=bB H
 obtain⟨y3,h3,H⟩:=bB H
 obtain⟨b4,h4,H⟩:=bB H
 refine wH [.c 13 (L0g h2),.g 30 [(_,false)] (.call _ _ _ _ _ (AEs.refl _) (fun q=>V0I (bF q.1 h3))),.g 31 [(_,false)] (.call _ _ _ _ _ (AEs.refl _) (fun q=>QM (bF q.1 h4))),.g 37 [(((((!y2.2)||(decide (s1.depth<0)))||(decide (60<s1.depth)))||(!b4)),false)] (.ln _ _ fun _=>lm s1.ends eEnd)] ?_
 refine V0 H ?_ ?_<;>intro H
 .obtain rfl:=sI H
  exact wP (wE [(2,.d)])
 .refine wG [.u 42 (.ln _ _ fun _=>lm s1.runs (J0 .rd))] fun q5=>?_
  refine wR (fun(i6:Nat) (v6:Unit)=>⟨[(1,.ptr 1 0),(41,rV 13 (s1.runs.map (J0 .rd))),(42,iV (s1.runs.length:Int)),(43,iV (i6:Int))],[],[(1,(Y2 .rd s1).cells)],[]⟩) H (fun i6 x6 v6 I m k6 hxv6 hiv6 H N51=>?_) (fun v6 I m H=>?_)
  .unfold Wo at H
   refine wP ?_
   refine wt (ltT hiv6) ?_
   refine wG [.u 45 (.ix _ _ _ fun _=>Y0 (J0 .rd) (W0 hxv6)),.u 49 (.ln _ _ fun _=>lm x6.nodes eI)] fun q7=>?_
   refine wR (fun(i8:Nat) (v8:Unit)=>⟨[(1,.ptr 1 0),(6,.ptr 6 0),(41,rV 13 (s1.runs.map (J0 .rd))),(42,iV (s1.runs.length:Int)),(43,iV (i6:Int)),(48,rV 1 (x6.nodes.map eI)),(49,iV (x6.nodes.length:Int)),(50,iV (i8:Int))],[],[(1,(Y2 .rd s1).cells),(6,(J0 .rd x6).cells)],[]⟩) H (fun i8 x8 v8 I m k8 hxv8 hiv8 H N34=>?_) (fun v8 I m H=>?_)
   .unfold Oo at H
    refine wP ?_
    refine wt (ltT hiv8) ?_
    obtain⟨e9,h9,H⟩:=bB H
    obtain⟨e10,h10,H⟩:=bB H
    refine wH [.u 53 (.ix _ _ _ fun _=>Y0 eI (W0 hxv8)),.u 58 (.ix _ _ _ fun _=>Y0 eBo h9),.g 69 [(_,true),(_,false)] (.ix _ _ _ fun q=>Y0 eI (bT q.1 (bF q.2.1 h10)))] ?_
    refine V0 H ?_ ?_<;>intro H
    .obtain rfl:=sI H
     exact wP (wE [(2,.d)])
    .refine wH [.w 75 (wi .i64 rfl hiv8 q7.1)] ?_
     exact wT (N34 () H)
   .unfold M8 at H
    refine wP ?_
    refine wf (ltF x6.nodes.length) ?_
    obtain⟨n11,h11,H⟩:=bB H
    obtain⟨n12,h12,H⟩:=bB H
    refine wH [.c 82 (Q0T h11),.c 83 (O8 h12)] ?_
    refine V0 H ?_ ?_<;>intro H
    .obtain rfl:=sI H
     exact wP (wE [(2,.d)])
    .refine wH [.w 88 (wi .i64 rfl hiv6 q5.1)] ?_
     exact wT (N51 () H)
  .unfold WF at H
   refine wP ?_
   refine wf (ltF s1.runs.length) ?_
   refine wG [.u 91 (.ln _ _ fun _=>lm s1.ends eEnd)] fun q13=>?_
   refine wR (fun(i14:Nat) (v14:Unit)=>⟨[(1,.ptr 1 0),(90,rV 3 (s1.ends.map eEnd)),(91,iV (s1.ends.length:Int)),(92,iV (i14:Int))],[],[(1,(Y2 .rd s1).cells)],[]⟩) H (fun i14 x14 v14 I m k14 hxv14 hiv14 H N73=>?_) (fun v14 I m H=>?_)
   .unfold Qo at H
    refine wP ?_
    refine wt (ltT hiv14) ?_
    refine wH [.u 94 (.ix _ _ _ fun _=>Y0 eEnd (W0 hxv14))] ?_
    refine V0 H ?_ ?_<;>intro H
    .obtain rfl:=sI H
     exact wP (wE [(2,.d)])
    .refine wH [.w 126 (wi .i64 rfl hiv14 q13.1)] ?_
     exact wT (N73 () H)
   .unfold QF at H
    refine wP ?_
    refine wf (ltF s1.ends.length) ?_
    obtain rfl:=sI H
    exact wP (wE [(2,.d)])
def L0M:L :=
sR [.bx 1 0,.al 2 [.nl,.nl,.nl,.int .i64 0,.int .i64 0,.int .i64 0,.int .i64 0,.int .i64 0,.nl,.nl,.nl]]
 (.seq (.rq 12 [.be 6,fA 7 1 0,fA 8 7 0,lF 9 8 1,.ae 10 6 9 1 8,.be 11,fA 12 1 0,fA 13 12 1,lF 14 13 1,.ae 15 11 14 4 32,.bd 16 [.nl,.nl] [(0,1,10),(1,1,15)],fA 17 1 0,.st 17 16 2])
 (sR [.bs 18 1 [] true,fA 19 1 2,lF 20 19 1,.ap 21 18 20 1 1,fA 22 1 2,.st 22 21 1]
 (sR [.bs 23 11 [] true,fA 24 1 8,lF 25 24 1,.ap 26 23 25 11 88,fA 27 1 8,.st 27 26 1]
 (sR [.bs 28 13 [] true,mV 3 28]
 (.seq (sR [fA 29 1 9,lF 30 29 1,.ln 31 30,.mv 32 (kI 0)]
 (.blk 0 (.loop (.gw (sR [bI 33 .lss 32 31]
 (.seq (.cond 33 .skip
 (.exit 0))
 (.seq (.blk 1 (sR [iA 34 30 32 13,lT 35 34 13,.al 5 [.int .i64 0,.int .i64 0,.int .i64 0,.int .i64 0,.int .i64 0,.int .i64 0,.int .i64 0,.int .i64 0,.int .i64 0,.int .i64 0,.int .i64 0,.int .i64 0,.nl],.st 5 35 13]
 (sR [.bs 36 1 [] true,fA 37 5 12,lF 38 37 1,.ap 39 36 38 1 8,fA 40 5 12,.st 40 39 1]
 (.gw (.reg [mV 41 3,lT 42 5 13,.bs 43 13 [42] false,.ap 44 41 43 13 120,mV 3 44])))))
 (.reg [.bi 45 .add 32 (kI 1),mV 32 45]))))))))
 (sR [mV 46 3,fA 47 1 9,.st 47 46 1]
 (sR [.bs 48 3 [] true,fA 49 1 10,lF 50 49 1,.ap 51 48 50 3 24,fA 52 1 10,.st 52 51 1]
 (sR [lT 53 1 11,.st 2 53 11]
 gR))))))))
def Jn(x7:Run)(_:Nat)(v7:(List Run))(k7:(List Run)->Option State):Option State :=
 (appL 8 ([]:List Int) x7.nodes).bind fun xs8=>(appL 120 v7 [(Run.mk x7.job x7.t xs8)]).bind fun xs9=>k7 xs9
def ZF(s1:State)(xs2:List Int)(xs3:List Node)(xs4:List Bool)(xs5:List Job)(v7:(List Run)):Option State :=
 (appL 24 ([]:List End) s1.ends).bind fun xs10=>some (State.mk (Topo.mk xs2 xs3) xs4 s1.lic s1.depth s1.now xs5 v7 xs10)
def Jq(s1:State):Option State :=
 (appL 8 ([]:List Int) s1.topo.parents).bind fun xs2=>(appL 32 ([]:List Node) s1.topo.nodes).bind fun xs3=>(appL 1 ([]:List Bool) s1.up).bind fun xs4=>(appL 88 ([]:List Job) s1.queue).bind fun xs5=>rgl Jn (ZF s1 xs2 xs3 xs4 xs5) s1.runs 0 []
theorem Y08{s1 r:State}(H:Jq s1=some r):Snd Tryz.prog ZX [Y2 .rd s1] (.agg [nV 1 (r.topo.parents.map eI),nV 4 (r.topo.nodes.map Q1),nV 1 (r.up.map eBo),iV r.lic.a,iV r.lic.b,iV r.lic.c,iV r.depth,iV r.now,.sref 0,.sref 1,.sref 2]) [⟨11,r.queue.map eJob,false⟩,⟨13,r.runs.map (J0 .nw),false⟩,⟨3,r.ends.map eEnd,false⟩]:=by
 refine wS L0M [.c 2 11 true] ?_
 unfold Jq at H
 obtain⟨xs2,h2,H⟩:=bB H
 obtain⟨xs3,h3,H⟩:=bB H
 obtain⟨xs4,h4,H⟩:=bB H
 obtain⟨xs5,h5,H⟩:=bB H
 refine wG [.u 10 (.ap _ _ _ _ fun _=>Q0 eI h2),.u 15 (.ap _ _ _ _ fun _=>Q0 Q1 h3),.u 21 (.ap _ _ _ _ fun _=>Q0 eBo h4),.u 26 (.ap _ _ _ _ fun _=>Q0 eJob h5),.u 31 (.ln _ _ fun _=>lm s1.runs (J0 .rd))] fun q6=>?_
 refine wR (fun(i7:Nat) (v7:(List Run))=>⟨[(1,.ptr 1 0),(2,.ptr 2 0),(3,.sref 28),(30,rV 13 (s1.runs.map (J0 .rd))),(31,iV (s1.runs.length:Int)),(32,iV (i7:Int))],[],[(1,[nV 1 (xs2.map eI),nV 4 (xs3.map Q1),.sref 18,iV s1.lic.a,iV s1.lic.b,iV s1.lic.c,iV s1.depth,iV s1.now,.sref 23,rV 13 (s1.runs.map (J0 .rd)),rV 3 (s1.ends.map eEnd)]),(2,[.nl,.nl,.nl,iV 0,iV 0,iV 0,iV 0,iV 0,.nl,.nl,.nl])],[(18,⟨1,xs4.map eBo,false⟩),(23,⟨11,xs5.map eJob,false⟩),(28,⟨13,v7.map (J0 .nw),false⟩)]⟩) H (fun i7 x7 v7 I m k7 hxv7 hiv7 H N20=>?_) (fun v7 I m H=>?_)
 .unfold Jn at H
  refine wP ?_
  refine wt (ltT hiv7) ?_
  obtain⟨xs8,h8,H⟩:=bB H
  refine wH [.u 34 (.ix _ _ _ fun _=>Y0 (J0 .rd) (W0 hxv7)),.u 39 (.ap _ _ _ _ fun _=>Q0 eI h8)] ?_
  refine Q25 [(39,.f)] [(5,[.d,.d,.d,.d,.d,.d,.d,.d,.d,.d,.d,.d,.f])] [36] (by kernel_rfl) ?_
  obtain⟨xs9,h9,H⟩:=bB H
  refine wH [.u 44 (.ap _ _ _ _ fun _=>Q0 (J0 .nw) h9),.w 45 (wi .i64 rfl hiv7 q6.1)] ?_
  exact wT (N20 _ H)
 .unfold ZF at H
  refine wP ?_
  refine wf (ltF s1.runs.length) ?_
  obtain⟨xs10,h10,H⟩:=bB H
  refine wH [.u 51 (.ap _ _ _ _ fun _=>Q0 eEnd h10)] ?_
  replace H:=sI H;subst H
  exact wN [(2,.d)] [(2,[.d,.d,.f,.d,.d,.d,.d,.d,.d,.d,.d])] [(23,some 23,0),(28,some 28,0),(48,some 48,0)] [18] [some 23,some 28,some 48] [⟨_,nw_I xs2⟩,⟨_,V3 xs3⟩,⟨_,Qf xs4⟩,⟨_,Wi xs5⟩,⟨_,Qi v7⟩,⟨_,WD xs10⟩]
def W0o:L :=
sR [.bx 4 0,.mv 8 (.c (.nl)),.mv 9 (.c (.nl)),.mv 10 (cB false)]
 (.seq (sR [lT 20 4 5,cQ 21 Ww [20],.un 22 21,mV 23 22,gF 23 (mV 24 2),gF 23 (cQ 25 LC [24]),gF 23 (.un 26 25),.pk 27 23 (cB true) 26,mV 28 27,gF 28 (mV 29 1),gF 28 (cQ 30 L5 [29]),gF 28 (.un 31 30),.pk 32 28 (cB true) 31,mV 33 32,gF 33 (mV 34 3),gF 33 (.bi 35 .lss 34 (kI 0)),.pk 36 33 (cB true) 35,mV 37 36,gF 37 (mV 38 3),gF 37 (.bi 39 .gtr 38 (kI 60)),.pk 40 37 (cB true) 39]
 (.cond 40 (sR [.mv 8 (.c (.nl)),.mv 9 (.c (.nl)),.mv 10 (cB false)]
 gR)
 .skip))
 (sR [.bs 41 3 [] true,mV 11 41]
 (sR [.bs 42 3 [] true,mV 12 42]
 (.seq (sR [mV 43 2,cQ 44 O0A [43],.ln 45 44,.mv 46 (kI 0)]
 (.blk 0 (.loop (.gw (sR [bI 47 .lss 46 45]
 (.seq (.cond 47 .skip
 (.exit 0))
 (.seq (.blk 1 (sR [iA 48 44 46 11,lT 49 48 11,.al 14 [.int .i64 0,.int .i64 0,.int .i64 0,.int .i64 0,.int .i64 0,.int .i64 0,.int .i64 0,.int .i64 0,.int .i64 0,.int .i64 0,.int .i64 0],.st 14 49 11]
 (sR [lT 51 4 5,lT 52 14 11,mV 53 1,cQ 54 V0d [51,52,53],mV 50 54,eX 55 50 0,eX 56 50 1,eX 57 50 2,mV 15 55,mV 16 56,mV 17 57]
 (.seq (sR [mV 58 17,.un 59 58,mV 60 59,gF 60 (mV 61 15),gF 60 (mV 62 1),gF 60 (bI 63 .gtr 61 62),gF 60 (mV 64 63),gT 64 (mV 65 12),gT 64 (.ln 66 65),gT 64 (mV 67 3),gT 64 (bI 68 .geq 66 67),gF 60 (.pk 69 64 68 (cB false)),.pk 70 60 (cB true) 69]
 (.cond 70 (.exit 1)
 .skip))
 (sR [lT 72 4 5,lT 73 14 11,mV 74 15,mV 75 16,cQ 76 WX [72,73,74,75],mV 71 76,eX 77 71 0,eX 78 71 1,.al 18 [.nl,.nl,.nl,.nl,.nl],.st 18 77 5,mV 19 78]
 (.seq (sR [mV 79 19,.un 80 79]
 (.cond 80 (.exit 1)
 .skip))
 (sR [lT 81 18 5,.st 4 81 5]
 (sR [mV 82 15,mV 83 1,bI 84 .eql 82 83]
 (.cond 84 (.reg [mV 85 11,fA 86 14 0,lF 87 86 1,mV 88 15,mV 89 16,.bd 90 [.int .i64 0,.int .i64 0,.nl] [(0,1,87),(1,1,88),(2,1,89)],.bs 91 3 [90] false,.ap 92 85 91 3 40,mV 11 92])
 (.reg [mV 93 12,fA 94 14 0,lF 95 94 1,mV 96 15,mV 97 16,.bd 98 [.int .i64 0,.int .i64 0,.nl] [(0,1,95),(1,1,96),(2,1,97)],.bs 99 3 [98] false,.ap 100 93 99 3 40,mV 12 100]))))))))))
 (.reg [.bi 101 .add 46 (kI 1),mV 46 101]))))))))
 (sR [mV 102 11,mV 103 12,mV 8 102,mV 9 103,.mv 10 (cB true)]
 gR)))))
def J0m:List Rv:=[.t 8,.t 9,.t 10]
theorem Q0q:MA Tryz.prog X04 4 W0o J0m=true:=by kernel_rfl
def Wa(now2 depth4:Int)(x11:Job)(_:Nat)(v11:Room×(List Held)×(List Held))(k11:(Room×(List Held)×(List Held))->Option ((List Held)×(List Held)×Bool)):Option ((List Held)×(List Held)×Bool) :=
 (Wk v11.1 x11 now2).bind fun y12=>bif ((!y12.2.2)||((decide (now2<y12.1))&&(decide (depth4<=(v11.2.2.length:Int)))))then(k11 (v11.1,v11.2.1,v11.2.2))else((Le v11.1 x11 y12.1 y12.2.1).bind fun y13=>bif (!y13.2)then(k11 (v11.1,v11.2.1,v11.2.2))else(bif (y12.1==now2)then((appL 40 v11.2.1 [(Held.mk x11.id y12.1 y12.2.1)]).bind fun xs14=>k11 (y13.1,xs14,v11.2.2))else((appL 40 v11.2.2 [(Held.mk x11.id y12.1 y12.2.1)]).bind fun xs15=>k11 (y13.1,v11.2.1,xs15))))
def Jp(v11:Room×(List Held)×(List Held)):Option ((List Held)×(List Held)×Bool) :=
 some (v11.2.1,v11.2.2,true)
def M7(r1:Room)(now2:Int)(l3:List Job)(depth4:Int):Option ((List Held)×(List Held)×Bool) :=
 (Jh r1).bind fun b5=>(bif (!b5)then some default else(Zi l3)).bind fun b6=>bif (((((!b5)||(!b6))||(!(Q2 now2)))||(decide (depth4<0)))||(decide (60<depth4)))then(some ([],[],false))else((WY l3).bind fun y9=>rgl (Wa now2 depth4) Jp y9 0 (r1,[],[]))
set_option maxRecDepth 20000 in
theorem W0m{r1:Room}{now2:Int}{l3:List Job}{depth4:Int}{r:(List Held)×(List Held)×Bool}(H:M7 r1 now2 l3 depth4=some r):ConD Tryz.prog X04 [Z8 .nw r1,iV now2,rV 11 (l3.map eJob),iV depth4] [] [] (.tup [.sref 0,.sref 1,.bool r.2.2]) [] [] [(3,r.1.map (Ml .nw)),(3,r.2.1.map (Ml .nw))]:=by
 refine Y1x [] Q0q rfl (by kernel_rfl) ?_
 unfold M7 at H
 obtain⟨b5,h5,H⟩:=bB H
 obtain⟨b6,h6,H⟩:=bB H
 refine wH [.u 21 (.call _ _ _ _ _ (AEs.of (xs:=[.agg [rV 1 (r1.topo.parents.map eI),rV 4 (r1.topo.nodes.map Q1),rV 1 (r1.up.map eBo),rV 1 (r1.profs.map (U1 .nw)),rV 4 (r1.lics.map ePt)]]) (by simp)) (fun _=>WB h5)),.g 25 [(_,false)] (.call _ _ _ _ _ (AEs.refl _) (fun q=>QM (bF q.1 h6))),.g 30 [(((!b5)||(!b6)),false)] (.call _ _ _ _ _ (AEs.refl _) (fun _=>W6 now2))] ?_
 refine V0 H ?_ ?_<;>intro H
 .refine wP ?_
  obtain rfl:=sI H
  exact O0c [(8,.z 700000007),(9,.z 700000008),(10,.d)] [] [(700000007,none,3),(700000008,none,3)] [] [700000007,700000008] (by kernel_rfl)
 .obtain⟨y9,h9,H⟩:=bB H
  refine wG [.c 44 (M15 h9),.u 45 (.ln _ _ fun _=>lm y9 eJob)] fun q10=>?_
  refine wR (fun(i11:Nat) (v11:Room×(List Held)×(List Held))=>⟨[(1,iV now2),(3,iV depth4),(4,.ptr 4 0),(11,.sref 41),(12,.sref 42),(44,nV 11 (y9.map eJob)),(45,iV (y9.length:Int)),(46,iV (i11:Int))],[],[(4,(Z8 .nw v11.1).cells)],[(41,⟨3,v11.2.1.map (Ml .nw),false⟩),(42,⟨3,v11.2.2.map (Ml .nw),false⟩)]⟩) H (fun i11 x11 v11 I m k11 hxv11 hiv11 H N45=>?_) (fun v11 I m H=>?_)
  .unfold Wa at H
   refine wP ?_
   refine wt (ltT hiv11) ?_
   obtain⟨y12,h12,H⟩:=bB H
   refine wH [.u 48 (.ix _ _ _ fun _=>Y0 eJob (W0 hxv11)),.u 54 (.call _ _ _ _ _ (AEs.of (xs:=[.agg [rV 1 (v11.1.topo.parents.map eI),rV 4 (v11.1.topo.nodes.map Q1),rV 1 (v11.1.up.map eBo),rV 1 (v11.1.profs.map (U1 .nw)),rV 4 (v11.1.lics.map ePt)],.agg [iV x11.id,iV x11.prio,iV x11.nodes,iV x11.need.a,iV x11.need.b,iV x11.need.c,iV x11.lic.a,iV x11.lic.b,iV x11.lic.c,iV x11.wall,iV x11.level],iV now2]) (by simp)) (fun _=>O0C h12)),.g 66 [((decide (now2<y12.1)),true),((!y12.2.2),false)] (.ln _ _ fun _=>lm v11.2.2 (Ml .nw))] ?_
   refine V0 H ?_ ?_<;>intro H
   .refine wH [.w 101 (wi .i64 rfl hiv11 q10.1)] ?_
    exact wT (N45 _ H)
   .obtain⟨y13,h13,H⟩:=bB H
    refine wH [.u 76 (.call _ _ _ _ _ (AEs.of (xs:=[.agg [rV 1 (v11.1.topo.parents.map eI),rV 4 (v11.1.topo.nodes.map Q1),rV 1 (v11.1.up.map eBo),rV 1 (v11.1.profs.map (U1 .nw)),rV 4 (v11.1.lics.map ePt)],.agg [iV x11.id,iV x11.prio,iV x11.nodes,iV x11.need.a,iV x11.need.b,iV x11.need.c,iV x11.lic.a,iV x11.lic.b,iV x11.lic.c,iV x11.wall,iV x11.level],iV y12.1,rV 1 (y12.2.1.map eI)]) (by simp)) (fun _=>X09 h13))] ?_
    refine V0 H ?_ ?_<;>intro H
    .refine wH [.w 101 (wi .i64 rfl hiv11 q10.1)] ?_
     exact wT (N45 _ H)
    .refine wP ?_
     refine V0 H ?_ ?_<;>intro H
     .obtain⟨xs14,h14,H⟩:=bB H
      refine wH [.u 92 (.ap _ _ _ _ fun _=>Q0 (Ml .nw) h14),.w 101 (wi .i64 rfl hiv11 q10.1)] ?_
      exact wT (N45 _ H)
     .obtain⟨xs15,h15,H⟩:=bB H
      refine wH [.u 100 (.ap _ _ _ _ fun _=>Q0 (Ml .nw) h15),.w 101 (wi .i64 rfl hiv11 q10.1)] ?_
      exact wT (N45 _ H)
  .unfold Jp at H
   refine wP ?_
   refine wf (ltF y9.length) ?_
   refine wP ?_
   obtain rfl:=sI H
   exact O0c [(8,.d),(9,.d),(10,.d)] [] [(41,some 41,0),(42,some 42,0)] [] [41,42] (by kernel_rfl)
def V0W:L :=
sR [.mv 4 (.c (.nl))]
 (sR [.bs 8 11 [] true,mV 5 8]
 (.seq (sR [mV 9 0,.ln 10 9,.mv 11 (kI 0)]
 (.blk 0 (.loop (.gw (sR [bI 12 .lss 11 10]
 (.seq (.cond 12 .skip
 (.exit 0))
 (.seq (.blk 1 (sR [iA 13 9 11 11,lT 14 13 11,.al 7 [.int .i64 0,.int .i64 0,.int .i64 0,.int .i64 0,.int .i64 0,.int .i64 0,.int .i64 0,.int .i64 0,.int .i64 0,.int .i64 0,.int .i64 0],.st 7 14 11]
 (sR [fA 15 7 0,lF 16 15 1,mV 17 1,bI 18 .neq 16 17]
 (.cond 18 (.reg [mV 19 5,lT 20 7 11,.bs 21 11 [20] false,.ap 22 19 21 11 88,mV 5 22])
 .skip))))
 (.reg [.bi 23 .add 11 (kI 1),mV 11 23]))))))))
 (sR [mV 24 5,mV 4 24]
 gR)))
def OL(id2:Int)(x4:Job)(_:Nat)(v4:(List Job))(k4:(List Job)->Option (List Job)):Option (List Job) :=
 bif (x4.id != id2)then((appL 88 v4 [x4]).bind fun xs5=>k4 xs5)else(k4 v4)
def WL(v4:(List Job)):Option (List Job) :=
 some v4
def ML(l1:List Job)(id2:Int):Option (List Job) :=
 rgl (OL id2) WL l1 0 []
theorem M0S{l1:List Job}{id2:Int}{r:(List Job)}(H:ML l1 id2=some r):Snd Tryz.prog U0r [rV 11 (l1.map eJob),iV id2] (nV 11 (r.map eJob)) []:=by
 refine wS V0W [.t 4] ?_
 unfold ML at H
 refine wG [.u 10 (.ln _ _ fun _=>lm l1 eJob)] fun q3=>?_
 refine wR (fun(i4:Nat) (v4:(List Job))=>⟨[(1,iV id2),(5,.sref 8),(9,rV 11 (l1.map eJob)),(10,iV (l1.length:Int)),(11,iV (i4:Int))],[],[],[(8,⟨11,v4.map eJob,false⟩)]⟩) H (fun i4 x4 v4 I m k4 hxv4 hiv4 H N19=>?_) (fun v4 I m H=>?_)
 .unfold OL at H
  refine wP ?_
  refine wt (ltT hiv4) ?_
  refine wH [.u 13 (.ix _ _ _ fun _=>Y0 eJob (W0 hxv4))] ?_
  refine V0 H ?_ ?_<;>intro H
  .obtain⟨xs5,h5,H⟩:=bB H
   refine wH [.u 22 (.ap _ _ _ _ fun _=>Q0 eJob h5),.w 23 (wi .i64 rfl hiv4 q3.1)] ?_
   exact wT (N19 _ H)
  .refine wH [.w 23 (wi .i64 rfl hiv4 q3.1)] ?_
   exact wT (N19 _ H)
 .unfold WL at H
  refine wP ?_
  refine wf (ltF l1.length) ?_
  refine wP ?_
  replace H:=sI H;subst H
  exact wN [(4,.f)] [] [] [8] [] [⟨_,Wi v4⟩]
def O0M:L :=
sR [.bx 1 0,.mv 2 (kI 0)]
 (.seq (rE 3 (kI (-1)))
 (.seq (sR [fA 6 1 9,lF 7 6 1,.ln 8 7,.mv 9 (kI 0)]
 (.blk 0 (.loop (.gw (sR [bI 10 .lss 9 8]
 (.seq (.cond 10 .skip
 (.exit 0))
 (.seq (.blk 1 (sR [iA 11 7 9 13,lT 12 11 13,.al 5 [.int .i64 0,.int .i64 0,.int .i64 0,.int .i64 0,.int .i64 0,.int .i64 0,.int .i64 0,.int .i64 0,.int .i64 0,.int .i64 0,.int .i64 0,.int .i64 0,.nl],.st 5 12 13]
 (sR [mV 13 3,.bi 14 .lss 13 (kI 0),mV 15 14,gF 15 (fA 16 5 11),gF 15 (lF 17 16 1),gF 15 (fA 18 5 0),gF 15 (fA 19 18 9),gF 15 (lF 20 19 1),gF 15 (bI 21 .add 17 20),gF 15 (mV 22 3),gF 15 (bI 23 .lss 21 22),.pk 24 15 (cB true) 23]
 (.cond 24 (.reg [fA 25 5 11,lF 26 25 1,fA 27 5 0,fA 28 27 9,lF 29 28 1,bI 30 .add 26 29,mV 3 30])
 .skip))))
 (.reg [.bi 31 .add 9 (kI 1),mV 9 31]))))))))
 (sR [mV 32 3,mV 2 32]
 gR)))
def ME(x3:Run)(_:Nat)(v3:Int)(k3:Int->Option Int):Option Int :=
 bif ((decide (v3<0))||(decide ((w64 (x3.t+x3.job.wall))<v3)))then(k3 (w64 (x3.t+x3.job.wall)))else(k3 v3)
def M05(v3:Int):Option Int :=
 some v3
def Me(s1:State):Option Int :=
 rgl ME M05 s1.runs 0 (-1)
theorem Zt{s1:State}{r:Int}(H:Me s1=some r):Snd Tryz.prog On [Y2 .rd s1] (iV r) []:=by
 refine wS O0M [.t 2] ?_
 unfold Me at H
 refine wG [.u 8 (.ln _ _ fun _=>lm s1.runs (J0 .rd))] fun q2=>?_
 refine wR (fun(i3:Nat) (v3:Int)=>⟨[(3,iV v3),(7,rV 13 (s1.runs.map (J0 .rd))),(8,iV (s1.runs.length:Int)),(9,iV (i3:Int))],[],[],[]⟩) H (fun i3 x3 v3 I m k3 hxv3 hiv3 H N19=>?_) (fun v3 I m H=>?_)
 .unfold ME at H
  refine wP ?_
  refine wt (ltT hiv3) ?_
  refine wH [.u 11 (.ix _ _ _ fun _=>Y0 (J0 .rd) (W0 hxv3))] ?_
  refine V0 H ?_ ?_<;>intro H
  .refine wH [.w 31 (wi .i64 rfl hiv3 q2.1)] ?_
   exact wT (N19 _ H)
  .refine wH [.w 31 (wi .i64 rfl hiv3 q2.1)] ?_
   exact wT (N19 _ H)
 .unfold M05 at H
  refine wP ?_
  refine wf (ltF s1.runs.length) ?_
  obtain rfl:=sI H
  exact wP (wE [(2,.d)])
def Q02:L :=
sR [.bx 1 0,.al 2 [.nl,.nl,.nl,.int .i64 0,.int .i64 0,.int .i64 0,.int .i64 0,.int .i64 0,.nl,.nl,.nl]]
 (sR [lT 13 1 11,cQ 14 Y04 [13],mV 12 14,eX 15 12 0,eX 16 12 1,.al 3 [.nl,.nl,.nl,.nl,.nl],.st 3 15 5,mV 4 16]
 (sR [lT 18 3 5,fA 19 1 7,lF 20 19 1,fA 21 1 8,lF 22 21 1,fA 23 1 6,lF 24 23 1,.cm 25 X04 [18,20,22,24],mV 17 25,eX 26 17 0,eX 27 17 1,eX 28 17 2,mV 5 26,mV 6 27,mV 7 28]
 (.seq (sR [mV 29 5,.ln 30 29,.mv 31 (kI 0)]
 (.blk 0 (.loop (.gw (sR [bI 32 .lss 31 30]
 (.seq (.cond 32 .skip
 (.exit 0))
 (.seq (.blk 1 (sR [iA 33 29 31 3,lT 34 33 3,.al 9 [.int .i64 0,.int .i64 0,.nl],.st 9 34 3]
 (sR [fA 36 1 8,lF 37 36 1,fA 38 9 0,lF 39 38 1,cQ 40 W0i [37,39],mV 35 40,eX 41 35 0,eX 42 35 1,.al 10 [.int .i64 0,.int .i64 0,.int .i64 0,.int .i64 0,.int .i64 0,.int .i64 0,.int .i64 0,.int .i64 0,.int .i64 0,.int .i64 0,.int .i64 0],.st 10 41 11,mV 11 42]
 (sR [fA 43 1 8,lF 44 43 1,fA 45 9 0,lF 46 45 1,cQ 47 U0r [44,46],fA 48 1 8,.st 48 47 1]
 (.reg [fA 49 1 9,lF 50 49 1,lT 51 10 11,fA 52 1 7,lF 53 52 1,fA 54 9 2,lF 55 54 1,.bd 56 [.int .i64 0,.int .i64 0,.int .i64 0,.int .i64 0,.int .i64 0,.int .i64 0,.int .i64 0,.int .i64 0,.int .i64 0,.int .i64 0,.int .i64 0,.int .i64 0,.nl] [(0,11,51),(11,1,53),(12,1,55)],.bs 57 13 [56] false,.ap 58 50 57 13 120,fA 59 1 9,.st 59 58 1])))))
 (.reg [.bi 60 .add 31 (kI 1),mV 31 60]))))))))
 (sR [lT 61 1 11,.st 2 61 11]
 gR))))
def J01:List Rv:=[.c 2 11 true]
theorem U03:MA Tryz.prog Xw 1 Q02 J01=true:=by kernel_rfl
def V8(s1:State)(x5:Held)(_:Nat)(v5:(List Job)×(List Run))(k5:((List Job)×(List Run))->Option State):Option State :=
 (LQ v5.1 x5.id).bind fun y6=>(ML v5.1 x5.id).bind fun y7=>(appL 120 v5.2 [(Run.mk y6.1 s1.now x5.nodes)]).bind fun xs8=>k5 (y7,xs8)
def Mq(s1:State)(v5:(List Job)×(List Run)):Option State :=
 some (State.mk s1.topo s1.up s1.lic s1.depth s1.now v5.1 v5.2 s1.ends)
def Z7(s1:State):Option State :=
 (Mc s1).bind fun y2=>(M7 y2.1 s1.now s1.queue s1.depth).bind fun y3=>rgl (V8 s1) (Mq s1) y3.1 0 (s1.queue,s1.runs)
set_option maxRecDepth 20000 in
theorem U01{s1 r:State}(H:Z7 s1=some r):ConD Tryz.prog Xw [.agg [nV 1 (s1.topo.parents.map eI),nV 4 (s1.topo.nodes.map Q1),nV 1 (s1.up.map eBo),iV s1.lic.a,iV s1.lic.b,iV s1.lic.c,iV s1.depth,iV s1.now,nV 11 (s1.queue.map eJob),.sref 0,.sref 1]] [] [(13,s1.runs.map (J0 .nw)),(3,s1.ends.map eEnd)] (.agg [nV 1 (r.topo.parents.map eI),nV 4 (r.topo.nodes.map Q1),nV 1 (r.up.map eBo),iV r.lic.a,iV r.lic.b,iV r.lic.c,iV r.depth,iV r.now,nV 11 (r.queue.map eJob),.sref 2,.sref 3]) [] [none,none] [(13,r.runs.map (J0 .nw)),(3,r.ends.map eEnd)]:=by
 refine Y1x [false,false] U03 rfl (by kernel_rfl) ?_
 unfold Z7 at H
 obtain⟨y2,h2,H⟩:=bB H
 obtain⟨y3,h3,H⟩:=bB H
 refine wG [.u 14 (.call _ _ _ _ _ (AEs.of (xs:=[.agg [rV 1 (s1.topo.parents.map eI),rV 4 (s1.topo.nodes.map Q1),rV 1 (s1.up.map eBo),iV s1.lic.a,iV s1.lic.b,iV s1.lic.c,iV s1.depth,iV s1.now,rV 11 (s1.queue.map eJob),rV 13 (s1.runs.map (J0 .nw)),rV 3 (s1.ends.map eEnd)]]) (by simp)) (fun _=>L0g h2)),.u 25 (.cw X04 [] [] [] [] [Z8 .nw y2.1,iV s1.now,nV 11 (s1.queue.map eJob),iV s1.depth] _ _ _ _ _ (GEs.of [true,false,false,false] (by simp)) (by simp) (by simp) (by simp) (fun _=>W0m h3)),.u 30 (.ln _ _ fun _=>lm y3.1 (Ml .nw))] fun q4=>?_
 refine wR (fun(i5:Nat) (v5:(List Job)×(List Run))=>⟨[(1,.ptr 1 0),(2,.ptr 2 0),(29,.sref 26000),(30,iV (y3.1.length:Int)),(31,iV (i5:Int))],[],[(1,[nV 1 (s1.topo.parents.map eI),nV 4 (s1.topo.nodes.map Q1),nV 1 (s1.up.map eBo),iV s1.lic.a,iV s1.lic.b,iV s1.lic.c,iV s1.depth,iV s1.now,nV 11 (v5.1.map eJob),.sref 500000000,.sref 500000001]),(2,[.nl,.nl,.nl,iV 0,iV 0,iV 0,iV 0,iV 0,.nl,.nl,.nl])],[(500000000,⟨13,v5.2.map (J0 .nw),false⟩),(500000001,⟨3,s1.ends.map eEnd,false⟩),(26000,⟨3,y3.1.map (Ml .nw),false⟩)]⟩) H (fun i5 x5 v5 I m k5 hxv5 hiv5 H N20=>?_) (fun v5 I m H=>?_)
 .unfold V8 at H
  refine wP ?_
  refine wt (ltT hiv5) ?_
  obtain⟨y6,h6,H⟩:=bB H
  obtain⟨y7,h7,H⟩:=bB H
  obtain⟨xs8,h8,H⟩:=bB H
  refine wH [.u 33 (.ix _ _ _ fun _=>Y0 (Ml .nw) (W0 hxv5)),.u 34 (.el _ _ _ fun _=>gm (Ml .nw) (Q7 (W0 hxv5))),.c 40 (Q0I h6),.c 47 (M0S h7),.u 58 (.ap _ _ _ _ fun _=>Q0 (J0 .nw) h8),.w 60 (wi .i64 rfl hiv5 q4.1)] ?_
  exact wT (N20 _ H)
 .unfold Mq at H
  refine wP ?_
  refine wf (ltF y3.1.length) ?_
  refine wP ?_
  obtain rfl:=sI H
  exact O0c [(2,.d)] [(2,[])] [(500000000,some 500000000,0),(500000001,some 500000001,0)] [] [500000000,500000001] (by kernel_rfl)
def Q1a:L :=
sR [.bx 2 0,.al 4 [.nl,.nl,.nl,.int .i64 0,.int .i64 0,.int .i64 0,.int .i64 0,.int .i64 0,.nl,.nl,.nl],.mv 5 (cB false)]
 (.seq (sR [lT 10 2 11,cQ 11 QX [10],.un 12 11,mV 13 12,gF 13 (mV 14 1),gF 13 (cQ 15 L5 [14]),gF 13 (.un 16 15),.pk 17 13 (cB true) 16,mV 18 17,gF 18 (mV 19 1),gF 18 (fA 20 2 7),gF 18 (lF 21 20 1),gF 18 (bI 22 .lss 19 21),.pk 23 18 (cB true) 22]
 (.cond 23 (sR [.bd 24 [.nl,.nl,.nl,.int .i64 0,.int .i64 0,.int .i64 0,.int .i64 0,.int .i64 0,.nl,.nl,.nl] [],.st 4 24 11,.mv 5 (cB false)]
 gR)
 .skip))
 (sR [lT 25 2 11,.cl 26 ZX [25],.st 2 26 11]
 (.seq (sR [lT 27 2 11,cQ 28 On [27],mV 6 28]
 (.blk 0 (.loop (.gw (.seq (sR [mV 29 6,.bi 30 .geq 29 (kI 0),mV 31 30,gT 31 (mV 32 6),gT 31 (mV 33 1),gT 31 (bI 34 .leq 32 33),.pk 35 31 34 (cB false)]
 (.cond 35 .skip
 (.exit 0)))
 (.seq (.blk 1 (sR [mV 38 6,fA 39 2 7,.st 39 38 1]
 (sR [.bs 40 13 [] true,mV 7 40]
 (.seq (sR [fA 41 2 9,lF 42 41 1,.ln 43 42,.mv 44 (kI 0)]
 (.blk 2 (.loop (.gw (sR [bI 45 .lss 44 43]
 (.seq (.cond 45 .skip
 (.exit 2))
 (.seq (.blk 3 (sR [iA 46 42 44 13,lT 47 46 13,.al 9 [.int .i64 0,.int .i64 0,.int .i64 0,.int .i64 0,.int .i64 0,.int .i64 0,.int .i64 0,.int .i64 0,.int .i64 0,.int .i64 0,.int .i64 0,.int .i64 0,.nl],.st 9 47 13]
 (sR [fA 48 9 11,lF 49 48 1,fA 50 9 0,fA 51 50 9,lF 52 51 1,bI 53 .add 49 52,mV 54 6,bI 55 .eql 53 54]
 (.cond 55 (.reg [fA 56 2 10,lF 57 56 1,fA 58 9 0,fA 59 58 0,lF 60 59 1,mV 61 6,.bd 62 [.int .i64 0,.int .i64 0,.int .i64 0] [(0,1,60),(1,1,61),(2,1,(kI 1))],.bs 63 3 [62] false,.ap 64 57 63 3 24,fA 65 2 10,.st 65 64 1])
 (.reg [mV 66 7,lT 67 9 13,.bs 68 13 [67] false,.ap 69 66 68 13 120,mV 7 69])))))
 (.reg [.bi 70 .add 44 (kI 1),mV 44 70]))))))))
 (sR [mV 71 7,fA 72 2 9,.st 72 71 1]
 (.seq (sR [fA 73 2 10,lF 74 73 1,.ln 75 74,.bi 76 .gtr 75 (kI 300)]
 (.cond 76 (sR [.bd 77 [.nl,.nl,.nl,.int .i64 0,.int .i64 0,.int .i64 0,.int .i64 0,.int .i64 0,.nl,.nl,.nl] [],.st 4 77 11,.mv 5 (cB false)]
 gR)
 .skip))
 (.reg [lT 78 2 11,.cm 79 Xw [78],.st 2 79 11])))))))
 (.reg [lT 36 2 11,cQ 37 On [36],mV 6 37])))))))
 (sR [mV 80 1,fA 81 2 7,.st 81 80 1]
 (sR [lT 82 2 11,.st 4 82 11,.mv 5 (cB true)]
 gR)))))
def QB(v14:State×Int)(x16:Run)(_:Nat)(v16:(List End)×(List Run))(k16:((List End)×(List Run))->Option (State×Bool)):Option (State×Bool) :=
 bif ((w64 (x16.t+x16.job.wall))==v14.2)then((appL 24 v16.1 [(End.mk x16.job.id v14.2 1)]).bind fun xs17=>k16 (xs17,v16.2))else((appL 120 v16.2 [x16]).bind fun xs18=>k16 (v16.1,xs18))
def UV(v14:State×Int)(k14:(State×Int)->Option (State×Bool))(v16:(List End)×(List Run)):Option (State×Bool) :=
 bif (decide (300<(v16.1.length:Int)))then(some ((State.mk (Topo.mk [] []) [] (Vec.mk 0 0 0) 0 0 [] [] []),false))else((Z7 (State.mk v14.1.topo v14.1.up v14.1.lic v14.1.depth v14.2 v14.1.queue v16.2 v16.1)).bind fun y20=>(Me y20).bind fun n21=>k14 (y20,n21))
def Om(t2:Int)(v14:State×Int)(k14:(State×Int)->Option (State×Bool)):Option (State×Bool) :=
 bif ((decide (0<=v14.2))&&(decide (v14.2<=t2)))then(rgl (QB v14) (UV v14 k14) v14.1.runs 0 (v14.1.ends,[]))else(some ((State.mk v14.1.topo v14.1.up v14.1.lic v14.1.depth t2 v14.1.queue v14.1.runs v14.1.ends),true))
def Jx(s1:State)(t2:Int):Option (State×Bool) :=
 (Qr s1).bind fun b3=>bif (((!b3)||(!(Q2 t2)))||(decide (t2<s1.now)))then(some ((State.mk (Topo.mk [] []) [] (Vec.mk 0 0 0) 0 0 [] [] []),false))else((Jq s1).bind fun y4=>(Me y4).bind fun n5=>whl (Om t2) 9223372036854775807 (y4,n5))
theorem O15{s1:State}{t2:Int}{r:State×Bool}(H:Jx s1 t2=some r):Snd Tryz.prog W0A [Y2 .rd s1,iV t2] (.tup [Y2 .nw r.1,.bool r.2]) []:=by
 refine wS Q1a [.c 4 11 true,.t 5] ?_
 unfold Jx at H
 obtain⟨b3,h3,H⟩:=bB H
 refine wH [.c 11 (J08 h3),.g 15 [((!b3),false)] (.call _ _ _ _ _ (AEs.refl _) (fun _=>W6 t2))] ?_
 refine V0 H ?_ ?_<;>intro H
 .refine wP ?_
  replace H:=sI H;subst H
  exact wN [(4,.d),(5,.d)] [(4,[.n 1,.n 4,.n 1,.d,.d,.d,.d,.d,.n 11,.n 13,.n 3])] [] [] [] [⟨_,nw_I ([]:List Int)⟩,⟨_,V3 ([]:List Node)⟩,⟨_,Qf ([]:List Bool)⟩,⟨_,Wi ([]:List Job)⟩,⟨_,Qi ([]:List Run)⟩,⟨_,WD ([]:List End)⟩]
 .obtain⟨y4,h4,H⟩:=bB H
  obtain⟨n5,h5,H⟩:=bB H
  refine wH [.c 26 (Y08 h4),.u 28 (.call _ _ _ _ _ (AEs.of (xs:=[.agg [rV 1 (y4.topo.parents.map eI),rV 4 (y4.topo.nodes.map Q1),rV 1 (y4.up.map eBo),iV y4.lic.a,iV y4.lic.b,iV y4.lic.c,iV y4.depth,iV y4.now,rV 11 (y4.queue.map eJob),rV 13 (y4.runs.map (J0 .nw)),rV 3 (y4.ends.map eEnd)]]) (by simp)) (fun _=>Zt h5))] ?_
  refine U1u (fun(v14:State×Int)=>⟨[(1,iV t2),(2,.ptr 2 0),(4,.ptr 4 0),(6,iV v14.2)],[],[(2,[nV 1 (v14.1.topo.parents.map eI),nV 4 (v14.1.topo.nodes.map Q1),nV 1 (v14.1.up.map eBo),iV v14.1.lic.a,iV v14.1.lic.b,iV v14.1.lic.c,iV v14.1.depth,iV v14.1.now,nV 11 (v14.1.queue.map eJob),.sref 27001,.sref 27002]),(4,[.nl,.nl,.nl,iV 0,iV 0,iV 0,iV 0,iV 0,.nl,.nl,.nl])],[(27001,⟨13,v14.1.runs.map (J0 .nw),false⟩),(27002,⟨3,v14.1.ends.map eEnd,false⟩)]⟩) [] [(2,[.d,.d,.d,.d,.d,.d,.d,.d,.f,.d,.d])] [] [27000] (by kernel_rfl) (by kernel_rfl) H (fun v14 I m k14 H N55=>?_)
  unfold Om at H
  refine wP ?_
  refine V0 H ?_ ?_<;>intro H
  .refine wG [.u 43 (.ln _ _ fun _=>lm v14.1.runs (J0 .nw))] fun q15=>?_
   refine wR (fun(i16:Nat) (v16:(List End)×(List Run))=>⟨[(1,iV t2),(2,.ptr 2 0),(4,.ptr 4 0),(6,iV v14.2),(7,.sref 40),(42,.sref 27001),(43,iV (v14.1.runs.length:Int)),(44,iV (i16:Int))],[],[(2,[nV 1 (v14.1.topo.parents.map eI),nV 4 (v14.1.topo.nodes.map Q1),nV 1 (v14.1.up.map eBo),iV v14.1.lic.a,iV v14.1.lic.b,iV v14.1.lic.c,iV v14.1.depth,iV v14.2,nV 11 (v14.1.queue.map eJob),.sref 27001,.sref 27002]),(4,[.nl,.nl,.nl,iV 0,iV 0,iV 0,iV 0,iV 0,.nl,.nl,.nl])],[(27001,⟨13,v14.1.runs.map (J0 .nw),false⟩),(27002,⟨3,v16.1.map eEnd,false⟩),(40,⟨13,v16.2.map (J0 .nw),false⟩)]⟩) H (fun i16 x16 v16 I m k16 hxv16 hiv16 H N34=>?_) (fun v16 I m H=>?_)
   .unfold QB at H
    refine wP ?_
    refine wt (ltT hiv16) ?_
    refine wH [.u 46 (.ix _ _ _ fun _=>Y0 (J0 .nw) (W0 hxv16)),.u 47 (.el _ _ _ fun _=>gm (J0 .nw) (Q7 (W0 hxv16)))] ?_
    refine V0 H ?_ ?_<;>intro H
    .obtain⟨xs17,h17,H⟩:=bB H
     refine wH [.u 64 (.ap _ _ _ _ fun _=>Q0 eEnd h17),.w 70 (wi .i64 rfl hiv16 q15.1)] ?_
     exact wT (N34 _ H)
    .obtain⟨xs18,h18,H⟩:=bB H
     refine wH [.u 69 (.ap _ _ _ _ fun _=>Q0 (J0 .nw) h18),.w 70 (wi .i64 rfl hiv16 q15.1)] ?_
     exact wT (N34 _ H)
   .unfold UV at H
    refine wP ?_
    refine wf (ltF v14.1.runs.length) ?_
    refine wG [.u 75 (.ln _ _ fun _=>lm v16.1 eEnd)] fun q19=>?_
    refine V0 H ?_ ?_<;>intro H
    .refine wP ?_
     replace H:=sI H;subst H
     exact wN [(4,.d),(5,.d)] [(4,[.n 1,.n 4,.n 1,.d,.d,.d,.d,.d,.n 11,.n 13,.n 3])] [] [] [] [⟨_,nw_I ([]:List Int)⟩,⟨_,V3 ([]:List Node)⟩,⟨_,Qf ([]:List Bool)⟩,⟨_,Wi ([]:List Job)⟩,⟨_,Qi ([]:List Run)⟩,⟨_,WD ([]:List End)⟩]
    .obtain⟨y20,h20,H⟩:=bB H
     obtain⟨n21,h21,H⟩:=bB H
     refine wH [.u 79 (.cw Xw [] [40,27002] [] [(13,v16.2.map (J0 .nw)),(3,v16.1.map eEnd)] [.agg [nV 1 (v14.1.topo.parents.map eI),nV 4 (v14.1.topo.nodes.map Q1),nV 1 (v14.1.up.map eBo),iV v14.1.lic.a,iV v14.1.lic.b,iV v14.1.lic.c,iV v14.1.depth,iV v14.2,nV 11 (v14.1.queue.map eJob),.sref 0,.sref 1]] _ _ _ _ _ (GEs.of [true] (by simp)) (by simp) (by simp) (by simp) (fun _=>U01 h20)),.u 37 (.call _ _ _ _ _ (AEs.of (xs:=[.agg [rV 1 (y20.topo.parents.map eI),rV 4 (y20.topo.nodes.map Q1),rV 1 (y20.up.map eBo),iV y20.lic.a,iV y20.lic.b,iV y20.lic.c,iV y20.depth,iV y20.now,rV 11 (y20.queue.map eJob),rV 13 (y20.runs.map (J0 .nw)),rV 3 (y20.ends.map eEnd)]]) (by simp)) (fun _=>Zt h21))] ?_
     exact wU (N55 _ H) [] [] [(27001,(some 80000,0)),(27002,(some 80001,0))] []
  .refine wP ?_
   replace H:=sI H;subst H
   exact wN [(4,.d),(5,.d)] [(4,[.d,.d,.d,.d,.d,.d,.d,.d,.d,.f,.f])] [] [27001,27002] [] [⟨_,nw_I v14.1.topo.parents⟩,⟨_,V3 v14.1.topo.nodes⟩,⟨_,Qf v14.1.up⟩,⟨_,Wi v14.1.queue⟩,⟨_,Qi v14.1.runs⟩,⟨_,WD v14.1.ends⟩]
def Y0w:L :=
sR [.bx 1 0,.al 2 [.nl,.nl,.nl,.int .i64 0,.int .i64 0,.int .i64 0,.int .i64 0,.int .i64 0,.nl,.nl,.nl]]
 (sR [fA 6 1 0,lT 7 6 2,cQ 8 Lw [7],fA 9 1 0,.st 9 8 2]
 (sR [fA 10 1 2,lF 11 10 1,.ap 12 (.c (.nl)) 11 1 1,fA 13 1 2,.st 13 12 1]
 (sR [fA 14 1 8,lF 15 14 1,.ap 16 (.c (.nl)) 15 11 88,fA 17 1 8,.st 17 16 1]
 (sR [.mv 3 (.c (.nl))]
 (.seq (sR [fA 18 1 9,lF 19 18 1,.ln 20 19,.mv 21 (kI 0)]
 (.blk 0 (.loop (.gw (sR [bI 22 .lss 21 20]
 (.seq (.cond 22 .skip
 (.exit 0))
 (.seq (.blk 1 (sR [iA 23 19 21 13,lT 24 23 13,.al 5 [.int .i64 0,.int .i64 0,.int .i64 0,.int .i64 0,.int .i64 0,.int .i64 0,.int .i64 0,.int .i64 0,.int .i64 0,.int .i64 0,.int .i64 0,.int .i64 0,.nl],.st 5 24 13]
 (sR [fA 25 5 12,lF 26 25 1,cQ 27 ZQ [26],fA 28 5 12,.st 28 27 1]
 (.reg [mV 29 3,lT 30 5 13,.bs 31 13 [30] false,.ap 32 29 31 13 120,mV 3 32]))))
 (.reg [.bi 33 .add 21 (kI 1),mV 21 33]))))))))
 (sR [mV 34 3,fA 35 1 9,.st 35 34 1]
 (sR [fA 36 1 10,lF 37 36 1,.ap 38 (.c (.nl)) 37 3 24,fA 39 1 10,.st 39 38 1]
 (sR [lT 40 1 11,.st 2 40 11]
 gR))))))))
def Xh(x6:Run)(_:Nat)(v6:(List Run))(k6:(List Run)->Option State):Option State :=
 (Xc x6.nodes).bind fun y7=>(appL 120 v6 [(Run.mk x6.job x6.t y7)]).bind fun xs8=>k6 xs8
def Vv(s1:State)(y2:Topo)(xs3:List Bool)(xs4:List Job)(v6:(List Run)):Option State :=
 (appL 24 ([]:List End) s1.ends).bind fun xs9=>some (State.mk y2 xs3 s1.lic s1.depth s1.now xs4 v6 xs9)
def Jc(s1:State):Option State :=
 (Yc s1.topo).bind fun y2=>(appL 1 ([]:List Bool) s1.up).bind fun xs3=>(appL 88 ([]:List Job) s1.queue).bind fun xs4=>rgl Xh (Vv s1 y2 xs3 xs4) s1.runs 0 []
theorem Oz{s1 r:State}(H:Jc s1=some r):Snd Tryz.prog Lp [Y2 .rd s1] (.agg [nV 1 (r.topo.parents.map eI),nV 4 (r.topo.nodes.map Q1),nV 1 (r.up.map eBo),iV r.lic.a,iV r.lic.b,iV r.lic.c,iV r.depth,iV r.now,.sref 0,.sref 1,.sref 2]) [⟨11,r.queue.map eJob,false⟩,⟨13,r.runs.map (J0 .nw),false⟩,⟨3,r.ends.map eEnd,false⟩]:=by
 refine wS Y0w [.c 2 11 true] ?_
 unfold Jc at H
 obtain⟨y2,h2,H⟩:=bB H
 obtain⟨xs3,h3,H⟩:=bB H
 obtain⟨xs4,h4,H⟩:=bB H
 refine wG [.c 8 (XG h2),.u 12 (.ap _ _ _ _ fun _=>Q0 eBo h3),.u 16 (.ap _ _ _ _ fun _=>Q0 eJob h4),.u 20 (.ln _ _ fun _=>lm s1.runs (J0 .rd))] fun q5=>?_
 refine Q0c (fun(i6:Nat) (v6:(List Run))=>⟨[(1,.ptr 1 0),(2,.ptr 2 0),(3,.sref 515002),(19,rV 13 (s1.runs.map (J0 .rd))),(20,iV (s1.runs.length:Int)),(21,iV (i6:Int))],[],[(1,[nV 1 (y2.parents.map eI),nV 4 (y2.nodes.map Q1),.sref 12,iV s1.lic.a,iV s1.lic.b,iV s1.lic.c,iV s1.depth,iV s1.now,.sref 16,rV 13 (s1.runs.map (J0 .rd)),rV 3 (s1.ends.map eEnd)]),(2,[.nl,.nl,.nl,iV 0,iV 0,iV 0,iV 0,iV 0,.nl,.nl,.nl])],[(12,⟨1,xs3.map eBo,false⟩),(16,⟨11,xs4.map eJob,false⟩),(515002,⟨13,v6.map (J0 .nw),false⟩)]⟩) [(3,.z 515002)] [] [(515002,(none,13))] [] (by kernel_rfl) (by kernel_rfl) H (fun i6 x6 v6 I m k6 hxv6 hiv6 H N20=>?_) (fun v6 I m H=>?_)
 .unfold Xh at H
  refine wP ?_
  refine wt (ltT hiv6) ?_
  obtain⟨y7,h7,H⟩:=bB H
  obtain⟨xs8,h8,H⟩:=bB H
  refine wH [.u 23 (.ix _ _ _ fun _=>Y0 (J0 .rd) (W0 hxv6)),.c 27 (Y07 h7),.u 32 (.ap _ _ _ _ fun _=>Q0 (J0 .nw) h8),.w 33 (wi .i64 rfl hiv6 q5.1)] ?_
  exact wT (N20 _ H)
 .unfold Vv at H
  refine wP ?_
  refine wf (ltF s1.runs.length) ?_
  obtain⟨xs9,h9,H⟩:=bB H
  refine wH [.u 38 (.ap _ _ _ _ fun _=>Q0 eEnd h9)] ?_
  replace H:=sI H;subst H
  exact wN [(2,.d)] [(2,[.d,.d,.f,.d,.d,.d,.d,.d,.d,.d,.d])] [(16,some 16,0),(515002,some 515002,0),(38,some 38,0)] [12] [some 16,some 515002,some 38] [⟨_,nw_I y2.parents⟩,⟨_,V3 y2.nodes⟩,⟨_,Qf xs3⟩,⟨_,Wi xs4⟩,⟨_,Qi v6⟩,⟨_,WD xs9⟩]
def Y1c:L :=
sR [.bx 3 0,.bx 5 2,.al 6 [.nl,.nl,.nl,.nl,.nl]]
 (sR [lT 12 3 2,cQ 13 Lw [12],mV 14 1,.ap 15 (.c (.nl)) 14 1 1,.bd 16 [.nl,.nl,.nl,.nl,.nl] [(0,2,13),(2,1,15)],.al 7 [.nl,.nl,.nl,.nl,.nl],.st 7 16 5]
 (.seq (sR [fA 17 3 1,lF 18 17 1,.ln 19 18,.mv 20 (kI 0)]
 (.blk 0 (.loop (.gw (sR [bI 21 .lss 20 19]
 (.seq (.cond 21 .skip
 (.exit 0))
 (.seq (.blk 1 (sR [iA 22 18 20 4,lT 23 22 4,.al 9 [.int .i64 0,.int .i64 0,.int .i64 0,.int .i64 0],.st 9 23 4]
 (sR [fA 25 9 1,lT 26 25 3,cQ 27 VD [26],mV 24 27,eX 28 24 0,eX 29 24 1,.al 10 [.nl],.st 10 28 1,mV 11 29]
 (.reg [fA 30 7 3,lF 31 30 1,lT 32 10 1,.bs 33 1 [32] false,.ap 34 31 33 1 24,fA 35 7 3,.st 35 34 1]))))
 (.reg [.bi 36 .add 20 (kI 1),mV 20 36]))))))))
 (sR [lT 38 5 3,cQ 39 VD [38],mV 37 39,eX 40 37 0,eX 41 37 1,fA 42 7 4,.st 42 40 1]
 (sR [lT 43 7 5,.st 6 43 5]
 gR))))
def ZW(x7:Node)(_:Nat)(v7:(List (List Pt)))(k7:(List (List Pt))->Option Room):Option Room :=
 (appL 24 v7 [(Yf x7.cap).1]).bind fun xs8=>k7 xs8
def JV(lic3:Vec)(y4:Topo)(xs5:List Bool)(v7:(List (List Pt))):Option Room :=
 some (Room.mk y4 xs5 v7 ((Yf lic3).1))
def O00(t1:Topo)(up2:List Bool)(lic3:Vec):Option Room :=
 (Yc t1).bind fun y4=>(appL 1 ([]:List Bool) up2).bind fun xs5=>rgl ZW (JV lic3 y4 xs5) t1.nodes 0 []
theorem O1d{t1:Topo}{up2:List Bool}{lic3:Vec}{r:Room}(H:O00 t1 up2 lic3=some r):Snd Tryz.prog X0B [U3 .rd t1,rV 1 (up2.map eBo),eVec lic3] (Z8 .nw r) []:=by
 refine wS Y1c [.c 6 5 true] ?_
 unfold O00 at H
 obtain⟨y4,h4,H⟩:=bB H
 obtain⟨xs5,h5,H⟩:=bB H
 refine wG [.c 13 (XG h4),.u 15 (.ap _ _ _ _ fun _=>Q0 eBo h5),.u 19 (.ln _ _ fun _=>lm t1.nodes Q1)] fun q6=>?_
 refine Q0c (fun(i7:Nat) (v7:(List (List Pt)))=>⟨[(5,.ptr 5 0),(6,.ptr 6 0),(7,.ptr 7 0),(18,rV 4 (t1.nodes.map Q1)),(19,iV (t1.nodes.length:Int)),(20,iV (i7:Int))],[],[(5,(eVec lic3).cells),(6,[.nl,.nl,.nl,.nl,.nl]),(7,[nV 1 (y4.parents.map eI),nV 4 (y4.nodes.map Q1),.sref 15,.sref 190001,.nl])],[(15,⟨1,xs5.map eBo,false⟩),(190001,⟨1,v7.map (U1 .nw),false⟩)]⟩) [] [(7,[.d,.d,.d,.z 190001,.d])] [(190001,(none,1))] [] (by kernel_rfl) (by kernel_rfl) H (fun i7 x7 v7 I m k7 hxv7 hiv7 H N17=>?_) (fun v7 I m H=>?_)
 .unfold ZW at H
  refine wP ?_
  refine wt (ltT hiv7) ?_
  obtain⟨xs8,h8,H⟩:=bB H
  refine wH [.u 22 (.ix _ _ _ fun _=>Y0 Q1 (W0 hxv7)),.c 27 (O0b x7.cap),.u 34 (.ap _ _ _ _ fun _=>Q0 (U1 .nw) h8),.w 36 (wi .i64 rfl hiv7 q6.1)] ?_
  exact wT (N17 _ H)
 .unfold JV at H
  refine wP ?_
  refine wf (ltF t1.nodes.length) ?_
  refine wH [.c 39 (O0b lic3)] ?_
  replace H:=sI H;subst H
  exact wN [(6,.d)] [(6,[.d,.d,.f,.f,.d])] [] [15,190001] [] [⟨_,nw_I y4.parents⟩,⟨_,V3 y4.nodes⟩,⟨_,Qf xs5⟩,⟨_,O6 v7⟩,⟨_,Uf ((Yf lic3).1)⟩]
def Y10:L :=
sR [.bx 1 0,.al 2 [.nl,.nl,.nl,.nl,.nl],.mv 3 (cB false)]
 (.seq (sR [fA 9 1 0,lT 10 9 2,cQ 11 QK [10],.un 12 11,mV 13 12,gF 13 (fA 14 1 2),gF 13 (lF 15 14 1),gF 13 (.ln 16 15),gF 13 (fA 17 1 0),gF 13 (fA 18 17 1),gF 13 (lF 19 18 1),gF 13 (.ln 20 19),gF 13 (bI 21 .neq 16 20),.pk 22 13 (cB true) 21,mV 23 22,gF 23 (fA 24 1 3),gF 23 (lT 25 24 3),gF 23 (cQ 26 W5 [25]),gF 23 (.un 27 26),.pk 28 23 (cB true) 27,mV 29 28,gF 29 (fA 30 1 7),gF 29 (lF 31 30 1),gF 29 (cQ 32 L9 [31]),gF 29 (.un 33 32),.pk 34 29 (cB true) 33]
 (.cond 34 (sR [.bd 35 [.nl,.nl,.nl,.nl,.nl] [],.st 2 35 5,.mv 3 (cB false)]
 gR)
 .skip))
 (sR [fA 36 1 0,lT 37 36 2,fA 38 1 2,lF 39 38 1,fA 40 1 3,lT 41 40 3,cQ 42 X0B [37,39,41],.al 4 [.nl,.nl,.nl,.nl,.nl],.st 4 42 5]
 (.seq (sR [fA 43 1 9,lF 44 43 1,.ln 45 44,.mv 46 (kI 0)]
 (.blk 0 (.loop (.gw (sR [bI 47 .lss 46 45]
 (.seq (.cond 47 .skip
 (.exit 0))
 (.seq (.blk 1 (sR [iA 48 44 46 13,lT 49 48 13,.al 6 [.int .i64 0,.int .i64 0,.int .i64 0,.int .i64 0,.int .i64 0,.int .i64 0,.int .i64 0,.int .i64 0,.int .i64 0,.int .i64 0,.int .i64 0,.int .i64 0,.nl],.st 6 49 13]
 (.seq (sR [fA 50 6 0,lT 51 50 11,cQ 52 Ms [51],.un 53 52,mV 54 53,gF 54 (fA 55 6 11),gF 54 (lF 56 55 1),gF 54 (fA 57 1 7),gF 54 (lF 58 57 1),gF 54 (.cq 59 V1 [56,(kI 0),58]),gF 54 (.un 60 59),.pk 61 54 (cB true) 60,mV 62 61,gF 62 (fA 63 6 11),gF 62 (lF 64 63 1),gF 62 (fA 65 6 0),gF 62 (fA 66 65 9),gF 62 (lF 67 66 1),gF 62 (bI 68 .add 64 67),gF 62 (fA 69 1 7),gF 62 (lF 70 69 1),gF 62 (.bi 71 .add 70 (kI 1)),gF 62 (.cq 72 V1 [68,71,(kI 1000000000)]),gF 62 (.un 73 72),.pk 74 62 (cB true) 73]
 (.cond 74 (sR [.bd 75 [.nl,.nl,.nl,.nl,.nl] [],.st 2 75 5,.mv 3 (cB false)]
 gR)
 .skip))
 (sR [lT 77 4 5,fA 78 6 0,lT 79 78 11,fA 80 1 7,lF 81 80 1,fA 82 6 11,lF 83 82 1,fA 84 6 0,fA 85 84 9,lF 86 85 1,bI 87 .add 83 86,fA 88 6 12,lF 89 88 1,.cq 90 M0d [77,79,81,87,89,(.c (.fn We []))],mV 76 90,eX 91 76 0,eX 92 76 1,.al 7 [.nl,.nl,.nl,.nl,.nl],.st 7 91 5,mV 8 92]
 (.seq (sR [mV 93 8,.un 94 93]
 (.cond 94 (sR [.bd 95 [.nl,.nl,.nl,.nl,.nl] [],.st 2 95 5,.mv 3 (cB false)]
 gR)
 .skip))
 (.reg [lT 96 7 5,.st 4 96 5]))))))
 (.reg [.bi 97 .add 46 (kI 1),mV 46 97]))))))))
 (sR [lT 98 4 5,.st 2 98 5,.mv 3 (cB true)]
 gR))))
def Mv(s1:State)(x5:Run)(_:Nat)(v5:Room)(k5:Room->Option (Room×Bool)):Option (Room×Bool) :=
 bif (((!(U7 x5.job))||(!(Z0 x5.t 0 s1.now)))||(!(Z0 (w64 (x5.t+x5.job.wall)) (w64 (s1.now+1)) 1000000000)))then(some ((Room.mk (Topo.mk [] []) [] [] []),false))else((M4 v5 x5.job s1.now (w64 (x5.t+x5.job.wall)) x5.nodes).bind fun y6=>bif (!y6.2)then(some ((Room.mk (Topo.mk [] []) [] [] []),false))else(k5 y6.1))
def X0b(v5:Room):Option (Room×Bool) :=
 some (v5,true)
def VA(s1:State):Option (Room×Bool) :=
 (Vj s1.topo).bind fun b2=>bif ((((!b2)||((s1.up.length:Int)!=(s1.topo.nodes.length:Int)))||(!(Z1 s1.lic)))||(!(X4 s1.now)))then(some ((Room.mk (Topo.mk [] []) [] [] []),false))else((O00 s1.topo s1.up s1.lic).bind fun y3=>rgl (Mv s1) X0b s1.runs 0 y3)
theorem Z0i{s1:State}{r:Room×Bool}(H:VA s1=some r):Snd Tryz.prog Q05 [Y2 .rd s1] (.tup [Z8 .nw r.1,.bool r.2]) []:=by
 refine wS Y10 [.c 2 5 true,.t 3] ?_
 unfold VA at H
 obtain⟨b2,h2,H⟩:=bB H
 refine wH [.c 11 (UW h2),.g 16 [((!b2),false)] (.ln _ _ fun _=>lm s1.up eBo),.g 20 [((!b2),false)] (.ln _ _ fun _=>lm s1.topo.nodes Q1),.g 26 [(((!b2)||((s1.up.length:Int)!=(s1.topo.nodes.length:Int))),false)] (.call _ _ _ _ _ (AEs.refl _) (fun _=>Z6 s1.lic)),.g 32 [((((!b2)||((s1.up.length:Int)!=(s1.topo.nodes.length:Int)))||(!(Z1 s1.lic))),false)] (.call _ _ _ _ _ (AEs.refl _) (fun _=>Lc s1.now))] ?_
 refine V0 H ?_ ?_<;>intro H
 .refine wP ?_
  replace H:=sI H;subst H
  exact wN [(2,.d),(3,.d)] [(2,[.n 1,.n 4,.n 1,.n 1,.n 4])] [] [] [] [⟨_,nw_I ([]:List Int)⟩,⟨_,V3 ([]:List Node)⟩,⟨_,Qf ([]:List Bool)⟩,⟨_,O6 ([]:List (List Pt))⟩,⟨_,Uf ([]:List Pt)⟩]
 .obtain⟨y3,h3,H⟩:=bB H
  refine wG [.c 42 (O1d h3),.u 45 (.ln _ _ fun _=>lm s1.runs (J0 .rd))] fun q4=>?_
  refine wR (fun(i5:Nat) (v5:Room)=>⟨[(1,.ptr 1 0),(2,.ptr 2 0),(4,.ptr 4 0),(44,rV 13 (s1.runs.map (J0 .rd))),(45,iV (s1.runs.length:Int)),(46,iV (i5:Int))],[],[(1,(Y2 .rd s1).cells),(2,[.nl,.nl,.nl,.nl,.nl]),(4,(Z8 .nw v5).cells)],[]⟩) H (fun i5 x5 v5 I m k5 hxv5 hiv5 H N40=>?_) (fun v5 I m H=>?_)
  .unfold Mv at H
   refine wP ?_
   refine wt (ltT hiv5) ?_
   refine wH [.u 48 (.ix _ _ _ fun _=>Y0 (J0 .rd) (W0 hxv5)),.c 52 (ZK x5.job),.g 59 [((!(U7 x5.job)),false)] (.call _ _ _ _ _ (AEs.refl _) (fun _=>Y1 x5.t 0 s1.now)),.g 72 [(((!(U7 x5.job))||(!(Z0 x5.t 0 s1.now))),false)] (.call _ _ _ _ _ (AEs.refl _) (fun _=>Y1 (w64 (x5.t+x5.job.wall)) (w64 (s1.now+1)) 1000000000))] ?_
   refine V0 H ?_ ?_<;>intro H
   .refine wP ?_
    replace H:=sI H;subst H
    exact wN [(2,.d),(3,.d)] [(2,[.n 1,.n 4,.n 1,.n 1,.n 4])] [] [] [] [⟨_,nw_I ([]:List Int)⟩,⟨_,V3 ([]:List Node)⟩,⟨_,Qf ([]:List Bool)⟩,⟨_,O6 ([]:List (List Pt))⟩,⟨_,Uf ([]:List Pt)⟩]
   .obtain⟨y6,h6,H⟩:=bB H
    refine wH [.u 90 (.call _ _ _ _ _ (AEs.of (xs:=[.agg [rV 1 (v5.topo.parents.map eI),rV 4 (v5.topo.nodes.map Q1),rV 1 (v5.up.map eBo),rV 1 (v5.profs.map (U1 .nw)),rV 4 (v5.lics.map ePt)],.agg [iV x5.job.id,iV x5.job.prio,iV x5.job.nodes,iV x5.job.need.a,iV x5.job.need.b,iV x5.job.need.c,iV x5.job.lic.a,iV x5.job.lic.b,iV x5.job.lic.c,iV x5.job.wall,iV x5.job.level],iV s1.now,iV (w64 (x5.t+x5.job.wall)),rV 1 (x5.nodes.map eI),.fn We []]) (by simp)) (fun _=>Li h6))] ?_
    refine V0 H ?_ ?_<;>intro H
    .refine wP ?_
     replace H:=sI H;subst H
     exact wN [(2,.d),(3,.d)] [(2,[.n 1,.n 4,.n 1,.n 1,.n 4])] [] [] [] [⟨_,nw_I ([]:List Int)⟩,⟨_,V3 ([]:List Node)⟩,⟨_,Qf ([]:List Bool)⟩,⟨_,O6 ([]:List (List Pt))⟩,⟨_,Uf ([]:List Pt)⟩]
    .refine wH [.w 97 (wi .i64 rfl hiv5 q4.1)] ?_
     exact wT (N40 _ H)
  .unfold X0b at H
   refine wP ?_
   refine wf (ltF s1.runs.length) ?_
   refine wP ?_
   replace H:=sI H;subst H
   exact wN [(2,.d),(3,.d)] [(2,[])] [] [] [] [⟨_,nw_I v5.topo.parents⟩,⟨_,V3 v5.topo.nodes⟩,⟨_,Qf v5.up⟩,⟨_,O6 v5.profs⟩,⟨_,Uf v5.lics⟩]
def X0w:L :=
sR [.bx 1 0,.mv 2 (.c (.nl))]
 (sR [.bs 6 11 [] true,fA 7 1 8,lF 8 7 1,.ap 9 6 8 11 88,mV 3 9]
 (.seq (sR [fA 10 1 9,lF 11 10 1,.ln 12 11,.mv 13 (kI 0)]
 (.blk 0 (.loop (.gw (sR [bI 14 .lss 13 12]
 (.seq (.cond 14 .skip
 (.exit 0))
 (.seq (.blk 1 (sR [iA 15 11 13 13,lT 16 15 13,.al 5 [.int .i64 0,.int .i64 0,.int .i64 0,.int .i64 0,.int .i64 0,.int .i64 0,.int .i64 0,.int .i64 0,.int .i64 0,.int .i64 0,.int .i64 0,.int .i64 0,.nl],.st 5 16 13]
 (.reg [mV 17 3,fA 18 5 0,lT 19 18 11,.bs 20 11 [19] false,.ap 21 17 20 11 88,mV 3 21])))
 (.reg [.bi 22 .add 13 (kI 1),mV 13 22]))))))))
 (sR [mV 23 3,mV 2 23]
 gR)))
def LT(x4:Run)(_:Nat)(v4:(List Job))(k4:(List Job)->Option (List Job)):Option (List Job) :=
 (appL 88 v4 [x4.job]).bind fun xs5=>k4 xs5
def MT(v4:(List Job)):Option (List Job) :=
 some v4
def QC(s1:State):Option (List Job) :=
 (appL 88 ([]:List Job) s1.queue).bind fun xs2=>rgl LT MT s1.runs 0 xs2
theorem M0w{s1:State}{r:(List Job)}(H:QC s1=some r):Snd Tryz.prog M07 [Y2 .rd s1] (nV 11 (r.map eJob)) []:=by
 refine wS X0w [.t 2] ?_
 unfold QC at H
 obtain⟨xs2,h2,H⟩:=bB H
 refine wG [.u 9 (.ap _ _ _ _ fun _=>Q0 eJob h2),.u 12 (.ln _ _ fun _=>lm s1.runs (J0 .rd))] fun q3=>?_
 refine wR (fun(i4:Nat) (v4:(List Job))=>⟨[(3,.sref 6),(11,rV 13 (s1.runs.map (J0 .rd))),(12,iV (s1.runs.length:Int)),(13,iV (i4:Int))],[],[],[(6,⟨11,v4.map eJob,false⟩)]⟩) H (fun i4 x4 v4 I m k4 hxv4 hiv4 H N15=>?_) (fun v4 I m H=>?_)
 .unfold LT at H
  refine wP ?_
  refine wt (ltT hiv4) ?_
  obtain⟨xs5,h5,H⟩:=bB H
  refine wH [.u 15 (.ix _ _ _ fun _=>Y0 (J0 .rd) (W0 hxv4)),.u 21 (.ap _ _ _ _ fun _=>Q0 eJob h5),.w 22 (wi .i64 rfl hiv4 q3.1)] ?_
  exact wT (N15 _ H)
 .unfold MT at H
  refine wP ?_
  refine wf (ltF s1.runs.length) ?_
  refine wP ?_
  replace H:=sI H;subst H
  exact wN [(2,.f)] [] [] [6] [] [⟨_,Wi v4⟩]
def W0P:L :=
sR [.bx 1 0,.mv 2 (cB false)]
 (.seq (sR [lT 12 1 11,cQ 13 Q05 [12],mV 11 13,eX 14 11 0,eX 15 11 1,.al 3 [.nl,.nl,.nl,.nl,.nl],.st 3 14 5,mV 4 15]
 (sR [mV 16 4,.un 17 16,mV 18 17,gF 18 (fA 19 1 6),gF 18 (lF 20 19 1),gF 18 (.cq 21 V1 [20,(kI 0),(kI 60)]),gF 18 (.un 22 21),.pk 23 18 (cB true) 22,mV 24 23,gF 24 (lT 25 1 11),gF 24 (cQ 26 M07 [25]),gF 24 (cQ 27 XY [26]),gF 24 (.un 28 27),.pk 29 24 (cB true) 28,mV 30 29,gF 30 (fA 31 1 10),gF 30 (lF 32 31 1),gF 30 (.ln 33 32),gF 30 (.bi 34 .gtr 33 (kI 300)),.pk 35 30 (cB true) 34]
 (.cond 35 (.seq (rE 2 (cB false))
 gR)
 .skip)))
 (.seq (sR [fA 36 1 9,lF 37 36 1,.ln 38 37,.mv 39 (kI 0)]
 (.blk 0 (.loop (.gw (sR [bI 40 .lss 39 38]
 (.seq (.cond 40 .skip
 (.exit 0))
 (.seq (.blk 1 (sR [iA 41 37 39 13,lT 42 41 13,.al 6 [.int .i64 0,.int .i64 0,.int .i64 0,.int .i64 0,.int .i64 0,.int .i64 0,.int .i64 0,.int .i64 0,.int .i64 0,.int .i64 0,.int .i64 0,.int .i64 0,.nl],.st 6 42 13]
 (.seq (sR [fA 43 6 12,lF 44 43 1,.ln 45 44,.mv 46 (kI 0)]
 (.blk 2 (.loop (.gw (sR [bI 47 .lss 46 45]
 (.seq (.cond 47 .skip
 (.exit 2))
 (.seq (.blk 3 (sR [iA 48 44 46 1,lF 49 48 1,mV 8 49]
 (sR [fA 50 1 2,lF 51 50 1,mV 52 8,iA 53 51 52 1,lF 54 53 1,.un 55 54]
 (.cond 55 (.seq (rE 2 (cB false))
 gR)
 .skip))))
 (.reg [.bi 56 .add 46 (kI 1),mV 46 56]))))))))
 (.seq (.rq 18 [fA 57 6 12,lF 58 57 1,cQ 59 VQ [58],.un 60 59,mV 61 60,gF 61 (fA 62 1 0),gF 61 (lT 63 62 2),gF 61 (fA 64 1 0),gF 61 (lT 65 64 2),gF 61 (fA 66 6 12),gF 61 (lF 67 66 1),gF 61 (cQ 68 M0s [65,67]),gF 61 (cQ 69 QE [63,68]),gF 61 (fA 70 6 0),gF 61 (fA 71 70 10),gF 61 (lF 72 71 1),gF 61 (bI 73 .gtr 69 72),.pk 74 61 (cB true) 73])
 (.cond 74 (.seq (rE 2 (cB false))
 gR)
 .skip)))))
 (.reg [.bi 75 .add 39 (kI 1),mV 39 75]))))))))
 (.seq (sR [fA 76 1 10,lF 77 76 1,.ln 78 77,.mv 79 (kI 0)]
 (.blk 4 (.loop (.gw (sR [bI 80 .lss 79 78]
 (.seq (.cond 80 .skip
 (.exit 4))
 (.seq (.blk 5 (sR [iA 81 77 79 3,lT 82 81 3,.al 10 [.int .i64 0,.int .i64 0,.int .i64 0],.st 10 82 3]
 (sR [fA 83 10 0,lF 84 83 1,.cq 85 V1 [84,(kI 1),(kI 999)],.un 86 85,mV 87 86,gF 87 (fA 88 10 1),gF 87 (lF 89 88 1),gF 87 (fA 90 1 7),gF 87 (lF 91 90 1),gF 87 (.cq 92 V1 [89,(kI 0),91]),gF 87 (.un 93 92),.pk 94 87 (cB true) 93,mV 95 94,gF 95 (fA 96 10 2),gF 95 (lF 97 96 1),gF 95 (.cq 98 V1 [97,(kI 1),(kI 4)]),gF 95 (.un 99 98),.pk 100 95 (cB true) 99]
 (.cond 100 (.seq (rE 2 (cB false))
 gR)
 .skip))))
 (.reg [.bi 101 .add 79 (kI 1),mV 79 101]))))))))
 (.seq (rE 2 (cB true))
 gR))))
def MG(s1:State)(x8:Int)(_:Nat)(_:Unit)(k8:Unit->Option Bool):Option Bool :=
 (idx s1.up x8).bind fun e9=>bif (!e9)then(some false)else(k8 ())
def OG(s1:State)(x6:Run)(k6:Unit->Option Bool)(_:Unit):Option Bool :=
 (Ze x6.nodes).bind fun b10=>(bif (!b10)then some default else(UA s1.topo x6.nodes)).bind fun n11=>(bif (!b10)then some default else(Ys s1.topo n11)).bind fun n12=>bif ((!b10)||(decide (x6.job.level<n12)))then(some false)else(k6 ())
def Vp(s1:State)(x14:End)(_:Nat)(_:Unit)(k14:Unit->Option Bool):Option Bool :=
 bif (((!(Z0 x14.id 1 999))||(!(Z0 x14.t 0 s1.now)))||(!(Z0 x14.why 1 4)))then(some false)else(k14 ())
def QG(_:Unit):Option Bool :=
 some true
def Up(s1:State)(x6:Run)(_:Nat)(_:Unit)(k6:Unit->Option Bool):Option Bool :=
 rgl (MG s1) (OG s1 x6 k6) x6.nodes 0 ()
def WG(s1:State)(_:Unit):Option Bool :=
 rgl (Vp s1) QG s1.ends 0 ()
def Vs(s1:State):Option Bool :=
 (VA s1).bind fun y2=>(bif ((!y2.2)||(!(Z0 s1.depth 0 60)))then some default else(QC s1)).bind fun y3=>(bif ((!y2.2)||(!(Z0 s1.depth 0 60)))then some default else(Us y3)).bind fun b4=>bif ((((!y2.2)||(!(Z0 s1.depth 0 60)))||(!b4))||(decide (300<(s1.ends.length:Int))))then(some false)else(rgl (Up s1) (WG s1) s1.runs 0 ())
theorem Y0b{s1:State}{r:Bool}(H:Vs s1=some r):Snd Tryz.prog YY [Y2 .rd s1] (.bool r) []:=by
 refine wS W0P [.t 2] ?_
 unfold Vs at H
 obtain⟨y2,h2,H⟩:=bB H
 obtain⟨y3,h3,H⟩:=bB H
 obtain⟨b4,h4,H⟩:=bB H
 refine wH [.c 13 (Z0i h2),.g 21 [((!y2.2),false)] (.call _ _ _ _ _ (AEs.refl _) (fun _=>Y1 s1.depth 0 60)),.g 26 [(_,false)] (.call _ _ _ _ _ (AEs.refl _) (fun q=>M0w (bF q.1 h3))),.g 27 [(_,false)] (.call _ _ _ _ _ (AEs.refl _) (fun q=>V0b (bF q.1 h4))),.g 33 [((((!y2.2)||(!(Z0 s1.depth 0 60)))||(!b4)),false)] (.ln _ _ fun _=>lm s1.ends eEnd)] ?_
 refine V0 H ?_ ?_<;>intro H
 .obtain rfl:=sI H
  exact wP (wE [(2,.d)])
 .refine wG [.u 38 (.ln _ _ fun _=>lm s1.runs (J0 .rd))] fun q5=>?_
  refine wR (fun(i6:Nat) (v6:Unit)=>⟨[(1,.ptr 1 0),(37,rV 13 (s1.runs.map (J0 .rd))),(38,iV (s1.runs.length:Int)),(39,iV (i6:Int))],[],[(1,(Y2 .rd s1).cells)],[]⟩) H (fun i6 x6 v6 I m k6 hxv6 hiv6 H N52=>?_) (fun v6 I m H=>?_)
  .unfold Up at H
   refine wP ?_
   refine wt (ltT hiv6) ?_
   refine wG [.u 41 (.ix _ _ _ fun _=>Y0 (J0 .rd) (W0 hxv6)),.u 45 (.ln _ _ fun _=>lm x6.nodes eI)] fun q7=>?_
   refine wR (fun(i8:Nat) (v8:Unit)=>⟨[(1,.ptr 1 0),(6,.ptr 6 0),(37,rV 13 (s1.runs.map (J0 .rd))),(38,iV (s1.runs.length:Int)),(39,iV (i6:Int)),(44,rV 1 (x6.nodes.map eI)),(45,iV (x6.nodes.length:Int)),(46,iV (i8:Int))],[],[(1,(Y2 .rd s1).cells),(6,(J0 .rd x6).cells)],[]⟩) H (fun i8 x8 v8 I m k8 hxv8 hiv8 H N35=>?_) (fun v8 I m H=>?_)
   .unfold MG at H
    refine wP ?_
    refine wt (ltT hiv8) ?_
    obtain⟨e9,h9,H⟩:=bB H
    refine wH [.u 48 (.ix _ _ _ fun _=>Y0 eI (W0 hxv8)),.u 53 (.ix _ _ _ fun _=>Y0 eBo h9)] ?_
    refine V0 H ?_ ?_<;>intro H
    .obtain rfl:=sI H
     exact wP (wE [(2,.d)])
    .refine wH [.w 56 (wi .i64 rfl hiv8 q7.1)] ?_
     exact wT (N35 () H)
   .unfold OG at H
    refine wP ?_
    refine wf (ltF x6.nodes.length) ?_
    obtain⟨b10,h10,H⟩:=bB H
    obtain⟨n11,h11,H⟩:=bB H
    obtain⟨n12,h12,H⟩:=bB H
    refine wH [.c 59 (X0g h10),.g 68 [(_,false)] (.call _ _ _ _ _ (AEs.refl _) (fun q=>W11 (bF q.1 h11))),.g 69 [(_,false)] (.call _ _ _ _ _ (AEs.refl _) (fun q=>WJ (bF q.1 h12)))] ?_
    refine V0 H ?_ ?_<;>intro H
    .obtain rfl:=sI H
     exact wP (wE [(2,.d)])
    .refine wH [.w 75 (wi .i64 rfl hiv6 q5.1)] ?_
     exact wT (N52 () H)
  .unfold WG at H
   refine wP ?_
   refine wf (ltF s1.runs.length) ?_
   refine wG [.u 78 (.ln _ _ fun _=>lm s1.ends eEnd)] fun q13=>?_
   refine wR (fun(i14:Nat) (v14:Unit)=>⟨[(1,.ptr 1 0),(77,rV 3 (s1.ends.map eEnd)),(78,iV (s1.ends.length:Int)),(79,iV (i14:Int))],[],[(1,(Y2 .rd s1).cells)],[]⟩) H (fun i14 x14 v14 I m k14 hxv14 hiv14 H N74=>?_) (fun v14 I m H=>?_)
   .unfold Vp at H
    refine wP ?_
    refine wt (ltT hiv14) ?_
    refine wH [.u 81 (.ix _ _ _ fun _=>Y0 eEnd (W0 hxv14)),.c 85 (Y1 x14.id 1 999),.g 92 [((!(Z0 x14.id 1 999)),false)] (.call _ _ _ _ _ (AEs.refl _) (fun _=>Y1 x14.t 0 s1.now)),.g 98 [(((!(Z0 x14.id 1 999))||(!(Z0 x14.t 0 s1.now))),false)] (.call _ _ _ _ _ (AEs.refl _) (fun _=>Y1 x14.why 1 4))] ?_
    refine V0 H ?_ ?_<;>intro H
    .obtain rfl:=sI H
     exact wP (wE [(2,.d)])
    .refine wH [.w 101 (wi .i64 rfl hiv14 q13.1)] ?_
     exact wT (N74 () H)
   .unfold QG at H
    refine wP ?_
    refine wf (ltF s1.ends.length) ?_
    obtain rfl:=sI H
    exact wP (wE [(2,.d)])
def L0o:L :=
sR [.bx 4 0,.mv 8 (.c (.nl)),.mv 9 (.c (.nl)),.mv 10 (cB false)]
 (.seq (sR [lT 21 4 5,cQ 22 WK [21],.un 23 22,mV 24 23,gF 24 (mV 25 2),gF 24 (cQ 26 XY [25]),gF 24 (.un 27 26),.pk 28 24 (cB true) 27,mV 29 28,gF 29 (mV 30 1),gF 29 (cQ 31 L9 [30]),gF 29 (.un 32 31),.pk 33 29 (cB true) 32,mV 34 33,gF 34 (mV 35 3),gF 34 (.cq 36 V1 [35,(kI 0),(kI 60)]),gF 34 (.un 37 36),.pk 38 34 (cB true) 37]
 (.cond 38 (sR [.mv 8 (.c (.nl)),.mv 9 (.c (.nl)),.mv 10 (cB false)]
 gR)
 .skip))
 (sR [.bs 39 3 [] true,.bs 40 3 [] true,mV 11 39,mV 12 40]
 (.seq (sR [mV 41 2,cQ 42 Z0B [41],.ln 43 42,.mv 44 (kI 0)]
 (.blk 0 (.loop (.gw (sR [bI 45 .lss 44 43]
 (.seq (.cond 45 .skip
 (.exit 0))
 (.seq (.blk 1 (sR [iA 46 42 44 11,lT 47 46 11,.al 14 [.int .i64 0,.int .i64 0,.int .i64 0,.int .i64 0,.int .i64 0,.int .i64 0,.int .i64 0,.int .i64 0,.int .i64 0,.int .i64 0,.int .i64 0],.st 14 47 11]
 (sR [lT 49 4 5,lT 50 14 11,mV 51 1,cQ 52 Y0e [49,50,51],mV 48 52,eX 53 48 0,eX 54 48 1,eX 55 48 2,mV 15 53,mV 16 54,mV 17 55]
 (.seq (sR [mV 56 17,.un 57 56,mV 58 57,gF 58 (mV 59 15),gF 58 (mV 60 1),gF 58 (bI 61 .gtr 59 60),gF 58 (mV 62 61),gT 62 (mV 63 12),gT 62 (.ln 64 63),gT 62 (mV 65 3),gT 62 (bI 66 .geq 64 65),gF 58 (.pk 67 62 66 (cB false)),.pk 68 58 (cB true) 67]
 (.cond 68 (.exit 1)
 .skip))
 (sR [lT 70 4 5,lT 71 14 11,mV 72 15,mV 73 16,cQ 74 V0j [70,71,72,73],mV 69 74,eX 75 69 0,eX 76 69 1,.al 18 [.nl,.nl,.nl,.nl,.nl],.st 18 75 5,mV 19 76]
 (.seq (sR [mV 77 19,.un 78 77]
 (.cond 78 (.exit 1)
 .skip))
 (sR [lT 79 18 5,.st 4 79 5]
 (sR [fA 80 14 0,lF 81 80 1,mV 82 15,mV 83 16,.bd 84 [.int .i64 0,.int .i64 0,.nl] [(0,1,81),(1,1,82),(2,1,83)],.al 20 [.int .i64 0,.int .i64 0,.nl],.st 20 84 3]
 (sR [mV 85 15,mV 86 1,bI 87 .eql 85 86]
 (.cond 87 (.reg [mV 88 11,lT 89 20 3,.bs 90 3 [89] false,.ap 91 88 90 3 40,mV 11 91])
 (.reg [mV 92 12,lT 93 20 3,.bs 94 3 [93] false,.ap 95 92 94 3 40,mV 12 95])))))))))))
 (.reg [.bi 96 .add 44 (kI 1),mV 44 96]))))))))
 (sR [mV 97 11,mV 98 12,mV 8 97,mV 9 98,.mv 10 (cB true)]
 gR))))
def Z0n:List Rv:=[.t 8,.t 9,.t 10]
theorem Z0r:MA Tryz.prog W05 4 L0o Z0n=true:=by kernel_rfl
def Qq(now2 depth4:Int)(x11:Job)(_:Nat)(v11:Room×(List Held)×(List Held))(k11:(Room×(List Held)×(List Held))->Option ((List Held)×(List Held)×Bool)):Option ((List Held)×(List Held)×Bool) :=
 (Wl v11.1 x11 now2).bind fun y12=>bif ((!y12.2.2)||((decide (now2<y12.1))&&(decide (depth4<=(v11.2.2.length:Int)))))then(k11 (v11.1,v11.2.1,v11.2.2))else((VE v11.1 x11 y12.1 y12.2.1).bind fun y13=>bif (!y13.2)then(k11 (v11.1,v11.2.1,v11.2.2))else(bif (y12.1==now2)then((appL 40 v11.2.1 [(Held.mk x11.id y12.1 y12.2.1)]).bind fun xs14=>k11 (y13.1,xs14,v11.2.2))else((appL 40 v11.2.2 [(Held.mk x11.id y12.1 y12.2.1)]).bind fun xs15=>k11 (y13.1,v11.2.1,xs15))))
def XP(v11:Room×(List Held)×(List Held)):Option ((List Held)×(List Held)×Bool) :=
 some (v11.2.1,v11.2.2,true)
def Xe(r1:Room)(now2:Int)(l3:List Job)(depth4:Int):Option ((List Held)×(List Held)×Bool) :=
 (Xq r1).bind fun b5=>(bif (!b5)then some default else(Us l3)).bind fun b6=>bif ((((!b5)||(!b6))||(!(X4 now2)))||(!(Z0 depth4 0 60)))then(some ([],[],false))else((W00 l3).bind fun y9=>rgl (Qq now2 depth4) XP y9 0 (r1,[],[]))
set_option maxRecDepth 20000 in
theorem O0p{r1:Room}{now2:Int}{l3:List Job}{depth4:Int}{r:(List Held)×(List Held)×Bool}(H:Xe r1 now2 l3 depth4=some r):ConD Tryz.prog W05 [Z8 .nw r1,iV now2,rV 11 (l3.map eJob),iV depth4] [] [] (.tup [.sref 0,.sref 1,.bool r.2.2]) [] [] [(3,r.1.map (Ml .nw)),(3,r.2.1.map (Ml .nw))]:=by
 refine Y1x [] Z0r rfl (by kernel_rfl) ?_
 unfold Xe at H
 obtain⟨b5,h5,H⟩:=bB H
 obtain⟨b6,h6,H⟩:=bB H
 refine wH [.u 22 (.call _ _ _ _ _ (AEs.of (xs:=[.agg [rV 1 (r1.topo.parents.map eI),rV 4 (r1.topo.nodes.map Q1),rV 1 (r1.up.map eBo),rV 1 (r1.profs.map (U1 .nw)),rV 4 (r1.lics.map ePt)]]) (by simp)) (fun _=>WW h5)),.g 26 [(_,false)] (.call _ _ _ _ _ (AEs.refl _) (fun q=>V0b (bF q.1 h6))),.g 31 [(((!b5)||(!b6)),false)] (.call _ _ _ _ _ (AEs.refl _) (fun _=>Lc now2)),.g 36 [((((!b5)||(!b6))||(!(X4 now2))),false)] (.call _ _ _ _ _ (AEs.refl _) (fun _=>Y1 depth4 0 60))] ?_
 refine V0 H ?_ ?_<;>intro H
 .refine wP ?_
  obtain rfl:=sI H
  exact O0c [(8,.z 700000007),(9,.z 700000008),(10,.d)] [] [(700000007,none,3),(700000008,none,3)] [] [700000007,700000008] (by kernel_rfl)
 .obtain⟨y9,h9,H⟩:=bB H
  refine wG [.c 42 (X1d h9),.u 43 (.ln _ _ fun _=>lm y9 eJob)] fun q10=>?_
  refine wR (fun(i11:Nat) (v11:Room×(List Held)×(List Held))=>⟨[(1,iV now2),(3,iV depth4),(4,.ptr 4 0),(11,.sref 39),(12,.sref 40),(42,nV 11 (y9.map eJob)),(43,iV (y9.length:Int)),(44,iV (i11:Int))],[],[(4,(Z8 .nw v11.1).cells)],[(39,⟨3,v11.2.1.map (Ml .nw),false⟩),(40,⟨3,v11.2.2.map (Ml .nw),false⟩)]⟩) H (fun i11 x11 v11 I m k11 hxv11 hiv11 H N46=>?_) (fun v11 I m H=>?_)
  .unfold Qq at H
   refine wP ?_
   refine wt (ltT hiv11) ?_
   obtain⟨y12,h12,H⟩:=bB H
   refine wH [.u 46 (.ix _ _ _ fun _=>Y0 eJob (W0 hxv11)),.u 52 (.call _ _ _ _ _ (AEs.of (xs:=[.agg [rV 1 (v11.1.topo.parents.map eI),rV 4 (v11.1.topo.nodes.map Q1),rV 1 (v11.1.up.map eBo),rV 1 (v11.1.profs.map (U1 .nw)),rV 4 (v11.1.lics.map ePt)],.agg [iV x11.id,iV x11.prio,iV x11.nodes,iV x11.need.a,iV x11.need.b,iV x11.need.c,iV x11.lic.a,iV x11.lic.b,iV x11.lic.c,iV x11.wall,iV x11.level],iV now2]) (by simp)) (fun _=>U0G h12)),.g 64 [((decide (now2<y12.1)),true),((!y12.2.2),false)] (.ln _ _ fun _=>lm v11.2.2 (Ml .nw))] ?_
   refine V0 H ?_ ?_<;>intro H
   .refine wH [.w 96 (wi .i64 rfl hiv11 q10.1)] ?_
    exact wT (N46 _ H)
   .obtain⟨y13,h13,H⟩:=bB H
    refine wH [.u 74 (.call _ _ _ _ _ (AEs.of (xs:=[.agg [rV 1 (v11.1.topo.parents.map eI),rV 4 (v11.1.topo.nodes.map Q1),rV 1 (v11.1.up.map eBo),rV 1 (v11.1.profs.map (U1 .nw)),rV 4 (v11.1.lics.map ePt)],.agg [iV x11.id,iV x11.prio,iV x11.nodes,iV x11.need.a,iV x11.need.b,iV x11.need.c,iV x11.lic.a,iV x11.lic.b,iV x11.lic.c,iV x11.wall,iV x11.level],iV y12.1,rV 1 (y12.2.1.map eI)]) (by simp)) (fun _=>W0Q h13))] ?_
    refine V0 H ?_ ?_<;>intro H
    .refine wH [.w 96 (wi .i64 rfl hiv11 q10.1)] ?_
     exact wT (N46 _ H)
    .refine wP ?_
     refine V0 H ?_ ?_<;>intro H
     .obtain⟨xs14,h14,H⟩:=bB H
      refine wH [.u 91 (.ap _ _ _ _ fun _=>Q0 (Ml .nw) h14),.w 96 (wi .i64 rfl hiv11 q10.1)] ?_
      exact wT (N46 _ H)
     .obtain⟨xs15,h15,H⟩:=bB H
      refine wH [.u 95 (.ap _ _ _ _ fun _=>Q0 (Ml .nw) h15),.w 96 (wi .i64 rfl hiv11 q10.1)] ?_
      exact wT (N46 _ H)
  .unfold XP at H
   refine wP ?_
   refine wf (ltF y9.length) ?_
   refine wP ?_
   obtain rfl:=sI H
   exact O0c [(8,.d),(9,.d),(10,.d)] [] [(39,some 39,0),(40,some 40,0)] [] [39,40] (by kernel_rfl)
def Y0P:L :=
sR [.bx 1 0,.al 2 [.nl,.nl,.nl,.int .i64 0,.int .i64 0,.int .i64 0,.int .i64 0,.int .i64 0,.nl,.nl,.nl]]
 (sR [lT 13 1 11,cQ 14 Q05 [13],mV 12 14,eX 15 12 0,eX 16 12 1,.al 3 [.nl,.nl,.nl,.nl,.nl],.st 3 15 5,mV 4 16]
 (sR [lT 18 3 5,fA 19 1 7,lF 20 19 1,fA 21 1 8,lF 22 21 1,fA 23 1 6,lF 24 23 1,.cm 25 W05 [18,20,22,24],mV 17 25,eX 26 17 0,eX 27 17 1,eX 28 17 2,mV 5 26,mV 6 27,mV 7 28]
 (sR [lT 29 1 11,.cl 30 Lp [29],.al 8 [.nl,.nl,.nl,.int .i64 0,.int .i64 0,.int .i64 0,.int .i64 0,.int .i64 0,.nl,.nl,.nl],.st 8 30 11]
 (.seq (sR [mV 31 5,.ln 32 31,.mv 33 (kI 0)]
 (.blk 0 (.loop (.gw (sR [bI 34 .lss 33 32]
 (.seq (.cond 34 .skip
 (.exit 0))
 (.seq (.blk 1 (sR [iA 35 31 33 3,lT 36 35 3,.al 10 [.int .i64 0,.int .i64 0,.nl],.st 10 36 3]
 (sR [fA 37 8 8,lF 38 37 1,fA 39 10 0,lF 40 39 1,cQ 41 Y0B [38,40],mV 11 41]
 (.seq (.rq 13 [fA 42 8 9,lF 43 42 1,fA 44 8 8,lF 45 44 1,mV 46 11,iA 47 45 46 11,lT 48 47 11,fA 49 1 7,lF 50 49 1,fA 51 10 2,lF 52 51 1,.bd 53 [.int .i64 0,.int .i64 0,.int .i64 0,.int .i64 0,.int .i64 0,.int .i64 0,.int .i64 0,.int .i64 0,.int .i64 0,.int .i64 0,.int .i64 0,.int .i64 0,.nl] [(0,11,48),(11,1,50),(12,1,52)],.bs 54 13 [53] false,.ap 55 43 54 13 120,fA 56 8 9,.st 56 55 1])
 (.reg [fA 57 8 8,lF 58 57 1,mV 59 11,mV 60 11,.bi 61 .add 60 (kI 1),.cm 62 J6 [58,59,61],fA 63 8 8,.st 63 62 1])))))
 (.reg [.bi 64 .add 33 (kI 1),mV 33 64]))))))))
 (sR [lT 65 8 11,.st 2 65 11]
 gR)))))
def Xp(s1:State)(x6:Held)(_:Nat)(v6:(List Job)×(List Run))(k6:((List Job)×(List Run))->Option State):Option State :=
 (Q0f v6.1 x6.id).bind fun n7=>(idx v6.1 n7).bind fun e8=>(appL 120 v6.2 [(Run.mk e8 s1.now x6.nodes)]).bind fun xs9=>(J0R v6.1 n7 (w64 (n7+1))).bind fun xs10=>k6 (xs10,xs9)
def L06(y4:State)(v6:(List Job)×(List Run)):Option State :=
 some (State.mk y4.topo y4.up y4.lic y4.depth y4.now v6.1 v6.2 y4.ends)
def Jr(s1:State):Option State :=
 (VA s1).bind fun y2=>(Xe y2.1 s1.now s1.queue s1.depth).bind fun y3=>(Jc s1).bind fun y4=>rgl (Xp s1) (L06 y4) y3.1 0 (y4.queue,y4.runs)
theorem Y0Q{s1 r:State}(H:Jr s1=some r):Snd Tryz.prog X0j [Y2 .rd s1] (.agg [nV 1 (r.topo.parents.map eI),nV 4 (r.topo.nodes.map Q1),nV 1 (r.up.map eBo),iV r.lic.a,iV r.lic.b,iV r.lic.c,iV r.depth,iV r.now,nV 11 (r.queue.map eJob),nV 13 (r.runs.map (J0 .nw)),.sref 0]) [⟨3,r.ends.map eEnd,false⟩]:=by
 refine wS Y0P [.c 2 11 true] ?_
 unfold Jr at H
 obtain⟨y2,h2,H⟩:=bB H
 obtain⟨y3,h3,H⟩:=bB H
 obtain⟨y4,h4,H⟩:=bB H
 refine wG [.c 14 (Z0i h2),.u 25 (.cw W05 [] [] [] [] [Z8 .nw y2.1,iV s1.now,rV 11 (s1.queue.map eJob),iV s1.depth] _ _ _ _ _ (GEs.of [true,false,false,false] (by simp)) (by simp) (by simp) (by simp) (fun _=>O0p h3)),.c 30 (Oz h4),.u 32 (.ln _ _ fun _=>lm y3.1 (Ml .nw))] fun q5=>?_
 refine wR (fun(i6:Nat) (v6:(List Job)×(List Run))=>⟨[(1,.ptr 1 0),(2,.ptr 2 0),(8,.ptr 8 0),(31,.sref 26000),(32,iV (y3.1.length:Int)),(33,iV (i6:Int))],[],[(1,(Y2 .rd s1).cells),(2,[.nl,.nl,.nl,iV 0,iV 0,iV 0,iV 0,iV 0,.nl,.nl,.nl]),(8,[nV 1 (y4.topo.parents.map eI),nV 4 (y4.topo.nodes.map Q1),nV 1 (y4.up.map eBo),iV y4.lic.a,iV y4.lic.b,iV y4.lic.c,iV y4.depth,iV y4.now,.sref 31000,.sref 31001,.sref 31002])],[(31000,⟨11,v6.1.map eJob,false⟩),(31001,⟨13,v6.2.map (J0 .nw),false⟩),(31002,⟨3,y4.ends.map eEnd,false⟩),(26000,⟨3,y3.1.map (Ml .nw),false⟩)]⟩) H (fun i6 x6 v6 I m k6 hxv6 hiv6 H N21=>?_) (fun v6 I m H=>?_)
 .unfold Xp at H
  refine wP ?_
  refine wt (ltT hiv6) ?_
  obtain⟨n7,h7,H⟩:=bB H
  obtain⟨e8,h8,H⟩:=bB H
  obtain⟨xs9,h9,H⟩:=bB H
  obtain⟨xs10,h10,H⟩:=bB H
  refine wH [.u 35 (.ix _ _ _ fun _=>Y0 (Ml .nw) (W0 hxv6)),.u 36 (.el _ _ _ fun _=>gm (Ml .nw) (Q7 (W0 hxv6))),.c 41 (U1d h7),.u 47 (.ix _ _ _ fun _=>Y0 eJob h8),.u 48 (.el _ _ _ fun _=>gm eJob (Q7 h8)),.u 55 (.ap _ _ _ _ fun _=>Q0 (J0 .nw) h9),.u 62 (.cr J6 11 _ [iV n7,iV (w64 (n7+1))] _ true _ (fun _=>by simp) (fun _=>by simp) (fun _=>rfl) (fun _=>L1w h10)),.w 64 (wi .i64 rfl hiv6 q5.1)] ?_
  exact wU (N21 _ H) [] [] [(31000,(some 63000,0))] []
 .unfold L06 at H
  refine wP ?_
  refine wf (ltF y3.1.length) ?_
  refine wP ?_
  replace H:=sI H;subst H
  exact wN [(2,.d)] [(2,[.d,.d,.d,.d,.d,.d,.d,.d,.f,.f,.d])] [(31002,some 31002,0)] [31000,31001] [some 31002] [⟨_,nw_I y4.topo.parents⟩,⟨_,V3 y4.topo.nodes⟩,⟨_,Qf y4.up⟩,⟨_,Wi v6.1⟩,⟨_,Qi v6.2⟩,⟨_,WD y4.ends⟩]
def X0P:L :=
sR [.bx 1 0,.mv 2 (kI 0)]
 (.seq (rE 3 (kI (-1)))
 (.seq (sR [fA 7 1 9,lF 8 7 1,.ln 9 8,.mv 10 (kI 0)]
 (.blk 0 (.loop (.gw (sR [bI 11 .lss 10 9]
 (.seq (.cond 11 .skip
 (.exit 0))
 (.seq (.blk 1 (sR [iA 12 8 10 13,lT 13 12 13,.al 5 [.int .i64 0,.int .i64 0,.int .i64 0,.int .i64 0,.int .i64 0,.int .i64 0,.int .i64 0,.int .i64 0,.int .i64 0,.int .i64 0,.int .i64 0,.int .i64 0,.nl],.st 5 13 13]
 (sR [fA 14 5 11,lF 15 14 1,fA 16 5 0,fA 17 16 9,lF 18 17 1,bI 19 .add 15 18,mV 6 19]
 (sR [mV 20 3,.bi 21 .lss 20 (kI 0),mV 22 21,gF 22 (mV 23 6),gF 22 (mV 24 3),gF 22 (bI 25 .lss 23 24),.pk 26 22 (cB true) 25]
 (.cond 26 (.reg [mV 27 6,mV 3 27])
 .skip)))))
 (.reg [.bi 28 .add 10 (kI 1),mV 10 28]))))))))
 (sR [mV 29 3,mV 2 29]
 gR)))
def YG(x3:Run)(_:Nat)(v3:Int)(k3:Int->Option Int):Option Int :=
 bif ((decide (v3<0))||(decide ((w64 (x3.t+x3.job.wall))<v3)))then(k3 (w64 (x3.t+x3.job.wall)))else(k3 v3)
def J06(v3:Int):Option Int :=
 some v3
def Zs(s1:State):Option Int :=
 rgl YG J06 s1.runs 0 (-1)
theorem O0a{s1:State}{r:Int}(H:Zs s1=some r):Snd Tryz.prog ZY [Y2 .rd s1] (iV r) []:=by
 refine wS X0P [.t 2] ?_
 unfold Zs at H
 refine wG [.u 9 (.ln _ _ fun _=>lm s1.runs (J0 .rd))] fun q2=>?_
 refine wR (fun(i3:Nat) (v3:Int)=>⟨[(3,iV v3),(8,rV 13 (s1.runs.map (J0 .rd))),(9,iV (s1.runs.length:Int)),(10,iV (i3:Int))],[],[],[]⟩) H (fun i3 x3 v3 I m k3 hxv3 hiv3 H N21=>?_) (fun v3 I m H=>?_)
 .unfold YG at H
  refine wP ?_
  refine wt (ltT hiv3) ?_
  refine wH [.u 12 (.ix _ _ _ fun _=>Y0 (J0 .rd) (W0 hxv3))] ?_
  refine V0 H ?_ ?_<;>intro H
  .refine wH [.w 28 (wi .i64 rfl hiv3 q2.1)] ?_
   exact wT (N21 _ H)
  .refine wH [.w 28 (wi .i64 rfl hiv3 q2.1)] ?_
   exact wT (N21 _ H)
 .unfold J06 at H
  refine wP ?_
  refine wf (ltF s1.runs.length) ?_
  obtain rfl:=sI H
  exact wP (wE [(2,.d)])
def Q0P:L :=
sR [.bx 2 0,.mv 3 (cB false)]
 (sR [fA 4 2 11,lF 5 4 1,fA 6 2 0,fA 7 6 9,lF 8 7 1,bI 9 .add 5 8,lF 10 1 1,bI 11 .eql 9 10,mV 3 11]
 gR)
def UC(x1:Run)(x2:Int):Option Bool :=
 some ((w64 (x1.t+x1.job.wall))==x2)
theorem O0w{x1:Run}{x2:Int}{r:Bool}(H:UC x1 x2=some r):Snd Tryz.prog Lg [J0 .rd x1,.ept (.agg [iV x2]) 0] (.bool r) []:=by
 refine wS Q0P [.t 3] ?_
 unfold UC at H
 obtain rfl:=sI H
 exact wP (wE [(3,.d)])
def XE(x1:Run)(x2:Int):Bool :=
 ((w64 (x1.t+x1.job.wall))==x2)
theorem U11(x1:Run)(x2:Int):UC x1 x2=some (XE x1 x2):=by
 unfold UC XE
 first|rfl|simp only[X2]
theorem U0Q(x1:Run)(x2:Int):Snd Tryz.prog Lg [J0 .rd x1,.ept (.agg [iV x2]) 0] (.bool (XE x1 x2)) []:=O0w (U11 x1 x2)
def Mi:L :=
sR [.mv 6 (.c (.nl))]
 (sR [.bs 11 11 [] true,mV 7 11]
 (sR [.mv 8 (.c (.nl))]
 (.seq (sR [mV 12 0,.nc 13 12,fA 14 13 9,lF 15 14 1,.ln 16 15,.mv 17 (kI 0)]
 (.blk 0 (.loop (.gw (sR [bI 18 .lss 17 16]
 (.seq (.cond 18 .skip
 (.exit 0))
 (.seq (.blk 1 (sR [iA 19 15 17 13,lT 20 19 13,.al 10 [.int .i64 0,.int .i64 0,.int .i64 0,.int .i64 0,.int .i64 0,.int .i64 0,.int .i64 0,.int .i64 0,.int .i64 0,.int .i64 0,.int .i64 0,.int .i64 0,.nl],.st 10 20 13]
 (.seq (sR [mV 21 2,lT 22 10 13,.cc 23 21 [22],.un 24 23]
 (.cond 24 (sR [mV 25 8,lT 26 10 13,.bs 27 13 [26] false,.ap 28 25 27 13 120,mV 8 28]
 (.exit 1))
 .skip))
 (sR [mV 29 7,fA 30 10 0,lT 31 30 11,.bs 32 11 [31] false,.ap 33 29 32 11 88,mV 7 33]
 (.rz [] [(0,false,mV 34 0),
 (1,false,mV 35 0),
 (2,false,.nc 36 35),
 (3,false,fA 37 36 10),
 (5,false,fA 39 10 0),
 (6,false,fA 40 39 0),
 (7,false,lF 41 40 1),
 (8,false,mV 42 0),
 (9,false,.nc 43 42),
 (10,false,fA 44 43 7),
 (11,false,lF 45 44 1),
 (12,false,mV 46 1),
 (13,false,.bd 47 [.int .i64 0,.int .i64 0,.int .i64 0] [(0,1,41),(1,1,45),(2,1,46)]),
 (14,false,.bs 48 3 [47] false),
 (4,true,lF 38 37 1),
 (15,true,.ap 49 38 48 3 24)]
 [.nc 50 34,fA 51 50 10,.st 51 49 1])))))
 (.reg [.bi 52 .add 17 (kI 1),mV 17 52]))))))))
 (sR [mV 53 0,mV 54 8,.nc 55 53,fA 56 55 9,.st 56 54 1]
 (sR [mV 57 7,mV 6 57]
 gR)))))
def Ui:List Rv:=[.t 6]
theorem Wj:MA Tryz.prog Uh 3 Mi Ui=true:=by kernel_rfl
def J1(s1:State)(why2 c3:Int)(x5:Run)(_:Nat)(v5:(List End)×(List Job)×(List Run))(k5:((List End)×(List Job)×(List Run))->Option ((List Job)×State)):Option ((List Job)×State) :=
 bif (!(XE x5 c3))then((appL 120 v5.2.2 [x5]).bind fun xs6=>k5 (v5.1,v5.2.1,xs6))else((appL 88 v5.2.1 [x5.job]).bind fun xs7=>(appL 24 v5.1 [(End.mk x5.job.id s1.now why2)]).bind fun xs8=>k5 (xs8,xs7,v5.2.2))
def J2(s1:State)(v5:(List End)×(List Job)×(List Run)):Option ((List Job)×State) :=
 some (v5.2.1,(State.mk s1.topo s1.up s1.lic s1.depth s1.now s1.queue v5.2.2 v5.1))
def L3(s1:State)(why2 c3:Int):Option ((List Job)×State) :=
 rgl (J1 s1 why2 c3) (J2 s1) s1.runs 0 (s1.ends,[],[])
set_option maxRecDepth 20000 in
theorem Uj{s1:State}{why2 c3:Int}{r:(List Job)×State}(H:L3 s1 why2 c3=some r):ConD Tryz.prog Uh [.ptr 0 0,iV why2,.fn Lg [.ept (.agg [iV c3]) 0]] [[nV 1 (s1.topo.parents.map eI),nV 4 (s1.topo.nodes.map Q1),nV 1 (s1.up.map eBo),iV s1.lic.a,iV s1.lic.b,iV s1.lic.c,iV s1.depth,iV s1.now,nV 11 (s1.queue.map eJob),nV 13 (s1.runs.map (J0 .nw)),.sref 0]] [(3,s1.ends.map eEnd)] (.sref 1) [[nV 1 (r.2.topo.parents.map eI),nV 4 (r.2.topo.nodes.map Q1),nV 1 (r.2.up.map eBo),iV r.2.lic.a,iV r.2.lic.b,iV r.2.lic.c,iV r.2.depth,iV r.2.now,nV 11 (r.2.queue.map eJob),.sref 2,.sref 3]] [none] [(11,r.1.map eJob),(13,r.2.runs.map (J0 .nw)),(3,r.2.ends.map eEnd)]:=by
 refine Y1x [false] Wj rfl (by kernel_rfl) ?_
 unfold L3 at H
 refine wG [.u 16 (.ln _ _ fun _=>lm s1.runs (J0 .nw))] fun q4=>?_
 refine Q0c (fun(i5:Nat) (v5:(List End)×(List Job)×(List Run))=>⟨[(0,.ptr 2000000000 0),(1,iV why2),(2,.fn Lg [.ept (.agg [iV c3]) 0]),(7,.sref 11),(8,.sref 228002),(15,nV 13 (s1.runs.map (J0 .nw))),(16,iV (s1.runs.length:Int)),(17,iV (i5:Int))],[],[(2000000000,[nV 1 (s1.topo.parents.map eI),nV 4 (s1.topo.nodes.map Q1),nV 1 (s1.up.map eBo),iV s1.lic.a,iV s1.lic.b,iV s1.lic.c,iV s1.depth,iV s1.now,nV 11 (s1.queue.map eJob),nV 13 (s1.runs.map (J0 .nw)),.sref 500000000])],[(500000000,⟨3,v5.1.map eEnd,false⟩),(11,⟨11,v5.2.1.map eJob,false⟩),(228002,⟨13,v5.2.2.map (J0 .nw),false⟩)]⟩) [(8,.z 228002)] [] [(228002,(none,13))] [] (by kernel_rfl) (by kernel_rfl) H (fun i5 x5 v5 I m k5 hxv5 hiv5 H N26=>?_) (fun v5 I m H=>?_)
 .unfold J1 at H
  refine wP ?_
  refine wt (ltT hiv5) ?_
  refine wH [.u 19 (.ix _ _ _ fun _=>Y0 (J0 .nw) (W0 hxv5)),.u 23 (.clsr _ _ _ _ _ (AEs.refl _) (by kernel_rfl) (fun _=>U0Q x5 c3))] ?_
  refine V0 H ?_ ?_<;>intro H
  .obtain⟨xs6,h6,H⟩:=bB H
   refine wH [.u 28 (.ap _ _ _ _ fun _=>Q0 (J0 .nw) h6),.w 52 (wi .i64 rfl hiv5 q4.1)] ?_
   exact wT (N26 _ H)
  .obtain⟨xs7,h7,H⟩:=bB H
   obtain⟨xs8,h8,H⟩:=bB H
   refine wH [.u 33 (.ap _ _ _ _ fun _=>Q0 eJob h7),.u 49 (.ap _ _ _ _ fun _=>Q0 eEnd h8),.w 52 (wi .i64 rfl hiv5 q4.1)] ?_
   exact wT (N26 _ H)
 .unfold J2 at H
  refine wP ?_
  refine wf (ltF s1.runs.length) ?_
  refine wP ?_
  obtain rfl:=sI H
  exact O0c [(6,.d)] [(2000000000,[])] [(11,some 11,0),(228002,some 228002,0),(500000000,some 500000000,0)] [] [11,228002,500000000] (by kernel_rfl)
def W1c:L :=
sR [.bx 2 0,.al 4 [.nl,.nl,.nl,.int .i64 0,.int .i64 0,.int .i64 0,.int .i64 0,.int .i64 0,.nl,.nl,.nl],.mv 5 (cB false)]
 (.seq (sR [lT 7 2 11,cQ 8 YY [7],.un 9 8,mV 10 9,gF 10 (mV 11 1),gF 10 (fA 12 2 7),gF 10 (lF 13 12 1),gF 10 (.cq 14 V1 [11,13,(kI 1000000000)]),gF 10 (.un 15 14),.pk 16 10 (cB true) 15]
 (.cond 16 (sR [.bd 17 [.nl,.nl,.nl,.int .i64 0,.int .i64 0,.int .i64 0,.int .i64 0,.int .i64 0,.nl,.nl,.nl] [],.st 4 17 11,.mv 5 (cB false)]
 gR)
 .skip))
 (sR [lT 18 2 11,.cl 19 Lp [18],.st 2 19 11]
 (.seq (.blk 0 (.loop (.gw (.blk 1 (sR [lT 20 2 11,cQ 21 ZY [20],.al 6 [.int .i64 0],.st 6 21 1]
 (.seq (sR [lF 22 6 1,.bi 23 .lss 22 (kI 0),mV 24 23,gF 24 (lF 25 6 1),gF 24 (mV 26 1),gF 24 (bI 27 .gtr 25 26),.pk 28 24 (cB true) 27]
 (.cond 28 (.exit 0)
 .skip))
 (sR [lF 29 6 1,fA 30 2 7,.st 30 29 1]
 (sR [.fb 6,.mf 31 Lg [6],.cm 32 Uh [2,(kI 1),31]]
 (.seq (sR [fA 33 2 10,lF 34 33 1,.ln 35 34,.bi 36 .gtr 35 (kI 300)]
 (.cond 36 (sR [.bd 37 [.nl,.nl,.nl,.int .i64 0,.int .i64 0,.int .i64 0,.int .i64 0,.int .i64 0,.nl,.nl,.nl] [],.st 4 37 11,.mv 5 (cB false)]
 gR)
 .skip))
 (.reg [lT 38 2 11,.cl 39 X0j [38],.st 2 39 11]))))))))))
 (sR [mV 40 1,fA 41 2 7,.st 41 40 1]
 (sR [lT 42 2 11,.st 4 42 11,.mv 5 (cB true)]
 gR)))))
def Vn(t2:Int)(v5:State)(k5:State->Option (State×Bool)):Option (State×Bool) :=
 (Zs v5).bind fun n6=>bif ((decide (n6<0))||(decide (t2<n6)))then(some ((State.mk v5.topo v5.up v5.lic v5.depth t2 v5.queue v5.runs v5.ends),true))else((L3 (State.mk v5.topo v5.up v5.lic v5.depth n6 v5.queue v5.runs v5.ends) 1 n6).bind fun y7=>bif (decide (300<(y7.2.ends.length:Int)))then(some ((State.mk (Topo.mk [] []) [] (Vec.mk 0 0 0) 0 0 [] [] []),false))else((Jr y7.2).bind fun y9=>k5 y9))
def QL(s1:State)(t2:Int):Option (State×Bool) :=
 (Vs s1).bind fun b3=>bif ((!b3)||(!(Z0 t2 s1.now 1000000000)))then(some ((State.mk (Topo.mk [] []) [] (Vec.mk 0 0 0) 0 0 [] [] []),false))else((Jc s1).bind fun y4=>whl (Vn t2) 9223372036854775807 y4)
theorem Y1e{s1:State}{t2:Int}{r:State×Bool}(H:QL s1 t2=some r):Snd Tryz.prog U0B [Y2 .rd s1,iV t2] (.tup [Y2 .nw r.1,.bool r.2]) []:=by
 refine wS W1c [.c 4 11 true,.t 5] ?_
 unfold QL at H
 obtain⟨b3,h3,H⟩:=bB H
 refine wH [.c 8 (Y0b h3),.g 14 [((!b3),false)] (.call _ _ _ _ _ (AEs.refl _) (fun _=>Y1 t2 s1.now 1000000000))] ?_
 refine V0 H ?_ ?_<;>intro H
 .refine wP ?_
  replace H:=sI H;subst H
  exact wN [(4,.d),(5,.d)] [(4,[.n 1,.n 4,.n 1,.d,.d,.d,.d,.d,.n 11,.n 13,.n 3])] [] [] [] [⟨_,nw_I ([]:List Int)⟩,⟨_,V3 ([]:List Node)⟩,⟨_,Qf ([]:List Bool)⟩,⟨_,Wi ([]:List Job)⟩,⟨_,Qi ([]:List Run)⟩,⟨_,WD ([]:List End)⟩]
 .obtain⟨y4,h4,H⟩:=bB H
  refine wH [.c 19 (Oz h4)] ?_
  refine U1u (fun(v5:State)=>⟨[(1,iV t2),(2,.ptr 2 0),(4,.ptr 4 0)],[],[(2,[nV 1 (v5.topo.parents.map eI),nV 4 (v5.topo.nodes.map Q1),nV 1 (v5.up.map eBo),iV v5.lic.a,iV v5.lic.b,iV v5.lic.c,iV v5.depth,iV v5.now,nV 11 (v5.queue.map eJob),nV 13 (v5.runs.map (J0 .nw)),.sref 20002]),(4,[.nl,.nl,.nl,iV 0,iV 0,iV 0,iV 0,iV 0,.nl,.nl,.nl])],[(20002,⟨3,v5.ends.map eEnd,false⟩)]⟩) [] [(2,[.d,.d,.d,.d,.d,.d,.d,.d,.f,.f,.d])] [] [20000,20001] (by kernel_rfl) (by kernel_rfl) H (fun v5 I m k5 H N31=>?_)
  unfold Vn at H
  obtain⟨n6,h6,H⟩:=bB H
  refine wH [.u 21 (.call _ _ _ _ _ (AEs.of (xs:=[.agg [rV 1 (v5.topo.parents.map eI),rV 4 (v5.topo.nodes.map Q1),rV 1 (v5.up.map eBo),iV v5.lic.a,iV v5.lic.b,iV v5.lic.c,iV v5.depth,iV v5.now,rV 11 (v5.queue.map eJob),rV 13 (v5.runs.map (J0 .nw)),rV 3 (v5.ends.map eEnd)]]) (by simp)) (fun _=>O0a h6))] ?_
  refine V0 H ?_ ?_<;>intro H
  .refine wP ?_
   replace H:=sI H;subst H
   exact wN [(4,.d),(5,.d)] [(4,[.d,.d,.d,.d,.d,.d,.d,.d,.d,.d,.f])] [] [20002] [] [⟨_,nw_I v5.topo.parents⟩,⟨_,V3 v5.topo.nodes⟩,⟨_,Qf v5.up⟩,⟨_,Wi v5.queue⟩,⟨_,Qi v5.runs⟩,⟨_,WD v5.ends⟩]
  .obtain⟨y7,h7,H⟩:=bB H
   refine wG [.u 32 (.cw Uh [2] [20002] [[nV 1 (v5.topo.parents.map eI),nV 4 (v5.topo.nodes.map Q1),nV 1 (v5.up.map eBo),iV v5.lic.a,iV v5.lic.b,iV v5.lic.c,iV v5.depth,iV n6,nV 11 (v5.queue.map eJob),nV 13 (v5.runs.map (J0 .nw)),.sref 0]] [(3,v5.ends.map eEnd)] [.ptr 0 0,iV 1,.fn Lg [.ept (.agg [iV n6]) 0]] _ _ _ _ _ (GEs.of [true,false,false] (by simp)) (by simp) (by simp) (by simp) (fun _=>Uj h7)),.u 35 (.ln _ _ fun _=>lm y7.2.ends eEnd)] fun q8=>?_
   refine V0 H ?_ ?_<;>intro H
   .refine wP ?_
    replace H:=sI H;subst H
    exact wN [(4,.d),(5,.d)] [(4,[.n 1,.n 4,.n 1,.d,.d,.d,.d,.d,.n 11,.n 13,.n 3])] [] [] [] [⟨_,nw_I ([]:List Int)⟩,⟨_,V3 ([]:List Node)⟩,⟨_,Qf ([]:List Bool)⟩,⟨_,Wi ([]:List Job)⟩,⟨_,Qi ([]:List Run)⟩,⟨_,WD ([]:List End)⟩]
   .obtain⟨y9,h9,H⟩:=bB H
    refine wH [.u 39 (.call _ _ _ _ _ (AEs.of (xs:=[.agg [rV 1 (y7.2.topo.parents.map eI),rV 4 (y7.2.topo.nodes.map Q1),rV 1 (y7.2.up.map eBo),iV y7.2.lic.a,iV y7.2.lic.b,iV y7.2.lic.c,iV y7.2.depth,iV y7.2.now,rV 11 (y7.2.queue.map eJob),rV 13 (y7.2.runs.map (J0 .nw)),rV 3 (y7.2.ends.map eEnd)]]) (by simp)) (fun _=>Y0Q h9))] ?_
    exact wU (N31 _ H) [] [] [(20002,(some 40000,0))] []
theorem X0p(r:Room)(j:Job)(from_ to_:Int)(nodes:List Int):M4 r j from_ to_ nodes=bif diffOk r j nodes then takeRoom r j.need j.lic from_ to_ nodes else some noRoom:=by
 unfold M4 diffOk
 rw[OW,bS,YK]
 cases hr:roomOk r with
 |false=>rfl
 |true =>
  have hR:=YL.1 hr
  rw[J0k hR.small.nodes]
  cases L0 j with
  |false=>rfl
  |true =>
   simp only[yL,Bool.or_self,yM,Bool.true_and,bS]
   cases(decide ((nodes.length:Int)=j.nodes)&&Y4 r.topo nodes&&decide nodes.Nodup)with
   |false=>rfl
   |true =>
    simp only[yL,Bool.or_self,yM,yN]
    rw[Z0G hR.small,bS]
    unfold takeRoom M9 O9
    simp only[fun p f t v=>(X0l p f t v).1]
    rfl
def idsOk(l:List Job):Bool:=decide (l.map Job.id).Nodup
noncomputable def queueOk(l:List Job):Bool:=decide (l.length<=60)&&l.all L0&&idsOk l
theorem J1s{l:List Job}{i:Nat}{x:Job}(hx:l[i]?=some x):((l.take (i+1)).map Job.id).Nodup↔((l.take i).map Job.id).Nodup/\∀y∈l.take i,y.id≠x.id:=by
 obtain⟨hi,rfl⟩:=yB hx
 rw[List.take_succ_eq_append_getElem hi,List.map_append,List.nodup_append]
 constructor
 .intro h;exact⟨h.1,fun y hy e=>h.2.2 _ (List.mem_map_of_mem hy) _ (List.mem_singleton.2 rfl) e⟩
 .intro h;exact⟨h.1,by simp,fun a ha b hb e=>by
   obtain⟨y,hy,rfl⟩:=yY ha
   rw[show b=l[i].id by simpa using hb]at e
   exact h.2 y hy e⟩
theorem V12{γ:Type}{bd:Job->Nat->Unit->(Unit->Option γ)->Option γ}{kk:Unit->Option γ}{r:Option γ}{l:List Job}
  (hb:∀i x k,l[i]?=some x->bd x i () k=bif (!L0 x)||(l.take i).any (fun y=>y.id==x.id)then r else k ()):rgl bd kk l 0 ()=bif l.all L0&&idsOk l then kk ()else r:=by
 refine Vf (fun i (_:Unit)=>(∀y∈l.take i,L0 y=true)/\((l.take i).map Job.id).Nodup) (fun o=>o=bif l.all L0&&idsOk l then kk ()else r) (fun i x b k hx hI hk=>?_) (fun b hI=>?_) (by simp)
 .have hil:=(yB hx).1
  rw[hb i x k hx]
  cases hj:L0 x with
  |false =>
   have:l.all L0=false:=List.all_eq_false.2 ⟨x,yE hx,by rw[hj];simp⟩
   rw[this];rfl
  |true =>
   cases hc:(l.take i).any (fun y=>y.id==x.id)with
   |true =>
    obtain⟨y,hy,he⟩:=List.any_eq_true.1 hc
    have:idsOk l=false:=by
     unfold idsOk
     rw[decide_eq_false_iff_not]
     intro q
     have q2:((l.take (i+1)).map Job.id).Nodup:=q.sublist ((List.take_sublist _ _).map _)
     exact((J1s hx).1 q2).2 y hy (by simpa using he)
    rw[this,Bool.and_false];rfl
   |false =>
    refine hk () ⟨fun y hy=>?_,(J1s hx).2 ⟨hI.2,fun y hy e=>?_⟩⟩
    .obtain⟨hi,rfl⟩:=yB hx
     rw[List.take_succ_eq_append_getElem hi]at hy
     rcases List.mem_append.1 hy with hy|hy
     .exact hI.1 y hy
     .rw[List.mem_singleton.1 hy];exact hj
    .have:=List.any_eq_false.1 hc y hy
     simp[e]at this
 .rw[List.take_of_length_le (yV _)]at hI
  rw[List.all_eq_true.2 hI.1]
  unfold idsOk
  rw[decide_eq_true hI.2];rfl
theorem Mt(l:List Job):Zi l=some (queueOk l):=by
 unfold Zi queueOk
 by_cases h:60<l.length
 .simp[show(60:Int)<l.length by omega,show ¬ l.length<=60 by omega]
 .rw[show decide ((60:Int)<(l.length:Int))=false by simp;omega,show decide (l.length<=60)=true by simp;omega]
  simp only[yM,Bool.true_and]
  rw[V12 (r:=some false) (fun i x k hx=>?_)]
  .unfold MF
   cases(l.all L0&&idsOk l)<;>rfl
  .have hil:=(yB hx).1
   unfold LF
   cases L0 x with
   |false=>rfl
   |true =>
    simp only[yL,yM,Bool.false_or]
    have h:=Q0j (bd:=Zg l i x k) (fun(i:Nat) (_:Unit)=>(i:Int)) (n:=i)
     (B:=fun m _ _ k=>bif (match l[m]? with|some e=>e.id==x.id|none=>false)then some false else k ()) (kk:=fun _=>k ()) (fun m st k hm=>by
      obtain⟨e,he⟩:∃e,l[m]?=some e:=⟨_,yA (by omega)⟩
      have hlt:(m:Int)<(i:Int):=by omega
      simp only[Zg,hlt,decide_true,yN,V2,he,bS,Uc (n:=m) (by omega)])
     (fun m st k hm=>by
      have hlt:¬ (m:Int)<(i:Int):=by omega
      simp only[Zg,hlt,decide_false,yM]) 9223372036854775807 0 () (by omega)
    refine h.trans ?_
    rw[Jg (r:=some false) (p:=fun(m:Nat)=>match l[m]? with|some e=>e.id==x.id|none=>false) (fun m _ i k=>rfl)]
    have e:(List.range' 0 (i-0)).any (fun(m:Nat)=>match l[m]? with|some e=>e.id==x.id|none=>false)=(l.take i).any (fun y=>y.id==x.id):=by
     rw[Bool.eq_iff_iff,List.any_eq_true,List.any_eq_true]
     constructor
     .rintro⟨m,hm,hq⟩
      obtain⟨j,hj,rfl⟩:=List.mem_range'.1 hm
      have hlt:0+1*j<l.length:=by omega
      rw[yA hlt]at hq
      exact⟨_,List.mem_take_iff_getElem.2 ⟨0+1*j,by omega,rfl⟩,hq⟩
     .rintro⟨y,hy,hq⟩
      obtain⟨m,hm,rfl⟩:=List.mem_take_iff_getElem.1 hy
      exact⟨m,List.mem_range'.2 ⟨m,by omega,by omega⟩,by rw[yA (by omega)];exact hq⟩
    rw[e]
theorem Q1o(l:List Job)(c:Job):O0 l c=some (l.any fun y=>y.id==c.id):=by
 unfold O0 O1
 have:∃r:Int,rgl (X1 c) U2 l 0 ()=some r/\decide (0<=r)=l.any fun y=>y.id==c.id:=by
  refine Vf (fun i (_:Unit)=>∀y∈l.take i,(y.id==c.id)=false) (fun o=>∃r:Int,o=some r/\decide (0<=r)=l.any fun y=>y.id==c.id) (fun i x b k hx hI hk=>?_) (fun b hI=>?_) (by simp)
  .unfold X1 Un
   cases h:(x.id==c.id)with
   |true=>exact⟨i,rfl,by rw[List.any_eq_true.2 ⟨x,yE hx,h⟩];simp⟩
   |false =>
    refine hk () fun y hy=>?_
    obtain⟨hi,rfl⟩:=yB hx
    rw[List.take_succ_eq_append_getElem hi]at hy
    rcases List.mem_append.1 hy with hy|hy
    .exact hI y hy
    .rw[List.mem_singleton.1 hy];exact h
  .rw[List.take_of_length_le (yV _)]at hI
   exact⟨-1,rfl,by rw[List.any_eq_false.2 fun y hy=>by rw[hI y hy];simp];rfl⟩
 obtain⟨r,h1,h2⟩:=this
 rw[h1,bS,h2]
theorem U0b(l:List Job):Us l=some (queueOk l):=by
 unfold Us queueOk
 rw[V12 (r:=some false) (fun i x k hx=>?_)]
 .unfold LG
  have e:decide ((l.length:Int)<=60)=decide (l.length<=60):=by rw[Bool.eq_iff_iff];simp;omega
  rw[e]
  cases l.all L0<;>cases idsOk l<;>cases decide (l.length<=60)<;>rfl
 .have hil:=(yB hx).1
  unfold JG
  rw[YK,Y1f (by omega)]
  cases L0 x with
  |false=>rfl
  |true =>
   simp only[yL,yM,bS,Q1o,Bool.false_or]
theorem O0Q(v:Vec):Yf v=Q5 v:=rfl
def UP(t:Topo)(up:List Bool)(lic:Vec):Room:=⟨t,up,t.nodes.map fun x=>(Q5 x.cap).1,(Q5 lic).1⟩
theorem X14{v:Vec}(h:X0 v=true):ProfP (Q5 v).1:=by
 unfold Q5
 rw[h]
 simp only[yL,yM]
 exact⟨by simp,by simp,fun x hx=>by simp at hx;rw[← hx],fun x hx=>by simp at hx;subst hx;exact⟨rfl,h⟩,fun i x y hx hy=>by simp at hy⟩
theorem Z0A{t:Topo}(h:TopoP t){up:List Bool}(hu:up.length=t.nodes.length){lic:Vec}(hl:X0 lic=true):RoomP (UP t up lic) :=
  ⟨h,hu,by simp[UP],fun p hp=>by
    obtain⟨x,hx,rfl⟩:=yY hp
    exact X14 (h.node x hx).2.2.2,X14 hl⟩
theorem M1d{t:Topo}(h:TopoP t){up:List Bool}(hu:up.length=t.nodes.length)(lic:Vec):O00 t up lic=some (UP t up lic):=by
 have:=h.tree.le;have:=h.nodes
 unfold O00 Yc Xc
 rw[U0 (by simp;omega),bS,bS,U0 (by simp;omega),bS,bS,U0 (by simp;omega),bS]
 rw[V6 (bd:=ZW) (bs:=24) (p:=fun _=>true) (f:=fun x=>(Q5 x.cap).1) (fun x hx i b k=>rfl) (by simp;omega)]
 unfold JV UP
 simp[List.filter_eq_self.2,O0Q]
theorem W0B(s:State):Yt s=some (bif topoOk s.topo&&decide (s.up.length=s.topo.nodes.length)&&X0 s.lic then(UP s.topo s.up s.lic,true)else noRoom):=by
 unfold Yt
 rw[Mm,bS,V18]
 cases ht:topoOk s.topo with
 |false=>rfl
 |true =>
 cases hu:decide (s.up.length=s.topo.nodes.length)with
 |false=>rfl
 |true =>
 cases hl:X0 s.lic with
 |false=>rfl
 |true =>
  have h:=MK.1 ht
  have hu:=of_decide_eq_true hu
  have:=h.nodes
  simp only[yL,Bool.or_self,yM,Bool.and_self,yN]
  rw[V6 (bd:=Xx) (bs:=24) (p:=fun _=>true) (f:=fun x=>(Q5 x.cap).1) (fun x hx i b k=>rfl) (by simp;omega)]
  unfold Yx
  rw[show(s.topo.nodes.filter fun _=>true)=s.topo.nodes from List.filter_eq_self.2 fun _ _=>rfl,List.nil_append]
  have hR:=Z0A h hu hl
  unfold UP at hR
  rw[O08 hR.small,bS]
  rfl
def J0T(s:State)(x:Run):Bool:=time x.t&&decide (x.t<=s.now)&&decide (s.now<x.t+x.job.wall)&&decide (x.t+x.job.wall<=1000000000)
noncomputable def O0e(s:State)(x:Run)(v:Room):Option (Room×Bool):=bif diffOk v x.job x.nodes&&J0T s x then takeRoom v x.job.need x.job.lic s.now (x.t+x.job.wall) x.nodes else some noRoom
theorem J14{s:State}(hs:time s.now=true)(x:Run)(i:Nat)(v:Room)(k:Room->Option (Room×Bool)):Ot s x i v k=(O0e s x v).bind fun y=>bif !y.2 then some noRoom else k y.1:=by
 have hn:=U9.1 hs
 unfold Ot O0e
 rw[Q08,bS,Qa]
 cases hd:diffOk v x.job x.nodes with
 |false=>rfl
 |true =>
  have hj:L0 x.job=true:=by unfold diffOk at hd;simp only[yD]at hd;exact hd.1.1.1.2
  have hj':=Yg.1 hj
  unfold J0T
  by_cases ht:time x.t=true/\x.t<=s.now
  .have ht1:=U9.1 ht.1
   rw[ht.1,Ja (n:=x.t+x.job.wall) (by omega),show decide (s.now<x.t)=false by simp;omega,show decide (x.t<=s.now)=true by simpa using ht.2]
   by_cases h3:s.now<x.t+x.job.wall
   .rw[show decide (x.t+x.job.wall<=s.now)=false by simp;omega,show decide (s.now<x.t+x.job.wall)=true by simpa using h3]
    by_cases h4:x.t+x.job.wall<=1000000000
    .rw[show decide (1000000000<x.t+x.job.wall)=false by simp;omega,show decide (x.t+x.job.wall<=1000000000)=true by simpa using h4]
     simp only[yL,Bool.or_self,yM,Bool.and_self,yN]
     rw[Ja (n:=x.t+x.job.wall-s.now) (by omega),UM]
     have e:diffOk v ⟨x.job.id,x.job.prio,x.job.nodes,x.job.need,x.job.lic,x.t+x.job.wall-s.now,x.job.level⟩ x.nodes=true:=by
      have hj2:L0 ⟨x.job.id,x.job.prio,x.job.nodes,x.job.need,x.job.lic,x.t+x.job.wall-s.now,x.job.level⟩=true:=by
       rw[Yg];simp only;refine⟨hj'.1,hj'.2.1,hj'.2.2.1,hj'.2.2.2.1,hj'.2.2.2.2.1,by omega,hj'.2.2.2.2.2.2⟩
      unfold diffOk at hd ⊢
      rw[hj]at hd
      rw[hj2];exact hd
     rw[e,hs]
     simp only[Bool.and_self,yN]
     rw[show s.now+(x.t+x.job.wall-s.now)=x.t+x.job.wall by omega,Ja (by omega)]
     rfl
    .rw[show decide (1000000000<x.t+x.job.wall)=true by simp;omega,show decide (x.t+x.job.wall<=1000000000)=false by simpa using h4]
     simp[noRoom]
   .rw[show decide (x.t+x.job.wall<=s.now)=true by simp;omega,show decide (s.now<x.t+x.job.wall)=false by simpa using h3]
    simp[noRoom]
  .have:(time x.t&&decide (x.t<=s.now))=false:=by
    rw[Bool.eq_false_iff];intro q;simp only[yD,yO]at q;exact ht q
   rw[this]
   have h2:(!(time x.t)||decide (s.now<x.t))=true:=by
    cases hx:time x.t with
    |false=>rfl
    |true =>
     have:¬ x.t<=s.now:=fun q=>ht ⟨hx,q⟩
     simp;omega
   simp only[yL,Bool.false_or,h2,Bool.true_or,yN,Bool.false_and,Bool.and_false,yM,bS]
   rfl
theorem Y1d{s:State}(hs:time s.now=true)(x:Run)(i:Nat)(v:Room)(k:Room->Option (Room×Bool)):Mv s x i v k=(O0e s x v).bind fun y=>bif !y.2 then some noRoom else k y.1:=by
 have hn:=U9.1 hs
 unfold Mv O0e
 rw[YK,X0p]
 cases hj:L0 x.job with
 |false =>
  have hd:diffOk v x.job x.nodes=false:=by unfold diffOk;rw[hj];simp
  rw[hd];rfl
 |true =>
  have hj':=Yg.1 hj
  by_cases h1:0<=x.t/\x.t<=s.now
  .rw[Ja (n:=x.t+x.job.wall) (by omega),Ja (n:=s.now+1) (by omega)]
   have e1:Z0 x.t 0 s.now=true:=by simp[Z0];exact h1
   have e2:Z0 (x.t+x.job.wall) (s.now+1) 1000000000=(decide (s.now<x.t+x.job.wall)&&decide (x.t+x.job.wall<=1000000000)):=by
    unfold Z0;congr 1
   have e3:time x.t=true:=by rw[U9];omega
   unfold J0T
   rw[e1,e2,e3,show decide (x.t<=s.now)=true by simpa using h1.2]
   simp only[yL,Bool.false_or,Bool.and_self,Bool.true_and]
   cases(decide (s.now<x.t+x.job.wall)&&decide (x.t+x.job.wall<=1000000000))<;>cases diffOk v x.job x.nodes<;>rfl
  .have e1:Z0 x.t 0 s.now=false:=by
    unfold Z0;rw[Bool.eq_false_iff];intro q;simp only[yD,yO]at q;exact h1 q
   have e2:J0T s x=false:=by
    unfold J0T;rw[Bool.eq_false_iff];intro q;simp only[yD,yO,U9]at q;exact h1 ⟨q.1.1.1.1,q.1.1.2⟩
   rw[e1,e2]
   simp[noRoom]
noncomputable def V0n(s:State):Option (Room×Bool):=rgl (fun x _ v k=>(O0e s x v).bind fun y=>bif !y.2 then some noRoom else k y.1) (fun v=>some (v,true)) s.runs 0 (UP s.topo s.up s.lic)
noncomputable def WQ(s:State):Bool:=topoOk s.topo&&decide (s.up.length=s.topo.nodes.length)&&X0 s.lic&&time s.now
theorem J0g(s:State):Mc s=bif WQ s then V0n s else some noRoom:=by
 unfold Mc WQ
 rw[W0B,bS,Qa]
 cases(topoOk s.topo&&decide (s.up.length=s.topo.nodes.length)&&X0 s.lic)with
 |false=>rfl
 |true =>
  cases hs:time s.now with
  |false=>rfl
  |true =>
   simp only[yN,yL,Bool.or_self,yM,Bool.and_self]
   unfold V0n
   exact L09 (fun i x b k _=>J14 hs x i b k) fun b=>rfl
theorem Y0i(s:State):VA s=Mc s:=by
 rw[J0g]
 unfold VA WQ
 rw[QW,Mm,bS,V18,Zl,Yn]
 cases ht:topoOk s.topo with
 |false=>rfl
 |true =>
 cases hu:decide (s.up.length=s.topo.nodes.length)with
 |false=>rfl
 |true =>
 cases hl:X0 s.lic with
 |false=>rfl
 |true =>
 cases hs:time s.now with
 |false=>rfl
 |true =>
  simp only[yL,Bool.or_self,yM,Bool.and_self,yN]
  rw[M1d (MK.1 ht) (of_decide_eq_true hu),bS]
  unfold V0n
  exact L09 (fun i x b k _=>Y1d hs x i b k) fun b=>rfl
structure RunsP(s:State):Prop where
 job:∀x∈s.runs,L0 x.job=true/\(x.nodes.length:Int)=x.job.nodes/\Y4 s.topo x.nodes=true/\x.nodes.Nodup/\J0T s x=true
theorem W16{s:State}(h:WQ s=true):∃q,V0n s=some q/\(q.2=true->RoomP q.1/\q.1.topo=s.topo/\q.1.up=s.up/\RunsP s):=by
 unfold WQ at h
 simp only[yD,yO,MK]at h
 unfold V0n
 refine Vf (fun i (v:Room)=>RoomP v/\v.topo=s.topo/\v.up=s.up/\∀x∈s.runs.take i,L0 x.job=true/\(x.nodes.length:Int)=x.job.nodes/\Y4 s.topo x.nodes=true/\x.nodes.Nodup/\J0T s x=true) (fun o=>∃q:Room×Bool,o=some q/\(q.2=true->RoomP q.1/\q.1.topo=s.topo/\q.1.up=s.up/\RunsP s)) (fun i x v k hx hI hk=>?_) (fun v hI=>?_) ⟨Z0A h.1.1.1 h.1.1.2 h.1.2,rfl,rfl,by simp⟩
 .obtain⟨h1,h2,h3,h4⟩:=hI
  unfold O0e
  cases hd:(diffOk v x.job x.nodes&&J0T s x)with
  |false=>exact⟨noRoom,rfl,fun h=>by cases h⟩
  |true =>
   simp only[yD]at hd
   have hd1:=hd.1
   unfold diffOk at hd1
   simp only[yD,yO]at hd1
   obtain⟨q,q1,q2⟩:=Z0m h1 x.job.need x.job.lic s.now (x.t+x.job.wall) hd1.1.2
   simp only[yN]
   rw[q1,bS]
   cases hq:q.2 with
   |false=>exact⟨noRoom,rfl,fun h=>by cases h⟩
   |true =>
    obtain⟨a1,a2,a3⟩:=q2 hq
    refine hk q.1 ⟨a1,a2.trans h2,a3.trans h3,fun y hy=>?_⟩
    obtain⟨hi,rfl⟩:=yB hx
    rw[List.take_succ_eq_append_getElem hi]at hy
    rcases List.mem_append.1 hy with hy|hy
    .exact h4 y hy
    .rw[List.mem_singleton.1 hy]
     exact⟨hd1.1.1.1.2,hd1.1.1.2,by rw[← h2];exact hd1.1.2,hd1.2,hd.2⟩
 .obtain⟨h1,h2,h3,h4⟩:=hI
  rw[List.take_of_length_le (yV _)]at h4
  exact⟨_,rfl,fun _=>⟨h1,h2,h3,⟨h4⟩⟩⟩
theorem OF(s:State):∃q,Mc s=some q/\(q.2=true->WQ s=true/\RoomP q.1/\q.1.topo=s.topo/\q.1.up=s.up/\RunsP s):=by
 rw[J0g]
 cases h:WQ s with
 |false=>exact⟨noRoom,rfl,fun h=>by cases h⟩
 |true =>
  obtain⟨q,h1,h2⟩:=W16 h
  exact⟨q,h1,fun h=>⟨rfl,h2 h⟩⟩
def allJobs(s:State):List Job:=s.queue++s.runs.map Run.job
theorem U0I{s:State}(h:s.queue.length+s.runs.length<=1048576):Lq s=some (allJobs s):=by
 unfold Lq
 rw[U0 (by simp;omega),bS,V6 (bd:=JE) (bs:=88) (p:=fun _=>true) (f:=Run.job) (fun x hx i b k=>rfl) (by simp;omega)]
 unfold LE allJobs
 simp[List.filter_eq_self.2]
theorem L0w(s:State):QC s=Lq s:=rfl
def AscP(l:List Int):Prop:=∀(i:Nat) (x y:Int),l[i]?=some x->l[i+1]?=some y->x<y
open Classical in
noncomputable def ascB(l:List Int):Bool:=decide (AscP l)
theorem J0H{l:List Int}:ascB l=true↔AscP l:=by unfold ascB;simp
theorem V0g{l:List Int}(hl:l.length<=1048576):Ze l=some (ascB l):=by
 unfold Ze
 have h:=Q0j (bd:=J7 l) (fun(i:Nat) (_:Unit)=>((i+1:Nat):Int)) (n:=l.length-1)
  (B:=fun x _ _ k=>bif (match l[x]?,l[x+1]? with|some a,some b=>decide (b<=a)|_,_=>true)then some false else k ()) (kk:=fun _=>some true) (fun i st k hi=>by
   obtain⟨a,ha⟩:∃e,l[i]?=some e:=⟨_,yA (by omega)⟩
   obtain⟨b,hb⟩:∃e,l[i+1]?=some e:=⟨_,yA (by omega)⟩
   have hlt:((i+1:Nat):Int)<(l.length:Int):=by omega
   simp only[J7,hlt,decide_true,yN,M0G (n:=i+1) (by omega) (by omega),Nat.add_sub_cancel,V2,ha,hb,bS,Uc (n:=i+1) (by omega)])
  (fun i st k hi=>by
   have hlt:¬ ((i+1:Nat):Int)<(l.length:Int):=by omega
   simp only[J7,hlt,decide_false,yM]) 9223372036854775807 0 () (by omega)
 refine h.trans ?_
 rw[Jg (r:=some false) (p:=fun(x:Nat)=>match l[x]?,l[x+1]? with|some a,some b=>decide (b<=a)|_,_=>true) (fun x _ i k=>rfl)]
 cases hany:(List.range' 0 (l.length-1-0)).any (fun(x:Nat)=>match l[x]?,l[x+1]? with|some a,some b=>decide (b<=a)|_,_=>true)with
 |true =>
  obtain⟨x,hx,hq⟩:=List.any_eq_true.1 hany
  obtain⟨j,hj,rfl⟩:=List.mem_range'.1 hx
  obtain⟨a,ha⟩:∃e,l[0+1*j]?=some e:=⟨_,yA (by omega)⟩
  obtain⟨b,hb⟩:∃e,l[0+1*j+1]?=some e:=⟨_,yA (by omega)⟩
  rw[ha,hb]at hq
  have:ascB l=false:=by
   rw[Bool.eq_false_iff]
   intro q
   have:=J0H.1 q _ a b ha hb
   simp at hq;omega
  rw[this];rfl
 |false =>
  have:ascB l=true:=J0H.2 fun i x y hx hy=>by
   have hlt:=(yB hy).1
   have:=List.any_eq_false.1 hany i (List.mem_range'.2 ⟨i,by omega,by omega⟩)
   rw[hx,hy]at this
   simpa using this
  rw[this];rfl
noncomputable def lowN(t:Topo)(l:List Int):Nat:=((Zq t l).getD 0).toNat
theorem L1B{t:Topo}{l:List Int}(h:Y4 t l=true)(hne:l≠[]):lowN t l<t.parents.length/\Zq t l=some (lowN t l:Int)/\UA t l=some (lowN t l:Int):=by
 obtain⟨s,h1,h2,h3⟩:=J1o h hne
 have:lowN t l=s:=by unfold lowN;rw[h2];simp
 rw[this];exact⟨h1,h2,h3⟩
def isUp(s:State)(n:Int):Bool:=(idx s.up n).getD false
noncomputable def runFit(s:State)(x:Run):Bool:=x.nodes.all (isUp s)&&ascB x.nodes&&decide (lev s.topo (lowN s.topo x.nodes)<=x.job.level)
def endOk(s:State)(e:End):Bool:=(decide (1<=e.id)&&decide (e.id<=999))&&(decide (0<=e.t)&&decide (e.t<=s.now))&&(decide (1<=e.why)&&decide (e.why<=4))
noncomputable def J07(s:State):Bool:=((Mc s).getD noRoom).2&&(decide (0<=s.depth)&&decide (s.depth<=60))&&queueOk (allJobs s)&&decide (s.ends.length<=300)&&s.runs.all (runFit s)&&s.ends.all (endOk s)
theorem J1i{a b:Int}:decide (b<a) = !decide (a<=b):=by rw[Bool.eq_iff_iff];simp
theorem M1g{s:State}(_:TopoP s.topo)(hu:s.up.length=s.topo.nodes.length)(hR:RunsP s){x:Run}(hx:x∈s.runs) :
  x.nodes≠[]/\Y4 s.topo x.nodes=true/\x.nodes.length<=24/\∀n∈x.nodes,∃b,idx s.up n=some b:=by
 obtain⟨h1,h2,h3,_,_⟩:=hR.job x hx
 have hj:=(Yg.1 h1).2.2.1
 refine⟨fun e=>by rw[e]at h2;simp at h2;omega,h3,by omega,fun n hn=>?_⟩
 have:=(Y3.1 h3).2 n hn
 obtain⟨b,q,_⟩:=O0H (l:=s.up) (i:=n) this.1 (by rw[hu];exact this.2)
 exact⟨b,q⟩
theorem L14{s:State}(hT:TopoP s.topo)(hu:s.up.length=s.topo.nodes.length)(hR:RunsP s){x:Run}(hx:x∈s.runs)(k:Unit->Option Bool)(i:Nat):Wo s x i () k=bif !runFit s x then some false else k ():=by
 obtain⟨h1,h2,h3,h4⟩:=M1g hT hu hR hx
 obtain⟨l1,l2,l3⟩:=L1B h2 h1
 unfold Wo
 have hk:M8 s x k ()=bif decide (lev s.topo (lowN s.topo x.nodes)<=x.job.level)then k ()else some false:=by
  unfold M8
  rw[l2,bS,Mb hT l1,bS,J1i]
  cases decide (lev s.topo (lowN s.topo x.nodes)<=x.job.level)<;>rfl
 have:rgl (Oo s x) (M8 s x k) x.nodes 0 ()=bif x.nodes.all (isUp s)&&ascB x.nodes then M8 s x k ()else some false:=by
  refine Vf (fun i (_:Unit)=>(∀j n,j<i->x.nodes[j]?=some n->isUp s n=true)/\∀j a b,j+1<i->x.nodes[j]?=some a->x.nodes[j+1]?=some b->a<b) (fun o=>o=bif x.nodes.all (isUp s)&&ascB x.nodes then M8 s x k ()else some false) (fun i n b kc hi hI hkc=>?_) (fun b hI=>?_) ⟨fun j n h=>by omega,fun j a b h=>by omega⟩
  .have hil:=(yB hi).1
   obtain⟨u,hu'⟩:=h4 n (yE hi)
   have hup:isUp s n=u:=by unfold isUp;rw[hu'];rfl
   unfold Oo
   rw[hu',bS]
   cases u with
   |false =>
    have:x.nodes.all (isUp s)=false:=List.all_eq_false.2 ⟨n,yE hi,by rw[hup];simp⟩
    rw[this];rfl
   |true =>
    have new:∀j m,j<i+1->x.nodes[j]?=some m->isUp s m=true:=by
     intro j m hj hm
     by_cases e:j=i
     .subst e;rw[hi]at hm;cases hm;exact hup
     .exact hI.1 j m (by omega) hm
    by_cases h0:i=0
    .subst h0
     exact hkc () ⟨new,fun j a b hj=>by omega⟩
    .have hgt:decide ((0:Int)<(i:Int))=true:=by simp;omega
     obtain⟨q,hq⟩:∃q,x.nodes[i-1]?=some q:=⟨_,yA (by omega)⟩
     rw[hgt,M0G (by omega) (by omega)]
     simp only[yL,yM,yN,Bool.false_or,Bool.true_and,V2,hq,bS]
     by_cases h5:n<=q
     .have:ascB x.nodes=false:=by
       rw[Bool.eq_false_iff]
       intro w
       have:=J0H.1 w (i-1) q n hq (by rw[show i-1+1=i by omega];exact hi)
       omega
      rw[this,Bool.and_false];simp[h5]
     .simp only[h5,decide_false,yM]
      refine hkc () ⟨new,fun j a b hj ha hb=>?_⟩
      by_cases e:j+1=i
      .have:j=i-1:=by omega
       subst this
       rw[hq]at ha;cases ha
       rw[show i-1+1=i by omega,hi]at hb;cases hb
       omega
      .exact hI.2 j a b (by omega) ha hb
  .have e1:x.nodes.all (isUp s)=true:=List.all_eq_true.2 fun n hn=>by
    obtain⟨j,hj⟩:=List.getElem?_of_mem hn
    exact hI.1 j n (yB hj).1 hj
   have e2:ascB x.nodes=true:=J0H.2 fun j a b ha hb=>hI.2 j a b (yB hb).1 ha hb
   rw[e1,e2];rfl
 rw[this,hk]
 unfold runFit
 cases x.nodes.all (isUp s)<;>cases ascB x.nodes<;>cases decide (lev s.topo (lowN s.topo x.nodes)<=x.job.level)<;>rfl
theorem X1J{s:State}(hT:TopoP s.topo)(hu:s.up.length=s.topo.nodes.length)(hR:RunsP s){x:Run}(hx:x∈s.runs)(k:Unit->Option Bool)(i:Nat):Up s x i () k=bif !runFit s x then some false else k ():=by
 obtain⟨h1,h2,h3,h4⟩:=M1g hT hu hR hx
 obtain⟨l1,l2,l3⟩:=L1B h2 h1
 unfold Up
 rw[Jg (r:=some false) (p:=fun n=>!isUp s n) (fun n hn i k=>by
  obtain⟨u,hu'⟩:=h4 n hn
  unfold MG isUp
  rw[hu',bS];rfl),← List.not_all_eq_any_not]
 unfold OG
 rw[V0g (by omega),bS]
 unfold runFit
 cases x.nodes.all (isUp s)with
 |false=>rfl
 |true =>
 cases ascB x.nodes with
 |false=>rfl
 |true =>
  simp only[yL,yM,l3,bS,Yv hT l1,Bool.false_or,Bool.true_and,J1i]
theorem M0y{s:State}(hs:s.queue.length+s.runs.length<=1048576):Qr s=some (J07 s)/\Vs s=some (J07 s):=by
 obtain⟨q,h1,h2⟩:=OF s
 unfold Qr Vs J07
 rw[Y0i,h1,bS,bS,L0w,U0I hs,Option.getD_some]
 have e1:(decide (s.depth<0)||decide (60<s.depth)) = !(decide (0<=s.depth)&&decide (s.depth<=60)):=by rw[Bool.eq_iff_iff];simp
 have e2:Z0 s.depth 0 60=(decide (0<=s.depth)&&decide (s.depth<=60)):=rfl
 have e3:decide ((300:Int)<(s.ends.length:Int)) = !decide (s.ends.length<=300):=by rw[Bool.eq_iff_iff];simp;omega
 rw[Bool.or_assoc,e1,e2,e3]
 cases hq:q.2 with
 |false=>exact⟨rfl,rfl⟩
 |true =>
 obtain⟨a1,a2,a3,a4,a5⟩:=h2 hq
 have hT:TopoP s.topo:=by rw[← a3];exact a2.topo
 have hu:s.up.length=s.topo.nodes.length:=by rw[← a3,← a4];exact a2.up
 cases(decide (0<=s.depth)&&decide (s.depth<=60))with
 |false=>exact⟨rfl,rfl⟩
 |true =>
 simp only[yL,Bool.or_self,yM,bS,Mt,U0b,Bool.false_or,Bool.true_and]
 cases queueOk (allJobs s)with
 |false=>exact⟨rfl,rfl⟩
 |true =>
 cases decide (s.ends.length<=300)with
 |false=>exact⟨rfl,rfl⟩
 |true =>
 simp only[yL,Bool.or_self,yM,Bool.true_and]
 rw[Jg (r:=some false) (p:=fun x=>!runFit s x) (fun x hx i k=>L14 hT hu a5 hx k i),Jg (r:=some false) (p:=fun x=>!runFit s x) (fun x hx i k=>X1J hT hu a5 hx k i),← List.not_all_eq_any_not]
 unfold WF WG
 have f1:∀e:End,((((((decide (e.id<1))||(decide (999<e.id)))||(decide (e.t<0)))||(decide (s.now<e.t)))||(decide (e.why<1)))||(decide (4<e.why))) = !endOk s e:=by
  intro e;unfold endOk;rw[Bool.eq_iff_iff];simp;omega
 have f2:∀e:End,(((!(Z0 e.id 1 999))||(!(Z0 e.t 0 s.now)))||(!(Z0 e.why 1 4))) = !endOk s e:=by
  intro e;unfold endOk Z0
  cases(decide (1<=e.id)&&decide (e.id<=999))<;>cases(decide (0<=e.t)&&decide (e.t<=s.now))<;>cases(decide (1<=e.why)&&decide (e.why<=4))<;>rfl
 rw[Jg (bd:=Qo s) (r:=some false) (p:=fun e=>!endOk s e) (fun e he i k=>by unfold Qo;rw[f1]),Jg (bd:=Vp s) (r:=some false) (p:=fun e=>!endOk s e) (fun e he i k=>by unfold Vp;rw[f2]),← List.not_all_eq_any_not]
 unfold QF QG
 cases s.runs.all (runFit s)<;>cases s.ends.all (endOk s)<;>exact⟨rfl,rfl⟩
structure StateP(s:State):Prop where
 topo:TopoP s.topo
 up:s.up.length=s.topo.nodes.length
 lic:X0 s.lic=true
 now:time s.now=true
 room:∃r,Mc s=some (r,true)/\RoomP r/\r.topo=s.topo/\r.up=s.up
 runs:RunsP s
 depth:0<=s.depth/\s.depth<=60
 queue:queueOk (allJobs s)=true
 ends:s.ends.length<=300
 fit:∀x∈s.runs,runFit s x=true
 fin:∀e∈s.ends,endOk s e=true
theorem X0I{s:State}(h:J07 s=true):StateP s:=by
 obtain⟨q,h1,h2⟩:=OF s
 unfold J07 at h
 rw[h1,Option.getD_some]at h
 simp only[yD,yO,List.all_eq_true]at h
 obtain⟨⟨⟨⟨⟨a1,a2⟩,a3⟩,a4⟩,a5⟩,a6⟩:=h
 obtain⟨b1,b2,b3,b4,b5⟩:=h2 a1
 unfold WQ at b1
 simp only[yD,yO,MK]at b1
 exact⟨b1.1.1.1,b1.1.1.2,b1.1.2,b1.2,⟨q.1,by rw[h1,← a1],b2,b3,b4⟩,b5,a2,a3,a4,a5,a6⟩
def insJ(x:Job):List Job->List Job
 |[]=>[x]
 |y::l=>if Q6 x y then x::y::l else y::insJ x l
theorem J0o(x:Job):∀l:List Job,(insJ x l).Perm (x::l)
 |[]=>.refl _
 |y::l=>by
  unfold insJ
  split
  .exact .refl _
  .exact((J0o x l).cons y).trans (.swap x y l)
theorem Y1J(x:Job)(l:List Job):(insJ x l).length=l.length+1:=(J0o x l).length_eq
theorem Z1j{x y:Job}(h:Q6 x y=true):ZG x y=true:=by
 unfold Q6 at h;unfold ZG
 simp at h ⊢;omega
theorem W18{x y:Job}(h:¬ Q6 x y=true):ZG y x=true:=by
 unfold Q6 at h;unfold ZG
 simp at h ⊢;omega
theorem Q0M{x y z:Job}(h1:ZG x y=true)(h2:ZG y z=true):ZG x z=true:=by
 unfold ZG at *
 simp at h1 h2 ⊢;omega
theorem J1n(x y:Job):(ZG x y||ZG y x)=true:=by
 unfold ZG
 simp;omega
theorem J0P(x:Job):∀{l:List Job},l.Pairwise (fun a b=>ZG a b=true)->(insJ x l).Pairwise (fun a b=>ZG a b=true)
 |[],_=>by simp[insJ]
 |y::l,h=>by
  unfold insJ
  obtain⟨h1,h2⟩:=List.pairwise_cons.1 h
  split
  .rename_i hb
   refine List.pairwise_cons.2 ⟨fun z hz=>?_,h⟩
   rcases yX hz with rfl|hz
   .exact Z1j hb
   .exact Q0M (Z1j hb) (h1 z hz)
  .rename_i hb
   refine List.pairwise_cons.2 ⟨fun z hz=>?_,J0P x h2⟩
   rcases yX ((J0o x l).mem_iff.1 hz)with rfl|hz
   .exact W18 hb
   .exact h1 z hz
def ordF(l:List Job):List Job:=l.foldl (fun v x=>insJ x v) []
theorem X17:∀(l v:List Job),(l.foldl (fun v x=>insJ x v) v).Perm (l++v)/\(v.Pairwise (fun a b=>ZG a b=true)->(l.foldl (fun v x=>insJ x v) v).Pairwise (fun a b=>ZG a b=true))
 |[],v=>⟨.refl _,id⟩
 |x::l,v=>by
  obtain⟨h1,h2⟩:=X17 l (insJ x v)
  exact⟨h1.trans (((J0o x v).append_left l).trans List.perm_middle),fun h=>h2 (J0P x h)⟩
theorem Z0a(l:List Job):(ordF l).Perm l:=by unfold ordF;simpa using(X17 l []).1
theorem X1n(l:List Job):(ordF l).Pairwise (fun a b=>ZG a b=true):=(X17 l []).2 .nil
theorem O1R(x:Job)(k:List Job->Option (List Job))(l:List Job):∀(i:Nat) (acc:List Job),acc.length+l.length<=1000002->rgl (Qg x) (Ug x k) l i (true,acc)=k (acc++l):=by
 induction l with
 |nil=>intro i acc h;simp[rgl,Ug]
 |cons y l ih =>
  intro i acc h
  simp only[yT]at h
  rw[rgl,Qg]
  simp only[yL,Bool.false_and,yM,Za]
  rw[U0 (by simp;omega),bS,ih (i+1) (acc++[y]) (by simp;omega)]
  simp
theorem L20(x:Job)(k:List Job->Option (List Job))(l:List Job):∀(i:Nat) (p:Bool) (acc:List Job),acc.length+l.length<=1000000->rgl (Qg x) (Ug x k) l i (p,acc)=k (acc++if p then l else insJ x l):=by
 induction l with
 |nil =>
  intro i p acc h
  simp only[rgl,Ug]
  cases p with
  |true=>simp
  |false =>
   simp only[Bool.not_false,yN,insJ]
   rw[U0 (by simp at h ⊢;omega),bS];simp
 |cons y l ih =>
  intro i p acc h
  simp only[yT]at h
  rw[rgl,Qg]
  cases p with
  |true =>
   simp only[yL,Bool.false_and,yM,Za,yb]
   rw[U0 (by simp;omega),bS,ih (i+1) true (acc++[y]) (by simp;omega)]
   simp
  |false =>
   simp only[Bool.not_false,Bool.true_and,insJ]
   cases hb:Q6 x y with
   |true =>
    simp only[yN,yb,Za]
    rw[U0 (by simp;omega),bS,U0 (by simp;omega),bS]
    rw[O1R x k l (i+1) _ (by simp;omega)]
    simp
   |false =>
    simp only[yM,Za]
    rw[U0 (by simp;omega),bS,ih (i+1) false (acc++[y]) (by simp;omega)]
    simp
theorem V1I(l:List Job):∀(i:Nat) (v:List Job),v.length+l.length<=1000000->rgl LB WV l i v=some (l.foldl (fun v x=>insJ x v) v):=by
 induction l with
 |nil=>intro i v _;rfl
 |cons x l ih =>
  intro i v h
  simp only[yT]at h
  rw[rgl,LB,L20 x _ v 0 false [] (by simp;omega)]
  simp only[List.nil_append,yG,yc]
  rw[ih (i+1) (insJ x v) (by rw[Y1J];omega)]
  rfl
theorem Lb{l:List Job}(h:queueOk l=true):l.length<=60/\(∀x∈l,L0 x=true)/\(l.map Job.id).Nodup:=by
 unfold queueOk idsOk at h
 simp only[yD,yO,List.all_eq_true]at h
 exact⟨h.1.1,h.1.2,h.2⟩
theorem O0m{l:List Job}(h:queueOk l=true):WY l=some (ordF l):=by
 unfold WY
 rw[Mt,bS,h]
 simp only[yL,yM]
 have:=(Lb h).1
 exact V1I l 0 [] (by simp;omega)
theorem Q1N:∀{l:List Job},(l.map Job.id).Nodup->∀{a b:Job},a∈l->b∈l->a.id=b.id->a=b
 |[],_,a,b,ha,_,_=>by simp at ha
 |x::l,h,a,b,ha,hb,e=>by
  rw[List.map_cons,List.nodup_cons]at h
  rcases yX ha with ha'|ha'<;>rcases yX hb with hb'|hb'
  .rw[ha',hb']
  .rw[ha']at e;exact absurd (e ▸ List.mem_map_of_mem hb') h.1
  .rw[hb']at e;exact absurd (e ▸ List.mem_map_of_mem ha') h.1
  .exact Q1N h.2 ha' hb' e
theorem V1d{l:List Job}(h:queueOk l=true):W00 l=some (ordF l):=by
 obtain⟨h1,h2,h3⟩:=Lb h
 unfold W00
 rw[U0 (by simp;omega),bS,List.nil_append]
 have hj:Q0k l:=⟨h3,fun j hj=>by have:=Yg.1 (h2 j hj);omega,by omega⟩
 unfold J0G
 rw[yd hj,bS]
 congr 1
 have hs:(l.mergeSort ZG).Pairwise (fun a b=>ZG a b=true):=List.pairwise_mergeSort (le:=ZG) (fun a b c=>Q0M) J1n l
 refine List.Perm.eq_of_pairwise (le:=fun a b=>ZG a b=true) (fun a b ha hb q1 q2=>?_) hs (X1n l) ((List.mergeSort_perm l _).trans (Z0a l).symm)
 refine Q1N h3 ((List.mergeSort_perm l ZG).mem_iff.1 ha) ((Z0a l).mem_iff.1 hb) ?_
 unfold ZG at q1 q2
 simp at q1 q2;omega
theorem W1x(r:Room)(j:Job)(t:Int)(nodes:List Int):VE r j t nodes=Le r j t nodes:=by
 rw[UM]
 unfold VE
 rw[X0p,Yn]
 cases time t<;>cases diffOk r j nodes<;>simp only[noRoom,yL,Bool.not_false,yN,yM,Bool.and_true,Bool.and_false,bS]
 cases takeRoom r j.need j.lic t (w64 (t+j.wall)) nodes<;>rfl
theorem L0t(r:Room)(j:Job)(t:Int)(nodes:List Int):∃q,Le r j t nodes=some q/\(q.2=true->nodes.length<=24):=by
 rw[UM]
 cases hd:(diffOk r j nodes&&time t)with
 |false=>exact⟨noRoom,rfl,fun h=>by cases h⟩
 |true =>
  simp only[yD]at hd
  have hd1:=hd.1
  unfold diffOk at hd1
  simp only[yD,yO]at hd1
  obtain⟨q,q1,_⟩:=Z0m (YL.1 hd1.1.1.1.1) j.need j.lic t (w64 (t+j.wall)) hd1.1.2
  exact⟨q,q1,fun _=>by have:=Yg.1 hd1.1.1.1.2;omega⟩
structure G9(L:List Job)(hs:List Held):Prop where
 sub:(hs.map Held.id).Sublist (L.map Job.id)
 nodes:∀h∈hs,h.nodes.length<=24
theorem Z1A{r:Room}{now d:Int}{L:List Job}(hL:L.length<=60):∃p,rgl (Wa now d) Jp L 0 (r,[],[])=some p/\G9 L p.1:=by
 refine Vf (fun i (v:Room×List Held×List Held)=>G9 (L.take i) v.2.1/\v.2.1.length<=i/\v.2.2.length<=i) (fun o=>∃p:List Held×List Held×Bool,o=some p/\G9 L p.1) (fun i x v k hx hI hk=>?_) (fun v hI=>?_) ⟨⟨by simp,by simp⟩,by simp,by simp⟩
 .obtain⟨hi,rfl⟩:=yB hx
  obtain⟨hI,l1,l2⟩:=hI
  have grow:∀{hs},G9 (L.take i) hs->G9 (L.take (i+1)) hs:=fun h=>⟨h.sub.trans ((List.take_sublist_take_left (by omega)).map _),h.nodes⟩
  unfold Wa
  rw[W06,bS]
  generalize (bif roomOk v.1&&L0 L[i]&&time now then V1K v.1 L[i] now else(0,[],false))=y
  cases hc:((!y.2.2)||((decide (now<y.1))&&(decide (d<=(v.2.2.length:Int)))))with
  |true=>exact hk _ ⟨grow hI,by simp only;omega,by simp only;omega⟩
  |false =>
   obtain⟨q,q1,q2⟩:=L0t v.1 L[i] y.1 y.2.1
   simp only[yM,q1,bS]
   cases hq:q.2 with
   |false=>exact hk _ ⟨grow hI,by simp only;omega,by simp only;omega⟩
   |true =>
    have hn:=q2 hq
    simp only[yL,yM]
    cases y.1==now with
    |true =>
     simp only[yN]
     rw[U0 (by simp;omega),bS]
     refine hk _ ⟨⟨?_,fun h hh=>?_⟩,by simp;omega,by simp only;omega⟩
     .rw[List.take_succ_eq_append_getElem hi,List.map_append,List.map_append]
      exact hI.sub.append (.refl _)
     .rcases List.mem_append.1 hh with hh|hh
      .exact hI.nodes h hh
      .rw[List.mem_singleton.1 hh];exact hn
    |false =>
     simp only[yM]
     rw[U0 (by simp;omega),bS]
     exact hk _ ⟨grow hI,by simp only;omega,by simp;omega⟩
 .rw[List.take_of_length_le (yV _)]at hI
  exact⟨_,rfl,hI.1⟩
theorem Z1V(r:Room)(now:Int)(l:List Job)(d:Int):∃p,M7 r now l d=some p/\Xe r now l d=some p/\(p.1=[]\/(queueOk l=true/\G9 (ordF l) p.1)):=by
 have e0:Xe r now l d=M7 r now l d:=by
  unfold Xe M7
  rw[Lm,OW,Mt,U0b,bS,bS]
  cases hr:roomOk r with
  |false=>rfl
  |true =>
   simp only[yL,yM,bS,Bool.false_or]
   cases hq:queueOk l with
   |false=>rfl
   |true =>
    simp only[yL,Bool.false_or,Yn,O0m hq,V1d hq,bS]
    have e1:(((!Q2 now)||decide (d<0))||decide (60<d))=((!time now)||!(Z0 d 0 60)):=by
     have e2:Z0 d 0 60=((!decide (d<0))&&(!decide (60<d))):=by
      unfold Z0
      rw[Bool.eq_iff_iff]
      simp
     rw[e2,Bool.not_and,Bool.not_not,Bool.not_not,← Bool.or_assoc]
     rfl
    rw[e1]
    congr 1
    refine L09 (fun i x b k hx=>?_) fun b=>rfl
    unfold Qq Wa
    simp only[Z1p,W1x]
 rw[e0]
 suffices h:∃p,M7 r now l d=some p/\(p.1=[]\/(queueOk l=true/\G9 (ordF l) p.1)) by
  obtain⟨p,h1,h2⟩:=h
  exact⟨p,h1,h1,h2⟩
 unfold M7
 rw[Lm,Mt,bS]
 cases hr:roomOk r with
 |false=>exact⟨_,rfl,.inl rfl⟩
 |true =>
  simp only[yL,yM,bS,Bool.false_or]
  cases hq:queueOk l with
  |false=>exact⟨_,rfl,.inl rfl⟩
  |true =>
   simp only[yL,Bool.false_or]
   cases(((!Q2 now)||decide (d<0))||decide (60<d))with
   |true=>exact⟨_,rfl,.inl rfl⟩
   |false =>
    simp only[yM,O0m hq,bS]
    obtain⟨p,h1,h2⟩:=Z1A (r:=r) (now:=now) (d:=d) (L:=ordF l) (by rw[(Z0a l).length_eq];exact(Lb hq).1)
    exact⟨p,h1,.inr ⟨by simp,h2⟩⟩
structure G3(s:State):Prop where
 up:s.up.length<=1048576
 par:s.topo.parents.length<=1048576
 nodes:s.topo.nodes.length<=1048576
 jobs:s.queue.length+s.runs.length<=1048576
 ends:s.ends.length<=1048576
 run:∀x∈s.runs,x.nodes.length<=1048576
theorem StateP.small{s:State}(h:StateP s):G3 s:=by
 have hq:=(Lb h.queue).1
 unfold allJobs at hq
 simp only[yU,List.length_map]at hq
 exact⟨by have:=h.up;have:=h.topo.nodes;omega,by have:=h.topo.tree.le;omega,by have:=h.topo.nodes;omega,by omega,by have:=h.ends;omega,fun x hx=>by
  obtain⟨h1,h2,_⟩:=h.runs.job x hx
  have:=Yg.1 h1;omega⟩
theorem L08{s:State}(h:G3 s):Jq s=some s:=by
 unfold Jq
 have:=h.up;have:=h.par;have:=h.nodes;have:=h.jobs;have:=h.ends
 rw[U0 (by simp;omega),bS,U0 (by simp;omega),bS,U0 (by simp;omega),bS,U0 (by simp;omega),bS]
 rw[V6 (bd:=Jn) (bs:=120) (p:=fun _=>true) (f:=id) (fun x hx i b k=>by
  have:=h.run x hx
  unfold Jn
  rw[U0 (by simp;omega),bS];simp) (by simp;omega)]
 unfold ZF
 rw[U0 (by simp;omega),bS]
 simp[List.filter_eq_self.2]
theorem M0a{s:State}(h:G3 s):Jc s=some s:=by
 unfold Jc Yc Xc
 have:=h.up;have:=h.par;have:=h.nodes;have:=h.jobs;have:=h.ends
 rw[U0 (by simp;omega),bS,bS,U0 (by simp;omega),bS,bS,U0 (by simp;omega),bS,U0 (by simp;omega),bS]
 rw[V6 (bd:=Xh) (bs:=120) (p:=fun _=>true) (f:=id) (fun x hx i b k=>by
  have:=h.run x hx
  unfold Xh Xc
  rw[U0 (by simp;omega),bS,bS];simp) (by simp;omega)]
 unfold Vv
 rw[U0 (by simp;omega),bS]
 simp[List.filter_eq_self.2]
theorem O1E(j:Job)(b:List Job)(id:Int)(hj:j.id=id):∀(a:List Job) (i:Nat),(∀x∈a,x.id≠id)->rgl (Mf id) YF (a++j::b) i ()=some (j,true)
 |[],i,_=>by simp[rgl,Mf,hj]
 |x::a,i,h=>by
  have hx:(x.id==id)=false:=by simpa using h x (yJ ..)
  rw[List.cons_append,rgl,Mf,hx,yM]
  exact O1E j b id hj a (i+1) fun y hy=>h y (yH _ hy)
theorem O1s(j:Job)(b:List Job)(id:Int)(hj:j.id=id):∀(a:List Job) (i:Nat),(∀x∈a,x.id≠id)->rgl (M0 id) M2 (a++j::b) i ()=some ((i+a.length:Nat):Int)
 |[],i,_=>by simp[rgl,M0,Ji,hj]
 |x::a,i,h=>by
  have hx:Ji x id=false:=by unfold Ji;simpa using h x (yJ ..)
  rw[List.cons_append,rgl,M0,hx,yM,O1s j b id hj a (i+1) fun y hy=>h y (yH _ hy)]
  congr 2
  simp;omega
theorem M20{j:Job}{a b:List Job}{id:Int}(hl:a.length+b.length<=1048576)(hj:j.id=id)(ha:∀x∈a,x.id≠id)(hb:∀x∈b,x.id≠id):ML (a++j::b) id=some (a++b):=by
 unfold ML
 rw[V6 (bd:=OL id) (bs:=88) (p:=fun x=>x.id != id) (f:=fun x=>x) (fun x _ i b k=>rfl) (by simp;omega)]
 unfold WL
 have e1:a.filter (fun x=>x.id != id)=a:=List.filter_eq_self.2 fun x hx=>by simpa using ha x hx
 have e2:b.filter (fun x=>x.id != id)=b:=List.filter_eq_self.2 fun x hx=>by simpa using hb x hx
 rw[List.filter_append,List.filter_cons,e1,e2]
 simp[hj]
theorem V24{j:Job}{a b:List Job}(hl:a.length+b.length<=1048576):J0R (a++j::b) (a.length:Int) (w64 ((a.length:Int)+1))=some (a++b):=by
 rw[Uc (by omega)]
 unfold J0R
 rw[yd ⟨by omega,by omega,by simp;omega⟩]
 simp
theorem J1u(s:State)(hs:List Held):∀(i:Nat) (q:List Job) (rs:List Run),(hs.map Held.id).Nodup->(∀h∈hs,∃j∈q,j.id=h.id)->(q.map Job.id).Nodup->q.length+rs.length<=1048576 ->
  ∃q' new,(∀k,rgl (V8 s) k hs i (q,rs)=k (q',rs++new))/\(∀k,rgl (Xp s) k hs i (q,rs)=k (q',rs++new)) /\
   (∀x∈new,x.t=s.now/\∃h∈hs,x.nodes=h.nodes)/\(q'++new.map Run.job).Perm q:=by
 induction hs with
 |nil=>intro i q rs _ _ _ _;exact⟨q,[],fun k=>by simp[rgl],fun k=>by simp[rgl],by simp,by simp⟩
 |cons h hs ih =>
  intro i q rs hn hm hq hl
  obtain⟨j,hj,hid⟩:=hm h (yJ ..)
  obtain⟨a,b,rfl⟩:=List.append_of_mem hj
  have hq2:(j.id::((a++b).map Job.id)).Nodup:=by
   have:((a++j::b).map Job.id).Perm ((j::(a++b)).map Job.id):=List.perm_middle.map _
   exact(this.nodup_iff.1 hq)
  rw[List.nodup_cons]at hq2
  have hab:∀x∈a++b,x.id≠h.id:=fun x hx e=>hq2.1 (by rw[hid,← e];exact List.mem_map_of_mem hx)
  have ha:∀x∈a,x.id≠h.id:=fun x hx=>hab x (List.mem_append_left _ hx)
  have hb:∀x∈b,x.id≠h.id:=fun x hx=>hab x (List.mem_append_right _ hx)
  simp only[yU,yT]at hl
  rw[List.map_cons,List.nodup_cons]at hn
  obtain⟨q',new,h1,h2,h3,h4⟩:=ih (i+1) (a++b) (rs++[Run.mk j s.now h.nodes]) hn.2 (fun h' hh'=>by
   obtain⟨j',hj',hid'⟩:=hm h' (yH _ hh')
   have hne:j'.id≠j.id:=fun e=>hn.1 (by rw[← hid,← e,hid'];exact List.mem_map_of_mem hh')
   rcases List.mem_append.1 hj' with q|q
   .exact⟨j',List.mem_append_left _ q,hid'⟩
   .rcases yX q with q|q
    .exact absurd (by rw[q]) hne
    .exact⟨j',List.mem_append_right _ q,hid'⟩) hq2.2 (by simp;omega)
  refine⟨q',Run.mk j s.now h.nodes::new,fun k=>?_,fun k=>?_,fun x hx=>?_,?_⟩
  .rw[rgl,V8]
   unfold LQ
   simp only
   rw[O1E j b h.id hid a 0 ha,bS,M20 (by omega) hid ha hb,bS,U0 (by simp;omega),bS,h1 k]
   simp
  .rw[rgl,Xp]
   unfold Q0f Z2
   simp only
   rw[O1s j b h.id hid a 0 ha,bS,bS,Nat.zero_add,V2,yS (yV _),Nat.sub_self,List.getElem?_cons_zero,bS,U0 (by simp;omega),bS,V24 (by omega),bS,h2 k]
   simp
  .rcases yX hx with rfl|hx
   .exact⟨rfl,h,yJ ..,rfl⟩
   .obtain⟨e1,h',hh',e2⟩:=h3 x hx
    exact⟨e1,h',yH _ hh',e2⟩
  .rw[List.map_cons]
   refine List.perm_middle.trans ?_
   exact(h4.cons j).trans List.perm_middle.symm
structure G0(s s':State)(new:List Run):Prop where
 topo:s'.topo=s.topo
 up:s'.up=s.up
 lic:s'.lic=s.lic
 depth:s'.depth=s.depth
 now:s'.now=s.now
 ends:s'.ends=s.ends
 runs:s'.runs=s.runs++new
 fresh:∀x∈new,x.t=s.now/\x.nodes.length<=24
 perm:(s'.queue++new.map Run.job).Perm s.queue
theorem G0.len{s s':State}{new:List Run}(h:G0 s s' new):s'.queue.length+s'.runs.length=s.queue.length+s.runs.length:=by
 have:=h.perm.length_eq
 rw[h.runs]
 simp at this ⊢;omega
theorem G0.small{s s':State}{new:List Run}(h:G0 s s' new)(hs:G3 s):G3 s' :=
  ⟨by rw[h.up];exact hs.up,by rw[h.topo];exact hs.par,by rw[h.topo];exact hs.nodes,by rw[h.len];exact hs.jobs,by rw[h.ends];exact hs.ends,fun x hx=>by
    rw[h.runs]at hx
    rcases List.mem_append.1 hx with hx|hx
    · exact hs.run x hx
    · have:=(h.fresh x hx).2;omega⟩
theorem M1p{s:State}(hs:G3 s):∃s' new,Z7 s=some s'/\Jr s=some s'/\G0 s s' new:=by
 obtain⟨r,hr,_⟩:=OF s
 obtain⟨p,p1,p2,p3⟩:=Z1V r.1 s.now s.queue s.depth
 unfold Z7 Jr
 rw[Y0i,hr,bS,bS,p1,p2,bS,bS,M0a hs,bS]
 have key:(p.1.map Held.id).Nodup/\(∀h∈p.1,∃j∈s.queue,j.id=h.id)/\(∀h∈p.1,h.nodes.length<=24)/\(p.1=[]\/(s.queue.map Job.id).Nodup):=by
  rcases p3 with p3|⟨p3,p4⟩
  .rw[p3];exact⟨by simp,by simp,by simp,.inl rfl⟩
  .have hn:=(Lb p3).2.2
   have ho:((ordF s.queue).map Job.id).Nodup:=((Z0a s.queue).map _).nodup_iff.2 hn
   refine⟨ho.sublist p4.sub,fun h hh=>?_,p4.nodes,.inr hn⟩
   have:h.id∈(ordF s.queue).map Job.id:=p4.sub.subset (List.mem_map_of_mem hh)
   obtain⟨j,hj,e⟩:=yY this
   exact⟨j,(Z0a s.queue).mem_iff.1 hj,e⟩
 obtain⟨k1,k2,k3,k4⟩:=key
 rcases k4 with k4|k4
 .rw[k4]
  exact⟨s,[],rfl,rfl,rfl,rfl,rfl,rfl,rfl,rfl,by simp,by simp,by simp⟩
 .obtain⟨q',new,h1,h2,h3,h4⟩:=J1u s p.1 0 s.queue s.runs k1 k2 k4 hs.jobs
  rw[h1,h2]
  exact⟨_,new,rfl,rfl,rfl,rfl,rfl,rfl,rfl,rfl,rfl,fun x hx=>by
   obtain⟨e1,h,hh,e2⟩:=h3 x hx
   exact⟨e1,by rw[e2];exact k3 h hh⟩,h4⟩
def G4(x:Run):Int:=w64 (x.t+x.job.wall)
def G6(v:Int)(x:Run):Int:=bif decide (v<0)||decide (G4 x<v)then G4 x else v
def G5(s:State):Int:=s.runs.foldl G6 (-1)
theorem UD(s:State):Me s=some (G5 s):=by
 unfold Me G5
 rw[Xu (f:=G6) (fun x _ i b k=>by
  unfold ME G6 G4
  cases(decide (b<0)||decide (w64 (x.t+x.job.wall)<b))<;>rfl)]
 rfl
theorem W0a(s:State):Zs s=some (G5 s):=by
 unfold Zs G5
 rw[Xu (f:=G6) (fun x _ i b k=>by
  unfold YG G6 G4
  cases(decide (b<0)||decide (w64 (x.t+x.job.wall)<b))<;>rfl)]
 rfl
theorem J1r:∀(l:List Run) (v:Int),l.foldl G6 v=v\/∃x∈l,G4 x=l.foldl G6 v
 |[],v=>.inl rfl
 |x::l,v=>by
  rw[List.foldl_cons]
  have step:G6 v x=v\/G6 v x=G4 x:=by
   unfold G6
   cases(decide (v<0)||decide (G4 x<v))with
   |true=>exact .inr rfl
   |false=>exact .inl rfl
  rcases J1r l (G6 v x)with h|⟨y,hy,h⟩
  .rw[h]
   rcases step with e|e
   .exact .inl e
   .exact .inr ⟨x,yJ ..,e.symm⟩
  .exact .inr ⟨y,yH _ hy,h⟩
theorem WZ{s:State}(h:0<=G5 s):∃x∈s.runs,G4 x=G5 s:=by
 rcases J1r s.runs (-1)with e|e
 .unfold G5 at h;omega
 .exact e
theorem Y1B:∀(l:List Run) (v:Int),(∀x∈l,0<=G4 x)->(0<=v->l.foldl G6 v<=v)/\(∀x∈l,l.foldl G6 v<=G4 x)
 |[],v,_=>⟨fun _=>Int.le_refl _,by simp⟩
 |x::l,v,h=>by
  obtain⟨h1,h2⟩:=Y1B l (G6 v x) fun y hy=>h y (yH _ hy)
  have hx:=h x (yJ ..)
  have hv:0<=G6 v x/\G6 v x<=G4 x/\(0<=v->G6 v x<=v):=by
   unfold G6
   by_cases a:v<0
   .simp[a];omega
   .by_cases b:G4 x<v
    .simp[b];omega
    .simp[a,b];omega
  rw[List.foldl_cons]
  have:=h1 hv.1
  refine⟨fun q=>by have:=hv.2.2 q;omega,fun y hy=>?_⟩
  rcases yX hy with rfl|hy
  .omega
  .exact h2 y hy
def G7(n:Int)(l:List Run):List Run:=l.filter fun x=>!(G4 x==n)
def G8(n:Int)(l:List Run):List End:=(l.filter fun x=>G4 x==n).map fun x=>End.mk x.job.id n 1
def endF(s:State)(n:Int):State:=State.mk s.topo s.up s.lic s.depth n s.queue (G7 n s.runs) (s.ends++G8 n s.runs)
theorem M1y(v:State×Int)(k:List End×List Run->Option (State×Bool))(l:List Run):∀(i:Nat) (es:List End) (rs:List Run),es.length+l.length<=3000000->rs.length+l.length<=3000000 ->
  rgl (QB v) k l i (es,rs)=k (es++G8 v.2 l,rs++G7 v.2 l):=by
 induction l with
 |nil=>intro i es rs _ _;simp[rgl,G8,G7]
 |cons x l ih =>
  intro i es rs h1 h2
  simp only[yT]at h1 h2
  rw[rgl,QB]
  have e0:w64 (x.t+x.job.wall)=G4 x:=rfl
  simp only[e0]
  cases hx:(G4 x==v.2)with
  |true =>
   rw[yN,U0 (by simp;omega),bS,ih (i+1) _ _ (by simp;omega) (by omega)]
   simp[G8,G7,hx]
  |false =>
   rw[yM,U0 (by simp;omega),bS,ih (i+1) _ _ (by omega) (by simp;omega)]
   simp[G8,G7,hx]
theorem V1D(s:State)(n:Int)(hn:s.now=n)(k:List End×List Job×List Run->Option (List Job×State))(l:List Run):∀(i:Nat) (es:List End) (js:List Job) (rs:List Run),es.length+l.length<=3000000->js.length+l.length<=3000000->rs.length+l.length<=3000000 ->
  ∃js',rgl (J1 s 1 n) k l i (es,js,rs)=k (es++G8 n l,js',rs++G7 n l):=by
 induction l with
 |nil=>intro i es js rs _ _ _;exact⟨js,by simp[rgl,G8,G7]⟩
 |cons x l ih =>
  intro i es js rs h1 h2 h3
  simp only[yT]at h1 h2 h3
  have e0:XE x n=(G4 x==n):=rfl
  cases hx:(G4 x==n)with
  |true =>
   obtain⟨js',hj⟩:=ih (i+1) (es++[End.mk x.job.id n 1]) (js++[x.job]) rs (by simp;omega) (by simp;omega) (by omega)
   refine⟨js',?_⟩
   rw[rgl,J1,e0,hx]
   simp only[yL,yM]
   rw[U0 (by simp;omega),bS,U0 (by simp;omega),bS,hn,hj]
   simp[G8,G7,hx]
  |false =>
   obtain⟨js',hj⟩:=ih (i+1) es js (rs++[x]) (by omega) (by omega) (by simp;omega)
   refine⟨js',?_⟩
   rw[rgl,J1,e0,hx]
   simp only[Bool.not_false,yN]
   rw[U0 (by simp;omega),bS,hj]
   simp[G8,G7,hx]
theorem W1s{n:Int}{l:List Run}{x:Run}(hx:x∈l)(he:G4 x=n):(G7 n l).length<l.length:=by
 unfold G7
 refine Nat.lt_of_le_of_ne (List.length_filter_le ..) fun e=>?_
 have:=List.length_filter_eq_length_iff.1 e x hx
 simp[he]at this
theorem Q0x{s:State}(h:G3 s)(n:Int)(he:(endF s n).ends.length<=1048576):G3 (endF s n) :=
  ⟨h.up,h.par,h.nodes,by
    have:=h.jobs
    have:(G7 n s.runs).length<=s.runs.length:=List.length_filter_le ..
    simp only[endF];omega,he,fun x hx=>h.run x ((List.mem_filter.1 hx).1)⟩
def badS:State×Bool:=(State.mk (Topo.mk [] []) [] (Vec.mk 0 0 0) 0 0 [] [] [],false)
def atT(s:State)(t:Int):State:=State.mk s.topo s.up s.lic s.depth t s.queue s.runs s.ends
theorem V0e(t:Int){s:State}(h:G3 s)(k:State×Int->Option (State×Bool)):Om t (s,G5 s) k=bif decide (0<=G5 s)&&decide (G5 s<=t)then(bif decide (300<((endF s (G5 s)).ends.length:Int))then some badS else(Z7 (endF s (G5 s))).bind fun y=>k (y,G5 y))else some (atT s t,true):=by
 have h1:=h.jobs
 have h2:=h.ends
 unfold Om
 simp only
 rw[M1y (s,G5 s) _ s.runs 0 s.ends [] (by omega) (by simp;omega)]
 unfold UV
 simp only[UD,bS]
 rfl
theorem V13(t:Int){s:State}(h:G3 s)(k:State->Option (State×Bool)):Vn t s k=bif decide (0<=G5 s)&&decide (G5 s<=t)then(bif decide (300<((endF s (G5 s)).ends.length:Int))then some badS else(Jr (endF s (G5 s))).bind fun y=>k y)else some (atT s t,true):=by
 have h1:=h.jobs
 have h2:=h.ends
 unfold Vn L3
 simp only[W0a,bS]
 obtain⟨js',hj⟩:=V1D (State.mk s.topo s.up s.lic s.depth (G5 s) s.queue s.runs s.ends) (G5 s) rfl (J2 (State.mk s.topo s.up s.lic s.depth (G5 s) s.queue s.runs s.ends)) s.runs 0 s.ends [] [] (by omega) (by simp;omega) (by simp;omega)
 rw[hj]
 unfold J2
 simp only[bS]
 have e:(decide (G5 s<0)||decide (t<G5 s)) = !(decide (0<=G5 s)&&decide (G5 s<=t)):=by
  rw[Bool.eq_iff_iff];simp
 rw[e]
 cases(decide (0<=G5 s)&&decide (G5 s<=t))<;>rfl
theorem W1m(t:Int):∀(m:Nat) (s:State) (f1 f2:Nat),G3 s->s.queue.length+s.runs.length<=m->m<f1->m<f2->∃r,whl (Om t) f1 (s,G5 s)=some r/\whl (Vn t) f2 s=some r:=by
 intro m
 induction m with
 |zero =>
  intro s f1 f2 hs hm h1 h2
  obtain⟨f1,rfl⟩:∃f,f1=f+1:=⟨f1-1,by omega⟩
  obtain⟨f2,rfl⟩:∃f,f2=f+1:=⟨f2-1,by omega⟩
  rw[whl,whl,V0e t hs,V13 t hs]
  cases hc:(decide (0<=G5 s)&&decide (G5 s<=t))with
  |false=>exact⟨_,rfl,rfl⟩
  |true =>
   simp only[yD,yO]at hc
   obtain⟨x,hx,_⟩:=WZ hc.1
   have:=List.length_pos_of_mem hx
   omega
 |succ m ih =>
  intro s f1 f2 hs hm h1 h2
  obtain⟨f1,rfl⟩:∃f,f1=f+1:=⟨f1-1,by omega⟩
  obtain⟨f2,rfl⟩:∃f,f2=f+1:=⟨f2-1,by omega⟩
  rw[whl,whl,V0e t hs,V13 t hs]
  cases hc:(decide (0<=G5 s)&&decide (G5 s<=t))with
  |false=>exact⟨_,rfl,rfl⟩
  |true =>
   simp only[yD,yO]at hc
   obtain⟨x,hx,he⟩:=WZ hc.1
   have hk:=W1s hx he
   simp only[yN]
   by_cases h3:300<((endF s (G5 s)).ends.length:Int)
   .rw[decide_eq_true h3];exact⟨_,rfl,rfl⟩
   .rw[decide_eq_false h3]
    simp only[yM]
    have hsm:=Q0x hs (G5 s) (by omega)
    obtain⟨s',new,e1,e2,hS⟩:=M1p hsm
    rw[e1,e2,bS,bS]
    have hl:=hS.len
    have:(endF s (G5 s)).queue.length+(endF s (G5 s)).runs.length=s.queue.length+(G7 (G5 s) s.runs).length:=rfl
    exact ih s' f1 f2 (hS.small hsm) (by omega) (by omega) (by omega)
theorem Y1L{s:State}(hs:G3 s)(t:Int):∃r,Jx s t=some r/\QL s t=some r:=by
 obtain⟨h1,h2⟩:=M0y hs.jobs
 unfold Jx QL
 rw[h1,h2,bS,bS,L08 hs,M0a hs,bS,bS,UD,bS]
 cases hS:J07 s with
 |false=>exact⟨_,rfl,rfl⟩
 |true =>
  have hn:=U9.1 (X0I hS).now
  have e:((!Q2 t)||decide (t<s.now)) = !(Z0 t s.now 1000000000):=by
   rw[Qa]
   unfold Z0
   rw[Bool.eq_iff_iff]
   cases ht:time t with
   |true=>have:=U9.1 ht;simp;omega
   |false =>
    have:¬ (0<=t/\t<=1000000000):=fun q=>by rw[U9.2 q]at ht;cases ht
    simp;omega
  simp only[yL,Bool.false_or,e]
  cases Z0 t s.now 1000000000 with
  |false=>exact⟨_,rfl,rfl⟩
  |true=>exact W1m t (s.queue.length+s.runs.length) s _ _ hs (yV _) (by have:=hs.jobs;omega) (by have:=hs.jobs;omega)
end Go.Proofs.YtodafdoninblmaaGreat
