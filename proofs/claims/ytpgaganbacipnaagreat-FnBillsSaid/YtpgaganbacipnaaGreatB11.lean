/-
  Lemmas, part 11.
-/
import Derived.Test.YtpgaganbacipnaaGreatB10
import Derived.Test.YtpgaganbacipnaaGreatB1
namespace Go.Proofs.YtpgaganbacipnaaGreat
open Go Go.RowKit Eng Go.Sort
def Q0r(x y:Job):Bool:=!decide (x.prio<y.prio\/(x.prio=y.prio/\y.id<x.id))
def U1j(l:List Job):Prop:=(l.map (·.id)).Nodup/\(∀j∈l,-2305843009213693952<=j.prio/\j.prio<=2305843009213693952/\-2305843009213693952<=j.id/\j.id<=2305843009213693952)/\l.length<4611686018427387904
instance(l:List Job):Decidable (U1j l):=by unfold U1j;infer_instance
end Go.Proofs.YtpgaganbacipnaaGreat
namespace Go.Proofs.YtpgaganbacipnaaGreat
open Go Go.RowKit Eng
def J0A:L :=
.seq (rE 2 (cB false))
 (.seq (sR [mV 6 0,.ln 7 6,.bi 8 .gtr 7 (kI 60)]
 (.cond 8 (.seq (rE 2 (cB false))
 gR)
 .skip))
 (.seq (sR [mV 9 0,.ln 10 9,.mv 11 (kI 0)]
 (.blk 0 (.loop (.gw (sR [bI 12 .lss 11 10]
 (.seq (.cond 12 .skip
 (.exit 0))
 (.seq (.blk 1 (sR [mV 13 11,iA 14 9 11 11,lT 15 14 11,.al 4 [.int .i64 0,.int .i64 0,.int .i64 0,.int .i64 0,.int .i64 0,.int .i64 0,.int .i64 0,.int .i64 0,.int .i64 0,.int .i64 0,.int .i64 0],mV 3 13,.st 4 15 11]
 (.seq (sR [lT 16 4 11,cQ 17 Ls [16],.un 18 17]
 (.cond 18 (.seq (rE 2 (cB false))
 gR)
 .skip))
 (.seq (rE 5 (kI 0))
 (.blk 2 (.loop (.gw (.seq (sR [mV 19 5,mV 20 3,bI 21 .lss 19 20]
 (.cond 21 .skip
 (.exit 2)))
 (.seq (.blk 3 (.seq (.rq 8 [mV 24 0,mV 25 5,iA 26 24 25 11,fA 27 26 0,lF 28 27 1,fA 29 4 0,lF 30 29 1,bI 31 .eql 28 30])
 (.cond 31 (.seq (rE 2 (cB false))
 gR)
 .skip)))
 (.reg [mV 22 5,.bi 23 .add 22 (kI 1),mV 5 23]))))))))))
 (.reg [.bi 32 .add 11 (kI 1),mV 11 32]))))))))
 (.seq (rE 2 (cB true))
 gR)))
def Jh(l1:List Job)(i4:Nat)(x4:Job)(k4:Unit->Option Bool)(v5:Int)(k5:Int->Option Bool):Option Bool :=
 bif (decide (v5<(i4:Int)))then((idx l1 v5).bind fun e6=>bif (e6.id==x4.id)then(some false)else(k5 (w64 (v5+1))))else(k4 ())
def ZF(l1:List Job)(x4:Job)(i4:Nat)(_:Unit)(k4:Unit->Option Bool):Option Bool :=
 bif (!(W1 x4))then(some false)else(whl (Jh l1 i4 x4 k4) 9223372036854775807 0)
def JE(_:Unit):Option Bool :=
 some true
def Zk(l1:List Job):Option Bool :=
 bif (decide (60<(l1.length:Int)))then(some false)else(rgl (ZF l1) JE l1 0 ())
theorem OK{l1:List Job}{r:Bool}(H:Zk l1=some r):Snd Tryz.prog UC [rV 11 (l1.map eJob)] (.bool r) []:=by
 refine wS J0A [.t 2] ?_
 unfold Zk at H
 refine wG [.u 7 (.ln _ _ fun _=>lm l1 eJob)] fun q2=>?_
 refine O0 H (fun H=>?_) fun H=>?_
 .obtain rfl:=sI H
  exact wP (wE [(2,.d)])
 .refine wG [.u 10 (.ln _ _ fun _=>lm l1 eJob)] fun q3=>?_
  refine wR (fun(i4:Nat) (v4:Unit)=>⟨[(0,rV 11 (l1.map eJob)),(9,rV 11 (l1.map eJob)),(10,iV (l1.length:Int)),(11,iV (i4:Int))],[],[],[]⟩) H (fun i4 x4 v4 I m k4 hxv4 hiv4 H N48=>?_) (fun v4 I m H=>?_)
  .unfold ZF at H
   refine wP ?_
   refine wt (ltT hiv4) ?_
   refine wG [.u 14 (.ix _ _ _ fun _=>Q0 eJob (J0 hxv4)),.c 17 (OH x4)] fun _=>?_
   refine O0 H (fun H=>?_) fun H=>?_
   .obtain rfl:=sI H
    exact wP (wE [(2,.d)])
   .refine wP ?_
    refine wW (fun(v5:Int)=>⟨[(0,rV 11 (l1.map eJob)),(3,iV (i4:Int)),(4,.ptr 4 0),(5,iV v5),(9,rV 11 (l1.map eJob)),(10,iV (l1.length:Int)),(11,iV (i4:Int))],[],[(4,(eJob x4).cells)],[]⟩) H (fun v5 I m k5 H N38=>?_)
    unfold Jh at H
    refine wP ?_
    refine O0 H (fun H=>?_) fun H=>?_
    .obtain⟨e6,h6,H⟩:=bB H
     refine wG [.u 26 (.ix _ _ _ fun _=>Q0 eJob h6)] fun _=>?_
     refine O0 H (fun H=>?_) fun H=>?_
     .obtain rfl:=sI H
      exact wP (wE [(2,.d)])
     .refine wP ?_
      exact wT (N38 _ H)
    .refine wG [.w 32 (wi .i64 rfl hiv4 q2.1)] fun _=>?_
     exact wT (N48 () H)
  .unfold JE at H
   refine wP ?_
   refine wf (ltF l1.length) ?_
   obtain rfl:=sI H
   exact wP (wE [(2,.d)])
def L0k:L :=
sR [.bx 2 0,.bx 3 1,.mv 4 (cB false)]
 (sR [fA 5 2 1,lF 6 5 1,fA 7 3 1,lF 8 7 1,bI 9 .gtr 6 8,mV 10 9,gF 10 (fA 11 2 1),gF 10 (lF 12 11 1),gF 10 (fA 13 3 1),gF 10 (lF 14 13 1),gF 10 (bI 15 .eql 12 14),gF 10 (mV 16 15),gT 16 (fA 17 2 0),gT 16 (lF 18 17 1),gT 16 (fA 19 3 0),gT 16 (lF 20 19 1),gT 16 (bI 21 .lss 18 20),gF 10 (.pk 22 16 21 (cB false)),.pk 23 10 (cB true) 22,mV 4 23]
 gR)
def Mp(a1 b2:Job):Option Bool :=
 some ((decide (b2.prio<a1.prio))||((a1.prio==b2.prio)&&(decide (a1.id<b2.id))))
theorem O0c{a1 b2:Job}{r:Bool}(H:Mp a1 b2=some r):Snd Tryz.prog JG [eJob a1,eJob b2] (.bool r) []:=by
 refine wS L0k [.t 4] ?_
 unfold Mp at H
 obtain rfl:=sI H
 exact wP (wE [(4,.d)])
def U6(a1 b2:Job):Bool :=
 ((decide (b2.prio<a1.prio))||((a1.prio==b2.prio)&&(decide (a1.id<b2.id))))
theorem U0p(a1 b2:Job):Mp a1 b2=some (U6 a1 b2):=by
 unfold Mp U6
 first|rfl|simp only[J5]
theorem V0j(a1 b2:Job):Snd Tryz.prog JG [eJob a1,eJob b2] (.bool (U6 a1 b2)) []:=O0c (U0p a1 b2)
def V0R:L :=
sR [.mv 2 (.c (.nl))]
 (sR [.bs 10 11 [] true,mV 3 10]
 (.seq (sR [mV 11 0,cQ 12 UC [11],.un 13 12]
 (.cond 13 (sR [mV 14 3,mV 2 14]
 gR)
 .skip))
 (.seq (sR [mV 15 0,.ln 16 15,.mv 17 (kI 0)]
 (.blk 0 (.loop (.gw (sR [bI 18 .lss 17 16]
 (.seq (.cond 18 .skip
 (.exit 0))
 (.seq (.blk 1 (sR [iA 19 15 17 11,lT 20 19 11,.al 5 [.int .i64 0,.int .i64 0,.int .i64 0,.int .i64 0,.int .i64 0,.int .i64 0,.int .i64 0,.int .i64 0,.int .i64 0,.int .i64 0,.int .i64 0],.st 5 20 11]
 (sR [.bs 21 11 [] true,mV 6 21]
 (.seq (rE 7 (cB false))
 (.seq (sR [mV 22 3,.ln 23 22,.mv 24 (kI 0)]
 (.blk 2 (.loop (.gw (sR [bI 25 .lss 24 23]
 (.seq (.cond 25 .skip
 (.exit 2))
 (.seq (.blk 3 (sR [iA 26 22 24 11,lT 27 26 11,.al 9 [.int .i64 0,.int .i64 0,.int .i64 0,.int .i64 0,.int .i64 0,.int .i64 0,.int .i64 0,.int .i64 0,.int .i64 0,.int .i64 0,.int .i64 0],.st 9 27 11]
 (.seq (sR [mV 28 7,.un 29 28,mV 30 29,gT 30 (lT 31 5 11),gT 30 (lT 32 9 11),gT 30 (cQ 33 JG [31,32]),.pk 34 30 33 (cB false)]
 (.cond 34 (sR [mV 35 6,lT 36 5 11,.bs 37 11 [36] false,.ap 38 35 37 11 88,mV 6 38]
 (rE 7 (cB true)))
 .skip))
 (.gw (.reg [mV 39 6,lT 40 9 11,.bs 41 11 [40] false,.ap 42 39 41 11 88,mV 6 42])))))
 (.reg [.bi 43 .add 24 (kI 1),mV 24 43]))))))))
 (.seq (sR [mV 44 7,.un 45 44]
 (.cond 45 (.reg [mV 46 6,lT 47 5 11,.bs 48 11 [47] false,.ap 49 46 48 11 88,mV 6 49])
 .skip))
 (.reg [mV 50 6,mV 3 50])))))))
 (.reg [.bi 51 .add 17 (kI 1),mV 17 51]))))))))
 (sR [mV 52 3,mV 2 52]
 gR))))
def Xa(x6:Job)(k6:(Bool×(List Job))->Option (List Job))(v8:Bool×(List Job)):Option (List Job) :=
 (appL 88 v8.2 [x6]).bind fun xs9=>k6 (v8.1,xs9)
def Wi(x4 x6:Job)(_:Nat)(v6:Bool×(List Job))(k6:(Bool×(List Job))->Option (List Job)):Option (List Job) :=
 bif ((!v6.1)&&(U6 x4 x6))then((appL 88 v6.2 [x4]).bind fun xs7=>(Xa x6 k6) (true,xs7))else((Xa x6 k6) (v6.1,v6.2))
def Qi(x4:Job)(k4:(List Job)->Option (List Job))(v6:Bool×(List Job)):Option (List Job) :=
 bif (!v6.1)then((appL 88 v6.2 [x4]).bind fun xs10=>k4 xs10)else(k4 v6.2)
def VB(x4:Job)(_:Nat)(v4:(List Job))(k4:(List Job)->Option (List Job)):Option (List Job) :=
 rgl (Wi x4) (Qi x4 k4) v4 0 (false,[])
def VR(v4:(List Job)):Option (List Job) :=
 some v4
def MT(l1:List Job):Option (List Job) :=
 (Zk l1).bind fun b2=>bif (!b2)then(some [])else(rgl VB VR l1 0 [])
theorem Y0O{l1:List Job}{r:(List Job)}(H:MT l1=some r):Snd Tryz.prog L0o [rV 11 (l1.map eJob)] (nV 11 (r.map eJob)) []:=by
 refine wS V0R [.t 2] ?_
 unfold MT at H
 obtain⟨b2,h2,H⟩:=bB H
 refine wG [.c 12 (OK h2)] fun _=>?_
 refine O0 H (fun H=>?_) fun H=>?_
 .refine wP ?_
  replace H:=sI H;subst H
  exact wN [(2,.f)] [] [] [10] [] [⟨_,WL ([]:List Job)⟩]
 .refine wG [.u 16 (.ln _ _ fun _=>lm l1 eJob)] fun q3=>?_
  refine wR (fun(i4:Nat) (v4:(List Job))=>⟨[(3,.sref 10),(15,rV 11 (l1.map eJob)),(16,iV (l1.length:Int)),(17,iV (i4:Int))],[],[],[(10,⟨11,v4.map eJob,false⟩)]⟩) H (fun i4 x4 v4 I m k4 hxv4 hiv4 H N57=>?_) (fun v4 I m H=>?_)
  .unfold VB at H
   refine wP ?_
   refine wt (ltT hiv4) ?_
   refine wG [.u 19 (.ix _ _ _ fun _=>Q0 eJob (J0 hxv4)),.u 23 (.ln _ _ fun _=>lm v4 eJob)] fun q5=>?_
   refine wR (fun(i6:Nat) (v6:Bool×(List Job))=>⟨[(5,.ptr 5 0),(6,.sref 21),(7,.bool v6.1),(15,rV 11 (l1.map eJob)),(16,iV (l1.length:Int)),(17,iV (i4:Int)),(22,.sref 10),(23,iV (v4.length:Int)),(24,iV (i6:Int))],[],[(5,(eJob x4).cells)],[(21,⟨11,v6.2.map eJob,false⟩),(10,⟨11,v4.map eJob,false⟩)]⟩) H (fun i6 x6 v6 I m k6 hxv6 hiv6 H N38=>?_) (fun v6 I m H=>?_)
   .unfold Wi at H
    refine wP ?_
    refine wt (ltT hiv6) ?_
    refine wG [.u 26 (.ix _ _ _ fun _=>Q0 eJob (J0 hxv6)),.u 27 (.el _ _ _ fun _=>gm eJob (Y5 (J0 hxv6))),.g 33 [((!v6.1),true)] (.call _ _ _ _ _ (AEs.refl _) (fun _=>V0j x4 x6))] fun _=>?_
    refine Z6 (r:=r) (Xa x6 k6) 0 (fun v8:Bool×(List Job)=>⟨[(5,.ptr 5 0),(6,.sref 21),(7,.bool v8.1),(9,.ptr 9 0),(15,.sl .rd 11 (l1.map eJob)),(16,.int .i64 (l1.length:Int)),(17,.int .i64 (i4:Int)),(22,.sref 10),(23,.int .i64 (v4.length:Int)),(24,.int .i64 (i6:Int))],[],[(5,(eJob x4).cells),(9,(eJob x6).cells)],[(21,⟨11,v8.2.map eJob,false⟩),(10,⟨11,v4.map eJob,false⟩)]⟩) (by kernel_rfl) (fun v8 H=>?_) (fun J30=>?_)
    .unfold Xa at H
     obtain⟨xs9,h9,H⟩:=bB H
     refine wG [.u 42 (.ap _ _ _ _ fun _=>L0 eJob h9),.w 43 (wi .i64 rfl hiv6 q5.1)] fun _=>?_
     exact wT (N38 _ H)
    .refine O0 H (fun H=>?_) fun H=>?_
     .obtain⟨xs7,h7,H⟩:=bB H
      refine wG [.u 38 (.ap _ _ _ _ fun _=>L0 eJob h7)] fun _=>?_
      exact wT (J30 _ H)
     .refine wP ?_
      exact wT (J30 _ H)
   .unfold Qi at H
    refine wP ?_
    refine wf (ltF v4.length) ?_
    refine wP ?_
    refine O0 H (fun H=>?_) fun H=>?_
    .obtain⟨xs10,h10,H⟩:=bB H
     refine wG [.u 49 (.ap _ _ _ _ fun _=>L0 eJob h10),.w 51 (wi .i64 rfl hiv4 q3.1)] fun _=>?_
     exact Z0e (N57 _ H) [] [] [(10,(some 21,0))] [] (by kernel_rfl) (by kernel_rfl)
    .refine wG [.w 51 (wi .i64 rfl hiv4 q3.1)] fun _=>?_
     exact Z0e (N57 _ H) [] [] [(10,(some 21,0))] [] (by kernel_rfl) (by kernel_rfl)
  .unfold VR at H
   refine wP ?_
   refine wf (ltF l1.length) ?_
   refine wP ?_
   replace H:=sI H;subst H
   exact wN [(2,.f)] [] [] [10] [] [⟨_,WL v4⟩]
def J0z:L :=
sR [.al 4 [.int .i64 0,.int .i64 0,.int .i64 0,.int .i64 0,.int .i64 0,.int .i64 0,.int .i64 0,.int .i64 0,.int .i64 0,.int .i64 0,.int .i64 0],.mv 5 (cB false)]
 (.seq (sR [mV 8 0,.ln 9 8,.mv 10 (kI 0)]
 (.blk 0 (.loop (.gw (sR [bI 11 .lss 10 9]
 (.seq (.cond 11 .skip
 (.exit 0))
 (.seq (.blk 1 (sR [iA 12 8 10 11,lT 13 12 11,.al 7 [.int .i64 0,.int .i64 0,.int .i64 0,.int .i64 0,.int .i64 0,.int .i64 0,.int .i64 0,.int .i64 0,.int .i64 0,.int .i64 0,.int .i64 0],.st 7 13 11]
 (sR [fA 14 7 0,lF 15 14 1,mV 16 1,bI 17 .eql 15 16]
 (.cond 17 (sR [lT 18 7 11,.st 4 18 11,.mv 5 (cB true)]
 gR)
 .skip))))
 (.reg [.bi 19 .add 10 (kI 1),mV 10 19]))))))))
 (sR [.bd 20 [.int .i64 0,.int .i64 0,.int .i64 0,.int .i64 0,.int .i64 0,.int .i64 0,.int .i64 0,.int .i64 0,.int .i64 0,.int .i64 0,.int .i64 0] [],.st 4 20 11,.mv 5 (cB false)]
 gR))
def Oc(id2:Int)(x4:Job)(_:Nat)(_:Unit)(k4:Unit->Option (Job×Bool)):Option (Job×Bool) :=
 bif (x4.id==id2)then(some (x4,true))else(k4 ())
def UE(_:Unit):Option (Job×Bool) :=
 some ((Job.mk 0 0 0 (Vec.mk 0 0 0) (Vec.mk 0 0 0) 0 0),false)
def Xd(l1:List Job)(id2:Int):Option (Job×Bool) :=
 rgl (Oc id2) UE l1 0 ()
theorem Ot{l1:List Job}{id2:Int}{r:Job×Bool}(H:Xd l1 id2=some r):Snd Tryz.prog Vp [rV 11 (l1.map eJob),iV id2] (.tup [eJob r.1,.bool r.2]) []:=by
 refine wS J0z [.c 4 11 true,.t 5] ?_
 unfold Xd at H
 refine wG [.u 9 (.ln _ _ fun _=>lm l1 eJob)] fun q3=>?_
 refine wR (fun(i4:Nat) (v4:Unit)=>⟨[(1,iV id2),(4,.ptr 4 0),(8,rV 11 (l1.map eJob)),(9,iV (l1.length:Int)),(10,iV (i4:Int))],[],[(4,(eJob (Job.mk 0 0 0 (Vec.mk 0 0 0) (Vec.mk 0 0 0) 0 0)).cells)],[]⟩) H (fun i4 x4 v4 I m k4 hxv4 hiv4 H N20=>?_) (fun v4 I m H=>?_)
 .unfold Oc at H
  refine wP ?_
  refine wt (ltT hiv4) ?_
  refine wG [.u 12 (.ix _ _ _ fun _=>Q0 eJob (J0 hxv4))] fun _=>?_
  refine O0 H (fun H=>?_) fun H=>?_
  .refine wP ?_
   replace H:=sI H;subst H
   exact wN [(4,.d),(5,.d)] [(4,[])] [] [] [] []
  .refine wG [.w 19 (wi .i64 rfl hiv4 q3.1)] fun _=>?_
   exact wT (N20 () H)
 .unfold UE at H
  refine wP ?_
  refine wf (ltF l1.length) ?_
  refine wP ?_
  replace H:=sI H;subst H
  exact wN [(4,.d),(5,.d)] [(4,[])] [] [] [] []
def Q0l:L :=
sR [.bx 2 0,.mv 3 (cB false)]
 (sR [fA 4 2 0,lF 5 4 1,fA 6 1 0,lF 7 6 1,bI 8 .eql 5 7,mV 3 8]
 gR)
def Zr(k1 x2:Job):Option Bool :=
 some (k1.id==x2.id)
theorem M0d{k1 x2:Job}{r:Bool}(H:Zr k1 x2=some r):Snd Tryz.prog Zd [eJob k1,.ept (eJob x2) 0] (.bool r) []:=by
 refine wS Q0l [.t 3] ?_
 unfold Zr at H
 obtain rfl:=sI H
 exact wP (wE [(3,.d)])
def Jo(k1 x2:Job):Bool :=
 (k1.id==x2.id)
theorem U0u(k1 x2:Job):Zr k1 x2=some (Jo k1 x2):=by
 unfold Zr Jo
 first|rfl|simp only[J5]
theorem Z0m(k1 x2:Job):Snd Tryz.prog Zd [eJob k1,.ept (eJob x2) 0] (.bool (Jo k1 x2)) []:=M0d (U0u k1 x2)
def Yc:L :=
.seq (rE 4 (kI 0))
 (.seq (sR [mV 6 0,.ln 7 6,.mv 8 (kI 0)]
 (.blk 0 (.loop (.gw (sR [bI 9 .lss 8 7]
 (.seq (.cond 9 .skip
 (.exit 0))
 (.seq (.blk 1 (sR [mV 10 8,mV 5 10]
 (sR [mV 11 1,mV 12 0,mV 13 5,iA 14 12 13 11,lT 15 14 11,.cc 16 11 [15]]
 (.cond 16 (sR [mV 17 5,mV 4 17]
 gR)
 .skip))))
 (.reg [.bi 18 .add 8 (kI 1),mV 8 18]))))))))
 (.seq (rE 4 (kI (-1)))
 gR))
def O1(c2 x4:Job)(i4:Nat)(_:Unit)(k4:Unit->Option Int):Option Int :=
 bif (Jo x4 c2)then(some (i4:Int))else(k4 ())
def O2(_:Unit):Option Int :=
 some (-1)
def Z2(s1:List Job)(c2:Job):Option Int :=
 rgl (O1 c2) O2 s1 0 ()
theorem Jb{s1:List Job}{c2:Job}{r:Int}(H:Z2 s1 c2=some r):Snd Tryz.prog Qa [rV 11 (s1.map eJob),.fn Zd [.ept (eJob c2) 0]] (iV r) []:=by
 refine wS Yc [.t 4] ?_
 unfold Z2 at H
 refine wG [.u 7 (.ln _ _ fun _=>lm s1 eJob)] fun q3=>?_
 refine wR (fun(i4:Nat) (v4:Unit)=>⟨[(0,rV 11 (s1.map eJob)),(1,.fn Zd [.ept (eJob c2) 0]),(7,iV (s1.length:Int)),(8,iV (i4:Int))],[],[],[]⟩) H (fun i4 x4 v4 I m k4 hxv4 hiv4 H N20=>?_) (fun v4 I m H=>?_)
 .unfold O1 at H
  refine wP ?_
  refine wt (ltT hiv4) ?_
  refine wG [.u 14 (.ix _ _ _ fun _=>Q0 eJob (J0 hxv4)),.u 16 (.clsr _ _ _ _ _ (AEs.refl _) (by kernel_rfl) (fun _=>Z0m x4 c2))] fun _=>?_
  refine O0 H (fun H=>?_) fun H=>?_
  .refine wP ?_
   replace H:=sI H;subst H
   exact wE [(4,.d)]
  .refine wG [.w 18 (wi .i64 rfl hiv4 q3.1)] fun _=>?_
   exact wT (N20 () H)
 .unfold O2 at H
  refine wP ?_
  refine wf (ltF s1.length) ?_
  obtain rfl:=sI H
  exact wP (wE [(4,.d)])
def Q9:L :=
.seq (rE 4 (cB false))
 (sR [mV 5 0,mV 6 1,cQ 7 Qa [5,6],.bi 8 .geq 7 (kI 0),mV 4 8]
 gR)
def X1(s1:List Job)(c2:Job):Option Bool :=
 (Z2 s1 c2).bind fun n3=>some (decide (0<=n3))
theorem V9{s1:List Job}{c2:Job}{r:Bool}(H:X1 s1 c2=some r):Snd Tryz.prog X8 [rV 11 (s1.map eJob),.fn Zd [.ept (eJob c2) 0]] (.bool r) []:=by
 refine wS Q9 [.t 4] ?_
 unfold X1 at H
 obtain⟨n3,h3,H⟩:=bB H
 refine wG [.c 7 (Jb h3)] fun _=>?_
 replace H:=sI H;subst H
 exact wE [(4,.d)]
def O0B:L :=
.seq (rE 2 (cB false))
 (.seq (sR [mV 5 0,.ln 6 5,.mv 7 (kI 0)]
 (.blk 0 (.loop (.gw (sR [bI 8 .lss 7 6]
 (.seq (.cond 8 .skip
 (.exit 0))
 (.seq (.blk 1 (sR [mV 9 7,iA 10 5 7 11,lT 11 10 11,.al 4 [.int .i64 0,.int .i64 0,.int .i64 0,.int .i64 0,.int .i64 0,.int .i64 0,.int .i64 0,.int .i64 0,.int .i64 0,.int .i64 0,.int .i64 0],mV 3 9,.st 4 11 11]
 (sR [.fb 4,lT 12 4 11,cQ 13 JD [12],.un 14 13,mV 15 14,gF 15 (mV 16 0),gF 15 (mV 17 3),gF 15 (.sc 18 16 none (some 17) 11),gF 15 (.mf 19 Zd [4]),gF 15 (cQ 20 X8 [18,19]),.pk 21 15 (cB true) 20]
 (.cond 21 (.seq (rE 2 (cB false))
 gR)
 .skip))))
 (.reg [.bi 22 .add 7 (kI 1),mV 7 22]))))))))
 (sR [mV 23 0,.ln 24 23,.bi 25 .leq 24 (kI 60),mV 2 25]
 gR))
def XG(l1:List Job)(x3:Job)(i3:Nat)(_:Unit)(k3:Unit->Option Bool):Option Bool :=
 (bif (!(Xc x3))then some default else(cutL l1 none (some (i3:Int)))).bind fun xs4=>(bif (!(Xc x3))then some default else(X1 xs4 x3)).bind fun b5=>bif ((!(Xc x3))||b5)then(some false)else(k3 ())
def YG(l1:List Job)(_:Unit):Option Bool :=
 some (decide ((l1.length:Int)<=60))
def UD(l1:List Job):Option Bool :=
 rgl (XG l1) (YG l1) l1 0 ()
theorem Q0C{l1:List Job}{r:Bool}(H:UD l1=some r):Snd Tryz.prog V0c [rV 11 (l1.map eJob)] (.bool r) []:=by
 refine wS O0B [.t 2] ?_
 unfold UD at H
 refine wG [.u 6 (.ln _ _ fun _=>lm l1 eJob)] fun q2=>?_
 refine wR (fun(i3:Nat) (v3:Unit)=>⟨[(0,rV 11 (l1.map eJob)),(5,rV 11 (l1.map eJob)),(6,iV (l1.length:Int)),(7,iV (i3:Int))],[],[],[]⟩) H (fun i3 x3 v3 I m k3 hxv3 hiv3 H N20=>?_) (fun v3 I m H=>?_)
 .unfold XG at H
  refine wP ?_
  refine wt (ltT hiv3) ?_
  obtain⟨xs4,h4,H⟩:=bB H
  obtain⟨b5,h5,H⟩:=bB H
  refine wG [.u 10 (.ix _ _ _ fun _=>Q0 eJob (J0 hxv3)),.c 13 (JW x3),.g 18 [(_,false)] (.sc _ _ _ _ fun q=>Q0U eJob (bF q.1 h4)),.g 20 [(_,false)] (.call _ _ _ _ _ (AEs.refl _) (fun q=>V9 (bF q.1 h5)))] fun _=>?_
  refine O0 H (fun H=>?_) fun H=>?_
  .obtain rfl:=sI H
   exact wP (wE [(2,.d)])
  .refine wG [.w 22 (wi .i64 rfl hiv3 q2.1)] fun _=>?_
   exact wT (N20 () H)
 .unfold YG at H
  refine wP ?_
  refine wf (ltF l1.length) ?_
  refine wG [.u 24 (.ln _ _ fun _=>lm l1 eJob)] fun q6=>?_
  replace H:=sI H;subst H
  exact wE [(2,.d)]
def M0r:L :=
sR [.bx 1 0,.al 2 [.nl,.nl,.nl,.nl,.nl],.mv 3 (cB false)]
 (sR [fA 9 1 0,lT 10 9 2,fA 11 1 2,lF 12 11 1,.bd 13 [.nl,.nl,.nl,.nl,.nl] [(0,2,10),(2,1,12)],.al 4 [.nl,.nl,.nl,.nl,.nl],.st 4 13 5]
 (.seq (sR [fA 14 1 0,lT 15 14 2,cQ 16 JI [15],.un 17 16,mV 18 17,gF 18 (fA 19 1 2),gF 18 (lF 20 19 1),gF 18 (.ln 21 20),gF 18 (fA 22 1 0),gF 18 (fA 23 22 1),gF 18 (lF 24 23 1),gF 18 (.ln 25 24),gF 18 (bI 26 .neq 21 25),.pk 27 18 (cB true) 26,mV 28 27,gF 28 (fA 29 1 3),gF 28 (lT 30 29 3),gF 28 (cQ 31 U3 [30]),gF 28 (.un 32 31),.pk 33 28 (cB true) 32]
 (.cond 33 (sR [.bd 34 [.nl,.nl,.nl,.nl,.nl] [],.st 2 34 5,.mv 3 (cB false)]
 gR)
 .skip))
 (.seq (sR [fA 35 1 0,fA 36 35 1,lF 37 36 1,.ln 38 37,.mv 39 (kI 0)]
 (.blk 0 (.loop (.gw (sR [bI 40 .lss 39 38]
 (.seq (.cond 40 .skip
 (.exit 0))
 (.seq (.blk 1 (sR [iA 41 37 39 4,lT 42 41 4,.al 6 [.int .i64 0,.int .i64 0,.int .i64 0,.int .i64 0],.st 6 42 4]
 (sR [fA 44 6 1,lT 45 44 3,cQ 46 QC [45],mV 43 46,eX 47 43 0,eX 48 43 1,.al 7 [.nl],.st 7 47 1,mV 8 48]
 (.reg [fA 49 4 3,lF 50 49 1,lT 51 7 1,.bs 52 1 [51] false,.ap 53 50 52 1 24,fA 54 4 3,.st 54 53 1]))))
 (.reg [.bi 55 .add 39 (kI 1),mV 39 55]))))))))
 (sR [fA 57 1 3,lT 58 57 3,cQ 59 QC [58],mV 56 59,eX 60 56 0,eX 61 56 1,fA 62 4 4,.st 62 60 1]
 (sR [lT 63 4 5,.cl 64 MS [63],.st 2 64 5,.mv 3 (cB true)]
 gR)))))
def Qx(x4:Node)(_:Nat)(v4:(List (List Pt)))(k4:(List (List Pt))->Option (Room×Bool)):Option (Room×Bool) :=
 (appL 24 v4 [(V5 x4.cap).1]).bind fun xs5=>k4 xs5
def Ux(s1:State)(v4:(List (List Pt))):Option (Room×Bool) :=
 (Xs (Room.mk s1.topo s1.up v4 ((V5 s1.lic).1))).bind fun y6=>some (y6,true)
def Ol(s1:State):Option (Room×Bool) :=
 (Xe s1.topo).bind fun b2=>bif (((!b2)||((s1.up.length:Int)!=(s1.topo.nodes.length:Int)))||(!(W0 s1.lic)))then(some ((Room.mk (Topo.mk [] []) [] [] []),false))else(rgl Qx (Ux s1) s1.topo.nodes 0 [])
theorem XZ{s1:State}{r:Room×Bool}(H:Ol s1=some r):Snd Tryz.prog UN [L2 .rd s1] (.tup [.agg [nV 1 (r.1.topo.parents.map eI),nV 4 (r.1.topo.nodes.map V1),.sref 0,nV 1 (r.1.profs.map (V2 .nw)),nV 4 (r.1.lics.map ePt)],.bool r.2]) [⟨1,r.1.up.map eBo,false⟩]:=by
 refine wS M0r [.c 2 5 true,.t 3] ?_
 unfold Ol at H
 obtain⟨b2,h2,H⟩:=bB H
 refine wG [.c 16 (YR h2),.g 21 [((!b2),false)] (.ln _ _ fun _=>lm s1.up eBo),.g 25 [((!b2),false)] (.ln _ _ fun _=>lm s1.topo.nodes V1),.g 31 [(((!b2)||((s1.up.length:Int)!=(s1.topo.nodes.length:Int))),false)] (.call _ _ _ _ _ (AEs.refl _) (fun _=>Q3 s1.lic))] fun _=>?_
 refine O0 H (fun H=>?_) fun H=>?_
 .refine wP ?_
  replace H:=sI H;subst H
  exact wN [(2,.d),(3,.d)] [(2,[.n 1,.n 4,.d,.n 1,.n 4])] [] [] [none] [⟨_,nw_I ([]:List Int)⟩,⟨_,M2 ([]:List Node)⟩,⟨_,M7 ([]:List (List Pt))⟩,⟨_,Ji ([]:List Pt)⟩]
 .refine wG [.u 38 (.ln _ _ fun _=>lm s1.topo.nodes V1)] fun q3=>?_
  refine L0b (fun(i4:Nat) (v4:(List (List Pt)))=>⟨[(1,.ptr 1 0),(2,.ptr 2 0),(4,.ptr 4 0),(37,.sl .rd 4 (s1.topo.nodes.map V1)),(38,.int .i64 (s1.topo.nodes.length:Int)),(39,.int .i64 (i4:Int))],[],[(1,(L2 .rd s1).cells),(2,[.nl,.nl,.nl,.nl,.nl]),(4,[.sl .rd 1 (s1.topo.parents.map eI),.sl .rd 4 (s1.topo.nodes.map V1),.sl .rd 1 (s1.up.map eBo),.sref 524000,.nl])],[(524000,⟨1,v4.map (V2 .nw),false⟩)]⟩) [] [(4,[.d,.d,.d,.z 524000,.d])] [(524000,(none,1))] [] (by kernel_rfl) (by kernel_rfl) H (fun i4 x4 v4 I m k4 hxv4 hiv4 H N24=>?_) (fun v4 I m H=>?_)
  .unfold Qx at H
   refine wP ?_
   refine wt (ltT hiv4) ?_
   obtain⟨xs5,h5,H⟩:=bB H
   refine wG [.u 41 (.ix _ _ _ fun _=>Q0 V1 (J0 hxv4)),.c 46 (J03 x4.cap),.u 53 (.ap _ _ _ _ fun _=>L0 (V2 .nw) h5),.w 55 (wi .i64 rfl hiv4 q3.1)] fun _=>?_
   exact wT (N24 _ H)
  .unfold Ux at H
   refine wP ?_
   refine wf (ltF s1.topo.nodes.length) ?_
   obtain⟨y6,h6,H⟩:=bB H
   refine wG [.c 59 (J03 s1.lic),.u 64 (.call _ _ _ _ _ (AEs.of (xs:=[.agg [rV 1 (s1.topo.parents.map eI),rV 4 (s1.topo.nodes.map V1),rV 1 (s1.up.map eBo),rV 1 (v4.map (V2 .nw)),rV 4 (((V5 s1.lic).1).map ePt)]]) (by simp)) (fun _=>Y03 h6))] fun _=>?_
   replace H:=sI H;subst H
   exact wN [(2,.d),(3,.d)] [(2,[.d,.d,.d,.f,.d])] [(65000,some 65000,0)] [65001] [some 65000] [⟨_,nw_I y6.topo.parents⟩,⟨_,M2 y6.topo.nodes⟩,⟨_,M7 y6.profs⟩,⟨_,Ji y6.lics⟩,⟨_,Js y6.up⟩]
def Z0H:L :=
sR [.bx 1 0,.al 2 [.nl,.nl,.nl,.nl,.nl],.mv 3 (cB false)]
 (sR [lT 13 1 11,cQ 14 UN [13],mV 12 14,eX 15 12 0,eX 16 12 1,.al 4 [.nl,.nl,.nl,.nl,.nl],.st 4 15 5,mV 5 16]
 (.seq (sR [mV 17 5,.un 18 17,mV 19 18,gF 19 (fA 20 1 7),gF 19 (lF 21 20 1),gF 19 (cQ 22 M3 [21]),gF 19 (.un 23 22),.pk 24 19 (cB true) 23]
 (.cond 24 (sR [.bd 25 [.nl,.nl,.nl,.nl,.nl] [],.st 2 25 5,.mv 3 (cB false)]
 gR)
 .skip))
 (.seq (sR [fA 26 1 9,lF 27 26 1,.ln 28 27,.mv 29 (kI 0)]
 (.blk 0 (.loop (.gw (sR [bI 30 .lss 29 28]
 (.seq (.cond 30 .skip
 (.exit 0))
 (.seq (.blk 1 (sR [iA 31 27 29 13,lT 32 31 13,.al 7 [.int .i64 0,.int .i64 0,.int .i64 0,.int .i64 0,.int .i64 0,.int .i64 0,.int .i64 0,.int .i64 0,.int .i64 0,.int .i64 0,.int .i64 0,.int .i64 0,.nl],.st 7 32 13]
 (sR [fA 33 7 11,lF 34 33 1,fA 35 7 0,fA 36 35 9,lF 37 36 1,bI 38 .add 34 37,mV 8 38]
 (.seq (sR [lT 39 4 5,fA 40 7 0,lT 41 40 11,fA 42 7 12,lF 43 42 1,cQ 44 OS [39,41,43],.un 45 44,mV 46 45,gF 46 (fA 47 7 11),gF 46 (lF 48 47 1),gF 46 (cQ 49 M3 [48]),gF 46 (.un 50 49),.pk 51 46 (cB true) 50,mV 52 51,gF 52 (fA 53 7 11),gF 52 (lF 54 53 1),gF 52 (fA 55 1 7),gF 52 (lF 56 55 1),gF 52 (bI 57 .gtr 54 56),.pk 58 52 (cB true) 57,mV 59 58,gF 59 (mV 60 8),gF 59 (fA 61 1 7),gF 59 (lF 62 61 1),gF 59 (bI 63 .leq 60 62),.pk 64 59 (cB true) 63,mV 65 64,gF 65 (mV 66 8),gF 65 (.bi 67 .gtr 66 (kI 1000000000)),.pk 68 65 (cB true) 67]
 (.cond 68 (sR [.bd 69 [.nl,.nl,.nl,.nl,.nl] [],.st 2 69 5,.mv 3 (cB false)]
 gR)
 .skip))
 (sR [fA 70 7 0,lT 71 70 11,.al 9 [.int .i64 0,.int .i64 0,.int .i64 0,.int .i64 0,.int .i64 0,.int .i64 0,.int .i64 0,.int .i64 0,.int .i64 0,.int .i64 0,.int .i64 0],.st 9 71 11]
 (sR [mV 72 8,fA 73 1 7,lF 74 73 1,bI 75 .sub 72 74,fA 76 9 9,.st 76 75 1]
 (sR [lT 78 4 5,lT 79 9 11,fA 80 1 7,lF 81 80 1,fA 82 7 12,lF 83 82 1,cQ 84 JS [78,79,81,83],mV 77 84,eX 85 77 0,eX 86 77 1,.al 10 [.nl,.nl,.nl,.nl,.nl],.st 10 85 5,mV 11 86]
 (.seq (sR [mV 87 11,.un 88 87]
 (.cond 88 (sR [.bd 89 [.nl,.nl,.nl,.nl,.nl] [],.st 2 89 5,.mv 3 (cB false)]
 gR)
 .skip))
 (.reg [lT 90 10 5,.st 4 90 5])))))))))
 (.reg [.bi 91 .add 29 (kI 1),mV 29 91]))))))))
 (sR [lT 92 4 5,.st 2 92 5,.mv 3 (cB true)]
 gR))))
def Zv(s1:State)(x4:Run)(_:Nat)(v4:Room)(k4:Room->Option (Room×Bool)):Option (Room×Bool) :=
 (Ys v4 x4.job x4.nodes).bind fun b5=>bif (((((!b5)||(!(Q1 x4.t)))||(decide (s1.now<x4.t)))||(decide ((w64 (x4.t+x4.job.wall))<=s1.now)))||(decide (1000000000<(w64 (x4.t+x4.job.wall)))))then(some ((Room.mk (Topo.mk [] []) [] [] []),false))else((Jj v4 (Job.mk x4.job.id x4.job.prio x4.job.nodes x4.job.need x4.job.lic (w64 ((w64 (x4.t+x4.job.wall))-s1.now)) x4.job.level) s1.now x4.nodes).bind fun y6=>bif (!y6.2)then(some ((Room.mk (Topo.mk [] []) [] [] []),false))else(k4 y6.1))
def Q03(v4:Room):Option (Room×Bool) :=
 some (v4,true)
def Uc(s1:State):Option (Room×Bool) :=
 (Ol s1).bind fun y2=>bif ((!y2.2)||(!(Q1 s1.now)))then(some ((Room.mk (Topo.mk [] []) [] [] []),false))else(rgl (Zv s1) Q03 s1.runs 0 y2.1)
theorem XR{s1:State}{r:Room×Bool}(H:Uc s1=some r):Snd Tryz.prog ZJ [L2 .rd s1] (.tup [Xj .nw r.1,.bool r.2]) []:=by
 refine wS Z0H [.c 2 5 true,.t 3] ?_
 unfold Uc at H
 obtain⟨y2,h2,H⟩:=bB H
 refine wG [.c 14 (XZ h2),.g 22 [((!y2.2),false)] (.call _ _ _ _ _ (AEs.refl _) (fun _=>U4 s1.now))] fun _=>?_
 refine O0 H (fun H=>?_) fun H=>?_
 .refine wP ?_
  replace H:=sI H;subst H
  exact wN [(2,.d),(3,.d)] [(2,[.n 1,.n 4,.n 1,.n 1,.n 4])] [] [] [] [⟨_,nw_I ([]:List Int)⟩,⟨_,M2 ([]:List Node)⟩,⟨_,Js ([]:List Bool)⟩,⟨_,M7 ([]:List (List Pt))⟩,⟨_,Ji ([]:List Pt)⟩]
 .refine wG [.u 28 (.ln _ _ fun _=>lm s1.runs (Z1 .rd))] fun q3=>?_
  refine wR (fun(i4:Nat) (v4:Room)=>⟨[(1,.ptr 1 0),(2,.ptr 2 0),(4,.ptr 4 0),(27,rV 13 (s1.runs.map (Z1 .rd))),(28,iV (s1.runs.length:Int)),(29,iV (i4:Int))],[],[(1,(L2 .rd s1).cells),(2,[.nl,.nl,.nl,.nl,.nl]),(4,(Xj .nw v4).cells)],[]⟩) H (fun i4 x4 v4 I m k4 hxv4 hiv4 H N46=>?_) (fun v4 I m H=>?_)
  .unfold Zv at H
   refine wP ?_
   refine wt (ltT hiv4) ?_
   obtain⟨b5,h5,H⟩:=bB H
   refine wG [.u 31 (.ix _ _ _ fun _=>Q0 (Z1 .rd) (J0 hxv4)),.u 44 (.call _ _ _ _ _ (AEs.of (xs:=[.agg [rV 1 (v4.topo.parents.map eI),rV 4 (v4.topo.nodes.map V1),rV 1 (v4.up.map eBo),rV 1 (v4.profs.map (V2 .nw)),rV 4 (v4.lics.map ePt)],.agg [iV x4.job.id,iV x4.job.prio,iV x4.job.nodes,iV x4.job.need.a,iV x4.job.need.b,iV x4.job.need.c,iV x4.job.lic.a,iV x4.job.lic.b,iV x4.job.lic.c,iV x4.job.wall,iV x4.job.level],rV 1 (x4.nodes.map eI)]) (by simp)) (fun _=>J02 h5)),.g 49 [((!b5),false)] (.call _ _ _ _ _ (AEs.refl _) (fun _=>U4 x4.t))] fun _=>?_
   refine O0 H (fun H=>?_) fun H=>?_
   .refine wP ?_
    replace H:=sI H;subst H
    exact wN [(2,.d),(3,.d)] [(2,[.n 1,.n 4,.n 1,.n 1,.n 4])] [] [] [] [⟨_,nw_I ([]:List Int)⟩,⟨_,M2 ([]:List Node)⟩,⟨_,Js ([]:List Bool)⟩,⟨_,M7 ([]:List (List Pt))⟩,⟨_,Ji ([]:List Pt)⟩]
   .obtain⟨y6,h6,H⟩:=bB H
    refine wG [.u 84 (.call _ _ _ _ _ (AEs.of (xs:=[.agg [rV 1 (v4.topo.parents.map eI),rV 4 (v4.topo.nodes.map V1),rV 1 (v4.up.map eBo),rV 1 (v4.profs.map (V2 .nw)),rV 4 (v4.lics.map ePt)],.agg [iV x4.job.id,iV x4.job.prio,iV x4.job.nodes,iV x4.job.need.a,iV x4.job.need.b,iV x4.job.need.c,iV x4.job.lic.a,iV x4.job.lic.b,iV x4.job.lic.c,iV (w64 ((w64 (x4.t+x4.job.wall))-s1.now)),iV x4.job.level],iV s1.now,rV 1 (x4.nodes.map eI)]) (by simp)) (fun _=>W03 h6))] fun _=>?_
    refine O0 H (fun H=>?_) fun H=>?_
    .refine wP ?_
     replace H:=sI H;subst H
     exact wN [(2,.d),(3,.d)] [(2,[.n 1,.n 4,.n 1,.n 1,.n 4])] [] [] [] [⟨_,nw_I ([]:List Int)⟩,⟨_,M2 ([]:List Node)⟩,⟨_,Js ([]:List Bool)⟩,⟨_,M7 ([]:List (List Pt))⟩,⟨_,Ji ([]:List Pt)⟩]
    .refine wG [.w 91 (wi .i64 rfl hiv4 q3.1)] fun _=>?_
     exact wT (N46 _ H)
  .unfold Q03 at H
   refine wP ?_
   refine wf (ltF s1.runs.length) ?_
   refine wP ?_
   replace H:=sI H;subst H
   exact wN [(2,.d),(3,.d)] [(2,[])] [] [] [] [⟨_,nw_I v4.topo.parents⟩,⟨_,M2 v4.topo.nodes⟩,⟨_,Js v4.up⟩,⟨_,M7 v4.profs⟩,⟨_,Ji v4.lics⟩]
def M0z:L :=
sR [.bx 1 0,.mv 2 (.c (.nl))]
 (sR [.bs 6 11 [] true,fA 7 1 8,lF 8 7 1,.ap 9 6 8 11 88,mV 3 9]
 (.seq (sR [fA 10 1 9,lF 11 10 1,.ln 12 11,.mv 13 (kI 0)]
 (.blk 0 (.loop (.gw (sR [bI 14 .lss 13 12]
 (.seq (.cond 14 .skip
 (.exit 0))
 (.seq (.blk 1 (sR [iA 15 11 13 13,lT 16 15 13,.al 5 [.int .i64 0,.int .i64 0,.int .i64 0,.int .i64 0,.int .i64 0,.int .i64 0,.int .i64 0,.int .i64 0,.int .i64 0,.int .i64 0,.int .i64 0,.int .i64 0,.nl],.st 5 16 13]
 (.reg [mV 17 3,fA 18 5 0,lT 19 18 11,.bs 20 11 [19] false,.ap 21 17 20 11 88,mV 3 21])))
 (.reg [.bi 22 .add 13 (kI 1),mV 13 22]))))))))
 (sR [mV 23 3,mV 2 23]
 gR)))
def XE(x4:Run)(_:Nat)(v4:(List Job))(k4:(List Job)->Option (List Job)):Option (List Job) :=
 (appL 88 v4 [x4.job]).bind fun xs5=>k4 xs5
def YE(v4:(List Job)):Option (List Job) :=
 some v4
def Og(s1:State):Option (List Job) :=
 (appL 88 ([]:List Job) s1.queue).bind fun xs2=>rgl XE YE s1.runs 0 xs2
theorem ZK{s1:State}{r:(List Job)}(H:Og s1=some r):Snd Tryz.prog YC [L2 .rd s1] (nV 11 (r.map eJob)) []:=by
 refine wS M0z [.t 2] ?_
 unfold Og at H
 obtain⟨xs2,h2,H⟩:=bB H
 refine wG [.u 9 (.ap _ _ _ _ fun _=>L0 eJob h2),.u 12 (.ln _ _ fun _=>lm s1.runs (Z1 .rd))] fun q3=>?_
 refine wR (fun(i4:Nat) (v4:(List Job))=>⟨[(3,.sref 6),(11,rV 13 (s1.runs.map (Z1 .rd))),(12,iV (s1.runs.length:Int)),(13,iV (i4:Int))],[],[],[(6,⟨11,v4.map eJob,false⟩)]⟩) H (fun i4 x4 v4 I m k4 hxv4 hiv4 H N15=>?_) (fun v4 I m H=>?_)
 .unfold XE at H
  refine wP ?_
  refine wt (ltT hiv4) ?_
  obtain⟨xs5,h5,H⟩:=bB H
  refine wG [.u 15 (.ix _ _ _ fun _=>Q0 (Z1 .rd) (J0 hxv4)),.u 21 (.ap _ _ _ _ fun _=>L0 eJob h5),.w 22 (wi .i64 rfl hiv4 q3.1)] fun _=>?_
  exact wT (N15 _ H)
 .unfold YE at H
  refine wP ?_
  refine wf (ltF s1.runs.length) ?_
  refine wP ?_
  replace H:=sI H;subst H
  exact wN [(2,.f)] [] [] [6] [] [⟨_,WL v4⟩]
def M0A:L :=
sR [.bx 1 0,.mv 2 (cB false)]
 (sR [lT 12 1 11,cQ 13 ZJ [12],mV 11 13,eX 14 11 0,eX 15 11 1,.al 3 [.nl,.nl,.nl,.nl,.nl],.st 3 14 5,mV 4 15]
 (.seq (sR [mV 16 4,.un 17 16,mV 18 17,gF 18 (fA 19 1 6),gF 18 (lF 20 19 1),gF 18 (.bi 21 .lss 20 (kI 0)),.pk 22 18 (cB true) 21,mV 23 22,gF 23 (fA 24 1 6),gF 23 (lF 25 24 1),gF 23 (.bi 26 .gtr 25 (kI 60)),.pk 27 23 (cB true) 26,mV 28 27,gF 28 (lT 29 1 11),gF 28 (cQ 30 YC [29]),gF 28 (cQ 31 UC [30]),gF 28 (.un 32 31),.pk 33 28 (cB true) 32,mV 34 33,gF 34 (fA 35 1 10),gF 34 (lF 36 35 1),gF 34 (.ln 37 36),gF 34 (.bi 38 .gtr 37 (kI 300)),.pk 39 34 (cB true) 38]
 (.cond 39 (.seq (rE 2 (cB false))
 gR)
 .skip))
 (.seq (sR [fA 40 1 9,lF 41 40 1,.ln 42 41,.mv 43 (kI 0)]
 (.blk 0 (.loop (.gw (sR [bI 44 .lss 43 42]
 (.seq (.cond 44 .skip
 (.exit 0))
 (.seq (.blk 1 (sR [iA 45 41 43 13,lT 46 45 13,.al 6 [.int .i64 0,.int .i64 0,.int .i64 0,.int .i64 0,.int .i64 0,.int .i64 0,.int .i64 0,.int .i64 0,.int .i64 0,.int .i64 0,.int .i64 0,.int .i64 0,.nl],.st 6 46 13]
 (.seq (sR [fA 47 6 12,lF 48 47 1,.ln 49 48,.mv 50 (kI 0)]
 (.blk 2 (.loop (.gw (sR [bI 51 .lss 50 49]
 (.seq (.cond 51 .skip
 (.exit 2))
 (.seq (.blk 3 (sR [mV 52 50,iA 53 48 50 1,lF 54 53 1,mV 7 52,mV 8 54]
 (sR [fA 55 1 2,lF 56 55 1,mV 57 8,iA 58 56 57 1,lF 59 58 1,.un 60 59,mV 61 60,gF 61 (mV 62 7),gF 61 (.bi 63 .gtr 62 (kI 0)),gF 61 (mV 64 63),gT 64 (fA 65 6 12),gT 64 (lF 66 65 1),gT 64 (mV 67 7),gT 64 (.bi 68 .sub 67 (kI 1)),gT 64 (iA 69 66 68 1),gT 64 (lF 70 69 1),gT 64 (mV 71 8),gT 64 (bI 72 .geq 70 71),gF 61 (.pk 73 64 72 (cB false)),.pk 74 61 (cB true) 73]
 (.cond 74 (.seq (rE 2 (cB false))
 gR)
 .skip))))
 (.reg [.bi 75 .add 50 (kI 1),mV 50 75]))))))))
 (.seq (.rq 12 [fA 76 1 0,lT 77 76 2,fA 78 1 0,lT 79 78 2,fA 80 6 12,lF 81 80 1,cQ 82 Y0i [79,81],cQ 83 O5 [77,82],fA 84 6 0,fA 85 84 10,lF 86 85 1,bI 87 .gtr 83 86])
 (.cond 87 (.seq (rE 2 (cB false))
 gR)
 .skip)))))
 (.reg [.bi 88 .add 43 (kI 1),mV 43 88]))))))))
 (.seq (sR [fA 89 1 10,lF 90 89 1,.ln 91 90,.mv 92 (kI 0)]
 (.blk 4 (.loop (.gw (sR [bI 93 .lss 92 91]
 (.seq (.cond 93 .skip
 (.exit 4))
 (.seq (.blk 5 (sR [iA 94 90 92 3,lT 95 94 3,.al 10 [.int .i64 0,.int .i64 0,.int .i64 0],.st 10 95 3]
 (sR [fA 96 10 0,lF 97 96 1,.bi 98 .lss 97 (kI 1),mV 99 98,gF 99 (fA 100 10 0),gF 99 (lF 101 100 1),gF 99 (.bi 102 .gtr 101 (kI 999)),.pk 103 99 (cB true) 102,mV 104 103,gF 104 (fA 105 10 1),gF 104 (lF 106 105 1),gF 104 (.bi 107 .lss 106 (kI 0)),.pk 108 104 (cB true) 107,mV 109 108,gF 109 (fA 110 10 1),gF 109 (lF 111 110 1),gF 109 (fA 112 1 7),gF 109 (lF 113 112 1),gF 109 (bI 114 .gtr 111 113),.pk 115 109 (cB true) 114,mV 116 115,gF 116 (fA 117 10 2),gF 116 (lF 118 117 1),gF 116 (.bi 119 .lss 118 (kI 1)),.pk 120 116 (cB true) 119,mV 121 120,gF 121 (fA 122 10 2),gF 121 (lF 123 122 1),gF 121 (.bi 124 .gtr 123 (kI 4)),.pk 125 121 (cB true) 124]
 (.cond 125 (.seq (rE 2 (cB false))
 gR)
 .skip))))
 (.reg [.bi 126 .add 92 (kI 1),mV 92 126]))))))))
 (.seq (rE 2 (cB true))
 gR)))))
def Qq(s1:State)(x6:Run)(x8:Int)(i8:Nat)(_:Unit)(k8:Unit->Option Bool):Option Bool :=
 (idx s1.up x8).bind fun e9=>(bif (!e9)then some default else(bif (decide (0<(i8:Int)))then(idx x6.nodes (w64 ((i8:Int)-1)))else some default)).bind fun e10=>bif ((!e9)||((decide (0<(i8:Int)))&&(decide (x8<=e10))))then(some false)else(k8 ())
def Y9(s1:State)(x6:Run)(k6:Unit->Option Bool)(_:Unit):Option Bool :=
 (Yr s1.topo x6.nodes).bind fun n11=>(W7 s1.topo n11).bind fun n12=>bif (decide (x6.job.level<n12))then(some false)else(k6 ())
def Vq(s1:State)(x14:End)(_:Nat)(_:Unit)(k14:Unit->Option Bool):Option Bool :=
 bif ((((((decide (x14.id<1))||(decide (999<x14.id)))||(decide (x14.t<0)))||(decide (s1.now<x14.t)))||(decide (x14.why<1)))||(decide (4<x14.why)))then(some false)else(k14 ())
def ME(_:Unit):Option Bool :=
 some true
def Uq(s1:State)(x6:Run)(_:Nat)(_:Unit)(k6:Unit->Option Bool):Option Bool :=
 rgl (Qq s1 x6) (Y9 s1 x6 k6) x6.nodes 0 ()
def LE(s1:State)(_:Unit):Option Bool :=
 rgl (Vq s1) ME s1.ends 0 ()
def X5(s1:State):Option Bool :=
 (Uc s1).bind fun y2=>(bif (((!y2.2)||(decide (s1.depth<0)))||(decide (60<s1.depth)))then some default else(Og s1)).bind fun y3=>(bif (((!y2.2)||(decide (s1.depth<0)))||(decide (60<s1.depth)))then some default else(Zk y3)).bind fun b4=>bif (((((!y2.2)||(decide (s1.depth<0)))||(decide (60<s1.depth)))||(!b4))||(decide (300<(s1.ends.length:Int))))then(some false)else(rgl (Uq s1) (LE s1) s1.runs 0 ())
theorem U5{s1:State}{r:Bool}(H:X5 s1=some r):Snd Tryz.prog M5 [L2 .rd s1] (.bool r) []:=by
 refine wS M0A [.t 2] ?_
 unfold X5 at H
 obtain⟨y2,h2,H⟩:=bB H
 obtain⟨y3,h3,H⟩:=bB H
 obtain⟨b4,h4,H⟩:=bB H
 refine wG [.c 13 (XR h2),.g 30 [(_,false)] (.call _ _ _ _ _ (AEs.refl _) (fun q=>ZK (bF q.1 h3))),.g 31 [(_,false)] (.call _ _ _ _ _ (AEs.refl _) (fun q=>OK (bF q.1 h4))),.g 37 [(((((!y2.2)||(decide (s1.depth<0)))||(decide (60<s1.depth)))||(!b4)),false)] (.ln _ _ fun _=>lm s1.ends eEnd)] fun _=>?_
 refine O0 H (fun H=>?_) fun H=>?_
 .obtain rfl:=sI H
  exact wP (wE [(2,.d)])
 .refine wG [.u 42 (.ln _ _ fun _=>lm s1.runs (Z1 .rd))] fun q5=>?_
  refine wR (fun(i6:Nat) (v6:Unit)=>⟨[(1,.ptr 1 0),(41,rV 13 (s1.runs.map (Z1 .rd))),(42,iV (s1.runs.length:Int)),(43,iV (i6:Int))],[],[(1,(L2 .rd s1).cells)],[]⟩) H (fun i6 x6 v6 I m k6 hxv6 hiv6 H N51=>?_) (fun v6 I m H=>?_)
  .unfold Uq at H
   refine wP ?_
   refine wt (ltT hiv6) ?_
   refine wG [.u 45 (.ix _ _ _ fun _=>Q0 (Z1 .rd) (J0 hxv6)),.u 49 (.ln _ _ fun _=>lm x6.nodes eI)] fun q7=>?_
   refine wR (fun(i8:Nat) (v8:Unit)=>⟨[(1,.ptr 1 0),(6,.ptr 6 0),(41,rV 13 (s1.runs.map (Z1 .rd))),(42,iV (s1.runs.length:Int)),(43,iV (i6:Int)),(48,rV 1 (x6.nodes.map eI)),(49,iV (x6.nodes.length:Int)),(50,iV (i8:Int))],[],[(1,(L2 .rd s1).cells),(6,(Z1 .rd x6).cells)],[]⟩) H (fun i8 x8 v8 I m k8 hxv8 hiv8 H N34=>?_) (fun v8 I m H=>?_)
   .unfold Qq at H
    refine wP ?_
    refine wt (ltT hiv8) ?_
    obtain⟨e9,h9,H⟩:=bB H
    obtain⟨e10,h10,H⟩:=bB H
    refine wG [.u 53 (.ix _ _ _ fun _=>Q0 eI (J0 hxv8)),.u 58 (.ix _ _ _ fun _=>Q0 eBo h9),.g 69 [(_,true),(_,false)] (.ix _ _ _ fun q=>Q0 eI (bT q.1 (bF q.2.1 h10)))] fun _=>?_
    refine O0 H (fun H=>?_) fun H=>?_
    .obtain rfl:=sI H
     exact wP (wE [(2,.d)])
    .refine wG [.w 75 (wi .i64 rfl hiv8 q7.1)] fun _=>?_
     exact wT (N34 () H)
   .unfold Y9 at H
    refine wP ?_
    refine wf (ltF x6.nodes.length) ?_
    obtain⟨n11,h11,H⟩:=bB H
    obtain⟨n12,h12,H⟩:=bB H
    refine wG [.c 82 (V0F h11),.c 83 (J8 h12)] fun _=>?_
    refine O0 H (fun H=>?_) fun H=>?_
    .obtain rfl:=sI H
     exact wP (wE [(2,.d)])
    .refine wG [.w 88 (wi .i64 rfl hiv6 q5.1)] fun _=>?_
     exact wT (N51 () H)
  .unfold LE at H
   refine wP ?_
   refine wf (ltF s1.runs.length) ?_
   refine wG [.u 91 (.ln _ _ fun _=>lm s1.ends eEnd)] fun q13=>?_
   refine wR (fun(i14:Nat) (v14:Unit)=>⟨[(1,.ptr 1 0),(90,rV 3 (s1.ends.map eEnd)),(91,iV (s1.ends.length:Int)),(92,iV (i14:Int))],[],[(1,(L2 .rd s1).cells)],[]⟩) H (fun i14 x14 v14 I m k14 hxv14 hiv14 H N73=>?_) (fun v14 I m H=>?_)
   .unfold Vq at H
    refine wP ?_
    refine wt (ltT hiv14) ?_
    refine wG [.u 94 (.ix _ _ _ fun _=>Q0 eEnd (J0 hxv14))] fun _=>?_
    refine O0 H (fun H=>?_) fun H=>?_
    .obtain rfl:=sI H
     exact wP (wE [(2,.d)])
    .refine wG [.w 126 (wi .i64 rfl hiv14 q13.1)] fun _=>?_
     exact wT (N73 () H)
   .unfold ME at H
    refine wP ?_
    refine wf (ltF s1.ends.length) ?_
    obtain rfl:=sI H
    exact wP (wE [(2,.d)])
def L0z:L :=
sR [.bx 1 0,.al 2 [.nl,.nl,.nl,.int .i64 0,.int .i64 0,.int .i64 0,.int .i64 0,.int .i64 0,.nl,.nl,.nl]]
 (.seq (.rq 12 [.be 6,fA 7 1 0,fA 8 7 0,lF 9 8 1,.ae 10 6 9 1 8,.be 11,fA 12 1 0,fA 13 12 1,lF 14 13 1,.ae 15 11 14 4 32,.bd 16 [.nl,.nl] [(0,1,10),(1,1,15)],fA 17 1 0,.st 17 16 2])
 (sR [.bs 18 1 [] true,fA 19 1 2,lF 20 19 1,.ap 21 18 20 1 1,fA 22 1 2,.st 22 21 1]
 (sR [.bs 23 11 [] true,fA 24 1 8,lF 25 24 1,.ap 26 23 25 11 88,fA 27 1 8,.st 27 26 1]
 (sR [.bs 28 13 [] true,mV 3 28]
 (.seq (sR [fA 29 1 9,lF 30 29 1,.ln 31 30,.mv 32 (kI 0)]
 (.blk 0 (.loop (.gw (sR [bI 33 .lss 32 31]
 (.seq (.cond 33 .skip
 (.exit 0))
 (.seq (.blk 1 (sR [iA 34 30 32 13,lT 35 34 13,.al 5 [.int .i64 0,.int .i64 0,.int .i64 0,.int .i64 0,.int .i64 0,.int .i64 0,.int .i64 0,.int .i64 0,.int .i64 0,.int .i64 0,.int .i64 0,.int .i64 0,.nl],.st 5 35 13]
 (sR [.bs 36 1 [] true,fA 37 5 12,lF 38 37 1,.ap 39 36 38 1 8,fA 40 5 12,.st 40 39 1]
 (.gw (.reg [mV 41 3,lT 42 5 13,.bs 43 13 [42] false,.ap 44 41 43 13 120,mV 3 44])))))
 (.reg [.bi 45 .add 32 (kI 1),mV 32 45]))))))))
 (sR [mV 46 3,fA 47 1 9,.st 47 46 1]
 (sR [.bs 48 3 [] true,fA 49 1 10,lF 50 49 1,.ap 51 48 50 3 24,fA 52 1 10,.st 52 51 1]
 (sR [lT 53 1 11,.st 2 53 11]
 gR))))))))
def Wp(x7:Run)(_:Nat)(v7:(List Run))(k7:(List Run)->Option State):Option State :=
 (appL 8 ([]:List Int) x7.nodes).bind fun xs8=>(appL 120 v7 [(Run.mk x7.job x7.t xs8)]).bind fun xs9=>k7 xs9
def VE(s1:State)(xs2:List Int)(xs3:List Node)(xs4:List Bool)(xs5:List Job)(v7:(List Run)):Option State :=
 (appL 24 ([]:List End) s1.ends).bind fun xs10=>some (State.mk (Topo.mk xs2 xs3) xs4 s1.lic s1.depth s1.now xs5 v7 xs10)
def J7(s1:State):Option State :=
 (appL 8 ([]:List Int) s1.topo.parents).bind fun xs2=>(appL 32 ([]:List Node) s1.topo.nodes).bind fun xs3=>(appL 1 ([]:List Bool) s1.up).bind fun xs4=>(appL 88 ([]:List Job) s1.queue).bind fun xs5=>rgl Wp (VE s1 xs2 xs3 xs4 xs5) s1.runs 0 []
theorem Vc{s1 r:State}(H:J7 s1=some r):Snd Tryz.prog Ua [L2 .rd s1] (.agg [nV 1 (r.topo.parents.map eI),nV 4 (r.topo.nodes.map V1),.sref 0,iV r.lic.a,iV r.lic.b,iV r.lic.c,iV r.depth,iV r.now,.sref 1,.sref 2,.sref 3]) [⟨1,r.up.map eBo,false⟩,⟨11,r.queue.map eJob,false⟩,⟨13,r.runs.map (Z1 .nw),false⟩,⟨3,r.ends.map eEnd,false⟩]:=by
 refine wS L0z [.c 2 11 true] ?_
 unfold J7 at H
 obtain⟨xs2,h2,H⟩:=bB H
 obtain⟨xs3,h3,H⟩:=bB H
 obtain⟨xs4,h4,H⟩:=bB H
 obtain⟨xs5,h5,H⟩:=bB H
 refine wG [.u 10 (.ap _ _ _ _ fun _=>L0 eI h2),.u 15 (.ap _ _ _ _ fun _=>L0 V1 h3),.u 21 (.ap _ _ _ _ fun _=>L0 eBo h4),.u 26 (.ap _ _ _ _ fun _=>L0 eJob h5),.u 31 (.ln _ _ fun _=>lm s1.runs (Z1 .rd))] fun q6=>?_
 refine wR (fun(i7:Nat) (v7:(List Run))=>⟨[(1,.ptr 1 0),(2,.ptr 2 0),(3,.sref 28),(30,rV 13 (s1.runs.map (Z1 .rd))),(31,iV (s1.runs.length:Int)),(32,iV (i7:Int))],[],[(1,[nV 1 (xs2.map eI),nV 4 (xs3.map V1),.sref 18,iV s1.lic.a,iV s1.lic.b,iV s1.lic.c,iV s1.depth,iV s1.now,.sref 23,rV 13 (s1.runs.map (Z1 .rd)),rV 3 (s1.ends.map eEnd)]),(2,[.nl,.nl,.nl,iV 0,iV 0,iV 0,iV 0,iV 0,.nl,.nl,.nl])],[(18,⟨1,xs4.map eBo,false⟩),(23,⟨11,xs5.map eJob,false⟩),(28,⟨13,v7.map (Z1 .nw),false⟩)]⟩) H (fun i7 x7 v7 I m k7 hxv7 hiv7 H N20=>?_) (fun v7 I m H=>?_)
 .unfold Wp at H
  refine wP ?_
  refine wt (ltT hiv7) ?_
  obtain⟨xs8,h8,H⟩:=bB H
  refine wG [.u 34 (.ix _ _ _ fun _=>Q0 (Z1 .rd) (J0 hxv7)),.u 39 (.ap _ _ _ _ fun _=>L0 eI h8)] fun _=>?_
  refine J1J [(39,.f)] [(5,[.d,.d,.d,.d,.d,.d,.d,.d,.d,.d,.d,.d,.f])] [36] (by kernel_rfl) ?_
  obtain⟨xs9,h9,H⟩:=bB H
  refine wG [.u 44 (.ap _ _ _ _ fun _=>L0 (Z1 .nw) h9),.w 45 (wi .i64 rfl hiv7 q6.1)] fun _=>?_
  exact wT (N20 _ H)
 .unfold VE at H
  refine wP ?_
  refine wf (ltF s1.runs.length) ?_
  obtain⟨xs10,h10,H⟩:=bB H
  refine wG [.u 51 (.ap _ _ _ _ fun _=>L0 eEnd h10)] fun _=>?_
  replace H:=sI H;subst H
  exact wN [(2,.d)] [(2,[])] [(18,some 18,0),(23,some 23,0),(28,some 28,0),(48,some 48,0)] [] [some 18,some 23,some 28,some 48] [⟨_,nw_I xs2⟩,⟨_,M2 xs3⟩,⟨_,Js xs4⟩,⟨_,WL xs5⟩,⟨_,UR v7⟩,⟨_,J0a xs10⟩]
def L0s:L :=
sR [.bx 3 0,.bx 4 1,.al 6 [.nl,.nl,.nl,.int .i64 0,.int .i64 0,.int .i64 0,.int .i64 0,.int .i64 0,.nl,.nl,.nl],.mv 7 (cB false)]
 (sR [lT 9 3 2,lT 10 4 3,mV 11 2,.bd 12 [.nl,.nl,.nl,.int .i64 0,.int .i64 0,.int .i64 0,.int .i64 0,.int .i64 0,.nl,.nl,.nl] [(0,2,9),(3,3,10),(6,1,11)],.al 8 [.nl,.nl,.nl,.int .i64 0,.int .i64 0,.int .i64 0,.int .i64 0,.int .i64 0,.nl,.nl,.nl],.st 8 12 11]
 (.seq (sR [fA 13 3 1,lF 14 13 1,.ln 15 14,.mv 16 (kI 0)]
 (.blk 0 (.loop (.gw (sR [bI 17 .lss 16 15]
 (.seq (.cond 17 .skip
 (.exit 0))
 (.seq (.blk 1 (.reg [fA 18 8 2,lF 19 18 1,.bs 20 1 [(cB true)] false,.ap 21 19 20 1 1,fA 22 8 2,.st 22 21 1]))
 (.reg [.bi 23 .add 16 (kI 1),mV 16 23]))))))))
 (.seq (sR [lT 24 8 11,cQ 25 M5 [24],.un 26 25]
 (.cond 26 (sR [.bd 27 [.nl,.nl,.nl,.int .i64 0,.int .i64 0,.int .i64 0,.int .i64 0,.int .i64 0,.nl,.nl,.nl] [],.st 6 27 11,.mv 7 (cB false)]
 gR)
 .skip))
 (sR [lT 28 8 11,.cl 29 Ua [28],.st 6 29 11,.mv 7 (cB true)]
 gR))))
def Oy(_:Node)(_:Nat)(v5:(List Bool))(k5:(List Bool)->Option (State×Bool)):Option (State×Bool) :=
 (appL 1 v5 [true]).bind fun xs6=>k5 xs6
def Wy(t1:Topo)(lic2:Vec)(depth3:Int)(v5:(List Bool)):Option (State×Bool) :=
 (X5 (State.mk t1 v5 lic2 depth3 0 [] [] [])).bind fun b7=>bif (!b7)then(some ((State.mk (Topo.mk [] []) [] (Vec.mk 0 0 0) 0 0 [] [] []),false))else((J7 (State.mk t1 v5 lic2 depth3 0 [] [] [])).bind fun y8=>some (y8,true))
def Ju(t1:Topo)(lic2:Vec)(depth3:Int):Option (State×Bool) :=
 rgl Oy (Wy t1 lic2 depth3) t1.nodes 0 []
theorem U0q{t1:Topo}{lic2:Vec}{depth3:Int}{r:State×Bool}(H:Ju t1 lic2 depth3=some r):Snd Tryz.prog U07 [W4 .rd t1,eVec lic2,iV depth3] (.tup [.agg [nV 1 (r.1.topo.parents.map eI),nV 4 (r.1.topo.nodes.map V1),.sref 0,iV r.1.lic.a,iV r.1.lic.b,iV r.1.lic.c,iV r.1.depth,iV r.1.now,.sref 1,.sref 2,.sref 3],.bool r.2]) [⟨1,r.1.up.map eBo,false⟩,⟨11,r.1.queue.map eJob,false⟩,⟨13,r.1.runs.map (Z1 .nw),false⟩,⟨3,r.1.ends.map eEnd,false⟩]:=by
 refine wS L0s [.c 6 11 true,.t 7] ?_
 unfold Ju at H
 refine wG [.u 15 (.ln _ _ fun _=>lm t1.nodes V1)] fun q4=>?_
 refine L0b (fun(i5:Nat) (v5:(List Bool))=>⟨[(6,.ptr 6 0),(8,.ptr 8 0),(15,.int .i64 (t1.nodes.length:Int)),(16,.int .i64 (i5:Int))],[],[(6,[.nl,.nl,.nl,.int .i64 0,.int .i64 0,.int .i64 0,.int .i64 0,.int .i64 0,.nl,.nl,.nl]),(8,[.sl .rd 1 (t1.parents.map eI),.sl .rd 4 (t1.nodes.map V1),.sref 297000,.int .i64 lic2.a,.int .i64 lic2.b,.int .i64 lic2.c,.int .i64 depth3,.int .i64 0,.nl,.nl,.nl])],[(297000,⟨1,v5.map eBo,false⟩)]⟩) [] [(8,[.d,.d,.z 297000,.d,.d,.d,.d,.d,.d,.d,.d])] [(297000,(none,1))] [] (by kernel_rfl) (by kernel_rfl) H (fun i5 x5 v5 I m k5 hxv5 hiv5 H N13=>?_) (fun v5 I m H=>?_)
 .unfold Oy at H
  refine wP ?_
  refine wt (ltT hiv5) ?_
  obtain⟨xs6,h6,H⟩:=bB H
  refine wG [.u 21 (.ap _ _ _ _ fun _=>L0 eBo h6),.w 23 (wi .i64 rfl hiv5 q4.1)] fun _=>?_
  exact wT (N13 _ H)
 .unfold Wy at H
  refine wP ?_
  refine wf (ltF t1.nodes.length) ?_
  obtain⟨b7,h7,H⟩:=bB H
  refine wG [.c 25 (U5 h7)] fun _=>?_
  refine O0 H (fun H=>?_) fun H=>?_
  .refine wP ?_
   replace H:=sI H;subst H
   exact wN [(6,.d),(7,.d)] [(6,[.n 1,.n 4,.d,.d,.d,.d,.d,.d,.d,.d,.d])] [] [] [none,none,none,none] [⟨_,nw_I ([]:List Int)⟩,⟨_,M2 ([]:List Node)⟩]
  .obtain⟨y8,h8,H⟩:=bB H
   refine wG [.c 29 (Vc h8)] fun _=>?_
   replace H:=sI H;subst H
   exact wN [(6,.d),(7,.d)] [(6,[])] [(30000,some 30000,0),(30001,some 30001,0),(30002,some 30002,0),(30003,some 30003,0)] [] [some 30000,some 30001,some 30002,some 30003] [⟨_,nw_I y8.topo.parents⟩,⟨_,M2 y8.topo.nodes⟩,⟨_,Js y8.up⟩,⟨_,WL y8.queue⟩,⟨_,UR y8.runs⟩,⟨_,J0a y8.ends⟩]
def Z0G:L :=
sR [.mv 4 (.c (.nl))]
 (sR [.bs 8 11 [] true,mV 5 8]
 (.seq (sR [mV 9 0,.ln 10 9,.mv 11 (kI 0)]
 (.blk 0 (.loop (.gw (sR [bI 12 .lss 11 10]
 (.seq (.cond 12 .skip
 (.exit 0))
 (.seq (.blk 1 (sR [iA 13 9 11 11,lT 14 13 11,.al 7 [.int .i64 0,.int .i64 0,.int .i64 0,.int .i64 0,.int .i64 0,.int .i64 0,.int .i64 0,.int .i64 0,.int .i64 0,.int .i64 0,.int .i64 0],.st 7 14 11]
 (sR [fA 15 7 0,lF 16 15 1,mV 17 1,bI 18 .neq 16 17]
 (.cond 18 (.reg [mV 19 5,lT 20 7 11,.bs 21 11 [20] false,.ap 22 19 21 11 88,mV 5 22])
 .skip))))
 (.reg [.bi 23 .add 11 (kI 1),mV 11 23]))))))))
 (sR [mV 24 5,mV 4 24]
 gR)))
def Xt(id2:Int)(x4:Job)(_:Nat)(v4:(List Job))(k4:(List Job)->Option (List Job)):Option (List Job) :=
 bif (x4.id != id2)then((appL 88 v4 [x4]).bind fun xs5=>k4 xs5)else(k4 v4)
def JJ(v4:(List Job)):Option (List Job) :=
 some v4
def Vj(l1:List Job)(id2:Int):Option (List Job) :=
 rgl (Xt id2) JJ l1 0 []
theorem X0a{l1:List Job}{id2:Int}{r:(List Job)}(H:Vj l1 id2=some r):Snd Tryz.prog MX [rV 11 (l1.map eJob),iV id2] (.sref 0) [⟨11,r.map eJob,false⟩]:=by
 refine wS Z0G [.t 4] ?_
 unfold Vj at H
 refine wG [.u 10 (.ln _ _ fun _=>lm l1 eJob)] fun q3=>?_
 refine wR (fun(i4:Nat) (v4:(List Job))=>⟨[(1,iV id2),(5,.sref 8),(9,rV 11 (l1.map eJob)),(10,iV (l1.length:Int)),(11,iV (i4:Int))],[],[],[(8,⟨11,v4.map eJob,false⟩)]⟩) H (fun i4 x4 v4 I m k4 hxv4 hiv4 H N19=>?_) (fun v4 I m H=>?_)
 .unfold Xt at H
  refine wP ?_
  refine wt (ltT hiv4) ?_
  refine wG [.u 13 (.ix _ _ _ fun _=>Q0 eJob (J0 hxv4))] fun _=>?_
  refine O0 H (fun H=>?_) fun H=>?_
  .obtain⟨xs5,h5,H⟩:=bB H
   refine wG [.u 22 (.ap _ _ _ _ fun _=>L0 eJob h5),.w 23 (wi .i64 rfl hiv4 q3.1)] fun _=>?_
   exact wT (N19 _ H)
  .refine wG [.w 23 (wi .i64 rfl hiv4 q3.1)] fun _=>?_
   exact wT (N19 _ H)
 .unfold JJ at H
  refine wP ?_
  refine wf (ltF l1.length) ?_
  refine wP ?_
  replace H:=sI H;subst H
  exact wN [(4,.d)] [] [(8,some 8,0)] [] [some 8] [⟨_,WL v4⟩]
def O0z:L :=
sR [.bx 1 0,.mv 2 (kI 0)]
 (.seq (rE 3 (kI (-1)))
 (.seq (sR [fA 6 1 9,lF 7 6 1,.ln 8 7,.mv 9 (kI 0)]
 (.blk 0 (.loop (.gw (sR [bI 10 .lss 9 8]
 (.seq (.cond 10 .skip
 (.exit 0))
 (.seq (.blk 1 (sR [iA 11 7 9 13,lT 12 11 13,.al 5 [.int .i64 0,.int .i64 0,.int .i64 0,.int .i64 0,.int .i64 0,.int .i64 0,.int .i64 0,.int .i64 0,.int .i64 0,.int .i64 0,.int .i64 0,.int .i64 0,.nl],.st 5 12 13]
 (sR [mV 13 3,.bi 14 .lss 13 (kI 0),mV 15 14,gF 15 (fA 16 5 11),gF 15 (lF 17 16 1),gF 15 (fA 18 5 0),gF 15 (fA 19 18 9),gF 15 (lF 20 19 1),gF 15 (bI 21 .add 17 20),gF 15 (mV 22 3),gF 15 (bI 23 .lss 21 22),.pk 24 15 (cB true) 23]
 (.cond 24 (.reg [fA 25 5 11,lF 26 25 1,fA 27 5 0,fA 28 27 9,lF 29 28 1,bI 30 .add 26 29,mV 3 30])
 .skip))))
 (.reg [.bi 31 .add 9 (kI 1),mV 9 31]))))))))
 (sR [mV 32 3,mV 2 32]
 gR)))
def ZE(x3:Run)(_:Nat)(v3:Int)(k3:Int->Option Int):Option Int :=
 bif ((decide (v3<0))||(decide ((w64 (x3.t+x3.job.wall))<v3)))then(k3 (w64 (x3.t+x3.job.wall)))else(k3 v3)
def YZ(v3:Int):Option Int :=
 some v3
def Lr(s1:State):Option Int :=
 rgl ZE YZ s1.runs 0 (-1)
theorem O02{s1:State}{r:Int}(H:Lr s1=some r):Snd Tryz.prog US [L2 .rd s1] (iV r) []:=by
 refine wS O0z [.t 2] ?_
 unfold Lr at H
 refine wG [.u 8 (.ln _ _ fun _=>lm s1.runs (Z1 .rd))] fun q2=>?_
 refine wR (fun(i3:Nat) (v3:Int)=>⟨[(3,iV v3),(7,rV 13 (s1.runs.map (Z1 .rd))),(8,iV (s1.runs.length:Int)),(9,iV (i3:Int))],[],[],[]⟩) H (fun i3 x3 v3 I m k3 hxv3 hiv3 H N19=>?_) (fun v3 I m H=>?_)
 .unfold ZE at H
  refine wP ?_
  refine wt (ltT hiv3) ?_
  refine wG [.u 11 (.ix _ _ _ fun _=>Q0 (Z1 .rd) (J0 hxv3))] fun _=>?_
  refine O0 H (fun H=>?_) fun H=>?_
  .refine wG [.w 31 (wi .i64 rfl hiv3 q2.1)] fun _=>?_
   exact wT (N19 _ H)
  .refine wG [.w 31 (wi .i64 rfl hiv3 q2.1)] fun _=>?_
   exact wT (N19 _ H)
 .unfold YZ at H
  refine wP ?_
  refine wf (ltF s1.runs.length) ?_
  obtain rfl:=sI H
  exact wP (wE [(2,.d)])
def W09:L :=
sR [.bx 4 0,.mv 8 (.c (.nl)),.mv 9 (.c (.nl)),.mv 10 (cB false)]
 (.seq (sR [lT 20 4 5,cQ 21 Lw [20],.un 22 21,mV 23 22,gF 23 (mV 24 2),gF 23 (cQ 25 UC [24]),gF 23 (.un 26 25),.pk 27 23 (cB true) 26,mV 28 27,gF 28 (mV 29 1),gF 28 (cQ 30 M3 [29]),gF 28 (.un 31 30),.pk 32 28 (cB true) 31,mV 33 32,gF 33 (mV 34 3),gF 33 (.bi 35 .lss 34 (kI 0)),.pk 36 33 (cB true) 35,mV 37 36,gF 37 (mV 38 3),gF 37 (.bi 39 .gtr 38 (kI 60)),.pk 40 37 (cB true) 39]
 (.cond 40 (sR [.mv 8 (.c (.nl)),.mv 9 (.c (.nl)),.mv 10 (cB false)]
 gR)
 .skip))
 (sR [.bs 41 3 [] true,mV 11 41]
 (sR [.bs 42 3 [] true,mV 12 42]
 (.seq (sR [mV 43 2,cQ 44 L0o [43],.ln 45 44,.mv 46 (kI 0)]
 (.blk 0 (.loop (.gw (sR [bI 47 .lss 46 45]
 (.seq (.cond 47 .skip
 (.exit 0))
 (.seq (.blk 1 (sR [iA 48 44 46 11,lT 49 48 11,.al 14 [.int .i64 0,.int .i64 0,.int .i64 0,.int .i64 0,.int .i64 0,.int .i64 0,.int .i64 0,.int .i64 0,.int .i64 0,.int .i64 0,.int .i64 0],.st 14 49 11]
 (sR [lT 51 4 5,lT 52 14 11,mV 53 1,cQ 54 WN [51,52,53],mV 50 54,eX 55 50 0,eX 56 50 1,eX 57 50 2,mV 15 55,mV 16 56,mV 17 57]
 (.seq (sR [mV 58 17,.un 59 58,mV 60 59,gF 60 (mV 61 15),gF 60 (mV 62 1),gF 60 (bI 63 .gtr 61 62),gF 60 (mV 64 63),gT 64 (mV 65 12),gT 64 (.ln 66 65),gT 64 (mV 67 3),gT 64 (bI 68 .geq 66 67),gF 60 (.pk 69 64 68 (cB false)),.pk 70 60 (cB true) 69]
 (.cond 70 (.exit 1)
 .skip))
 (sR [lT 72 4 5,lT 73 14 11,mV 74 15,mV 75 16,cQ 76 JS [72,73,74,75],mV 71 76,eX 77 71 0,eX 78 71 1,.al 18 [.nl,.nl,.nl,.nl,.nl],.st 18 77 5,mV 19 78]
 (.seq (sR [mV 79 19,.un 80 79]
 (.cond 80 (.exit 1)
 .skip))
 (sR [lT 81 18 5,.st 4 81 5]
 (sR [mV 82 15,mV 83 1,bI 84 .eql 82 83]
 (.cond 84 (.reg [mV 85 11,fA 86 14 0,lF 87 86 1,mV 88 15,mV 89 16,.bd 90 [.int .i64 0,.int .i64 0,.nl] [(0,1,87),(1,1,88),(2,1,89)],.bs 91 3 [90] false,.ap 92 85 91 3 40,mV 11 92])
 (.reg [mV 93 12,fA 94 14 0,lF 95 94 1,mV 96 15,mV 97 16,.bd 98 [.int .i64 0,.int .i64 0,.nl] [(0,1,95),(1,1,96),(2,1,97)],.bs 99 3 [98] false,.ap 100 93 99 3 40,mV 12 100]))))))))))
 (.reg [.bi 101 .add 46 (kI 1),mV 46 101]))))))))
 (sR [mV 102 11,mV 103 12,mV 8 102,mV 9 103,.mv 10 (cB true)]
 gR)))))
def V09:List Rv:=[.t 8,.t 9,.t 10]
theorem Z0a:Yx Tryz.prog UY 4 W09 V09=true:=by kernel_rfl
def Wd(now2 depth4:Int)(x11:Job)(_:Nat)(v11:Room×(List Held)×(List Held))(k11:(Room×(List Held)×(List Held))->Option ((List Held)×(List Held)×Bool)):Option ((List Held)×(List Held)×Bool) :=
 (Om v11.1 x11 now2).bind fun y12=>bif ((!y12.2.2)||((decide (now2<y12.1))&&(decide (depth4<=(v11.2.2.length:Int)))))then(k11 (v11.1,v11.2.1,v11.2.2))else((Jj v11.1 x11 y12.1 y12.2.1).bind fun y13=>bif (!y13.2)then(k11 (v11.1,v11.2.1,v11.2.2))else(bif (y12.1==now2)then((appL 40 v11.2.1 [(Held.mk x11.id y12.1 y12.2.1)]).bind fun xs14=>k11 (y13.1,xs14,v11.2.2))else((appL 40 v11.2.2 [(Held.mk x11.id y12.1 y12.2.1)]).bind fun xs15=>k11 (y13.1,v11.2.1,xs15))))
def Xk(v11:Room×(List Held)×(List Held)):Option ((List Held)×(List Held)×Bool) :=
 some (v11.2.1,v11.2.2,true)
def Xf(r1:Room)(now2:Int)(l3:List Job)(depth4:Int):Option ((List Held)×(List Held)×Bool) :=
 (Lj r1).bind fun b5=>(bif (!b5)then some default else(Zk l3)).bind fun b6=>bif (((((!b5)||(!b6))||(!(Q1 now2)))||(decide (depth4<0)))||(decide (60<depth4)))then(some ([],[],false))else((MT l3).bind fun y9=>rgl (Wd now2 depth4) Xk y9 0 (r1,[],[]))
set_option maxRecDepth 20000 in
theorem X09{r1:Room}{now2:Int}{l3:List Job}{depth4:Int}{r:(List Held)×(List Held)×Bool}(H:Xf r1 now2 l3 depth4=some r):ConD Tryz.prog UY [Xj .nw r1,iV now2,.sref 0,iV depth4] [] [(11,l3.map eJob)] (.tup [.sref 1,.sref 2,.bool r.2.2]) [] [some (l3.map eJob)] [(3,r.1.map (X06 .nw)),(3,r.2.1.map (X06 .nw))]:=by
 refine Q06 [true] Z0a rfl (by kernel_rfl) ?_
 unfold Xf at H
 obtain⟨b5,h5,H⟩:=bB H
 obtain⟨b6,h6,H⟩:=bB H
 refine wG [.u 21 (.call _ _ _ _ _ (AEs.of (xs:=[.agg [rV 1 (r1.topo.parents.map eI),rV 4 (r1.topo.nodes.map V1),rV 1 (r1.up.map eBo),rV 1 (r1.profs.map (V2 .nw)),rV 4 (r1.lics.map ePt)]]) (by simp)) (fun _=>LA h5)),.g 25 [(_,false)] (.call _ _ _ _ _ (AEs.refl _) (fun q=>OK (bF q.1 h6))),.g 30 [(((!b5)||(!b6)),false)] (.call _ _ _ _ _ (AEs.refl _) (fun _=>U4 now2))] fun _=>?_
 refine O0 H (fun H=>?_) fun H=>?_
 .refine wP ?_
  replace H:=sI H;subst H
  exact J1 [(8,.z 700000007),(9,.z 700000008),(10,.d)] [] [(700000007,none,3),(700000008,none,3),(1000000000,some 1000000000,0)] [] [700000007,700000008] (by kernel_rfl)
 .obtain⟨y9,h9,H⟩:=bB H
  refine wG [.c 44 (Y0O h9),.u 45 (.ln _ _ fun _=>lm y9 eJob)] fun q10=>?_
  refine wR (fun(i11:Nat) (v11:Room×(List Held)×(List Held))=>⟨[(1,iV now2),(3,iV depth4),(4,.ptr 4 0),(11,.sref 41),(12,.sref 42),(44,nV 11 (y9.map eJob)),(45,iV (y9.length:Int)),(46,iV (i11:Int))],[],[(4,(Xj .nw v11.1).cells)],[(41,⟨3,v11.2.1.map (X06 .nw),false⟩),(42,⟨3,v11.2.2.map (X06 .nw),false⟩),(1000000000,⟨11,l3.map eJob,false⟩)]⟩) H (fun i11 x11 v11 I m k11 hxv11 hiv11 H N45=>?_) (fun v11 I m H=>?_)
  .unfold Wd at H
   refine wP ?_
   refine wt (ltT hiv11) ?_
   obtain⟨y12,h12,H⟩:=bB H
   refine wG [.u 48 (.ix _ _ _ fun _=>Q0 eJob (J0 hxv11)),.u 54 (.call _ _ _ _ _ (AEs.of (xs:=[.agg [rV 1 (v11.1.topo.parents.map eI),rV 4 (v11.1.topo.nodes.map V1),rV 1 (v11.1.up.map eBo),rV 1 (v11.1.profs.map (V2 .nw)),rV 4 (v11.1.lics.map ePt)],.agg [iV x11.id,iV x11.prio,iV x11.nodes,iV x11.need.a,iV x11.need.b,iV x11.need.c,iV x11.lic.a,iV x11.lic.b,iV x11.lic.c,iV x11.wall,iV x11.level],iV now2]) (by simp)) (fun _=>V00 h12)),.g 66 [((decide (now2<y12.1)),true),((!y12.2.2),false)] (.ln _ _ fun _=>lm v11.2.2 (X06 .nw))] fun _=>?_
   refine O0 H (fun H=>?_) fun H=>?_
   .refine wG [.w 101 (wi .i64 rfl hiv11 q10.1)] fun _=>?_
    exact wT (N45 _ H)
   .obtain⟨y13,h13,H⟩:=bB H
    refine wG [.u 76 (.call _ _ _ _ _ (AEs.of (xs:=[.agg [rV 1 (v11.1.topo.parents.map eI),rV 4 (v11.1.topo.nodes.map V1),rV 1 (v11.1.up.map eBo),rV 1 (v11.1.profs.map (V2 .nw)),rV 4 (v11.1.lics.map ePt)],.agg [iV x11.id,iV x11.prio,iV x11.nodes,iV x11.need.a,iV x11.need.b,iV x11.need.c,iV x11.lic.a,iV x11.lic.b,iV x11.lic.c,iV x11.wall,iV x11.level],iV y12.1,rV 1 (y12.2.1.map eI)]) (by simp)) (fun _=>W03 h13))] fun _=>?_
    refine O0 H (fun H=>?_) fun H=>?_
    .refine wG [.w 101 (wi .i64 rfl hiv11 q10.1)] fun _=>?_
     exact wT (N45 _ H)
    .refine wP ?_
     refine O0 H (fun H=>?_) fun H=>?_
     .obtain⟨xs14,h14,H⟩:=bB H
      refine wG [.u 92 (.ap _ _ _ _ fun _=>L0 (X06 .nw) h14),.w 101 (wi .i64 rfl hiv11 q10.1)] fun _=>?_
      exact wT (N45 _ H)
     .obtain⟨xs15,h15,H⟩:=bB H
      refine wG [.u 100 (.ap _ _ _ _ fun _=>L0 (X06 .nw) h15),.w 101 (wi .i64 rfl hiv11 q10.1)] fun _=>?_
      exact wT (N45 _ H)
  .unfold Xk at H
   refine wP ?_
   refine wf (ltF y9.length) ?_
   refine wP ?_
   replace H:=sI H;subst H
   exact J1 [(8,.d),(9,.d),(10,.d)] [] [(41,some 41,0),(42,some 42,0),(1000000000,some 1000000000,0)] [] [41,42] (by kernel_rfl)
def UW:L :=
sR [.bx 1 0,.al 2 [.nl,.nl,.nl,.int .i64 0,.int .i64 0,.int .i64 0,.int .i64 0,.int .i64 0,.nl,.nl,.nl]]
 (sR [lT 13 1 11,cQ 14 ZJ [13],mV 12 14,eX 15 12 0,eX 16 12 1,.al 3 [.nl,.nl,.nl,.nl,.nl],.st 3 15 5,mV 4 16]
 (sR [lT 18 3 5,fA 19 1 7,lF 20 19 1,fA 21 1 8,lF 22 21 1,fA 23 1 6,lF 24 23 1,.cm 25 UY [18,20,22,24],mV 17 25,eX 26 17 0,eX 27 17 1,eX 28 17 2,mV 5 26,mV 6 27,mV 7 28]
 (.seq (sR [mV 29 5,.ln 30 29,.mv 31 (kI 0)]
 (.blk 0 (.loop (.gw (sR [bI 32 .lss 31 30]
 (.seq (.cond 32 .skip
 (.exit 0))
 (.seq (.blk 1 (sR [iA 33 29 31 3,lT 34 33 3,.al 9 [.int .i64 0,.int .i64 0,.nl],.st 9 34 3]
 (sR [fA 36 1 8,lF 37 36 1,fA 38 9 0,lF 39 38 1,cQ 40 Vp [37,39],mV 35 40,eX 41 35 0,eX 42 35 1,.al 10 [.int .i64 0,.int .i64 0,.int .i64 0,.int .i64 0,.int .i64 0,.int .i64 0,.int .i64 0,.int .i64 0,.int .i64 0,.int .i64 0,.int .i64 0],.st 10 41 11,mV 11 42]
 (sR [fA 43 1 8,lF 44 43 1,fA 45 9 0,lF 46 45 1,.cl 47 MX [44,46],fA 48 1 8,.st 48 47 1]
 (.reg [fA 49 1 9,lF 50 49 1,lT 51 10 11,fA 52 1 7,lF 53 52 1,fA 54 9 2,lF 55 54 1,.bd 56 [.int .i64 0,.int .i64 0,.int .i64 0,.int .i64 0,.int .i64 0,.int .i64 0,.int .i64 0,.int .i64 0,.int .i64 0,.int .i64 0,.int .i64 0,.int .i64 0,.nl] [(0,11,51),(11,1,53),(12,1,55)],.bs 57 13 [56] false,.ap 58 50 57 13 120,fA 59 1 9,.st 59 58 1])))))
 (.reg [.bi 60 .add 31 (kI 1),mV 31 60]))))))))
 (sR [lT 61 1 11,.st 2 61 11]
 gR))))
def OV:List Rv:=[.c 2 11 true]
theorem QX:Yx Tryz.prog J2 1 UW OV=true:=by kernel_rfl
def V8(s1:State)(x5:Held)(_:Nat)(v5:(List Job)×(List Run))(k5:((List Job)×(List Run))->Option State):Option State :=
 (Xd v5.1 x5.id).bind fun y6=>(Vj v5.1 x5.id).bind fun y7=>(appL 120 v5.2 [(Run.mk y6.1 s1.now x5.nodes)]).bind fun xs8=>k5 (y7,xs8)
def Mr(s1:State)(v5:(List Job)×(List Run)):Option State :=
 some (State.mk s1.topo s1.up s1.lic s1.depth s1.now v5.1 v5.2 s1.ends)
def X2(s1:State):Option State :=
 (Uc s1).bind fun y2=>(Xf y2.1 s1.now s1.queue s1.depth).bind fun y3=>rgl (V8 s1) (Mr s1) y3.1 0 (s1.queue,s1.runs)
set_option maxRecDepth 20000 in
theorem O4{s1 r:State}(H:X2 s1=some r):ConD Tryz.prog J2 [.agg [nV 1 (s1.topo.parents.map eI),nV 4 (s1.topo.nodes.map V1),.sref 0,iV s1.lic.a,iV s1.lic.b,iV s1.lic.c,iV s1.depth,iV s1.now,.sref 1,.sref 2,.sref 3]] [] [(1,s1.up.map eBo),(11,s1.queue.map eJob),(13,s1.runs.map (Z1 .nw)),(3,s1.ends.map eEnd)] (.agg [nV 1 (r.topo.parents.map eI),nV 4 (r.topo.nodes.map V1),.sref 4,iV r.lic.a,iV r.lic.b,iV r.lic.c,iV r.depth,iV r.now,.sref 5,.sref 6,.sref 7]) [] [none,none,none,none] [(1,r.up.map eBo),(11,r.queue.map eJob),(13,r.runs.map (Z1 .nw)),(3,r.ends.map eEnd)]:=by
 refine Q06 [false,false,false,false] QX rfl (by kernel_rfl) ?_
 unfold X2 at H
 obtain⟨y2,h2,H⟩:=bB H
 obtain⟨y3,h3,H⟩:=bB H
 refine wG [.u 14 (.call _ _ _ _ _ (AEs.of (xs:=[.agg [rV 1 (s1.topo.parents.map eI),rV 4 (s1.topo.nodes.map V1),rV 1 (s1.up.map eBo),iV s1.lic.a,iV s1.lic.b,iV s1.lic.c,iV s1.depth,iV s1.now,rV 11 (s1.queue.map eJob),rV 13 (s1.runs.map (Z1 .nw)),rV 3 (s1.ends.map eEnd)]]) (by simp)) (fun _=>XR h2)),.u 25 (.cw UY [] [500000001] [] [(11,s1.queue.map eJob)] [Xj .nw y2.1,iV s1.now,.sref 0,iV s1.depth] _ _ _ _ _ (GEs.of [true,false,true,false] (by simp)) (by simp) (by simp) (by simp) (fun _=>X09 h3)),.u 30 (.ln _ _ fun _=>lm y3.1 (X06 .nw))] fun q4=>?_
 refine wR (fun(i5:Nat) (v5:(List Job)×(List Run))=>⟨[(1,.ptr 1 0),(2,.ptr 2 0),(29,.sref 26000),(30,iV (y3.1.length:Int)),(31,iV (i5:Int))],[],[(1,[nV 1 (s1.topo.parents.map eI),nV 4 (s1.topo.nodes.map V1),.sref 500000000,iV s1.lic.a,iV s1.lic.b,iV s1.lic.c,iV s1.depth,iV s1.now,.sref 500000001,.sref 500000002,.sref 500000003]),(2,[.nl,.nl,.nl,iV 0,iV 0,iV 0,iV 0,iV 0,.nl,.nl,.nl])],[(500000000,⟨1,s1.up.map eBo,false⟩),(500000001,⟨11,v5.1.map eJob,false⟩),(500000002,⟨13,v5.2.map (Z1 .nw),false⟩),(500000003,⟨3,s1.ends.map eEnd,false⟩),(26000,⟨3,y3.1.map (X06 .nw),false⟩)]⟩) H (fun i5 x5 v5 I m k5 hxv5 hiv5 H N20=>?_) (fun v5 I m H=>?_)
 .unfold V8 at H
  refine wP ?_
  refine wt (ltT hiv5) ?_
  obtain⟨y6,h6,H⟩:=bB H
  obtain⟨y7,h7,H⟩:=bB H
  obtain⟨xs8,h8,H⟩:=bB H
  refine wG [.u 33 (.ix _ _ _ fun _=>Q0 (X06 .nw) (J0 hxv5)),.u 34 (.el _ _ _ fun _=>gm (X06 .nw) (Y5 (J0 hxv5))),.c 40 (Ot h6),.c 47 (X0a h7),.u 58 (.ap _ _ _ _ fun _=>L0 (Z1 .nw) h8),.w 60 (wi .i64 rfl hiv5 q4.1)] fun _=>?_
  exact Z0e (N20 _ H) [] [] [(500000001,(some 48000,0))] [] (by kernel_rfl) (by kernel_rfl)
 .unfold Mr at H
  refine wP ?_
  refine wf (ltF y3.1.length) ?_
  refine wP ?_
  replace H:=sI H;subst H
  exact J1 [(2,.d)] [(2,[])] [(500000000,some 500000000,0),(500000001,some 500000001,0),(500000002,some 500000002,0),(500000003,some 500000003,0)] [] [500000000,500000001,500000002,500000003] (by kernel_rfl)
def X0R:L :=
sR [.bx 2 0,.al 4 [.nl,.nl,.nl,.int .i64 0,.int .i64 0,.int .i64 0,.int .i64 0,.int .i64 0,.nl,.nl,.nl],.mv 5 (cB false)]
 (.seq (sR [lT 10 2 11,cQ 11 M5 [10],.un 12 11,mV 13 12,gF 13 (mV 14 1),gF 13 (cQ 15 M3 [14]),gF 13 (.un 16 15),.pk 17 13 (cB true) 16,mV 18 17,gF 18 (mV 19 1),gF 18 (fA 20 2 7),gF 18 (lF 21 20 1),gF 18 (bI 22 .lss 19 21),.pk 23 18 (cB true) 22]
 (.cond 23 (sR [.bd 24 [.nl,.nl,.nl,.int .i64 0,.int .i64 0,.int .i64 0,.int .i64 0,.int .i64 0,.nl,.nl,.nl] [],.st 4 24 11,.mv 5 (cB false)]
 gR)
 .skip))
 (sR [lT 25 2 11,.cl 26 Ua [25],.st 2 26 11]
 (.seq (sR [lT 27 2 11,cQ 28 US [27],mV 6 28]
 (.blk 0 (.loop (.gw (.seq (sR [mV 29 6,.bi 30 .geq 29 (kI 0),mV 31 30,gT 31 (mV 32 6),gT 31 (mV 33 1),gT 31 (bI 34 .leq 32 33),.pk 35 31 34 (cB false)]
 (.cond 35 .skip
 (.exit 0)))
 (.seq (.blk 1 (sR [mV 38 6,fA 39 2 7,.st 39 38 1]
 (sR [.bs 40 13 [] true,mV 7 40]
 (.seq (sR [fA 41 2 9,lF 42 41 1,.ln 43 42,.mv 44 (kI 0)]
 (.blk 2 (.loop (.gw (sR [bI 45 .lss 44 43]
 (.seq (.cond 45 .skip
 (.exit 2))
 (.seq (.blk 3 (sR [iA 46 42 44 13,lT 47 46 13,.al 9 [.int .i64 0,.int .i64 0,.int .i64 0,.int .i64 0,.int .i64 0,.int .i64 0,.int .i64 0,.int .i64 0,.int .i64 0,.int .i64 0,.int .i64 0,.int .i64 0,.nl],.st 9 47 13]
 (sR [fA 48 9 11,lF 49 48 1,fA 50 9 0,fA 51 50 9,lF 52 51 1,bI 53 .add 49 52,mV 54 6,bI 55 .eql 53 54]
 (.cond 55 (.reg [fA 56 2 10,lF 57 56 1,fA 58 9 0,fA 59 58 0,lF 60 59 1,mV 61 6,.bd 62 [.int .i64 0,.int .i64 0,.int .i64 0] [(0,1,60),(1,1,61),(2,1,(kI 1))],.bs 63 3 [62] false,.ap 64 57 63 3 24,fA 65 2 10,.st 65 64 1])
 (.reg [mV 66 7,lT 67 9 13,.bs 68 13 [67] false,.ap 69 66 68 13 120,mV 7 69])))))
 (.reg [.bi 70 .add 44 (kI 1),mV 44 70]))))))))
 (sR [mV 71 7,fA 72 2 9,.st 72 71 1]
 (.seq (sR [fA 73 2 10,lF 74 73 1,.ln 75 74,.bi 76 .gtr 75 (kI 300)]
 (.cond 76 (sR [.bd 77 [.nl,.nl,.nl,.int .i64 0,.int .i64 0,.int .i64 0,.int .i64 0,.int .i64 0,.nl,.nl,.nl] [],.st 4 77 11,.mv 5 (cB false)]
 gR)
 .skip))
 (.reg [lT 78 2 11,.cm 79 J2 [78],.st 2 79 11])))))))
 (.reg [lT 36 2 11,cQ 37 US [36],mV 6 37])))))))
 (sR [mV 80 1,fA 81 2 7,.st 81 80 1]
 (sR [lT 82 2 11,.st 4 82 11,.mv 5 (cB true)]
 gR)))))
def MA(v6:State×Int)(x8:Run)(_:Nat)(v8:(List End)×(List Run))(k8:((List End)×(List Run))->Option (State×Bool)):Option (State×Bool) :=
 bif ((w64 (x8.t+x8.job.wall))==v6.2)then((appL 24 v8.1 [(End.mk x8.job.id v6.2 1)]).bind fun xs9=>k8 (xs9,v8.2))else((appL 120 v8.2 [x8]).bind fun xs10=>k8 (v8.1,xs10))
def ZR(v6:State×Int)(k6:(State×Int)->Option (State×Bool))(v8:(List End)×(List Run)):Option (State×Bool) :=
 bif (decide (300<(v8.1.length:Int)))then(some ((State.mk (Topo.mk [] []) [] (Vec.mk 0 0 0) 0 0 [] [] []),false))else((X2 (State.mk v6.1.topo v6.1.up v6.1.lic v6.1.depth v6.2 v6.1.queue v8.2 v8.1)).bind fun y12=>(Lr y12).bind fun n13=>k6 (y12,n13))
def Qo(t2:Int)(v6:State×Int)(k6:(State×Int)->Option (State×Bool)):Option (State×Bool) :=
 bif ((decide (0<=v6.2))&&(decide (v6.2<=t2)))then(rgl (MA v6) (ZR v6 k6) v6.1.runs 0 (v6.1.ends,[]))else(some ((State.mk v6.1.topo v6.1.up v6.1.lic v6.1.depth t2 v6.1.queue v6.1.runs v6.1.ends),true))
def WJ(s1:State)(t2:Int):Option (State×Bool) :=
 (X5 s1).bind fun b3=>bif (((!b3)||(!(Q1 t2)))||(decide (t2<s1.now)))then(some ((State.mk (Topo.mk [] []) [] (Vec.mk 0 0 0) 0 0 [] [] []),false))else((J7 s1).bind fun y4=>(Lr y4).bind fun n5=>whl (Qo t2) 9223372036854775807 (y4,n5))
theorem J0e{s1:State}{t2:Int}{r:State×Bool}(H:WJ s1 t2=some r):Snd Tryz.prog V07 [L2 .rd s1,iV t2] (.tup [.agg [nV 1 (r.1.topo.parents.map eI),nV 4 (r.1.topo.nodes.map V1),.sref 0,iV r.1.lic.a,iV r.1.lic.b,iV r.1.lic.c,iV r.1.depth,iV r.1.now,.sref 1,.sref 2,.sref 3],.bool r.2]) [⟨1,r.1.up.map eBo,false⟩,⟨11,r.1.queue.map eJob,false⟩,⟨13,r.1.runs.map (Z1 .nw),false⟩,⟨3,r.1.ends.map eEnd,false⟩]:=by
 refine wS X0R [.c 4 11 true,.t 5] ?_
 unfold WJ at H
 obtain⟨b3,h3,H⟩:=bB H
 refine wG [.c 11 (U5 h3),.g 15 [((!b3),false)] (.call _ _ _ _ _ (AEs.refl _) (fun _=>U4 t2))] fun _=>?_
 refine O0 H (fun H=>?_) fun H=>?_
 .refine wP ?_
  replace H:=sI H;subst H
  exact wN [(4,.d),(5,.d)] [(4,[.n 1,.n 4,.d,.d,.d,.d,.d,.d,.d,.d,.d])] [] [] [none,none,none,none] [⟨_,nw_I ([]:List Int)⟩,⟨_,M2 ([]:List Node)⟩]
 .obtain⟨y4,h4,H⟩:=bB H
  obtain⟨n5,h5,H⟩:=bB H
  refine wG [.c 26 (Vc h4),.u 28 (.call _ _ _ _ _ (AEs.of (xs:=[.agg [rV 1 (y4.topo.parents.map eI),rV 4 (y4.topo.nodes.map V1),rV 1 (y4.up.map eBo),iV y4.lic.a,iV y4.lic.b,iV y4.lic.c,iV y4.depth,iV y4.now,rV 11 (y4.queue.map eJob),rV 13 (y4.runs.map (Z1 .nw)),rV 3 (y4.ends.map eEnd)]]) (by simp)) (fun _=>O02 h5))] fun _=>?_
  refine wW (fun(v6:State×Int)=>⟨[(1,iV t2),(2,.ptr 2 0),(4,.ptr 4 0),(6,iV v6.2)],[],[(2,[nV 1 (v6.1.topo.parents.map eI),nV 4 (v6.1.topo.nodes.map V1),.sref 27000,iV v6.1.lic.a,iV v6.1.lic.b,iV v6.1.lic.c,iV v6.1.depth,iV v6.1.now,.sref 27001,.sref 27002,.sref 27003]),(4,[.nl,.nl,.nl,iV 0,iV 0,iV 0,iV 0,iV 0,.nl,.nl,.nl])],[(27000,⟨1,v6.1.up.map eBo,false⟩),(27001,⟨11,v6.1.queue.map eJob,false⟩),(27002,⟨13,v6.1.runs.map (Z1 .nw),false⟩),(27003,⟨3,v6.1.ends.map eEnd,false⟩)]⟩) H (fun v6 I m k6 H N55=>?_)
  unfold Qo at H
  refine wP ?_
  refine O0 H (fun H=>?_) fun H=>?_
  .refine wG [.u 43 (.ln _ _ fun _=>lm v6.1.runs (Z1 .nw))] fun q7=>?_
   refine wR (fun(i8:Nat) (v8:(List End)×(List Run))=>⟨[(1,iV t2),(2,.ptr 2 0),(4,.ptr 4 0),(6,iV v6.2),(7,.sref 40),(42,.sref 27002),(43,iV (v6.1.runs.length:Int)),(44,iV (i8:Int))],[],[(2,[nV 1 (v6.1.topo.parents.map eI),nV 4 (v6.1.topo.nodes.map V1),.sref 27000,iV v6.1.lic.a,iV v6.1.lic.b,iV v6.1.lic.c,iV v6.1.depth,iV v6.2,.sref 27001,.sref 27002,.sref 27003]),(4,[.nl,.nl,.nl,iV 0,iV 0,iV 0,iV 0,iV 0,.nl,.nl,.nl])],[(27000,⟨1,v6.1.up.map eBo,false⟩),(27001,⟨11,v6.1.queue.map eJob,false⟩),(27002,⟨13,v6.1.runs.map (Z1 .nw),false⟩),(27003,⟨3,v8.1.map eEnd,false⟩),(40,⟨13,v8.2.map (Z1 .nw),false⟩)]⟩) H (fun i8 x8 v8 I m k8 hxv8 hiv8 H N34=>?_) (fun v8 I m H=>?_)
   .unfold MA at H
    refine wP ?_
    refine wt (ltT hiv8) ?_
    refine wG [.u 46 (.ix _ _ _ fun _=>Q0 (Z1 .nw) (J0 hxv8)),.u 47 (.el _ _ _ fun _=>gm (Z1 .nw) (Y5 (J0 hxv8)))] fun _=>?_
    refine O0 H (fun H=>?_) fun H=>?_
    .obtain⟨xs9,h9,H⟩:=bB H
     refine wG [.u 64 (.ap _ _ _ _ fun _=>L0 eEnd h9),.w 70 (wi .i64 rfl hiv8 q7.1)] fun _=>?_
     exact wT (N34 _ H)
    .obtain⟨xs10,h10,H⟩:=bB H
     refine wG [.u 69 (.ap _ _ _ _ fun _=>L0 (Z1 .nw) h10),.w 70 (wi .i64 rfl hiv8 q7.1)] fun _=>?_
     exact wT (N34 _ H)
   .unfold ZR at H
    refine wP ?_
    refine wf (ltF v6.1.runs.length) ?_
    refine wG [.u 75 (.ln _ _ fun _=>lm v8.1 eEnd)] fun q11=>?_
    refine O0 H (fun H=>?_) fun H=>?_
    .refine wP ?_
     replace H:=sI H;subst H
     exact wN [(4,.d),(5,.d)] [(4,[.n 1,.n 4,.d,.d,.d,.d,.d,.d,.d,.d,.d])] [] [] [none,none,none,none] [⟨_,nw_I ([]:List Int)⟩,⟨_,M2 ([]:List Node)⟩]
    .obtain⟨y12,h12,H⟩:=bB H
     obtain⟨n13,h13,H⟩:=bB H
     refine wG [.u 79 (.cw J2 [] [27000,27001,40,27003] [] [(1,v6.1.up.map eBo),(11,v6.1.queue.map eJob),(13,v8.2.map (Z1 .nw)),(3,v8.1.map eEnd)] [.agg [nV 1 (v6.1.topo.parents.map eI),nV 4 (v6.1.topo.nodes.map V1),.sref 0,iV v6.1.lic.a,iV v6.1.lic.b,iV v6.1.lic.c,iV v6.1.depth,iV v6.2,.sref 1,.sref 2,.sref 3]] _ _ _ _ _ (GEs.of [true] (by simp)) (by simp) (by simp) (by simp) (fun _=>have k:=O4 h12;k)),.u 37 (.call _ _ _ _ _ (AEs.of (xs:=[.agg [rV 1 (y12.topo.parents.map eI),rV 4 (y12.topo.nodes.map V1),rV 1 (y12.up.map eBo),iV y12.lic.a,iV y12.lic.b,iV y12.lic.c,iV y12.depth,iV y12.now,rV 11 (y12.queue.map eJob),rV 13 (y12.runs.map (Z1 .nw)),rV 3 (y12.ends.map eEnd)]]) (by simp)) (fun _=>O02 h13))] fun _=>?_
     exact Z0e (N55 _ H) [] [] [(27000,(some 80000,0)),(27001,(some 80001,0)),(27002,(some 80002,0)),(27003,(some 80003,0))] [] (by kernel_rfl) (by kernel_rfl)
  .refine wP ?_
   replace H:=sI H;subst H
   exact wN [(4,.d),(5,.d)] [(4,[])] [(27000,some 27000,0),(27001,some 27001,0),(27002,some 27002,0),(27003,some 27003,0)] [] [some 27000,some 27001,some 27002,some 27003] [⟨_,nw_I v6.1.topo.parents⟩,⟨_,M2 v6.1.topo.nodes⟩,⟨_,Js v6.1.up⟩,⟨_,WL v6.1.queue⟩,⟨_,UR v6.1.runs⟩,⟨_,J0a v6.1.ends⟩]
def L0r:L :=
sR [.bx 2 0,.bx 3 1,.mv 4 (cB false)]
 (sR [lT 12 2 11,.cl 13 UN [12],mV 11 13,eX 14 11 0,eX 15 11 1,.al 5 [.nl,.nl,.nl,.nl,.nl],.st 5 14 5,mV 6 15]
 (.seq (sR [fA 16 5 2,lF 17 16 1,.ln 18 17,.mv 19 (kI 0)]
 (.blk 0 (.loop (.gw (sR [bI 20 .lss 19 18]
 (.seq (.cond 20 .skip
 (.exit 0))
 (.seq (.blk 1 (sR [mV 21 19,mV 7 21]
 (.reg [fA 22 5 2,lF 23 22 1,mV 24 7,iA 25 23 24 1,.st 25 (cB true) 1])))
 (.reg [.bi 26 .add 19 (kI 1),mV 19 26]))))))))
 (sR [lT 28 5 5,lT 29 3 11,.cq 30 WN [28,29,(kI 0)],mV 27 30,eX 31 27 0,eX 32 27 1,eX 33 27 2,mV 8 31,mV 9 32,mV 10 33]
 (sR [mV 34 6,mV 35 34,gT 35 (mV 36 10),.pk 37 35 36 (cB false),mV 4 37]
 gR))))
def Ox(_:Bool)(i5:Nat)(v5:(List Bool))(k5:(List Bool)->Option Bool):Option Bool :=
 (idx v5 (i5:Int)).bind fun _=>k5 (v5.set (i5:Int).toNat true)
def Wx(j2:Job)(y3:Room×Bool)(v5:(List Bool)):Option Bool :=
 (Om (Room.mk y3.1.topo v5 y3.1.profs y3.1.lics) j2 0).bind fun y7=>some (y3.2&&y7.2.2)
def Wt(s1:State)(j2:Job):Option Bool :=
 (Ol s1).bind fun y3=>rgl Ox (Wx j2 y3) y3.1.up 0 y3.1.up
theorem V0p{s1:State}{j2:Job}{r:Bool}(H:Wt s1 j2=some r):Snd Tryz.prog L06 [L2 .rd s1,eJob j2] (.bool r) []:=by
 refine wS L0r [.t 4] ?_
 unfold Wt at H
 obtain⟨y3,h3,H⟩:=bB H
 refine wG [.c 13 (XZ h3),.u 18 (.ln _ _ fun _=>lm y3.1.up eBo)] fun q4=>?_
 refine wR (fun(i5:Nat) (v5:(List Bool))=>⟨[(3,.ptr 3 0),(5,.ptr 5 0),(6,.bool y3.2),(18,iV (y3.1.up.length:Int)),(19,iV (i5:Int))],[],[(3,(eJob j2).cells),(5,[nV 1 (y3.1.topo.parents.map eI),nV 4 (y3.1.topo.nodes.map V1),.sref 14000,nV 1 (y3.1.profs.map (V2 .nw)),nV 4 (y3.1.lics.map ePt)])],[(14000,⟨1,v5.map eBo,false⟩)]⟩) H (fun i5 x5 v5 I m k5 hxv5 hiv5 H N15=>?_) (fun v5 I m H=>?_)
 .unfold Ox at H
  refine wP ?_
  refine wt (ltT hiv5) ?_
  obtain⟨e6,h6,H⟩:=bB H
  refine wG [.u 25 (.ix _ _ _ fun _=>Q0 eBo h6),.u 1000000 (.sto _ _ _ (eBo true) _ (fun _=>gm eBo (Y5 h6)) (fun _=>Xz ..)),.w 26 (wi .i64 rfl hiv5 q4.1)] fun _=>?_
  exact wT (N15 _ H)
 .unfold Wx at H
  refine wP ?_
  refine wf (ltF y3.1.up.length) ?_
  obtain⟨y7,h7,H⟩:=bB H
  refine wG [.u 30 (.call _ _ _ _ _ (AEs.of (xs:=[.agg [rV 1 (y3.1.topo.parents.map eI),rV 4 (y3.1.topo.nodes.map V1),rV 1 (v5.map eBo),rV 1 (y3.1.profs.map (V2 .nw)),rV 4 (y3.1.lics.map ePt)],.agg [iV j2.id,iV j2.prio,iV j2.nodes,iV j2.need.a,iV j2.need.b,iV j2.need.c,iV j2.lic.a,iV j2.lic.b,iV j2.lic.c,iV j2.wall,iV j2.level],iV 0]) (by simp)) (fun _=>V00 h7))] fun _=>?_
  replace H:=sI H;subst H
  exact wE [(4,.d)]
def L0G:L :=
sR [.bx 2 0,.bx 3 1,.al 4 [.nl,.nl,.nl,.int .i64 0,.int .i64 0,.int .i64 0,.int .i64 0,.int .i64 0,.nl,.nl,.nl],.mv 5 (kI 0)]
 (.seq (sR [lT 9 2 11,cQ 10 M5 [9],.un 11 10,mV 12 11,gF 12 (lT 13 3 11),gF 12 (cQ 14 Ls [13]),gF 12 (.un 15 14),.pk 16 12 (cB true) 15]
 (.cond 16 (sR [.bd 17 [.nl,.nl,.nl,.int .i64 0,.int .i64 0,.int .i64 0,.int .i64 0,.int .i64 0,.nl,.nl,.nl] [],.st 4 17 11,.mv 5 (kI 1)]
 gR)
 .skip))
 (sR [lT 18 2 11,cQ 19 YC [18],mV 6 19]
 (sR [mV 21 6,fA 22 3 0,lF 23 22 1,cQ 24 Vp [21,23],mV 20 24,eX 25 20 0,eX 26 20 1,.al 7 [.int .i64 0,.int .i64 0,.int .i64 0,.int .i64 0,.int .i64 0,.int .i64 0,.int .i64 0,.int .i64 0,.int .i64 0,.int .i64 0,.int .i64 0],.st 7 25 11,mV 8 26]
 (.seq (sR [mV 27 8]
 (.cond 27 (sR [.bd 28 [.nl,.nl,.nl,.int .i64 0,.int .i64 0,.int .i64 0,.int .i64 0,.int .i64 0,.nl,.nl,.nl] [],.st 4 28 11,.mv 5 (kI 2)]
 gR)
 .skip))
 (.seq (sR [mV 29 6,.ln 30 29,.bi 31 .geq 30 (kI 60)]
 (.cond 31 (sR [.bd 32 [.nl,.nl,.nl,.int .i64 0,.int .i64 0,.int .i64 0,.int .i64 0,.int .i64 0,.nl,.nl,.nl] [],.st 4 32 11,.mv 5 (kI 3)]
 gR)
 .skip))
 (.seq (sR [lT 33 2 11,lT 34 3 11,cQ 35 L06 [33,34],.un 36 35]
 (.cond 36 (sR [.bd 37 [.nl,.nl,.nl,.int .i64 0,.int .i64 0,.int .i64 0,.int .i64 0,.int .i64 0,.nl,.nl,.nl] [],.st 4 37 11,.mv 5 (kI 4)]
 gR)
 .skip))
 (sR [lT 38 2 11,.cl 39 Ua [38],.st 2 39 11]
 (sR [fA 40 2 8,lF 41 40 1,lT 42 3 11,.bs 43 11 [42] false,.ap 44 41 43 11 88,fA 45 2 8,.st 45 44 1]
 (sR [lT 46 2 11,.cm 47 J2 [46],.st 4 47 11,.mv 5 (kI 0)]
 gR)))))))))
def Qy(s1:State)(j2:Job):Option (State×Int) :=
 (X5 s1).bind fun b3=>bif ((!b3)||(!(W1 j2)))then(some ((State.mk (Topo.mk [] []) [] (Vec.mk 0 0 0) 0 0 [] [] []),1))else((Og s1).bind fun y4=>(Xd y4 j2.id).bind fun y5=>bif y5.2 then(some ((State.mk (Topo.mk [] []) [] (Vec.mk 0 0 0) 0 0 [] [] []),2))else(bif (decide (60<=(y4.length:Int)))then(some ((State.mk (Topo.mk [] []) [] (Vec.mk 0 0 0) 0 0 [] [] []),3))else((Wt s1 j2).bind fun b7=>bif (!b7)then(some ((State.mk (Topo.mk [] []) [] (Vec.mk 0 0 0) 0 0 [] [] []),4))else((J7 s1).bind fun y8=>(appL 88 y8.queue [j2]).bind fun xs9=>(X2 (State.mk y8.topo y8.up y8.lic y8.depth y8.now xs9 y8.runs y8.ends)).bind fun y10=>some (y10,0)))))
theorem U0a{s1:State}{j2:Job}{r:State×Int}(H:Qy s1 j2=some r):Snd Tryz.prog YY [L2 .rd s1,eJob j2] (.tup [.agg [nV 1 (r.1.topo.parents.map eI),nV 4 (r.1.topo.nodes.map V1),.sref 0,iV r.1.lic.a,iV r.1.lic.b,iV r.1.lic.c,iV r.1.depth,iV r.1.now,.sref 1,.sref 2,.sref 3],iV r.2]) [⟨1,r.1.up.map eBo,false⟩,⟨11,r.1.queue.map eJob,false⟩,⟨13,r.1.runs.map (Z1 .nw),false⟩,⟨3,r.1.ends.map eEnd,false⟩]:=by
 refine wS L0G [.c 4 11 true,.t 5] ?_
 unfold Qy at H
 obtain⟨b3,h3,H⟩:=bB H
 refine wG [.c 10 (U5 h3),.g 14 [((!b3),false)] (.call _ _ _ _ _ (AEs.refl _) (fun _=>OH j2))] fun _=>?_
 refine O0 H (fun H=>?_) fun H=>?_
 .refine wP ?_
  replace H:=sI H;subst H
  exact wN [(4,.d),(5,.d)] [(4,[.n 1,.n 4,.d,.d,.d,.d,.d,.d,.d,.d,.d])] [] [] [none,none,none,none] [⟨_,nw_I ([]:List Int)⟩,⟨_,M2 ([]:List Node)⟩]
 .obtain⟨y4,h4,H⟩:=bB H
  obtain⟨y5,h5,H⟩:=bB H
  refine wG [.c 19 (ZK h4),.c 24 (Ot h5)] fun _=>?_
  refine O0 H (fun H=>?_) fun H=>?_
  .refine wP ?_
   replace H:=sI H;subst H
   exact wN [(4,.d),(5,.d)] [(4,[.n 1,.n 4,.d,.d,.d,.d,.d,.d,.d,.d,.d])] [] [] [none,none,none,none] [⟨_,nw_I ([]:List Int)⟩,⟨_,M2 ([]:List Node)⟩]
  .refine wG [.u 30 (.ln _ _ fun _=>lm y4 eJob)] fun q6=>?_
   refine O0 H (fun H=>?_) fun H=>?_
   .refine wP ?_
    replace H:=sI H;subst H
    exact wN [(4,.d),(5,.d)] [(4,[.n 1,.n 4,.d,.d,.d,.d,.d,.d,.d,.d,.d])] [] [] [none,none,none,none] [⟨_,nw_I ([]:List Int)⟩,⟨_,M2 ([]:List Node)⟩]
   .obtain⟨b7,h7,H⟩:=bB H
    refine wG [.c 35 (V0p h7)] fun _=>?_
    refine O0 H (fun H=>?_) fun H=>?_
    .refine wP ?_
     replace H:=sI H;subst H
     exact wN [(4,.d),(5,.d)] [(4,[.n 1,.n 4,.d,.d,.d,.d,.d,.d,.d,.d,.d])] [] [] [none,none,none,none] [⟨_,nw_I ([]:List Int)⟩,⟨_,M2 ([]:List Node)⟩]
    .obtain⟨y8,h8,H⟩:=bB H
     obtain⟨xs9,h9,H⟩:=bB H
     obtain⟨y10,h10,H⟩:=bB H
     refine wG [.c 39 (Vc h8),.u 44 (.ap _ _ _ _ fun _=>L0 eJob h9),.u 47 (.cw J2 [] [40000,40001,40002,40003] [] [(1,y8.up.map eBo),(11,xs9.map eJob),(13,y8.runs.map (Z1 .nw)),(3,y8.ends.map eEnd)] [.agg [nV 1 (y8.topo.parents.map eI),nV 4 (y8.topo.nodes.map V1),.sref 0,iV y8.lic.a,iV y8.lic.b,iV y8.lic.c,iV y8.depth,iV y8.now,.sref 1,.sref 2,.sref 3]] _ _ _ _ _ (GEs.of [true] (by simp)) (by simp) (by simp) (by simp) (fun _=>have k:=O4 h10;k))] fun _=>?_
     replace H:=sI H;subst H
     exact wN [(4,.d),(5,.d)] [(4,[])] [(48000,some 48000,0),(48001,some 48001,0),(48002,some 48002,0),(48003,some 48003,0)] [] [some 48000,some 48001,some 48002,some 48003] [⟨_,nw_I y10.topo.parents⟩,⟨_,M2 y10.topo.nodes⟩,⟨_,Js y10.up⟩,⟨_,WL y10.queue⟩,⟨_,UR y10.runs⟩,⟨_,J0a y10.ends⟩]
def V02:L :=
sR [.bx 4 0,.al 8 [.nl,.nl,.nl,.int .i64 0,.int .i64 0,.int .i64 0,.int .i64 0,.int .i64 0,.nl,.nl,.nl]]
 (sR [.bs 12 13 [] true,mV 9 12]
 (.seq (sR [fA 13 4 9,lF 14 13 1,.ln 15 14,.mv 16 (kI 0)]
 (.blk 0 (.loop (.gw (sR [bI 17 .lss 16 15]
 (.seq (.cond 17 .skip
 (.exit 0))
 (.seq (.blk 1 (sR [iA 18 14 16 13,lT 19 18 13,.al 11 [.int .i64 0,.int .i64 0,.int .i64 0,.int .i64 0,.int .i64 0,.int .i64 0,.int .i64 0,.int .i64 0,.int .i64 0,.int .i64 0,.int .i64 0,.int .i64 0,.nl],.st 11 19 13]
 (sR [fA 20 11 0,fA 21 20 0,lF 22 21 1,mV 23 2,bI 24 .eql 22 23,mV 25 24,gF 25 (fA 26 11 12),gF 25 (lF 27 26 1),gF 25 (mV 28 3),gF 25 (cQ 29 Jd [27,28]),.pk 30 25 (cB true) 29]
 (.cond 30 (.reg [fA 31 4 10,lF 32 31 1,fA 33 11 0,fA 34 33 0,lF 35 34 1,fA 36 4 7,lF 37 36 1,mV 38 1,.bd 39 [.int .i64 0,.int .i64 0,.int .i64 0] [(0,1,35),(1,1,37),(2,1,38)],.bs 40 3 [39] false,.ap 41 32 40 3 24,fA 42 4 10,.st 42 41 1])
 (.reg [mV 43 9,lT 44 11 13,.bs 45 13 [44] false,.ap 46 43 45 13 120,mV 9 46])))))
 (.reg [.bi 47 .add 16 (kI 1),mV 16 47]))))))))
 (sR [mV 48 9,fA 49 4 9,.st 49 48 1]
 (sR [lT 50 4 11,.st 8 50 11]
 gR))))
def Y02:List Rv:=[.c 8 11 true]
theorem U02:Yx Tryz.prog Mi 4 V02 Y02=true:=by kernel_rfl
def Zh(s1:State)(why2 id3 node4:Int)(x6:Run)(_:Nat)(v6:(List End)×(List Run))(k6:((List End)×(List Run))->Option State):Option State :=
 (bif (x6.job.id==id3)then some default else(Z9 x6.nodes node4)).bind fun b7=>bif ((x6.job.id==id3)||b7)then((appL 24 v6.1 [(End.mk x6.job.id s1.now why2)]).bind fun xs8=>k6 (xs8,v6.2))else((appL 120 v6.2 [x6]).bind fun xs9=>k6 (v6.1,xs9))
def Ut(s1:State)(v6:(List End)×(List Run)):Option State :=
 some (State.mk s1.topo s1.up s1.lic s1.depth s1.now s1.queue v6.2 v6.1)
def V7(s1:State)(why2 id3 node4:Int):Option State :=
 rgl (Zh s1 why2 id3 node4) (Ut s1) s1.runs 0 (s1.ends,[])
set_option maxRecDepth 20000 in
theorem Xx{s1:State}{why2 id3 node4:Int}{r:State}(H:V7 s1 why2 id3 node4=some r):ConD Tryz.prog Mi [.agg [nV 1 (s1.topo.parents.map eI),nV 4 (s1.topo.nodes.map V1),.sref 0,iV s1.lic.a,iV s1.lic.b,iV s1.lic.c,iV s1.depth,iV s1.now,.sref 1,.sref 2,.sref 3],iV why2,iV id3,iV node4] [] [(1,s1.up.map eBo),(11,s1.queue.map eJob),(13,s1.runs.map (Z1 .nw)),(3,s1.ends.map eEnd)] (.agg [nV 1 (r.topo.parents.map eI),nV 4 (r.topo.nodes.map V1),.sref 4,iV r.lic.a,iV r.lic.b,iV r.lic.c,iV r.depth,iV r.now,.sref 5,.sref 6,.sref 7]) [] [none,none,none,none] [(1,r.up.map eBo),(11,r.queue.map eJob),(13,r.runs.map (Z1 .nw)),(3,r.ends.map eEnd)]:=by
 refine Q06 [false,false,false,false] U02 rfl (by kernel_rfl) ?_
 unfold V7 at H
 refine wG [.u 15 (.ln _ _ fun _=>lm s1.runs (Z1 .nw))] fun q5=>?_
 refine wR (fun(i6:Nat) (v6:(List End)×(List Run))=>⟨[(1,iV why2),(2,iV id3),(3,iV node4),(4,.ptr 4 0),(8,.ptr 8 0),(9,.sref 12),(14,.sref 500000002),(15,iV (s1.runs.length:Int)),(16,iV (i6:Int))],[],[(4,[nV 1 (s1.topo.parents.map eI),nV 4 (s1.topo.nodes.map V1),.sref 500000000,iV s1.lic.a,iV s1.lic.b,iV s1.lic.c,iV s1.depth,iV s1.now,.sref 500000001,.sref 500000002,.sref 500000003]),(8,[.nl,.nl,.nl,iV 0,iV 0,iV 0,iV 0,iV 0,.nl,.nl,.nl])],[(500000000,⟨1,s1.up.map eBo,false⟩),(500000001,⟨11,s1.queue.map eJob,false⟩),(500000002,⟨13,s1.runs.map (Z1 .nw),false⟩),(500000003,⟨3,v6.1.map eEnd,false⟩),(12,⟨13,v6.2.map (Z1 .nw),false⟩)]⟩) H (fun i6 x6 v6 I m k6 hxv6 hiv6 H N19=>?_) (fun v6 I m H=>?_)
 .unfold Zh at H
  refine wP ?_
  refine wt (ltT hiv6) ?_
  obtain⟨b7,h7,H⟩:=bB H
  refine wG [.u 18 (.ix _ _ _ fun _=>Q0 (Z1 .nw) (J0 hxv6)),.u 19 (.el _ _ _ fun _=>gm (Z1 .nw) (Y5 (J0 hxv6))),.g 29 [(_,false)] (.call _ _ _ _ _ (AEs.refl _) (fun q=>Ye (bF q.1 h7)))] fun _=>?_
  refine O0 H (fun H=>?_) fun H=>?_
  .obtain⟨xs8,h8,H⟩:=bB H
   refine wG [.u 41 (.ap _ _ _ _ fun _=>L0 eEnd h8),.w 47 (wi .i64 rfl hiv6 q5.1)] fun _=>?_
   exact wT (N19 _ H)
  .obtain⟨xs9,h9,H⟩:=bB H
   refine wG [.u 46 (.ap _ _ _ _ fun _=>L0 (Z1 .nw) h9),.w 47 (wi .i64 rfl hiv6 q5.1)] fun _=>?_
   exact wT (N19 _ H)
 .unfold Ut at H
  refine wP ?_
  refine wf (ltF s1.runs.length) ?_
  refine wP ?_
  replace H:=sI H;subst H
  exact J1 [(8,.d)] [(8,[])] [(500000000,some 500000000,0),(500000001,some 500000001,0),(12,some 12,0),(500000003,some 500000003,0)] [] [500000000,500000001,12,500000003] (by kernel_rfl)
def Q0H:L :=
sR [.bx 3 0,.al 6 [.nl,.nl,.nl,.int .i64 0,.int .i64 0,.int .i64 0,.int .i64 0,.int .i64 0,.nl,.nl,.nl],.mv 7 (kI 0)]
 (.seq (sR [lT 12 3 11,cQ 13 M5 [12],.un 14 13,mV 15 14,gF 15 (mV 16 2),gF 15 (.bi 17 .neq 16 (kI 2)),gF 15 (mV 18 17),gT 18 (mV 19 2),gT 18 (.bi 20 .neq 19 (kI 3)),gF 15 (.pk 21 18 20 (cB false)),.pk 22 15 (cB true) 21]
 (.cond 22 (sR [.bd 23 [.nl,.nl,.nl,.int .i64 0,.int .i64 0,.int .i64 0,.int .i64 0,.int .i64 0,.nl,.nl,.nl] [],.st 6 23 11,.mv 7 (kI 1)]
 gR)
 .skip))
 (sR [fA 25 3 8,lF 26 25 1,mV 27 1,cQ 28 Vp [26,27],mV 24 28,eX 29 24 0,eX 30 24 1,.al 8 [.int .i64 0,.int .i64 0,.int .i64 0,.int .i64 0,.int .i64 0,.int .i64 0,.int .i64 0,.int .i64 0,.int .i64 0,.int .i64 0,.int .i64 0],.st 8 29 11,mV 9 30]
 (sR [lT 32 3 11,cQ 33 YC [32],mV 34 1,cQ 35 Vp [33,34],mV 31 35,eX 36 31 0,eX 37 31 1,.al 10 [.int .i64 0,.int .i64 0,.int .i64 0,.int .i64 0,.int .i64 0,.int .i64 0,.int .i64 0,.int .i64 0,.int .i64 0,.int .i64 0,.int .i64 0],.st 10 36 11,mV 11 37]
 (.seq (sR [mV 38 11,.un 39 38,mV 40 39,gF 40 (mV 41 9),gF 40 (mV 42 41),gT 42 (mV 43 2),gT 42 (.bi 44 .eql 43 (kI 2)),gF 40 (.pk 45 42 44 (cB false)),.pk 46 40 (cB true) 45]
 (.cond 46 (sR [.bd 47 [.nl,.nl,.nl,.int .i64 0,.int .i64 0,.int .i64 0,.int .i64 0,.int .i64 0,.nl,.nl,.nl] [],.st 6 47 11,.mv 7 (kI 5)]
 gR)
 .skip))
 (.seq (sR [fA 48 3 10,lF 49 48 1,.ln 50 49,.bi 51 .geq 50 (kI 300)]
 (.cond 51 (sR [.bd 52 [.nl,.nl,.nl,.int .i64 0,.int .i64 0,.int .i64 0,.int .i64 0,.int .i64 0,.nl,.nl,.nl] [],.st 6 52 11,.mv 7 (kI 6)]
 gR)
 .skip))
 (sR [lT 53 3 11,.cl 54 Ua [53],.st 3 54 11]
 (.seq (sR [mV 55 9]
 (.cond 55 (sR [fA 56 3 8,lF 57 56 1,mV 58 1,.cl 59 MX [57,58],fA 60 3 8,.st 60 59 1]
 (.reg [fA 61 3 10,lF 62 61 1,mV 63 1,fA 64 3 7,lF 65 64 1,mV 66 2,.bd 67 [.int .i64 0,.int .i64 0,.int .i64 0] [(0,1,63),(1,1,65),(2,1,66)],.bs 68 3 [67] false,.ap 69 62 68 3 24,fA 70 3 10,.st 70 69 1]))
 .skip))
 (.gw (sR [lT 71 3 11,mV 72 2,mV 73 1,.cm 74 Mi [71,72,73,(kI (-1))],.st 3 74 11]
 (sR [lT 75 3 11,.cm 76 J2 [75],.st 6 76 11,.mv 7 (kI 0)]
 gR))))))))))
def Qf(id2 why3:Int)(y9:State)(v12:(List Job)×(List End)):Option (State×Int) :=
 (V7 (State.mk y9.topo y9.up y9.lic y9.depth y9.now v12.1 y9.runs v12.2) why3 id2 (-1)).bind fun y13=>(X2 y13).bind fun y14=>some (y14,0)
def Uk(s1:State)(id2 why3:Int):Option (State×Int) :=
 (X5 s1).bind fun b4=>bif ((!b4)||((why3 != 2)&&(why3 != 3)))then(some ((State.mk (Topo.mk [] []) [] (Vec.mk 0 0 0) 0 0 [] [] []),1))else((Xd s1.queue id2).bind fun y5=>(Og s1).bind fun y6=>(Xd y6 id2).bind fun y7=>bif ((!y7.2)||(y5.2&&(why3==2)))then(some ((State.mk (Topo.mk [] []) [] (Vec.mk 0 0 0) 0 0 [] [] []),5))else(bif (decide (300<=(s1.ends.length:Int)))then(some ((State.mk (Topo.mk [] []) [] (Vec.mk 0 0 0) 0 0 [] [] []),6))else((J7 s1).bind fun y9=>bif y5.2 then((Vj y9.queue id2).bind fun y10=>(appL 24 y9.ends [(End.mk id2 y9.now why3)]).bind fun xs11=>(Qf id2 why3 y9) (y10,xs11))else((Qf id2 why3 y9) (y9.queue,y9.ends)))))
theorem UB{s1:State}{id2 why3:Int}{r:State×Int}(H:Uk s1 id2 why3=some r):Snd Tryz.prog Zx [L2 .rd s1,iV id2,iV why3] (.tup [.agg [nV 1 (r.1.topo.parents.map eI),nV 4 (r.1.topo.nodes.map V1),.sref 0,iV r.1.lic.a,iV r.1.lic.b,iV r.1.lic.c,iV r.1.depth,iV r.1.now,.sref 1,.sref 2,.sref 3],iV r.2]) [⟨1,r.1.up.map eBo,false⟩,⟨11,r.1.queue.map eJob,false⟩,⟨13,r.1.runs.map (Z1 .nw),false⟩,⟨3,r.1.ends.map eEnd,false⟩]:=by
 refine wS Q0H [.c 6 11 true,.t 7] ?_
 unfold Uk at H
 obtain⟨b4,h4,H⟩:=bB H
 refine wG [.c 13 (U5 h4)] fun _=>?_
 refine O0 H (fun H=>?_) fun H=>?_
 .refine wP ?_
  replace H:=sI H;subst H
  exact wN [(6,.d),(7,.d)] [(6,[.n 1,.n 4,.d,.d,.d,.d,.d,.d,.d,.d,.d])] [] [] [none,none,none,none] [⟨_,nw_I ([]:List Int)⟩,⟨_,M2 ([]:List Node)⟩]
 .obtain⟨y5,h5,H⟩:=bB H
  obtain⟨y6,h6,H⟩:=bB H
  obtain⟨y7,h7,H⟩:=bB H
  refine wG [.c 28 (Ot h5),.c 33 (ZK h6),.c 35 (Ot h7)] fun _=>?_
  refine O0 H (fun H=>?_) fun H=>?_
  .refine wP ?_
   replace H:=sI H;subst H
   exact wN [(6,.d),(7,.d)] [(6,[.n 1,.n 4,.d,.d,.d,.d,.d,.d,.d,.d,.d])] [] [] [none,none,none,none] [⟨_,nw_I ([]:List Int)⟩,⟨_,M2 ([]:List Node)⟩]
  .refine wG [.u 50 (.ln _ _ fun _=>lm s1.ends eEnd)] fun q8=>?_
   refine O0 H (fun H=>?_) fun H=>?_
   .refine wP ?_
    replace H:=sI H;subst H
    exact wN [(6,.d),(7,.d)] [(6,[.n 1,.n 4,.d,.d,.d,.d,.d,.d,.d,.d,.d])] [] [] [none,none,none,none] [⟨_,nw_I ([]:List Int)⟩,⟨_,M2 ([]:List Node)⟩]
   .obtain⟨y9,h9,H⟩:=bB H
    refine wG [.c 54 (Vc h9)] fun _=>?_
    refine Z6 (r:=r) (Qf id2 why3 y9) 0 (fun v12:(List Job)×(List End)=>⟨[(1,.int .i64 id2),(2,.int .i64 why3),(3,.ptr 3 0),(6,.ptr 6 0)],[],[(3,[.sl .nw 1 (y9.topo.parents.map eI),.sl .nw 4 (y9.topo.nodes.map V1),.sref 55000,.int .i64 y9.lic.a,.int .i64 y9.lic.b,.int .i64 y9.lic.c,.int .i64 y9.depth,.int .i64 y9.now,.sref 60000,.sref 55002,.sref 55003]),(6,[.nl,.nl,.nl,.int .i64 0,.int .i64 0,.int .i64 0,.int .i64 0,.int .i64 0,.nl,.nl,.nl])],[(55000,⟨1,y9.up.map eBo,false⟩),(60000,⟨11,v12.1.map eJob,false⟩),(55002,⟨13,y9.runs.map (Z1 .nw),false⟩),(55003,⟨3,v12.2.map eEnd,false⟩)]⟩) (by kernel_rfl) (fun v12 H=>?_) (fun J36=>?_)
    .unfold Qf at H
     obtain⟨y13,h13,H⟩:=bB H
     obtain⟨y14,h14,H⟩:=bB H
     refine wG [.u 74 (.cw Mi [] [55000,60000,55002,55003] [] [(1,y9.up.map eBo),(11,v12.1.map eJob),(13,y9.runs.map (Z1 .nw)),(3,v12.2.map eEnd)] [.agg [nV 1 (y9.topo.parents.map eI),nV 4 (y9.topo.nodes.map V1),.sref 0,iV y9.lic.a,iV y9.lic.b,iV y9.lic.c,iV y9.depth,iV y9.now,.sref 1,.sref 2,.sref 3],iV why3,iV id2,iV (-1)] _ _ _ _ _ (GEs.of [true,false,false,false] (by simp)) (by simp) (by simp) (by simp) (fun _=>have k:=Xx h13;k)),.u 76 (.cw J2 [] [75000,75001,75002,75003] [] [(1,y13.up.map eBo),(11,y13.queue.map eJob),(13,y13.runs.map (Z1 .nw)),(3,y13.ends.map eEnd)] [.agg [nV 1 (y13.topo.parents.map eI),nV 4 (y13.topo.nodes.map V1),.sref 0,iV y13.lic.a,iV y13.lic.b,iV y13.lic.c,iV y13.depth,iV y13.now,.sref 1,.sref 2,.sref 3]] _ _ _ _ _ (GEs.of [true] (by simp)) (by simp) (by simp) (by simp) (fun _=>O4 h14))] fun _=>?_
     replace H:=sI H;subst H
     exact wN [(6,.d),(7,.d)] [(6,[])] [(77000,some 77000,0),(77001,some 77001,0),(77002,some 77002,0),(77003,some 77003,0)] [] [some 77000,some 77001,some 77002,some 77003] [⟨_,nw_I y14.topo.parents⟩,⟨_,M2 y14.topo.nodes⟩,⟨_,Js y14.up⟩,⟨_,WL y14.queue⟩,⟨_,UR y14.runs⟩,⟨_,J0a y14.ends⟩]
    .refine O0 H (fun H=>?_) fun H=>?_
     .obtain⟨y10,h10,H⟩:=bB H
      obtain⟨xs11,h11,H⟩:=bB H
      refine wG [.c 59 (X0a h10),.u 69 (.ap _ _ _ _ fun _=>L0 eEnd h11)] fun _=>?_
      exact wT (J36 _ H)
     .refine wP ?_
      exact Z0e (J36 _ H) [] [] [(60000,(some 55001,0))] [] (by kernel_rfl) (by kernel_rfl)
def W0z:L :=
sR [.bx 2 0,.mv 4 (cB false)]
 (sR [mV 5 1,.bi 6 .geq 5 (kI 0),mV 7 6,gT 7 (mV 8 1),gT 7 (fA 9 2 0),gT 7 (fA 10 9 1),gT 7 (lF 11 10 1),gT 7 (.ln 12 11),gT 7 (bI 13 .lss 8 12),.pk 14 7 13 (cB false),mV 4 14]
 gR)
def QA(s1:State)(n2:Int):Option Bool :=
 some ((decide (0<=n2))&&(decide (n2<(s1.topo.nodes.length:Int))))
theorem Y0j{s1:State}{n2:Int}{r:Bool}(H:QA s1 n2=some r):Snd Tryz.prog ZC [L2 .rd s1,iV n2] (.bool r) []:=by
 refine wS W0z [.t 4] ?_
 unfold QA at H
 refine wG [.g 12 [((decide (0<=n2)),true)] (.ln _ _ fun _=>lm s1.topo.nodes V1)] fun _=>?_
 replace H:=sI H;subst H
 exact wE [(4,.d)]
def L7(s1:State)(n2:Int):Bool :=
 ((decide (0<=n2))&&(decide (n2<(s1.topo.nodes.length:Int))))
theorem W0E(s1:State)(n2:Int):QA s1 n2=some (L7 s1 n2):=by
 unfold QA L7
 first|rfl|simp only[J5]
theorem W02(s1:State)(n2:Int):Snd Tryz.prog ZC [L2 .rd s1,iV n2] (.bool (L7 s1 n2)) []:=Y0j (W0E s1 n2)
def Q0Y:L :=
sR [.bx 2 0,.al 4 [.nl,.nl,.nl,.int .i64 0,.int .i64 0,.int .i64 0,.int .i64 0,.int .i64 0,.nl,.nl,.nl],.mv 5 (kI 0)]
 (.seq (sR [lT 8 2 11,cQ 9 M5 [8],.un 10 9]
 (.cond 10 (sR [.bd 11 [.nl,.nl,.nl,.int .i64 0,.int .i64 0,.int .i64 0,.int .i64 0,.int .i64 0,.nl,.nl,.nl] [],.st 4 11 11,.mv 5 (kI 1)]
 gR)
 .skip))
 (.seq (sR [lT 12 2 11,mV 13 1,cQ 14 ZC [12,13],.un 15 14,mV 16 15,gF 16 (fA 17 2 2),gF 16 (lF 18 17 1),gF 16 (mV 19 1),gF 16 (iA 20 18 19 1),gF 16 (lF 21 20 1),gF 16 (.un 22 21),.pk 23 16 (cB true) 22]
 (.cond 23 (sR [.bd 24 [.nl,.nl,.nl,.int .i64 0,.int .i64 0,.int .i64 0,.int .i64 0,.int .i64 0,.nl,.nl,.nl] [],.st 4 24 11,.mv 5 (kI 7)]
 gR)
 .skip))
 (sR [lT 25 2 11,.cl 26 Ua [25],.st 2 26 11]
 (.seq (sR [fA 27 2 9,lF 28 27 1,.ln 29 28,.mv 30 (kI 0)]
 (.blk 0 (.loop (.gw (sR [bI 31 .lss 30 29]
 (.seq (.cond 31 .skip
 (.exit 0))
 (.seq (.blk 1 (sR [iA 32 28 30 13,lT 33 32 13,.al 7 [.int .i64 0,.int .i64 0,.int .i64 0,.int .i64 0,.int .i64 0,.int .i64 0,.int .i64 0,.int .i64 0,.int .i64 0,.int .i64 0,.int .i64 0,.int .i64 0,.nl],.st 7 33 13]
 (sR [fA 34 7 12,lF 35 34 1,mV 36 1,cQ 37 Jd [35,36]]
 (.cond 37 (.reg [fA 38 2 8,lF 39 38 1,fA 40 7 0,lT 41 40 11,.bs 42 11 [41] false,.ap 43 39 42 11 88,fA 44 2 8,.st 44 43 1])
 .skip))))
 (.reg [.bi 45 .add 30 (kI 1),mV 30 45]))))))))
 (sR [lT 46 2 11,mV 47 1,.cm 48 Mi [46,(kI 4),(kI 0),47],.st 2 48 11]
 (.seq (sR [fA 49 2 10,lF 50 49 1,.ln 51 50,.bi 52 .gtr 51 (kI 300)]
 (.cond 52 (sR [.bd 53 [.nl,.nl,.nl,.int .i64 0,.int .i64 0,.int .i64 0,.int .i64 0,.int .i64 0,.nl,.nl,.nl] [],.st 4 53 11,.mv 5 (kI 6)]
 gR)
 .skip))
 (sR [fA 54 2 2,lF 55 54 1,mV 56 1,iA 57 55 56 1,.st 57 (cB false) 1]
 (sR [lT 58 2 11,.cm 59 J2 [58],.st 4 59 11,.mv 5 (kI 0)]
 gR))))))))
def QV(n2:Int)(x7:Run)(_:Nat)(v7:(List Job))(k7:(List Job)->Option (State×Int)):Option (State×Int) :=
 (Z9 x7.nodes n2).bind fun b8=>bif b8 then((appL 88 v7 [x7.job]).bind fun xs9=>k7 xs9)else(k7 v7)
def UV(n2:Int)(y5:State)(v7:(List Job)):Option (State×Int) :=
 (V7 (State.mk y5.topo y5.up y5.lic y5.depth y5.now v7 y5.runs y5.ends) 4 0 n2).bind fun y10=>bif (decide (300<(y10.ends.length:Int)))then(some ((State.mk (Topo.mk [] []) [] (Vec.mk 0 0 0) 0 0 [] [] []),6))else((idx y10.up n2).bind fun _=>(X2 (State.mk y10.topo (y10.up.set n2.toNat false) y10.lic y10.depth y10.now y10.queue y10.runs y10.ends)).bind fun y13=>some (y13,0))
def LT(s1:State)(n2:Int):Option (State×Int) :=
 (X5 s1).bind fun b3=>bif (!b3)then(some ((State.mk (Topo.mk [] []) [] (Vec.mk 0 0 0) 0 0 [] [] []),1))else((bif (!(L7 s1 n2))then some default else(idx s1.up n2)).bind fun e4=>bif ((!(L7 s1 n2))||(!e4))then(some ((State.mk (Topo.mk [] []) [] (Vec.mk 0 0 0) 0 0 [] [] []),7))else((J7 s1).bind fun y5=>rgl (QV n2) (UV n2 y5) y5.runs 0 y5.queue))
theorem Z0o{s1:State}{n2:Int}{r:State×Int}(H:LT s1 n2=some r):Snd Tryz.prog X0e [L2 .rd s1,iV n2] (.tup [.agg [nV 1 (r.1.topo.parents.map eI),nV 4 (r.1.topo.nodes.map V1),.sref 0,iV r.1.lic.a,iV r.1.lic.b,iV r.1.lic.c,iV r.1.depth,iV r.1.now,.sref 1,.sref 2,.sref 3],iV r.2]) [⟨1,r.1.up.map eBo,false⟩,⟨11,r.1.queue.map eJob,false⟩,⟨13,r.1.runs.map (Z1 .nw),false⟩,⟨3,r.1.ends.map eEnd,false⟩]:=by
 refine wS Q0Y [.c 4 11 true,.t 5] ?_
 unfold LT at H
 obtain⟨b3,h3,H⟩:=bB H
 refine wG [.c 9 (U5 h3)] fun _=>?_
 refine O0 H (fun H=>?_) fun H=>?_
 .refine wP ?_
  replace H:=sI H;subst H
  exact wN [(4,.d),(5,.d)] [(4,[.n 1,.n 4,.d,.d,.d,.d,.d,.d,.d,.d,.d])] [] [] [none,none,none,none] [⟨_,nw_I ([]:List Int)⟩,⟨_,M2 ([]:List Node)⟩]
 .obtain⟨e4,h4,H⟩:=bB H
  refine wG [.c 14 (W02 s1 n2),.g 20 [(_,false)] (.ix _ _ _ fun q=>Q0 eBo (bF q.1 h4))] fun _=>?_
  refine O0 H (fun H=>?_) fun H=>?_
  .refine wP ?_
   replace H:=sI H;subst H
   exact wN [(4,.d),(5,.d)] [(4,[.n 1,.n 4,.d,.d,.d,.d,.d,.d,.d,.d,.d])] [] [] [none,none,none,none] [⟨_,nw_I ([]:List Int)⟩,⟨_,M2 ([]:List Node)⟩]
  .obtain⟨y5,h5,H⟩:=bB H
   refine wG [.c 26 (Vc h5),.u 29 (.ln _ _ fun _=>lm y5.runs (Z1 .nw))] fun q6=>?_
   refine wR (fun(i7:Nat) (v7:(List Job))=>⟨[(1,iV n2),(2,.ptr 2 0),(4,.ptr 4 0),(28,.sref 27002),(29,iV (y5.runs.length:Int)),(30,iV (i7:Int))],[],[(2,[nV 1 (y5.topo.parents.map eI),nV 4 (y5.topo.nodes.map V1),.sref 27000,iV y5.lic.a,iV y5.lic.b,iV y5.lic.c,iV y5.depth,iV y5.now,.sref 27001,.sref 27002,.sref 27003]),(4,[.nl,.nl,.nl,iV 0,iV 0,iV 0,iV 0,iV 0,.nl,.nl,.nl])],[(27000,⟨1,y5.up.map eBo,false⟩),(27001,⟨11,v7.map eJob,false⟩),(27002,⟨13,y5.runs.map (Z1 .nw),false⟩),(27003,⟨3,y5.ends.map eEnd,false⟩)]⟩) H (fun i7 x7 v7 I m k7 hxv7 hiv7 H N33=>?_) (fun v7 I m H=>?_)
   .unfold QV at H
    refine wP ?_
    refine wt (ltT hiv7) ?_
    obtain⟨b8,h8,H⟩:=bB H
    refine wG [.u 32 (.ix _ _ _ fun _=>Q0 (Z1 .nw) (J0 hxv7)),.u 33 (.el _ _ _ fun _=>gm (Z1 .nw) (Y5 (J0 hxv7))),.c 37 (Ye h8)] fun _=>?_
    refine O0 H (fun H=>?_) fun H=>?_
    .obtain⟨xs9,h9,H⟩:=bB H
     refine wG [.u 43 (.ap _ _ _ _ fun _=>L0 eJob h9),.w 45 (wi .i64 rfl hiv7 q6.1)] fun _=>?_
     exact wT (N33 _ H)
    .refine wG [.w 45 (wi .i64 rfl hiv7 q6.1)] fun _=>?_
     exact wT (N33 _ H)
   .unfold UV at H
    refine wP ?_
    refine wf (ltF y5.runs.length) ?_
    obtain⟨y10,h10,H⟩:=bB H
    refine wG [.u 48 (.cw Mi [] [27000,27001,27002,27003] [] [(1,y5.up.map eBo),(11,v7.map eJob),(13,y5.runs.map (Z1 .nw)),(3,y5.ends.map eEnd)] [.agg [nV 1 (y5.topo.parents.map eI),nV 4 (y5.topo.nodes.map V1),.sref 0,iV y5.lic.a,iV y5.lic.b,iV y5.lic.c,iV y5.depth,iV y5.now,.sref 1,.sref 2,.sref 3],iV 4,iV 0,iV n2] _ _ _ _ _ (GEs.of [true,false,false,false] (by simp)) (by simp) (by simp) (by simp) (fun _=>have k:=Xx h10;k)),.u 51 (.ln _ _ fun _=>lm y10.ends eEnd)] fun q11=>?_
    refine O0 H (fun H=>?_) fun H=>?_
    .refine wP ?_
     replace H:=sI H;subst H
     exact wN [(4,.d),(5,.d)] [(4,[.n 1,.n 4,.d,.d,.d,.d,.d,.d,.d,.d,.d])] [] [] [none,none,none,none] [⟨_,nw_I ([]:List Int)⟩,⟨_,M2 ([]:List Node)⟩]
    .obtain⟨e12,h12,H⟩:=bB H
     obtain⟨y13,h13,H⟩:=bB H
     refine wG [.u 57 (.ix _ _ _ fun _=>Q0 eBo h12),.u 1000000 (.sto _ _ _ (eBo false) _ (fun _=>gm eBo (Y5 h12)) (fun _=>Xz ..)),.u 59 (.cw J2 [] [49000,49001,49002,49003] [] [(1,(y10.up.set n2.toNat false).map eBo),(11,y10.queue.map eJob),(13,y10.runs.map (Z1 .nw)),(3,y10.ends.map eEnd)] [.agg [nV 1 (y10.topo.parents.map eI),nV 4 (y10.topo.nodes.map V1),.sref 0,iV y10.lic.a,iV y10.lic.b,iV y10.lic.c,iV y10.depth,iV y10.now,.sref 1,.sref 2,.sref 3]] _ _ _ _ _ (GEs.of [true] (by simp)) (by simp) (by simp[-List.map_set]) (by simp) (fun _=>have k:=O4 h13;k))] fun _=>?_
     replace H:=sI H;subst H
     exact wN [(4,.d),(5,.d)] [(4,[])] [(60000,some 60000,0),(60001,some 60001,0),(60002,some 60002,0),(60003,some 60003,0)] [] [some 60000,some 60001,some 60002,some 60003] [⟨_,nw_I y13.topo.parents⟩,⟨_,M2 y13.topo.nodes⟩,⟨_,Js y13.up⟩,⟨_,WL y13.queue⟩,⟨_,UR y13.runs⟩,⟨_,J0a y13.ends⟩]
def Y0H:L :=
sR [.bx 2 0,.al 4 [.nl,.nl,.nl,.int .i64 0,.int .i64 0,.int .i64 0,.int .i64 0,.int .i64 0,.nl,.nl,.nl],.mv 5 (kI 0)]
 (.seq (sR [lT 6 2 11,cQ 7 M5 [6],.un 8 7]
 (.cond 8 (sR [.bd 9 [.nl,.nl,.nl,.int .i64 0,.int .i64 0,.int .i64 0,.int .i64 0,.int .i64 0,.nl,.nl,.nl] [],.st 4 9 11,.mv 5 (kI 1)]
 gR)
 .skip))
 (.seq (sR [lT 10 2 11,mV 11 1,cQ 12 ZC [10,11],.un 13 12,mV 14 13,gF 14 (fA 15 2 2),gF 14 (lF 16 15 1),gF 14 (mV 17 1),gF 14 (iA 18 16 17 1),gF 14 (lF 19 18 1),.pk 20 14 (cB true) 19]
 (.cond 20 (sR [.bd 21 [.nl,.nl,.nl,.int .i64 0,.int .i64 0,.int .i64 0,.int .i64 0,.int .i64 0,.nl,.nl,.nl] [],.st 4 21 11,.mv 5 (kI 8)]
 gR)
 .skip))
 (sR [lT 22 2 11,.cl 23 Ua [22],.st 2 23 11]
 (sR [fA 24 2 2,lF 25 24 1,mV 26 1,iA 27 25 26 1,.st 27 (cB true) 1]
 (sR [lT 28 2 11,.cm 29 J2 [28],.st 4 29 11,.mv 5 (kI 0)]
 gR)))))
def My(s1:State)(n2:Int):Option (State×Int) :=
 (X5 s1).bind fun b3=>bif (!b3)then(some ((State.mk (Topo.mk [] []) [] (Vec.mk 0 0 0) 0 0 [] [] []),1))else((bif (!(L7 s1 n2))then some default else(idx s1.up n2)).bind fun e4=>bif ((!(L7 s1 n2))||e4)then(some ((State.mk (Topo.mk [] []) [] (Vec.mk 0 0 0) 0 0 [] [] []),8))else((J7 s1).bind fun y5=>(idx y5.up n2).bind fun _=>(X2 (State.mk y5.topo (y5.up.set n2.toNat true) y5.lic y5.depth y5.now y5.queue y5.runs y5.ends)).bind fun y7=>some (y7,0)))
theorem W0a{s1:State}{n2:Int}{r:State×Int}(H:My s1 n2=some r):Snd Tryz.prog XY [L2 .rd s1,iV n2] (.tup [.agg [nV 1 (r.1.topo.parents.map eI),nV 4 (r.1.topo.nodes.map V1),.sref 0,iV r.1.lic.a,iV r.1.lic.b,iV r.1.lic.c,iV r.1.depth,iV r.1.now,.sref 1,.sref 2,.sref 3],iV r.2]) [⟨1,r.1.up.map eBo,false⟩,⟨11,r.1.queue.map eJob,false⟩,⟨13,r.1.runs.map (Z1 .nw),false⟩,⟨3,r.1.ends.map eEnd,false⟩]:=by
 refine wS Y0H [.c 4 11 true,.t 5] ?_
 unfold My at H
 obtain⟨b3,h3,H⟩:=bB H
 refine wG [.c 7 (U5 h3)] fun _=>?_
 refine O0 H (fun H=>?_) fun H=>?_
 .refine wP ?_
  replace H:=sI H;subst H
  exact wN [(4,.d),(5,.d)] [(4,[.n 1,.n 4,.d,.d,.d,.d,.d,.d,.d,.d,.d])] [] [] [none,none,none,none] [⟨_,nw_I ([]:List Int)⟩,⟨_,M2 ([]:List Node)⟩]
 .obtain⟨e4,h4,H⟩:=bB H
  refine wG [.c 12 (W02 s1 n2),.g 18 [(_,false)] (.ix _ _ _ fun q=>Q0 eBo (bF q.1 h4))] fun _=>?_
  refine O0 H (fun H=>?_) fun H=>?_
  .refine wP ?_
   replace H:=sI H;subst H
   exact wN [(4,.d),(5,.d)] [(4,[.n 1,.n 4,.d,.d,.d,.d,.d,.d,.d,.d,.d])] [] [] [none,none,none,none] [⟨_,nw_I ([]:List Int)⟩,⟨_,M2 ([]:List Node)⟩]
  .obtain⟨y5,h5,H⟩:=bB H
   obtain⟨e6,h6,H⟩:=bB H
   obtain⟨y7,h7,H⟩:=bB H
   refine wG [.c 23 (Vc h5),.u 27 (.ix _ _ _ fun _=>Q0 eBo h6),.u 1000000 (.sto _ _ _ (eBo true) _ (fun _=>gm eBo (Y5 h6)) (fun _=>Xz ..)),.u 29 (.cw J2 [] [24000,24001,24002,24003] [] [(1,(y5.up.set n2.toNat true).map eBo),(11,y5.queue.map eJob),(13,y5.runs.map (Z1 .nw)),(3,y5.ends.map eEnd)] [.agg [nV 1 (y5.topo.parents.map eI),nV 4 (y5.topo.nodes.map V1),.sref 0,iV y5.lic.a,iV y5.lic.b,iV y5.lic.c,iV y5.depth,iV y5.now,.sref 1,.sref 2,.sref 3]] _ _ _ _ _ (GEs.of [true] (by simp)) (by simp) (by simp[-List.map_set]) (by simp) (fun _=>have k:=O4 h7;k))] fun _=>?_
   replace H:=sI H;subst H
   exact wN [(4,.d),(5,.d)] [(4,[])] [(30000,some 30000,0),(30001,some 30001,0),(30002,some 30002,0),(30003,some 30003,0)] [] [some 30000,some 30001,some 30002,some 30003] [⟨_,nw_I y7.topo.parents⟩,⟨_,M2 y7.topo.nodes⟩,⟨_,Js y7.up⟩,⟨_,WL y7.queue⟩,⟨_,UR y7.runs⟩,⟨_,J0a y7.ends⟩]
def X0H:L :=
sR [.bx 2 0,.bx 3 1,.al 4 [.nl,.nl,.nl,.int .i64 0,.int .i64 0,.int .i64 0,.int .i64 0,.int .i64 0,.nl,.nl,.nl],.mv 5 (kI 0)]
 (.seq (sR [lT 8 2 11,cQ 9 M5 [8],.un 10 9,mV 11 10,gF 11 (lT 12 3 3),gF 11 (cQ 13 U3 [12]),gF 11 (.un 14 13),.pk 15 11 (cB true) 14]
 (.cond 15 (sR [.bd 16 [.nl,.nl,.nl,.int .i64 0,.int .i64 0,.int .i64 0,.int .i64 0,.int .i64 0,.nl,.nl,.nl] [],.st 4 16 11,.mv 5 (kI 1)]
 gR)
 .skip))
 (sR [lT 17 2 11,.cl 18 Ua [17],.st 2 18 11]
 (sR [lT 19 3 3,fA 20 2 3,.st 20 19 3]
 (sR [lT 22 2 11,cQ 23 ZJ [22],mV 21 23,eX 24 21 0,eX 25 21 1,.al 6 [.nl,.nl,.nl,.nl,.nl],.st 6 24 5,mV 7 25]
 (.seq (sR [mV 26 7,.un 27 26]
 (.cond 27 (sR [.bd 28 [.nl,.nl,.nl,.int .i64 0,.int .i64 0,.int .i64 0,.int .i64 0,.int .i64 0,.nl,.nl,.nl] [],.st 4 28 11,.mv 5 (kI 9)]
 gR)
 .skip))
 (sR [lT 29 2 11,.cm 30 J2 [29],.st 4 30 11,.mv 5 (kI 0)]
 gR))))))
def Ly(s1:State)(lic2:Vec):Option (State×Int) :=
 (X5 s1).bind fun b3=>bif ((!b3)||(!(W0 lic2)))then(some ((State.mk (Topo.mk [] []) [] (Vec.mk 0 0 0) 0 0 [] [] []),1))else((J7 s1).bind fun y4=>(Uc (State.mk y4.topo y4.up lic2 y4.depth y4.now y4.queue y4.runs y4.ends)).bind fun y5=>bif (!y5.2)then(some ((State.mk (Topo.mk [] []) [] (Vec.mk 0 0 0) 0 0 [] [] []),9))else((X2 (State.mk y4.topo y4.up lic2 y4.depth y4.now y4.queue y4.runs y4.ends)).bind fun y6=>some (y6,0)))
theorem O0a{s1:State}{lic2:Vec}{r:State×Int}(H:Ly s1 lic2=some r):Snd Tryz.prog VY [L2 .rd s1,eVec lic2] (.tup [.agg [nV 1 (r.1.topo.parents.map eI),nV 4 (r.1.topo.nodes.map V1),.sref 0,iV r.1.lic.a,iV r.1.lic.b,iV r.1.lic.c,iV r.1.depth,iV r.1.now,.sref 1,.sref 2,.sref 3],iV r.2]) [⟨1,r.1.up.map eBo,false⟩,⟨11,r.1.queue.map eJob,false⟩,⟨13,r.1.runs.map (Z1 .nw),false⟩,⟨3,r.1.ends.map eEnd,false⟩]:=by
 refine wS X0H [.c 4 11 true,.t 5] ?_
 unfold Ly at H
 obtain⟨b3,h3,H⟩:=bB H
 refine wG [.c 9 (U5 h3),.g 13 [((!b3),false)] (.call _ _ _ _ _ (AEs.refl _) (fun _=>Q3 lic2))] fun _=>?_
 refine O0 H (fun H=>?_) fun H=>?_
 .refine wP ?_
  replace H:=sI H;subst H
  exact wN [(4,.d),(5,.d)] [(4,[.n 1,.n 4,.d,.d,.d,.d,.d,.d,.d,.d,.d])] [] [] [none,none,none,none] [⟨_,nw_I ([]:List Int)⟩,⟨_,M2 ([]:List Node)⟩]
 .obtain⟨y4,h4,H⟩:=bB H
  obtain⟨y5,h5,H⟩:=bB H
  refine wG [.c 18 (Vc h4),.u 23 (.call _ _ _ _ _ (AEs.of (xs:=[.agg [rV 1 (y4.topo.parents.map eI),rV 4 (y4.topo.nodes.map V1),rV 1 (y4.up.map eBo),iV lic2.a,iV lic2.b,iV lic2.c,iV y4.depth,iV y4.now,rV 11 (y4.queue.map eJob),rV 13 (y4.runs.map (Z1 .nw)),rV 3 (y4.ends.map eEnd)]]) (by simp)) (fun _=>XR h5))] fun _=>?_
  refine O0 H (fun H=>?_) fun H=>?_
  .refine wP ?_
   replace H:=sI H;subst H
   exact wN [(4,.d),(5,.d)] [(4,[.n 1,.n 4,.d,.d,.d,.d,.d,.d,.d,.d,.d])] [] [] [none,none,none,none] [⟨_,nw_I ([]:List Int)⟩,⟨_,M2 ([]:List Node)⟩]
  .obtain⟨y6,h6,H⟩:=bB H
   refine wG [.u 30 (.cw J2 [] [19000,19001,19002,19003] [] [(1,y4.up.map eBo),(11,y4.queue.map eJob),(13,y4.runs.map (Z1 .nw)),(3,y4.ends.map eEnd)] [.agg [nV 1 (y4.topo.parents.map eI),nV 4 (y4.topo.nodes.map V1),.sref 0,iV lic2.a,iV lic2.b,iV lic2.c,iV y4.depth,iV y4.now,.sref 1,.sref 2,.sref 3]] _ _ _ _ _ (GEs.of [true] (by simp)) (by simp) (by simp) (by simp) (fun _=>have k:=O4 h6;k))] fun _=>?_
   replace H:=sI H;subst H
   exact wN [(4,.d),(5,.d)] [(4,[])] [(31000,some 31000,0),(31001,some 31001,0),(31002,some 31002,0),(31003,some 31003,0)] [] [some 31000,some 31001,some 31002,some 31003] [⟨_,nw_I y6.topo.parents⟩,⟨_,M2 y6.topo.nodes⟩,⟨_,Js y6.up⟩,⟨_,WL y6.queue⟩,⟨_,UR y6.runs⟩,⟨_,J0a y6.ends⟩]
def O0R:L :=
sR [.bx 3 0,.bx 5 2,.al 6 [.nl,.nl,.nl,.nl,.nl]]
 (sR [lT 12 3 2,cQ 13 ON [12],mV 14 1,.ap 15 (.c (.nl)) 14 1 1,.bd 16 [.nl,.nl,.nl,.nl,.nl] [(0,2,13),(2,1,15)],.al 7 [.nl,.nl,.nl,.nl,.nl],.st 7 16 5]
 (.seq (sR [fA 17 3 1,lF 18 17 1,.ln 19 18,.mv 20 (kI 0)]
 (.blk 0 (.loop (.gw (sR [bI 21 .lss 20 19]
 (.seq (.cond 21 .skip
 (.exit 0))
 (.seq (.blk 1 (sR [iA 22 18 20 4,lT 23 22 4,.al 9 [.int .i64 0,.int .i64 0,.int .i64 0,.int .i64 0],.st 9 23 4]
 (sR [fA 25 9 1,lT 26 25 3,cQ 27 OC [26],mV 24 27,eX 28 24 0,eX 29 24 1,.al 10 [.nl],.st 10 28 1,mV 11 29]
 (.reg [fA 30 7 3,lF 31 30 1,lT 32 10 1,.bs 33 1 [32] false,.ap 34 31 33 1 24,fA 35 7 3,.st 35 34 1]))))
 (.reg [.bi 36 .add 20 (kI 1),mV 20 36]))))))))
 (sR [lT 38 5 3,cQ 39 OC [38],mV 37 39,eX 40 37 0,eX 41 37 1,fA 42 7 4,.st 42 40 1]
 (sR [lT 43 7 5,.st 6 43 5]
 gR))))
def OR(x7:Node)(_:Nat)(v7:(List (List Pt)))(k7:(List (List Pt))->Option Room):Option Room :=
 (appL 24 v7 [(Jg x7.cap).1]).bind fun xs8=>k7 xs8
def WR(lic3:Vec)(y4:Topo)(xs5:List Bool)(v7:(List (List Pt))):Option Room :=
 some (Room.mk y4 xs5 v7 ((Jg lic3).1))
def WU(t1:Topo)(up2:List Bool)(lic3:Vec):Option Room :=
 (Jm t1).bind fun y4=>(appL 1 ([]:List Bool) up2).bind fun xs5=>rgl OR (WR lic3 y4 xs5) t1.nodes 0 []
theorem L0S{t1:Topo}{up2:List Bool}{lic3:Vec}{r:Room}(H:WU t1 up2 lic3=some r):Snd Tryz.prog Z0p [W4 .rd t1,rV 1 (up2.map eBo),eVec lic3] (Xj .nw r) []:=by
 refine wS O0R [.c 6 5 true] ?_
 unfold WU at H
 obtain⟨y4,h4,H⟩:=bB H
 obtain⟨xs5,h5,H⟩:=bB H
 refine wG [.c 13 (O00 h4),.u 15 (.ap _ _ _ _ fun _=>L0 eBo h5),.u 19 (.ln _ _ fun _=>lm t1.nodes V1)] fun q6=>?_
 refine L0b (fun(i7:Nat) (v7:(List (List Pt)))=>⟨[(5,.ptr 5 0),(6,.ptr 6 0),(7,.ptr 7 0),(18,.sl .rd 4 (t1.nodes.map V1)),(19,.int .i64 (t1.nodes.length:Int)),(20,.int .i64 (i7:Int))],[],[(5,(eVec lic3).cells),(6,[.nl,.nl,.nl,.nl,.nl]),(7,[.sl .nw 1 (y4.parents.map eI),.sl .nw 4 (y4.nodes.map V1),.sref 15,.sref 190001,.nl])],[(15,⟨1,xs5.map eBo,false⟩),(190001,⟨1,v7.map (V2 .nw),false⟩)]⟩) [] [(7,[.d,.d,.d,.z 190001,.d])] [(190001,(none,1))] [] (by kernel_rfl) (by kernel_rfl) H (fun i7 x7 v7 I m k7 hxv7 hiv7 H N17=>?_) (fun v7 I m H=>?_)
 .unfold OR at H
  refine wP ?_
  refine wt (ltT hiv7) ?_
  obtain⟨xs8,h8,H⟩:=bB H
  refine wG [.u 22 (.ix _ _ _ fun _=>Q0 V1 (J0 hxv7)),.c 27 (M05 x7.cap),.u 34 (.ap _ _ _ _ fun _=>L0 (V2 .nw) h8),.w 36 (wi .i64 rfl hiv7 q6.1)] fun _=>?_
  exact wT (N17 _ H)
 .unfold WR at H
  refine wP ?_
  refine wf (ltF t1.nodes.length) ?_
  refine wG [.c 39 (M05 lic3)] fun _=>?_
  replace H:=sI H;subst H
  exact wN [(6,.d)] [(6,[.d,.d,.f,.f,.d])] [] [15,190001] [] [⟨_,nw_I y4.parents⟩,⟨_,M2 y4.nodes⟩,⟨_,Js xs5⟩,⟨_,M7 v7⟩,⟨_,Ji ((Jg lic3).1)⟩]
def W0I:L :=
sR [.bx 1 0,.al 2 [.nl,.nl,.nl,.nl,.nl],.mv 3 (cB false)]
 (.seq (sR [fA 9 1 0,lT 10 9 2,cQ 11 YJ [10],.un 12 11,mV 13 12,gF 13 (fA 14 1 2),gF 13 (lF 15 14 1),gF 13 (.ln 16 15),gF 13 (fA 17 1 0),gF 13 (fA 18 17 1),gF 13 (lF 19 18 1),gF 13 (.ln 20 19),gF 13 (bI 21 .neq 16 20),.pk 22 13 (cB true) 21,mV 23 22,gF 23 (fA 24 1 3),gF 23 (lT 25 24 3),gF 23 (cQ 26 V6 [25]),gF 23 (.un 27 26),.pk 28 23 (cB true) 27,mV 29 28,gF 29 (fA 30 1 7),gF 29 (lF 31 30 1),gF 29 (cQ 32 Ze [31]),gF 29 (.un 33 32),.pk 34 29 (cB true) 33]
 (.cond 34 (sR [.bd 35 [.nl,.nl,.nl,.nl,.nl] [],.st 2 35 5,.mv 3 (cB false)]
 gR)
 .skip))
 (sR [fA 36 1 0,lT 37 36 2,fA 38 1 2,lF 39 38 1,fA 40 1 3,lT 41 40 3,cQ 42 Z0p [37,39,41],.al 4 [.nl,.nl,.nl,.nl,.nl],.st 4 42 5]
 (.seq (sR [fA 43 1 9,lF 44 43 1,.ln 45 44,.mv 46 (kI 0)]
 (.blk 0 (.loop (.gw (sR [bI 47 .lss 46 45]
 (.seq (.cond 47 .skip
 (.exit 0))
 (.seq (.blk 1 (sR [iA 48 44 46 13,lT 49 48 13,.al 6 [.int .i64 0,.int .i64 0,.int .i64 0,.int .i64 0,.int .i64 0,.int .i64 0,.int .i64 0,.int .i64 0,.int .i64 0,.int .i64 0,.int .i64 0,.int .i64 0,.nl],.st 6 49 13]
 (.seq (sR [fA 50 6 0,lT 51 50 11,cQ 52 JD [51],.un 53 52,mV 54 53,gF 54 (fA 55 6 11),gF 54 (lF 56 55 1),gF 54 (fA 57 1 7),gF 54 (lF 58 57 1),gF 54 (.cq 59 U1 [56,(kI 0),58]),gF 54 (.un 60 59),.pk 61 54 (cB true) 60,mV 62 61,gF 62 (fA 63 6 11),gF 62 (lF 64 63 1),gF 62 (fA 65 6 0),gF 62 (fA 66 65 9),gF 62 (lF 67 66 1),gF 62 (bI 68 .add 64 67),gF 62 (fA 69 1 7),gF 62 (lF 70 69 1),gF 62 (.bi 71 .add 70 (kI 1)),gF 62 (.cq 72 U1 [68,71,(kI 1000000000)]),gF 62 (.un 73 72),.pk 74 62 (cB true) 73]
 (.cond 74 (sR [.bd 75 [.nl,.nl,.nl,.nl,.nl] [],.st 2 75 5,.mv 3 (cB false)]
 gR)
 .skip))
 (sR [lT 77 4 5,fA 78 6 0,lT 79 78 11,fA 80 1 7,lF 81 80 1,fA 82 6 11,lF 83 82 1,fA 84 6 0,fA 85 84 9,lF 86 85 1,bI 87 .add 83 86,fA 88 6 12,lF 89 88 1,.cq 90 J0o [77,79,81,87,89,(.c (.fn Wl []))],mV 76 90,eX 91 76 0,eX 92 76 1,.al 7 [.nl,.nl,.nl,.nl,.nl],.st 7 91 5,mV 8 92]
 (.seq (sR [mV 93 8,.un 94 93]
 (.cond 94 (sR [.bd 95 [.nl,.nl,.nl,.nl,.nl] [],.st 2 95 5,.mv 3 (cB false)]
 gR)
 .skip))
 (.reg [lT 96 7 5,.st 4 96 5]))))))
 (.reg [.bi 97 .add 46 (kI 1),mV 46 97]))))))))
 (sR [lT 98 4 5,.st 2 98 5,.mv 3 (cB true)]
 gR))))
def Yw(s1:State)(x5:Run)(_:Nat)(v5:Room)(k5:Room->Option (Room×Bool)):Option (Room×Bool) :=
 bif (((!(Xc x5.job))||(!(V0 x5.t 0 s1.now)))||(!(V0 (w64 (x5.t+x5.job.wall)) (w64 (s1.now+1)) 1000000000)))then(some ((Room.mk (Topo.mk [] []) [] [] []),false))else((X6 v5 x5.job s1.now (w64 (x5.t+x5.job.wall)) x5.nodes).bind fun y6=>bif (!y6.2)then(some ((Room.mk (Topo.mk [] []) [] [] []),false))else(k5 y6.1))
def Q05(v5:Room):Option (Room×Bool) :=
 some (v5,true)
def LM(s1:State):Option (Room×Bool) :=
 (Jk s1.topo).bind fun b2=>bif ((((!b2)||((s1.up.length:Int)!=(s1.topo.nodes.length:Int)))||(!(M1 s1.lic)))||(!(Q2 s1.now)))then(some ((Room.mk (Topo.mk [] []) [] [] []),false))else((WU s1.topo s1.up s1.lic).bind fun y3=>rgl (Yw s1) Q05 s1.runs 0 y3)
theorem O0J{s1:State}{r:Room×Bool}(H:LM s1=some r):Snd Tryz.prog W0i [L2 .rd s1] (.tup [Xj .nw r.1,.bool r.2]) []:=by
 refine wS W0I [.c 2 5 true,.t 3] ?_
 unfold LM at H
 obtain⟨b2,h2,H⟩:=bB H
 refine wG [.c 11 (LR h2),.g 16 [((!b2),false)] (.ln _ _ fun _=>lm s1.up eBo),.g 20 [((!b2),false)] (.ln _ _ fun _=>lm s1.topo.nodes V1),.g 26 [(((!b2)||((s1.up.length:Int)!=(s1.topo.nodes.length:Int))),false)] (.call _ _ _ _ _ (AEs.refl _) (fun _=>L6 s1.lic)),.g 32 [((((!b2)||((s1.up.length:Int)!=(s1.topo.nodes.length:Int)))||(!(M1 s1.lic))),false)] (.call _ _ _ _ _ (AEs.refl _) (fun _=>Oi s1.now))] fun _=>?_
 refine O0 H (fun H=>?_) fun H=>?_
 .refine wP ?_
  replace H:=sI H;subst H
  exact wN [(2,.d),(3,.d)] [(2,[.n 1,.n 4,.n 1,.n 1,.n 4])] [] [] [] [⟨_,nw_I ([]:List Int)⟩,⟨_,M2 ([]:List Node)⟩,⟨_,Js ([]:List Bool)⟩,⟨_,M7 ([]:List (List Pt))⟩,⟨_,Ji ([]:List Pt)⟩]
 .obtain⟨y3,h3,H⟩:=bB H
  refine wG [.c 42 (L0S h3),.u 45 (.ln _ _ fun _=>lm s1.runs (Z1 .rd))] fun q4=>?_
  refine wR (fun(i5:Nat) (v5:Room)=>⟨[(1,.ptr 1 0),(2,.ptr 2 0),(4,.ptr 4 0),(44,rV 13 (s1.runs.map (Z1 .rd))),(45,iV (s1.runs.length:Int)),(46,iV (i5:Int))],[],[(1,(L2 .rd s1).cells),(2,[.nl,.nl,.nl,.nl,.nl]),(4,(Xj .nw v5).cells)],[]⟩) H (fun i5 x5 v5 I m k5 hxv5 hiv5 H N40=>?_) (fun v5 I m H=>?_)
  .unfold Yw at H
   refine wP ?_
   refine wt (ltT hiv5) ?_
   refine wG [.u 48 (.ix _ _ _ fun _=>Q0 (Z1 .rd) (J0 hxv5)),.c 52 (JW x5.job),.g 59 [((!(Xc x5.job)),false)] (.call _ _ _ _ _ (AEs.refl _) (fun _=>Y1 x5.t 0 s1.now)),.g 72 [(((!(Xc x5.job))||(!(V0 x5.t 0 s1.now))),false)] (.call _ _ _ _ _ (AEs.refl _) (fun _=>Y1 (w64 (x5.t+x5.job.wall)) (w64 (s1.now+1)) 1000000000))] fun _=>?_
   refine O0 H (fun H=>?_) fun H=>?_
   .refine wP ?_
    replace H:=sI H;subst H
    exact wN [(2,.d),(3,.d)] [(2,[.n 1,.n 4,.n 1,.n 1,.n 4])] [] [] [] [⟨_,nw_I ([]:List Int)⟩,⟨_,M2 ([]:List Node)⟩,⟨_,Js ([]:List Bool)⟩,⟨_,M7 ([]:List (List Pt))⟩,⟨_,Ji ([]:List Pt)⟩]
   .obtain⟨y6,h6,H⟩:=bB H
    refine wG [.u 90 (.call _ _ _ _ _ (AEs.of (xs:=[.agg [rV 1 (v5.topo.parents.map eI),rV 4 (v5.topo.nodes.map V1),rV 1 (v5.up.map eBo),rV 1 (v5.profs.map (V2 .nw)),rV 4 (v5.lics.map ePt)],.agg [iV x5.job.id,iV x5.job.prio,iV x5.job.nodes,iV x5.job.need.a,iV x5.job.need.b,iV x5.job.need.c,iV x5.job.lic.a,iV x5.job.lic.b,iV x5.job.lic.c,iV x5.job.wall,iV x5.job.level],iV s1.now,iV (w64 (x5.t+x5.job.wall)),rV 1 (x5.nodes.map eI),.fn Wl []]) (by simp)) (fun _=>XM h6))] fun _=>?_
    refine O0 H (fun H=>?_) fun H=>?_
    .refine wP ?_
     replace H:=sI H;subst H
     exact wN [(2,.d),(3,.d)] [(2,[.n 1,.n 4,.n 1,.n 1,.n 4])] [] [] [] [⟨_,nw_I ([]:List Int)⟩,⟨_,M2 ([]:List Node)⟩,⟨_,Js ([]:List Bool)⟩,⟨_,M7 ([]:List (List Pt))⟩,⟨_,Ji ([]:List Pt)⟩]
    .refine wG [.w 97 (wi .i64 rfl hiv5 q4.1)] fun _=>?_
     exact wT (N40 _ H)
  .unfold Q05 at H
   refine wP ?_
   refine wf (ltF s1.runs.length) ?_
   refine wP ?_
   replace H:=sI H;subst H
   exact wN [(2,.d),(3,.d)] [(2,[])] [] [] [] [⟨_,nw_I v5.topo.parents⟩,⟨_,M2 v5.topo.nodes⟩,⟨_,Js v5.up⟩,⟨_,M7 v5.profs⟩,⟨_,Ji v5.lics⟩]
def U0l:L :=
sR [.bx 1 0,.mv 2 (.c (.nl))]
 (sR [.bs 6 11 [] true,fA 7 1 8,lF 8 7 1,.ap 9 6 8 11 88,mV 3 9]
 (.seq (sR [fA 10 1 9,lF 11 10 1,.ln 12 11,.mv 13 (kI 0)]
 (.blk 0 (.loop (.gw (sR [bI 14 .lss 13 12]
 (.seq (.cond 14 .skip
 (.exit 0))
 (.seq (.blk 1 (sR [iA 15 11 13 13,lT 16 15 13,.al 5 [.int .i64 0,.int .i64 0,.int .i64 0,.int .i64 0,.int .i64 0,.int .i64 0,.int .i64 0,.int .i64 0,.int .i64 0,.int .i64 0,.int .i64 0,.int .i64 0,.nl],.st 5 16 13]
 (.reg [mV 17 3,fA 18 5 0,lT 19 18 11,.bs 20 11 [19] false,.ap 21 17 20 11 88,mV 3 21])))
 (.reg [.bi 22 .add 13 (kI 1),mV 13 22]))))))))
 (sR [mV 23 3,mV 2 23]
 gR)))
def VP(x4:Run)(_:Nat)(v4:(List Job))(k4:(List Job)->Option (List Job)):Option (List Job) :=
 (appL 88 v4 [x4.job]).bind fun xs5=>k4 xs5
def XP(v4:(List Job)):Option (List Job) :=
 some v4
def OB(s1:State):Option (List Job) :=
 (appL 88 ([]:List Job) s1.queue).bind fun xs2=>rgl VP XP s1.runs 0 xs2
theorem L0l{s1:State}{r:(List Job)}(H:OB s1=some r):Snd Tryz.prog M01 [L2 .rd s1] (nV 11 (r.map eJob)) []:=by
 refine wS U0l [.t 2] ?_
 unfold OB at H
 obtain⟨xs2,h2,H⟩:=bB H
 refine wG [.u 9 (.ap _ _ _ _ fun _=>L0 eJob h2),.u 12 (.ln _ _ fun _=>lm s1.runs (Z1 .rd))] fun q3=>?_
 refine wR (fun(i4:Nat) (v4:(List Job))=>⟨[(3,.sref 6),(11,rV 13 (s1.runs.map (Z1 .rd))),(12,iV (s1.runs.length:Int)),(13,iV (i4:Int))],[],[],[(6,⟨11,v4.map eJob,false⟩)]⟩) H (fun i4 x4 v4 I m k4 hxv4 hiv4 H N15=>?_) (fun v4 I m H=>?_)
 .unfold VP at H
  refine wP ?_
  refine wt (ltT hiv4) ?_
  obtain⟨xs5,h5,H⟩:=bB H
  refine wG [.u 15 (.ix _ _ _ fun _=>Q0 (Z1 .rd) (J0 hxv4)),.u 21 (.ap _ _ _ _ fun _=>L0 eJob h5),.w 22 (wi .i64 rfl hiv4 q3.1)] fun _=>?_
  exact wT (N15 _ H)
 .unfold XP at H
  refine wP ?_
  refine wf (ltF s1.runs.length) ?_
  refine wP ?_
  replace H:=sI H;subst H
  exact wN [(2,.f)] [] [] [6] [] [⟨_,WL v4⟩]
def W0B:L :=
sR [.bx 1 0,.mv 2 (cB false)]
 (.seq (sR [lT 12 1 11,cQ 13 W0i [12],mV 11 13,eX 14 11 0,eX 15 11 1,.al 3 [.nl,.nl,.nl,.nl,.nl],.st 3 14 5,mV 4 15]
 (sR [mV 16 4,.un 17 16,mV 18 17,gF 18 (fA 19 1 6),gF 18 (lF 20 19 1),gF 18 (.cq 21 U1 [20,(kI 0),(kI 60)]),gF 18 (.un 22 21),.pk 23 18 (cB true) 22,mV 24 23,gF 24 (lT 25 1 11),gF 24 (cQ 26 M01 [25]),gF 24 (cQ 27 V0c [26]),gF 24 (.un 28 27),.pk 29 24 (cB true) 28,mV 30 29,gF 30 (fA 31 1 10),gF 30 (lF 32 31 1),gF 30 (.ln 33 32),gF 30 (.bi 34 .gtr 33 (kI 300)),.pk 35 30 (cB true) 34]
 (.cond 35 (.seq (rE 2 (cB false))
 gR)
 .skip)))
 (.seq (sR [fA 36 1 9,lF 37 36 1,.ln 38 37,.mv 39 (kI 0)]
 (.blk 0 (.loop (.gw (sR [bI 40 .lss 39 38]
 (.seq (.cond 40 .skip
 (.exit 0))
 (.seq (.blk 1 (sR [iA 41 37 39 13,lT 42 41 13,.al 6 [.int .i64 0,.int .i64 0,.int .i64 0,.int .i64 0,.int .i64 0,.int .i64 0,.int .i64 0,.int .i64 0,.int .i64 0,.int .i64 0,.int .i64 0,.int .i64 0,.nl],.st 6 42 13]
 (.seq (sR [fA 43 6 12,lF 44 43 1,.ln 45 44,.mv 46 (kI 0)]
 (.blk 2 (.loop (.gw (sR [bI 47 .lss 46 45]
 (.seq (.cond 47 .skip
 (.exit 2))
 (.seq (.blk 3 (sR [iA 48 44 46 1,lF 49 48 1,mV 8 49]
 (sR [fA 50 1 2,lF 51 50 1,mV 52 8,iA 53 51 52 1,lF 54 53 1,.un 55 54]
 (.cond 55 (.seq (rE 2 (cB false))
 gR)
 .skip))))
 (.reg [.bi 56 .add 46 (kI 1),mV 46 56]))))))))
 (.seq (.rq 18 [fA 57 6 12,lF 58 57 1,cQ 59 JN [58],.un 60 59,mV 61 60,gF 61 (fA 62 1 0),gF 61 (lT 63 62 2),gF 61 (fA 64 1 0),gF 61 (lT 65 64 2),gF 61 (fA 66 6 12),gF 61 (lF 67 66 1),gF 61 (cQ 68 O0i [65,67]),gF 61 (cQ 69 YQ [63,68]),gF 61 (fA 70 6 0),gF 61 (fA 71 70 10),gF 61 (lF 72 71 1),gF 61 (bI 73 .gtr 69 72),.pk 74 61 (cB true) 73])
 (.cond 74 (.seq (rE 2 (cB false))
 gR)
 .skip)))))
 (.reg [.bi 75 .add 39 (kI 1),mV 39 75]))))))))
 (.seq (sR [fA 76 1 10,lF 77 76 1,.ln 78 77,.mv 79 (kI 0)]
 (.blk 4 (.loop (.gw (sR [bI 80 .lss 79 78]
 (.seq (.cond 80 .skip
 (.exit 4))
 (.seq (.blk 5 (sR [iA 81 77 79 3,lT 82 81 3,.al 10 [.int .i64 0,.int .i64 0,.int .i64 0],.st 10 82 3]
 (sR [fA 83 10 0,lF 84 83 1,.cq 85 U1 [84,(kI 1),(kI 999)],.un 86 85,mV 87 86,gF 87 (fA 88 10 1),gF 87 (lF 89 88 1),gF 87 (fA 90 1 7),gF 87 (lF 91 90 1),gF 87 (.cq 92 U1 [89,(kI 0),91]),gF 87 (.un 93 92),.pk 94 87 (cB true) 93,mV 95 94,gF 95 (fA 96 10 2),gF 95 (lF 97 96 1),gF 95 (.cq 98 U1 [97,(kI 1),(kI 4)]),gF 95 (.un 99 98),.pk 100 95 (cB true) 99]
 (.cond 100 (.seq (rE 2 (cB false))
 gR)
 .skip))))
 (.reg [.bi 101 .add 79 (kI 1),mV 79 101]))))))))
 (.seq (rE 2 (cB true))
 gR))))
def ZG(s1:State)(x8:Int)(_:Nat)(_:Unit)(k8:Unit->Option Bool):Option Bool :=
 (idx s1.up x8).bind fun e9=>bif (!e9)then(some false)else(k8 ())
def JF(s1:State)(x6:Run)(k6:Unit->Option Bool)(_:Unit):Option Bool :=
 (Jf x6.nodes).bind fun b10=>(bif (!b10)then some default else(Jz s1.topo x6.nodes)).bind fun n11=>(bif (!b10)then some default else(Vz s1.topo n11)).bind fun n12=>bif ((!b10)||(decide (x6.job.level<n12)))then(some false)else(k6 ())
def Lq(s1:State)(x14:End)(_:Nat)(_:Unit)(k14:Unit->Option Bool):Option Bool :=
 bif (((!(V0 x14.id 1 999))||(!(V0 x14.t 0 s1.now)))||(!(V0 x14.why 1 4)))then(some false)else(k14 ())
def MF(_:Unit):Option Bool :=
 some true
def Jq(s1:State)(x6:Run)(_:Nat)(_:Unit)(k6:Unit->Option Bool):Option Bool :=
 rgl (ZG s1) (JF s1 x6 k6) x6.nodes 0 ()
def LF(s1:State)(_:Unit):Option Bool :=
 rgl (Lq s1) MF s1.ends 0 ()
def Ms(s1:State):Option Bool :=
 (LM s1).bind fun y2=>(bif ((!y2.2)||(!(V0 s1.depth 0 60)))then some default else(OB s1)).bind fun y3=>(bif ((!y2.2)||(!(V0 s1.depth 0 60)))then some default else(UD y3)).bind fun b4=>bif ((((!y2.2)||(!(V0 s1.depth 0 60)))||(!b4))||(decide (300<(s1.ends.length:Int))))then(some false)else(rgl (Jq s1) (LF s1) s1.runs 0 ())
theorem U05{s1:State}{r:Bool}(H:Ms s1=some r):Snd Tryz.prog XT [L2 .rd s1] (.bool r) []:=by
 refine wS W0B [.t 2] ?_
 unfold Ms at H
 obtain⟨y2,h2,H⟩:=bB H
 obtain⟨y3,h3,H⟩:=bB H
 obtain⟨b4,h4,H⟩:=bB H
 refine wG [.c 13 (O0J h2),.g 21 [((!y2.2),false)] (.call _ _ _ _ _ (AEs.refl _) (fun _=>Y1 s1.depth 0 60)),.g 26 [(_,false)] (.call _ _ _ _ _ (AEs.refl _) (fun q=>L0l (bF q.1 h3))),.g 27 [(_,false)] (.call _ _ _ _ _ (AEs.refl _) (fun q=>Q0C (bF q.1 h4))),.g 33 [((((!y2.2)||(!(V0 s1.depth 0 60)))||(!b4)),false)] (.ln _ _ fun _=>lm s1.ends eEnd)] fun _=>?_
 refine O0 H (fun H=>?_) fun H=>?_
 .obtain rfl:=sI H
  exact wP (wE [(2,.d)])
 .refine wG [.u 38 (.ln _ _ fun _=>lm s1.runs (Z1 .rd))] fun q5=>?_
  refine wR (fun(i6:Nat) (v6:Unit)=>⟨[(1,.ptr 1 0),(37,rV 13 (s1.runs.map (Z1 .rd))),(38,iV (s1.runs.length:Int)),(39,iV (i6:Int))],[],[(1,(L2 .rd s1).cells)],[]⟩) H (fun i6 x6 v6 I m k6 hxv6 hiv6 H N52=>?_) (fun v6 I m H=>?_)
  .unfold Jq at H
   refine wP ?_
   refine wt (ltT hiv6) ?_
   refine wG [.u 41 (.ix _ _ _ fun _=>Q0 (Z1 .rd) (J0 hxv6)),.u 45 (.ln _ _ fun _=>lm x6.nodes eI)] fun q7=>?_
   refine wR (fun(i8:Nat) (v8:Unit)=>⟨[(1,.ptr 1 0),(6,.ptr 6 0),(37,rV 13 (s1.runs.map (Z1 .rd))),(38,iV (s1.runs.length:Int)),(39,iV (i6:Int)),(44,rV 1 (x6.nodes.map eI)),(45,iV (x6.nodes.length:Int)),(46,iV (i8:Int))],[],[(1,(L2 .rd s1).cells),(6,(Z1 .rd x6).cells)],[]⟩) H (fun i8 x8 v8 I m k8 hxv8 hiv8 H N35=>?_) (fun v8 I m H=>?_)
   .unfold ZG at H
    refine wP ?_
    refine wt (ltT hiv8) ?_
    obtain⟨e9,h9,H⟩:=bB H
    refine wG [.u 48 (.ix _ _ _ fun _=>Q0 eI (J0 hxv8)),.u 53 (.ix _ _ _ fun _=>Q0 eBo h9)] fun _=>?_
    refine O0 H (fun H=>?_) fun H=>?_
    .obtain rfl:=sI H
     exact wP (wE [(2,.d)])
    .refine wG [.w 56 (wi .i64 rfl hiv8 q7.1)] fun _=>?_
     exact wT (N35 () H)
   .unfold JF at H
    refine wP ?_
    refine wf (ltF x6.nodes.length) ?_
    obtain⟨b10,h10,H⟩:=bB H
    obtain⟨n11,h11,H⟩:=bB H
    obtain⟨n12,h12,H⟩:=bB H
    refine wG [.c 59 (M09 h10),.g 68 [(_,false)] (.call _ _ _ _ _ (AEs.refl _) (fun q=>J0J (bF q.1 h11))),.g 69 [(_,false)] (.call _ _ _ _ _ (AEs.refl _) (fun q=>WW (bF q.1 h12)))] fun _=>?_
    refine O0 H (fun H=>?_) fun H=>?_
    .obtain rfl:=sI H
     exact wP (wE [(2,.d)])
    .refine wG [.w 75 (wi .i64 rfl hiv6 q5.1)] fun _=>?_
     exact wT (N52 () H)
  .unfold LF at H
   refine wP ?_
   refine wf (ltF s1.runs.length) ?_
   refine wG [.u 78 (.ln _ _ fun _=>lm s1.ends eEnd)] fun q13=>?_
   refine wR (fun(i14:Nat) (v14:Unit)=>⟨[(1,.ptr 1 0),(77,rV 3 (s1.ends.map eEnd)),(78,iV (s1.ends.length:Int)),(79,iV (i14:Int))],[],[(1,(L2 .rd s1).cells)],[]⟩) H (fun i14 x14 v14 I m k14 hxv14 hiv14 H N74=>?_) (fun v14 I m H=>?_)
   .unfold Lq at H
    refine wP ?_
    refine wt (ltT hiv14) ?_
    refine wG [.u 81 (.ix _ _ _ fun _=>Q0 eEnd (J0 hxv14)),.c 85 (Y1 x14.id 1 999),.g 92 [((!(V0 x14.id 1 999)),false)] (.call _ _ _ _ _ (AEs.refl _) (fun _=>Y1 x14.t 0 s1.now)),.g 98 [(((!(V0 x14.id 1 999))||(!(V0 x14.t 0 s1.now))),false)] (.call _ _ _ _ _ (AEs.refl _) (fun _=>Y1 x14.why 1 4))] fun _=>?_
    refine O0 H (fun H=>?_) fun H=>?_
    .obtain rfl:=sI H
     exact wP (wE [(2,.d)])
    .refine wG [.w 101 (wi .i64 rfl hiv14 q13.1)] fun _=>?_
     exact wT (N74 () H)
   .unfold MF at H
    refine wP ?_
    refine wf (ltF s1.ends.length) ?_
    obtain rfl:=sI H
    exact wP (wE [(2,.d)])
theorem W0S(r:Room)(j:Job)(from_ to_:Int)(nodes:List Int):X6 r j from_ to_ nodes=bif diffOk r j nodes then L07 r j.need j.lic from_ to_ nodes else some Mo:=by
 unfold X6 diffOk
 rw[W0J,bS,ZX]
 cases hr:roomOk r with
 |false=>rfl
 |true =>
  have hR:=XU.1 hr
  rw[O0d hR.small.nodes]
  cases W1 j with
  |false=>rfl
  |true =>
   simp only[yL,Bool.or_self,yM,Bool.true_and,bS]
   cases(decide ((nodes.length:Int)=j.nodes)&&W5 r.topo nodes&&decide nodes.Nodup)with
   |false=>rfl
   |true =>
    simp only[yL,Bool.or_self,yM,yN]
    rw[Y0u hR.small,bS]
    unfold L07 L9 M9
    simp only[fun p f t v=>(Y0e p f t v).1]
    rfl
def idsOk(l:List Job):Bool:=decide (l.map Job.id).Nodup
noncomputable def queueOk(l:List Job):Bool:=decide (l.length<=60)&&l.all W1&&idsOk l
theorem M18{l:List Job}{i:Nat}{x:Job}(hx:l[i]?=some x):((l.take (i+1)).map Job.id).Nodup↔((l.take i).map Job.id).Nodup/\∀y∈l.take i,y.id≠x.id:=by
 obtain⟨hi,rfl⟩:=yB hx
 rw[List.take_succ_eq_append_getElem hi,List.map_append,List.nodup_append]
 constructor
 .intro h;exact⟨h.1,fun y hy e=>h.2.2 _ (List.mem_map_of_mem hy) _ (List.mem_singleton.2 rfl) e⟩
 .intro h;exact⟨h.1,by simp,fun a ha b hb e=>by
   obtain⟨y,hy,rfl⟩:=yY ha
   rw[show b=l[i].id by simpa using hb]at e
   exact h.2 y hy e⟩
theorem V0L{γ:Type}{bd:Job->Nat->Unit->(Unit->Option γ)->Option γ}{kk:Unit->Option γ}{r:Option γ}{l:List Job}
  (hb:∀i x k,l[i]?=some x->bd x i () k=bif (!W1 x)||(l.take i).any (fun y=>y.id==x.id)then r else k ()):rgl bd kk l 0 ()=bif l.all W1&&idsOk l then kk ()else r:=by
 refine U7 (fun i (_:Unit)=>(∀y∈l.take i,W1 y=true)/\((l.take i).map Job.id).Nodup) (fun o=>o=bif l.all W1&&idsOk l then kk ()else r) (fun i x b k hx hI hk=>?_) (fun b hI=>?_) (by simp)
 .have hil:=(yB hx).1
  rw[hb i x k hx]
  cases hj:W1 x with
  |false =>
   have:l.all W1=false:=List.all_eq_false.2 ⟨x,yE hx,by rw[hj];simp⟩
   rw[this];rfl
  |true =>
   cases hc:(l.take i).any (fun y=>y.id==x.id)with
   |true =>
    obtain⟨y,hy,he⟩:=List.any_eq_true.1 hc
    have:idsOk l=false:=by
     unfold idsOk
     rw[decide_eq_false_iff_not]
     intro q
     have q2:((l.take (i+1)).map Job.id).Nodup:=q.sublist ((List.take_sublist _ _).map _)
     exact((M18 hx).1 q2).2 y hy (by simpa using he)
    rw[this,Bool.and_false];rfl
   |false =>
    refine hk () ⟨fun y hy=>?_,(M18 hx).2 ⟨hI.2,fun y hy e=>?_⟩⟩
    .obtain⟨hi,rfl⟩:=yB hx
     rw[List.take_succ_eq_append_getElem hi]at hy
     rcases List.mem_append.1 hy with hy|hy
     .exact hI.1 y hy
     .rw[List.mem_singleton.1 hy];exact hj
    .have:=List.any_eq_false.1 hc y hy
     simp[e]at this
 .rw[List.take_of_length_le (yV _)]at hI
  rw[List.all_eq_true.2 hI.1]
  unfold idsOk
  rw[decide_eq_true hI.2];rfl
theorem MK(l:List Job):Zk l=some (queueOk l):=by
 unfold Zk queueOk
 by_cases h:60<l.length
 .simp[show(60:Int)<l.length by omega,show ¬ l.length<=60 by omega]
 .rw[show decide ((60:Int)<(l.length:Int))=false by simp;omega,show decide (l.length<=60)=true by simp;omega]
  simp only[yM,Bool.true_and]
  rw[V0L (r:=some false) (fun i x k hx=>?_)]
  .unfold JE
   cases(l.all W1&&idsOk l)<;>rfl
  .have hil:=(yB hx).1
   unfold ZF
   cases W1 x with
   |false=>rfl
   |true =>
    simp only[yL,yM,Bool.false_or]
    have h:=W0c (bd:=Jh l i x k) (fun(i:Nat) (_:Unit)=>(i:Int)) (n:=i)
     (B:=fun m _ _ k=>bif (match l[m]? with|some e=>e.id==x.id|none=>false)then some false else k ()) (kk:=fun _=>k ()) (fun m st k hm=>by
      obtain⟨e,he⟩:∃e,l[m]?=some e:=⟨_,yA (by omega)⟩
      have hlt:(m:Int)<(i:Int):=by omega
      simp only[Jh,hlt,decide_true,yN,Y8,he,bS,J0i (n:=m) (by omega)])
     (fun m st k hm=>by
      have hlt:¬ (m:Int)<(i:Int):=by omega
      simp only[Jh,hlt,decide_false,yM]) 9223372036854775807 0 () (by omega)
    refine h.trans ?_
    rw[Mf (r:=some false) (p:=fun(m:Nat)=>match l[m]? with|some e=>e.id==x.id|none=>false) (fun m _ i k=>rfl)]
    have e:(List.range' 0 (i-0)).any (fun(m:Nat)=>match l[m]? with|some e=>e.id==x.id|none=>false)=(l.take i).any (fun y=>y.id==x.id):=by
     rw[Bool.eq_iff_iff,List.any_eq_true,List.any_eq_true]
     constructor
     .rintro⟨m,hm,hq⟩
      obtain⟨j,hj,rfl⟩:=List.mem_range'.1 hm
      have hlt:0+1*j<l.length:=by omega
      rw[yA hlt]at hq
      exact⟨_,List.mem_take_iff_getElem.2 ⟨0+1*j,by omega,rfl⟩,hq⟩
     .rintro⟨y,hy,hq⟩
      obtain⟨m,hm,rfl⟩:=List.mem_take_iff_getElem.1 hy
      exact⟨m,List.mem_range'.2 ⟨m,by omega,by omega⟩,by rw[yA (by omega)];exact hq⟩
    rw[e]
theorem Y14(l:List Job)(c:Job):X1 l c=some (l.any fun y=>y.id==c.id):=by
 unfold X1 Z2
 have:∃r:Int,rgl (O1 c) O2 l 0 ()=some r/\decide (0<=r)=l.any fun y=>y.id==c.id:=by
  refine U7 (fun i (_:Unit)=>∀y∈l.take i,(y.id==c.id)=false) (fun o=>∃r:Int,o=some r/\decide (0<=r)=l.any fun y=>y.id==c.id) (fun i x b k hx hI hk=>?_) (fun b hI=>?_) (by simp)
  .unfold O1 Jo
   cases h:(x.id==c.id)with
   |true=>exact⟨i,rfl,by rw[List.any_eq_true.2 ⟨x,yE hx,h⟩];simp⟩
   |false =>
    refine hk () fun y hy=>?_
    obtain⟨hi,rfl⟩:=yB hx
    rw[List.take_succ_eq_append_getElem hi]at hy
    rcases List.mem_append.1 hy with hy|hy
    .exact hI y hy
    .rw[List.mem_singleton.1 hy];exact h
  .rw[List.take_of_length_le (yV _)]at hI
   exact⟨-1,rfl,by rw[List.any_eq_false.2 fun y hy=>by rw[hI y hy];simp];rfl⟩
 obtain⟨r,h1,h2⟩:=this
 rw[h1,bS,h2]
theorem W0C(l:List Job):UD l=some (queueOk l):=by
 unfold UD queueOk
 rw[V0L (r:=some false) (fun i x k hx=>?_)]
 .unfold YG
  have e:decide ((l.length:Int)<=60)=decide (l.length<=60):=by rw[Bool.eq_iff_iff];simp;omega
  rw[e]
  cases l.all W1<;>cases idsOk l<;>cases decide (l.length<=60)<;>rfl
 .have hil:=(yB hx).1
  unfold XG
  rw[ZX,U0U (by omega)]
  cases W1 x with
  |false=>rfl
  |true =>
   simp only[yL,yM,bS,Y14,Bool.false_or]
theorem O0C(v:Vec):Jg v=V5 v:=rfl
def LD(t:Topo)(up:List Bool)(lic:Vec):Room:=⟨t,up,t.nodes.map fun x=>(V5 x.cap).1,(V5 lic).1⟩
theorem J0M{v:Vec}(h:W0 v=true):ProfP (V5 v).1:=by
 unfold V5
 rw[h]
 simp only[yL,yM]
 exact⟨by simp,by simp,fun x hx=>by simp at hx;rw[← hx],fun x hx=>by simp at hx;subst hx;exact⟨rfl,h⟩,fun i x y hx hy=>by simp at hy⟩
theorem W0o{t:Topo}(h:TopoP t){up:List Bool}(hu:up.length=t.nodes.length){lic:Vec}(hl:W0 lic=true):RoomP (LD t up lic) :=
  ⟨h,hu,by simp[LD],fun p hp=>by
    obtain⟨x,hx,rfl⟩:=yY hp
    exact J0M (h.node x hx).2.2.2,J0M hl⟩
theorem J0S{t:Topo}(h:TopoP t){up:List Bool}(hu:up.length=t.nodes.length)(lic:Vec):WU t up lic=some (LD t up lic):=by
 have:=h.tree.le;have:=h.nodes
 unfold WU Jm Ov
 rw[M0 (by simp;omega),bS,bS,M0 (by simp;omega),bS,bS,M0 (by simp;omega),bS]
 rw[M8 (bd:=OR) (bs:=24) (p:=fun _=>true) (f:=fun x=>(V5 x.cap).1) (fun x hx i b k=>rfl) (by simp;omega)]
 unfold WR LD
 simp[List.filter_eq_self.2,O0C]
theorem VZ(s:State):Ol s=some (bif topoOk s.topo&&decide (s.up.length=s.topo.nodes.length)&&W0 s.lic then(LD s.topo s.up s.lic,true)else Mo):=by
 unfold Ol
 rw[Wo,bS,J0P]
 cases ht:topoOk s.topo with
 |false=>rfl
 |true =>
 cases hu:decide (s.up.length=s.topo.nodes.length)with
 |false=>rfl
 |true =>
 cases hl:W0 s.lic with
 |false=>rfl
 |true =>
  have h:=UJ.1 ht
  have hu:=of_decide_eq_true hu
  have:=h.nodes
  simp only[yL,Bool.or_self,yM,Bool.and_self,yN]
  rw[M8 (bd:=Qx) (bs:=24) (p:=fun _=>true) (f:=fun x=>(V5 x.cap).1) (fun x hx i b k=>rfl) (by simp;omega)]
  unfold Ux
  rw[show(s.topo.nodes.filter fun _=>true)=s.topo.nodes from List.filter_eq_self.2 fun _ _=>rfl,List.nil_append]
  have hR:=W0o h hu hl
  unfold LD at hR
  rw[X03 hR.small,bS]
  rfl
def U0W(s:State)(x:Run):Bool:=time x.t&&decide (x.t<=s.now)&&decide (s.now<x.t+x.job.wall)&&decide (x.t+x.job.wall<=1000000000)
noncomputable def X08(s:State)(x:Run)(v:Room):Option (Room×Bool):=bif diffOk v x.job x.nodes&&U0W s x then L07 v x.job.need x.job.lic s.now (x.t+x.job.wall) x.nodes else some Mo
theorem Q0N{s:State}(hs:time s.now=true)(x:Run)(i:Nat)(v:Room)(k:Room->Option (Room×Bool)):Zv s x i v k=(X08 s x v).bind fun y=>bif !y.2 then some Mo else k y.1:=by
 have hn:=YV.1 hs
 unfold Zv X08
 rw[Z03,bS,Je]
 cases hd:diffOk v x.job x.nodes with
 |false=>rfl
 |true =>
  have hj:W1 x.job=true:=by unfold diffOk at hd;simp only[yD]at hd;exact hd.1.1.1.2
  have hj':=VD.1 hj
  unfold U0W
  by_cases ht:time x.t=true/\x.t<=s.now
  .have ht1:=YV.1 ht.1
   rw[ht.1,V4 (n:=x.t+x.job.wall) (by omega),show decide (s.now<x.t)=false by simp;omega,show decide (x.t<=s.now)=true by simpa using ht.2]
   by_cases h3:s.now<x.t+x.job.wall
   .rw[show decide (x.t+x.job.wall<=s.now)=false by simp;omega,show decide (s.now<x.t+x.job.wall)=true by simpa using h3]
    by_cases h4:x.t+x.job.wall<=1000000000
    .rw[show decide (1000000000<x.t+x.job.wall)=false by simp;omega,show decide (x.t+x.job.wall<=1000000000)=true by simpa using h4]
     simp only[yL,Bool.or_self,yM,Bool.and_self,yN]
     rw[V4 (n:=x.t+x.job.wall-s.now) (by omega),O03]
     have e:diffOk v ⟨x.job.id,x.job.prio,x.job.nodes,x.job.need,x.job.lic,x.t+x.job.wall-s.now,x.job.level⟩ x.nodes=true:=by
      have hj2:W1 ⟨x.job.id,x.job.prio,x.job.nodes,x.job.need,x.job.lic,x.t+x.job.wall-s.now,x.job.level⟩=true:=by
       rw[VD];simp only;refine⟨hj'.1,hj'.2.1,hj'.2.2.1,hj'.2.2.2.1,hj'.2.2.2.2.1,by omega,hj'.2.2.2.2.2.2⟩
      unfold diffOk at hd ⊢
      rw[hj]at hd
      rw[hj2];exact hd
     rw[e,hs]
     simp only[Bool.and_self,yN]
     rw[show s.now+(x.t+x.job.wall-s.now)=x.t+x.job.wall by omega,V4 (by omega)]
     rfl
    .rw[show decide (1000000000<x.t+x.job.wall)=true by simp;omega,show decide (x.t+x.job.wall<=1000000000)=false by simpa using h4]
     simp[Mo]
   .rw[show decide (x.t+x.job.wall<=s.now)=true by simp;omega,show decide (s.now<x.t+x.job.wall)=false by simpa using h3]
    simp[Mo]
  .have:(time x.t&&decide (x.t<=s.now))=false:=by
    rw[Bool.eq_false_iff];intro q;simp only[yD,yO]at q;exact ht q
   rw[this]
   have h2:(!(time x.t)||decide (s.now<x.t))=true:=by
    cases hx:time x.t with
    |false=>rfl
    |true =>
     have:¬ x.t<=s.now:=fun q=>ht ⟨hx,q⟩
     simp;omega
   simp only[yL,Bool.false_or,h2,Bool.true_or,yN,Bool.false_and,Bool.and_false,yM,bS]
   rfl
theorem Q0S{s:State}(hs:time s.now=true)(x:Run)(i:Nat)(v:Room)(k:Room->Option (Room×Bool)):Yw s x i v k=(X08 s x v).bind fun y=>bif !y.2 then some Mo else k y.1:=by
 have hn:=YV.1 hs
 unfold Yw X08
 rw[ZX,W0S]
 cases hj:W1 x.job with
 |false =>
  have hd:diffOk v x.job x.nodes=false:=by unfold diffOk;rw[hj];simp
  rw[hd];rfl
 |true =>
  have hj':=VD.1 hj
  by_cases h1:0<=x.t/\x.t<=s.now
  .rw[V4 (n:=x.t+x.job.wall) (by omega),V4 (n:=s.now+1) (by omega)]
   have e1:V0 x.t 0 s.now=true:=by simp[V0];exact h1
   have e2:V0 (x.t+x.job.wall) (s.now+1) 1000000000=(decide (s.now<x.t+x.job.wall)&&decide (x.t+x.job.wall<=1000000000)):=by
    unfold V0;congr 1
   have e3:time x.t=true:=by rw[YV];omega
   unfold U0W
   rw[e1,e2,e3,show decide (x.t<=s.now)=true by simpa using h1.2]
   simp only[yL,Bool.false_or,Bool.and_self,Bool.true_and]
   cases(decide (s.now<x.t+x.job.wall)&&decide (x.t+x.job.wall<=1000000000))<;>cases diffOk v x.job x.nodes<;>rfl
  .have e1:V0 x.t 0 s.now=false:=by
    unfold V0;rw[Bool.eq_false_iff];intro q;simp only[yD,yO]at q;exact h1 q
   have e2:U0W s x=false:=by
    unfold U0W;rw[Bool.eq_false_iff];intro q;simp only[yD,yO,YV]at q;exact h1 ⟨q.1.1.1.1,q.1.1.2⟩
   rw[e1,e2]
   simp[Mo]
noncomputable def W0f(s:State):Option (Room×Bool):=rgl (fun x _ v k=>(X08 s x v).bind fun y=>bif !y.2 then some Mo else k y.1) (fun v=>some (v,true)) s.runs 0 (LD s.topo s.up s.lic)
noncomputable def VO(s:State):Bool:=topoOk s.topo&&decide (s.up.length=s.topo.nodes.length)&&W0 s.lic&&time s.now
theorem Q0a(s:State):Uc s=bif VO s then W0f s else some Mo:=by
 unfold Uc VO
 rw[VZ,bS,Je]
 cases(topoOk s.topo&&decide (s.up.length=s.topo.nodes.length)&&W0 s.lic)with
 |false=>rfl
 |true =>
  cases hs:time s.now with
  |false=>rfl
  |true =>
   simp only[yN,yL,Bool.or_self,yM,Bool.and_self]
   unfold W0f
   exact U04 (fun i x b k _=>Q0N hs x i b k) fun b=>rfl
theorem M0J(s:State):LM s=Uc s:=by
 rw[Q0a]
 unfold LM VO
 rw[JR,Wo,bS,J0P,Mv,X0b]
 cases ht:topoOk s.topo with
 |false=>rfl
 |true =>
 cases hu:decide (s.up.length=s.topo.nodes.length)with
 |false=>rfl
 |true =>
 cases hl:W0 s.lic with
 |false=>rfl
 |true =>
 cases hs:time s.now with
 |false=>rfl
 |true =>
  simp only[yL,Bool.or_self,yM,Bool.and_self,yN]
  rw[J0S (UJ.1 ht) (of_decide_eq_true hu),bS]
  unfold W0f
  exact U04 (fun i x b k _=>Q0S hs x i b k) fun b=>rfl
structure RunsP(s:State):Prop where
 job:∀x∈s.runs,W1 x.job=true/\(x.nodes.length:Int)=x.job.nodes/\W5 s.topo x.nodes=true/\x.nodes.Nodup/\U0W s x=true
theorem L0O{s:State}(h:VO s=true):∃q,W0f s=some q/\(q.2=true->RoomP q.1/\q.1.topo=s.topo/\q.1.up=s.up/\RunsP s):=by
 unfold VO at h
 simp only[yD,yO,UJ]at h
 unfold W0f
 refine U7 (fun i (v:Room)=>RoomP v/\v.topo=s.topo/\v.up=s.up/\∀x∈s.runs.take i,W1 x.job=true/\(x.nodes.length:Int)=x.job.nodes/\W5 s.topo x.nodes=true/\x.nodes.Nodup/\U0W s x=true) (fun o=>∃q:Room×Bool,o=some q/\(q.2=true->RoomP q.1/\q.1.topo=s.topo/\q.1.up=s.up/\RunsP s)) (fun i x v k hx hI hk=>?_) (fun v hI=>?_) ⟨W0o h.1.1.1 h.1.1.2 h.1.2,rfl,rfl,by simp⟩
 .obtain⟨h1,h2,h3,h4⟩:=hI
  unfold X08
  cases hd:(diffOk v x.job x.nodes&&U0W s x)with
  |false=>exact⟨Mo,rfl,fun h=>by cases h⟩
  |true =>
   simp only[yD]at hd
   have hd1:=hd.1
   unfold diffOk at hd1
   simp only[yD,yO]at hd1
   obtain⟨q,q1,q2⟩:=U0e h1 x.job.need x.job.lic s.now (x.t+x.job.wall) hd1.1.2
   simp only[yN]
   rw[q1,bS]
   cases hq:q.2 with
   |false=>exact⟨Mo,rfl,fun h=>by cases h⟩
   |true =>
    obtain⟨a1,a2,a3⟩:=q2 hq
    refine hk q.1 ⟨a1,a2.trans h2,a3.trans h3,fun y hy=>?_⟩
    obtain⟨hi,rfl⟩:=yB hx
    rw[List.take_succ_eq_append_getElem hi]at hy
    rcases List.mem_append.1 hy with hy|hy
    .exact h4 y hy
    .rw[List.mem_singleton.1 hy]
     exact⟨hd1.1.1.1.2,hd1.1.1.2,by rw[← h2];exact hd1.1.2,hd1.2,hd.2⟩
 .obtain⟨h1,h2,h3,h4⟩:=hI
  rw[List.take_of_length_le (yV _)]at h4
  exact⟨_,rfl,fun _=>⟨h1,h2,h3,⟨h4⟩⟩⟩
theorem Wq(s:State):∃q,Uc s=some q/\(q.2=true->VO s=true/\RoomP q.1/\q.1.topo=s.topo/\q.1.up=s.up/\RunsP s):=by
 rw[Q0a]
 cases h:VO s with
 |false=>exact⟨Mo,rfl,fun h=>by cases h⟩
 |true =>
  obtain⟨q,h1,h2⟩:=L0O h
  exact⟨q,h1,fun h=>⟨rfl,h2 h⟩⟩
def allJobs(s:State):List Job:=s.queue++s.runs.map Run.job
theorem YK{s:State}(h:s.queue.length+s.runs.length<=1048576):Og s=some (allJobs s):=by
 unfold Og
 rw[M0 (by simp;omega),bS,M8 (bd:=XE) (bs:=88) (p:=fun _=>true) (f:=Run.job) (fun x hx i b k=>rfl) (by simp;omega)]
 unfold YE allJobs
 simp[List.filter_eq_self.2]
theorem J0l(s:State):OB s=Og s:=rfl
def AscP(l:List Int):Prop:=∀(i:Nat) (x y:Int),l[i]?=some x->l[i+1]?=some y->x<y
open Classical in
noncomputable def ascB(l:List Int):Bool:=decide (AscP l)
theorem U0w{l:List Int}:ascB l=true↔AscP l:=by unfold ascB;simp
theorem L09{l:List Int}(hl:l.length<=1048576):Jf l=some (ascB l):=by
 unfold Jf
 have h:=W0c (bd:=Z8 l) (fun(i:Nat) (_:Unit)=>((i+1:Nat):Int)) (n:=l.length-1)
  (B:=fun x _ _ k=>bif (match l[x]?,l[x+1]? with|some a,some b=>decide (b<=a)|_,_=>true)then some false else k ()) (kk:=fun _=>some true) (fun i st k hi=>by
   obtain⟨a,ha⟩:∃e,l[i]?=some e:=⟨_,yA (by omega)⟩
   obtain⟨b,hb⟩:∃e,l[i+1]?=some e:=⟨_,yA (by omega)⟩
   have hlt:((i+1:Nat):Int)<(l.length:Int):=by omega
   simp only[Z8,hlt,decide_true,yN,U0v (n:=i+1) (by omega) (by omega),Nat.add_sub_cancel,Y8,ha,hb,bS,J0i (n:=i+1) (by omega)])
  (fun i st k hi=>by
   have hlt:¬ ((i+1:Nat):Int)<(l.length:Int):=by omega
   simp only[Z8,hlt,decide_false,yM]) 9223372036854775807 0 () (by omega)
 refine h.trans ?_
 rw[Mf (r:=some false) (p:=fun(x:Nat)=>match l[x]?,l[x+1]? with|some a,some b=>decide (b<=a)|_,_=>true) (fun x _ i k=>rfl)]
 cases hany:(List.range' 0 (l.length-1-0)).any (fun(x:Nat)=>match l[x]?,l[x+1]? with|some a,some b=>decide (b<=a)|_,_=>true)with
 |true =>
  obtain⟨x,hx,hq⟩:=List.any_eq_true.1 hany
  obtain⟨j,hj,rfl⟩:=List.mem_range'.1 hx
  obtain⟨a,ha⟩:∃e,l[0+1*j]?=some e:=⟨_,yA (by omega)⟩
  obtain⟨b,hb⟩:∃e,l[0+1*j+1]?=some e:=⟨_,yA (by omega)⟩
  rw[ha,hb]at hq
  have:ascB l=false:=by
   rw[Bool.eq_false_iff]
   intro q
   have:=U0w.1 q _ a b ha hb
   simp at hq;omega
  rw[this];rfl
 |false =>
  have:ascB l=true:=U0w.2 fun i x y hx hy=>by
   have hlt:=(yB hy).1
   have:=List.any_eq_false.1 hany i (List.mem_range'.2 ⟨i,by omega,by omega⟩)
   rw[hx,hy]at this
   simpa using this
  rw[this];rfl
noncomputable def lowN(t:Topo)(l:List Int):Nat:=((Yr t l).getD 0).toNat
theorem W1i{t:Topo}{l:List Int}(h:W5 t l=true)(hne:l≠[]):lowN t l<t.parents.length/\Yr t l=some (lowN t l:Int)/\Jz t l=some (lowN t l:Int):=by
 obtain⟨s,h1,h2,h3⟩:=W14 h hne
 have:lowN t l=s:=by unfold lowN;rw[h2];simp
 rw[this];exact⟨h1,h2,h3⟩
def isUp(s:State)(n:Int):Bool:=(idx s.up n).getD false
noncomputable def runFit(s:State)(x:Run):Bool:=x.nodes.all (isUp s)&&ascB x.nodes&&decide (lev s.topo (lowN s.topo x.nodes)<=x.job.level)
def endOk(s:State)(e:End):Bool:=(decide (1<=e.id)&&decide (e.id<=999))&&(decide (0<=e.t)&&decide (e.t<=s.now))&&(decide (1<=e.why)&&decide (e.why<=4))
noncomputable def stateOk(s:State):Bool:=((Uc s).getD Mo).2&&(decide (0<=s.depth)&&decide (s.depth<=60))&&queueOk (allJobs s)&&decide (s.ends.length<=300)&&s.runs.all (runFit s)&&s.ends.all (endOk s)
theorem Y0Y{a b:Int}:decide (b<a) = !decide (a<=b):=by rw[Bool.eq_iff_iff];simp
theorem V0W{s:State}(_:TopoP s.topo)(hu:s.up.length=s.topo.nodes.length)(hR:RunsP s){x:Run}(hx:x∈s.runs) :
  x.nodes≠[]/\W5 s.topo x.nodes=true/\x.nodes.length<=24/\∀n∈x.nodes,∃b,idx s.up n=some b:=by
 obtain⟨h1,h2,h3,_,_⟩:=hR.job x hx
 have hj:=(VD.1 h1).2.2.1
 refine⟨fun e=>by rw[e]at h2;simp at h2;omega,h3,by omega,fun n hn=>?_⟩
 have:=(O6.1 h3).2 n hn
 obtain⟨b,q,_⟩:=Md (l:=s.up) (i:=n) this.1 (by rw[hu];exact this.2)
 exact⟨b,q⟩
theorem U0N{s:State}(hT:TopoP s.topo)(hu:s.up.length=s.topo.nodes.length)(hR:RunsP s){x:Run}(hx:x∈s.runs)(k:Unit->Option Bool)(i:Nat):Uq s x i () k=bif !runFit s x then some false else k ():=by
 obtain⟨h1,h2,h3,h4⟩:=V0W hT hu hR hx
 obtain⟨l1,l2,l3⟩:=W1i h2 h1
 unfold Uq
 have hk:Y9 s x k ()=bif decide (lev s.topo (lowN s.topo x.nodes)<=x.job.level)then k ()else some false:=by
  unfold Y9
  rw[l2,bS,Qd hT l1,bS,Y0Y]
  cases decide (lev s.topo (lowN s.topo x.nodes)<=x.job.level)<;>rfl
 have:rgl (Qq s x) (Y9 s x k) x.nodes 0 ()=bif x.nodes.all (isUp s)&&ascB x.nodes then Y9 s x k ()else some false:=by
  refine U7 (fun i (_:Unit)=>(∀j n,j<i->x.nodes[j]?=some n->isUp s n=true)/\∀j a b,j+1<i->x.nodes[j]?=some a->x.nodes[j+1]?=some b->a<b) (fun o=>o=bif x.nodes.all (isUp s)&&ascB x.nodes then Y9 s x k ()else some false) (fun i n b kc hi hI hkc=>?_) (fun b hI=>?_) ⟨fun j n h=>by omega,fun j a b h=>by omega⟩
  .have hil:=(yB hi).1
   obtain⟨u,hu'⟩:=h4 n (yE hi)
   have hup:isUp s n=u:=by unfold isUp;rw[hu'];rfl
   unfold Qq
   rw[hu',bS]
   cases u with
   |false =>
    have:x.nodes.all (isUp s)=false:=List.all_eq_false.2 ⟨n,yE hi,by rw[hup];simp⟩
    rw[this];rfl
   |true =>
    have new:∀j m,j<i+1->x.nodes[j]?=some m->isUp s m=true:=by
     intro j m hj hm
     by_cases e:j=i
     .subst e;rw[hi]at hm;cases hm;exact hup
     .exact hI.1 j m (by omega) hm
    by_cases h0:i=0
    .subst h0
     exact hkc () ⟨new,fun j a b hj=>by omega⟩
    .have hgt:decide ((0:Int)<(i:Int))=true:=by simp;omega
     obtain⟨q,hq⟩:∃q,x.nodes[i-1]?=some q:=⟨_,yA (by omega)⟩
     rw[hgt,U0v (by omega) (by omega)]
     simp only[yL,yM,yN,Bool.false_or,Bool.true_and,Y8,hq,bS]
     by_cases h5:n<=q
     .have:ascB x.nodes=false:=by
       rw[Bool.eq_false_iff]
       intro w
       have:=U0w.1 w (i-1) q n hq (by rw[show i-1+1=i by omega];exact hi)
       omega
      rw[this,Bool.and_false];simp[h5]
     .simp only[h5,decide_false,yM]
      refine hkc () ⟨new,fun j a b hj ha hb=>?_⟩
      by_cases e:j+1=i
      .have:j=i-1:=by omega
       subst this
       rw[hq]at ha;cases ha
       rw[show i-1+1=i by omega,hi]at hb;cases hb
       omega
      .exact hI.2 j a b (by omega) ha hb
  .have e1:x.nodes.all (isUp s)=true:=List.all_eq_true.2 fun n hn=>by
    obtain⟨j,hj⟩:=List.getElem?_of_mem hn
    exact hI.1 j n (yB hj).1 hj
   have e2:ascB x.nodes=true:=U0w.2 fun j a b ha hb=>hI.2 j a b (yB hb).1 ha hb
   rw[e1,e2];rfl
 rw[this,hk]
 unfold runFit
 cases x.nodes.all (isUp s)<;>cases ascB x.nodes<;>cases decide (lev s.topo (lowN s.topo x.nodes)<=x.job.level)<;>rfl
theorem V1p{s:State}(hT:TopoP s.topo)(hu:s.up.length=s.topo.nodes.length)(hR:RunsP s){x:Run}(hx:x∈s.runs)(k:Unit->Option Bool)(i:Nat):Jq s x i () k=bif !runFit s x then some false else k ():=by
 obtain⟨h1,h2,h3,h4⟩:=V0W hT hu hR hx
 obtain⟨l1,l2,l3⟩:=W1i h2 h1
 unfold Jq
 rw[Mf (r:=some false) (p:=fun n=>!isUp s n) (fun n hn i k=>by
  obtain⟨u,hu'⟩:=h4 n hn
  unfold ZG isUp
  rw[hu',bS];rfl),← List.not_all_eq_any_not]
 unfold JF
 rw[L09 (by omega),bS]
 unfold runFit
 cases x.nodes.all (isUp s)with
 |false=>rfl
 |true =>
 cases ascB x.nodes with
 |false=>rfl
 |true =>
  simp only[yL,yM,l3,bS,VM hT l1,Bool.false_or,Bool.true_and,Y0Y]
theorem Jc{s:State}(hs:s.queue.length+s.runs.length<=1048576):X5 s=some (stateOk s)/\Ms s=some (stateOk s):=by
 obtain⟨q,h1,h2⟩:=Wq s
 unfold X5 Ms stateOk
 rw[M0J,h1,bS,bS,J0l,YK hs,Option.getD_some]
 have e1:(decide (s.depth<0)||decide (60<s.depth)) = !(decide (0<=s.depth)&&decide (s.depth<=60)):=by rw[Bool.eq_iff_iff];simp
 have e2:V0 s.depth 0 60=(decide (0<=s.depth)&&decide (s.depth<=60)):=rfl
 have e3:decide ((300:Int)<(s.ends.length:Int)) = !decide (s.ends.length<=300):=by rw[Bool.eq_iff_iff];simp;omega
 rw[Bool.or_assoc,e1,e2,e3]
 cases hq:q.2 with
 |false=>exact⟨rfl,rfl⟩
 |true =>
 obtain⟨a1,a2,a3,a4,a5⟩:=h2 hq
 have hT:TopoP s.topo:=by rw[← a3];exact a2.topo
 have hu:s.up.length=s.topo.nodes.length:=by rw[← a3,← a4];exact a2.up
 cases(decide (0<=s.depth)&&decide (s.depth<=60))with
 |false=>exact⟨rfl,rfl⟩
 |true =>
 simp only[yL,Bool.or_self,yM,bS,MK,W0C,Bool.false_or,Bool.true_and]
 cases queueOk (allJobs s)with
 |false=>exact⟨rfl,rfl⟩
 |true =>
 cases decide (s.ends.length<=300)with
 |false=>exact⟨rfl,rfl⟩
 |true =>
 simp only[yL,Bool.or_self,yM,Bool.true_and]
 rw[Mf (r:=some false) (p:=fun x=>!runFit s x) (fun x hx i k=>U0N hT hu a5 hx k i),Mf (r:=some false) (p:=fun x=>!runFit s x) (fun x hx i k=>V1p hT hu a5 hx k i),← List.not_all_eq_any_not]
 unfold LE LF
 have f1:∀e:End,((((((decide (e.id<1))||(decide (999<e.id)))||(decide (e.t<0)))||(decide (s.now<e.t)))||(decide (e.why<1)))||(decide (4<e.why))) = !endOk s e:=by
  intro e;unfold endOk;rw[Bool.eq_iff_iff];simp;omega
 have f2:∀e:End,(((!(V0 e.id 1 999))||(!(V0 e.t 0 s.now)))||(!(V0 e.why 1 4))) = !endOk s e:=by
  intro e;unfold endOk V0
  cases(decide (1<=e.id)&&decide (e.id<=999))<;>cases(decide (0<=e.t)&&decide (e.t<=s.now))<;>cases(decide (1<=e.why)&&decide (e.why<=4))<;>rfl
 rw[Mf (bd:=Vq s) (r:=some false) (p:=fun e=>!endOk s e) (fun e he i k=>by unfold Vq;rw[f1]),Mf (bd:=Lq s) (r:=some false) (p:=fun e=>!endOk s e) (fun e he i k=>by unfold Lq;rw[f2]),← List.not_all_eq_any_not]
 unfold ME MF
 cases s.runs.all (runFit s)<;>cases s.ends.all (endOk s)<;>exact⟨rfl,rfl⟩
structure StateP(s:State):Prop where
 topo:TopoP s.topo
 up:s.up.length=s.topo.nodes.length
 lic:W0 s.lic=true
 now:time s.now=true
 room:∃r,Uc s=some (r,true)/\RoomP r/\r.topo=s.topo/\r.up=s.up
 runs:RunsP s
 depth:0<=s.depth/\s.depth<=60
 queue:queueOk (allJobs s)=true
 ends:s.ends.length<=300
 fit:∀x∈s.runs,runFit s x=true
 fin:∀e∈s.ends,endOk s e=true
theorem Q0e{s:State}(h:stateOk s=true):StateP s:=by
 obtain⟨q,h1,h2⟩:=Wq s
 unfold stateOk at h
 rw[h1,Option.getD_some]at h
 simp only[yD,yO,List.all_eq_true]at h
 obtain⟨⟨⟨⟨⟨a1,a2⟩,a3⟩,a4⟩,a5⟩,a6⟩:=h
 obtain⟨b1,b2,b3,b4,b5⟩:=h2 a1
 unfold VO at b1
 simp only[yD,yO,UJ]at b1
 exact⟨b1.1.1.1,b1.1.1.2,b1.1.2,b1.2,⟨q.1,by rw[h1,← a1],b2,b3,b4⟩,b5,a2,a3,a4,a5,a6⟩
def X0I:L :=
.seq (rE 2 (cB false))
 (.seq (.seq (rE 3 (kI 0))
 (.blk 0 (.loop (.gw (.seq (sR [mV 4 3,mV 5 0,.ls 6 5,bI 7 .lss 4 6]
 (.cond 7 .skip
 (.exit 0)))
 (.seq (.blk 1 (sR [mV 10 0,mV 11 3,.ix 12 10 11,.bi 13 .lss 12 (.c (.int .u8 97)),mV 14 13,gF 14 (mV 15 0),gF 14 (mV 16 3),gF 14 (.ix 17 15 16),gF 14 (.bi 18 .gtr 17 (.c (.int .u8 122))),.pk 19 14 (cB true) 18]
 (.cond 19 (.seq (rE 2 (cB false))
 gR)
 .skip)))
 (.reg [mV 8 3,.bi 9 .add 8 (kI 1),mV 3 9])))))))
 (sR [mV 20 0,.ls 21 20,.cq 22 U1 [21,(kI 1),(kI 8)],mV 2 22]
 gR))
def UM(s1:Str)(v2:Int)(k2:Int->Option Bool):Option Bool :=
 bif (decide (v2<(s1.length:Int)))then((idx s1 v2).bind fun c3=>bif ((decide ((c3.toNat:Int)<97))||(decide (122<(c3.toNat:Int))))then(some false)else(k2 (w64 (v2+1))))else(some (V0 (s1.length:Int) 1 8))
def QM(s1:Str):Option Bool :=
 whl (UM s1) 9223372036854775807 0
theorem X0J{s1:Str}{r:Bool}(H:QM s1=some r):Snd Tryz.prog U0i [.str s1] (.bool r) []:=by
 refine wS X0I [.t 2] ?_
 unfold QM at H
 refine wP ?_
 refine wW (fun(v2:Int)=>⟨[(0,.str s1),(3,iV v2)],[],[],[]⟩) H (fun v2 I m k2 H N18=>?_)
 unfold UM at H
 refine wP ?_
 refine O0 H (fun H=>?_) fun H=>?_
 .obtain⟨c3,h3,H⟩:=bB H
  refine wG [.u 12 (.sx _ _ _ fun _=>h3),.g 17 [((decide ((c3.toNat:Int)<97)),false)] (.sx _ _ _ fun _=>h3)] fun _=>?_
  refine O0 H (fun H=>?_) fun H=>?_
  .obtain rfl:=sI H
   exact wP (wE [(2,.d)])
  .refine wP ?_
   exact wT (N18 _ H)
 .refine wG [.u 22 (.call _ _ _ _ _ (AEs.refl _) (fun _=>Y1 (s1.length:Int) 1 8))] fun _=>?_
  replace H:=sI H;subst H
  exact wE [(2,.d)]
def L0g:L :=
.seq (rE 2 (cB false))
 (.seq (sR [mV 5 0,.ln 6 5,.mv 7 (kI 0)]
 (.blk 0 (.loop (.gw (sR [bI 8 .lss 7 6]
 (.seq (.cond 8 .skip
 (.exit 0))
 (.seq (.blk 1 (sR [mV 9 7,iA 10 5 7 3,lT 11 10 3,.al 4 [.str [],.int .i64 0,.int .i64 0],mV 3 9,.st 4 11 3]
 (.seq (.rq 31 [fA 12 4 0,lF 13 12 1,cQ 14 U0i [13],.un 15 14,mV 16 15,gF 16 (fA 17 4 1),gF 16 (lF 18 17 1),gF 16 (.cq 19 U1 [18,(kI 1),(kI 1000)]),gF 16 (.un 20 19),.pk 21 16 (cB true) 20,mV 22 21,gF 22 (fA 23 4 2),gF 22 (lF 24 23 1),gF 22 (.cq 25 U1 [24,(kI 0),(kI 1000000000)]),gF 22 (.un 26 25),.pk 27 22 (cB true) 26,mV 28 27,gF 28 (mV 29 3),gF 28 (.bi 30 .gtr 29 (kI 0)),gF 28 (mV 31 30),gT 31 (mV 32 0),gT 31 (mV 33 3),gT 31 (.bi 34 .sub 33 (kI 1)),gT 31 (iA 35 32 34 3),gT 31 (fA 36 35 0),gT 31 (lF 37 36 1),gT 31 (fA 38 4 0),gT 31 (lF 39 38 1),gT 31 (bI 40 .geq 37 39),gF 28 (.pk 41 31 40 (cB false)),.pk 42 28 (cB true) 41])
 (.cond 42 (.seq (rE 2 (cB false))
 gR)
 .skip))))
 (.reg [.bi 43 .add 7 (kI 1),mV 7 43]))))))))
 (sR [mV 44 0,.ln 45 44,.bi 46 .leq 45 (kI 12),mV 2 46]
 gR))
def Ur(l1:List Account)(x3:Account)(i3:Nat)(_:Unit)(k3:Unit->Option Bool):Option Bool :=
 (QM x3.name).bind fun b4=>(bif (((!b4)||(!(V0 x3.share 1 1000)))||(!(V0 x3.used 0 1000000000)))then some default else(bif (decide (0<(i3:Int)))then(idx l1 (w64 ((i3:Int)-1)))else some default)).bind fun e5=>bif ((((!b4)||(!(V0 x3.share 1 1000)))||(!(V0 x3.used 0 1000000000)))||((decide (0<(i3:Int)))&&(!(Op.bytesLess e5.name x3.name))))then(some false)else(k3 ())
def Vr(l1:List Account)(_:Unit):Option Bool :=
 some (decide ((l1.length:Int)<=12))
def Yg(l1:List Account):Option Bool :=
 rgl (Ur l1) (Vr l1) l1 0 ()
theorem MP{l1:List Account}{r:Bool}(H:Yg l1=some r):Snd Tryz.prog UA [rV 3 (l1.map O3)] (.bool r) []:=by
 refine wS L0g [.t 2] ?_
 unfold Yg at H
 refine wG [.u 6 (.ln _ _ fun _=>lm l1 O3)] fun q2=>?_
 refine wR (fun(i3:Nat) (v3:Unit)=>⟨[(0,rV 3 (l1.map O3)),(5,rV 3 (l1.map O3)),(6,iV (l1.length:Int)),(7,iV (i3:Int))],[],[],[]⟩) H (fun i3 x3 v3 I m k3 hxv3 hiv3 H N20=>?_) (fun v3 I m H=>?_)
 .unfold Ur at H
  refine wP ?_
  refine wt (ltT hiv3) ?_
  obtain⟨b4,h4,H⟩:=bB H
  obtain⟨e5,h5,H⟩:=bB H
  refine wG [.u 10 (.ix _ _ _ fun _=>Q0 O3 (J0 hxv3)),.c 14 (X0J h4),.g 19 [((!b4),false)] (.call _ _ _ _ _ (AEs.refl _) (fun _=>Y1 x3.share 1 1000)),.g 25 [(((!b4)||(!(V0 x3.share 1 1000))),false)] (.call _ _ _ _ _ (AEs.refl _) (fun _=>Y1 x3.used 0 1000000000)),.g 35 [(_,true),(_,false)] (.ix _ _ _ fun q=>Q0 O3 (bT q.1 (bF q.2.1 h5)))] fun _=>?_
  refine O0 H (fun H=>?_) fun H=>?_
  .obtain rfl:=sI H
   exact wP (wE [(2,.d)])
  .refine wG [.w 43 (wi .i64 rfl hiv3 q2.1)] fun _=>?_
   exact wT (N20 () H)
 .unfold Vr at H
  refine wP ?_
  refine wf (ltF l1.length) ?_
  refine wG [.u 45 (.ln _ _ fun _=>lm l1 O3)] fun q6=>?_
  replace H:=sI H;subst H
  exact wE [(2,.d)]
def M0l:L :=
.seq (rE 4 (kI 0))
 (.seq (sR [mV 7 0,cQ 8 UA [7],.un 9 8]
 (.cond 9 (.seq (rE 4 (kI (-1)))
 gR)
 .skip))
 (.seq (sR [mV 10 0,.ln 11 10,.mv 12 (kI 0)]
 (.blk 0 (.loop (.gw (sR [bI 13 .lss 12 11]
 (.seq (.cond 13 .skip
 (.exit 0))
 (.seq (.blk 1 (sR [mV 14 12,iA 15 10 12 3,lT 16 15 3,.al 6 [.str [],.int .i64 0,.int .i64 0],mV 5 14,.st 6 16 3]
 (sR [fA 17 6 0,lF 18 17 1,mV 19 1,bI 20 .eql 18 19]
 (.cond 20 (sR [mV 21 5,mV 4 21]
 gR)
 .skip))))
 (.reg [.bi 22 .add 12 (kI 1),mV 12 22]))))))))
 (.seq (rE 4 (kI (-1)))
 gR)))
def Uw(name2:Str)(x5:Account)(i5:Nat)(_:Unit)(k5:Unit->Option Int):Option Int :=
 bif (x5.name==name2)then(some (i5:Int))else(k5 ())
def LP(_:Unit):Option Int :=
 some (-1)
def Xp(l1:List Account)(name2:Str):Option Int :=
 (Yg l1).bind fun b3=>bif (!b3)then(some (-1))else(rgl (Uw name2) LP l1 0 ())
theorem Q0m{l1:List Account}{name2:Str}{r:Int}(H:Xp l1 name2=some r):Snd Tryz.prog Z02 [rV 3 (l1.map O3),.str name2] (iV r) []:=by
 refine wS M0l [.t 4] ?_
 unfold Xp at H
 obtain⟨b3,h3,H⟩:=bB H
 refine wG [.c 8 (MP h3)] fun _=>?_
 refine O0 H (fun H=>?_) fun H=>?_
 .obtain rfl:=sI H
  exact wP (wE [(4,.d)])
 .refine wG [.u 11 (.ln _ _ fun _=>lm l1 O3)] fun q4=>?_
  refine wR (fun(i5:Nat) (v5:Unit)=>⟨[(1,.str name2),(10,rV 3 (l1.map O3)),(11,iV (l1.length:Int)),(12,iV (i5:Int))],[],[],[]⟩) H (fun i5 x5 v5 I m k5 hxv5 hiv5 H N27=>?_) (fun v5 I m H=>?_)
  .unfold Uw at H
   refine wP ?_
   refine wt (ltT hiv5) ?_
   refine wG [.u 15 (.ix _ _ _ fun _=>Q0 O3 (J0 hxv5))] fun _=>?_
   refine O0 H (fun H=>?_) fun H=>?_
   .obtain rfl:=sI H
    exact wP (wE [(4,.d)])
   .refine wG [.w 22 (wi .i64 rfl hiv5 q4.1)] fun _=>?_
    exact wT (N27 () H)
  .unfold LP at H
   refine wP ?_
   refine wf (ltF l1.length) ?_
   obtain rfl:=sI H
   exact wP (wE [(4,.d)])
def L0I:L :=
sR [.mv 6 (.c (.nl)),.mv 7 (cB false)]
 (sR [mV 10 0,mV 11 1,cQ 12 Z02 [10,11],mV 8 12]
 (.seq (sR [mV 13 8,.bi 14 .lss 13 (kI 0),mV 15 14,gF 15 (mV 16 2),gF 15 (.cq 17 U1 [16,(kI 0),(kI 1000000000)]),gF 15 (.un 18 17),.pk 19 15 (cB true) 18]
 (.cond 19 (sR [.mv 6 (.c (.nl)),.mv 7 (cB false)]
 gR)
 .skip))
 (sR [mV 20 0,.ap 21 (.c (.nl)) 20 3 32,mV 9 21]
 (sR [mV 22 9,mV 23 8,mV 24 9,mV 25 8,iA 26 24 25 3,fA 27 26 2,lF 28 27 1,mV 29 2,bI 30 .add 28 29,.mm 31 false (kI 1000000000) 30,iA 32 22 23 3,fA 33 32 2,.st 33 31 1]
 (sR [mV 34 9,mV 6 34,.mv 7 (cB true)]
 gR)))))
def ZN(l1:List Account)(name2:Str)(n3:Int):Option ((List Account)×Bool) :=
 (Xp l1 name2).bind fun n4=>bif ((decide (n4<0))||(!(V0 n3 0 1000000000)))then(some ([],false))else((appL 32 ([]:List Account) l1).bind fun xs5=>(idx xs5 n4).bind fun e6=>some ((xs5.set n4.toNat (Account.mk e6.name e6.share (min 1000000000 (w64 (e6.used+n3))))),true))
theorem Y0K{l1:List Account}{name2:Str}{n3:Int}{r:(List Account)×Bool}(H:ZN l1 name2 n3=some r):Snd Tryz.prog M0i [rV 3 (l1.map O3),.str name2,iV n3] (.tup [nV 3 (r.1.map O3),.bool r.2]) []:=by
 refine wS L0I [.t 6,.t 7] ?_
 unfold ZN at H
 obtain⟨n4,h4,H⟩:=bB H
 refine wG [.c 12 (Q0m h4),.g 17 [((decide (n4<0)),false)] (.call _ _ _ _ _ (AEs.refl _) (fun _=>Y1 n3 0 1000000000))] fun _=>?_
 refine O0 H (fun H=>?_) fun H=>?_
 .refine wP ?_
  replace H:=sI H;subst H
  exact wN [(6,.n 3),(7,.d)] [] [] [] [] [⟨_,O08 ([]:List Account)⟩]
 .obtain⟨xs5,h5,H⟩:=bB H
  obtain⟨e6,h6,H⟩:=bB H
  refine wG [.u 21 (.ap _ _ _ _ fun _=>L0 O3 h5),.u 26 (.ix _ _ _ fun _=>Q0 O3 h6),.u 28 (.el _ _ _ fun _=>gm O3 (Y5 h6)),.u 32 (.ix _ _ _ fun _=>Q0 O3 h6),.u 1000000 (.sto _ _ _ (O3 (Account.mk e6.name e6.share (min 1000000000 (w64 (e6.used+n3))))) _ (fun _=>gm O3 (Y5 h6)) (fun _=>Xz ..))] fun _=>?_
  replace H:=sI H;subst H
  exact wN [(6,.f),(7,.d)] [] [] [21] [] [⟨_,O08 (xs5.set n4.toNat (Account.mk e6.name e6.share (min 1000000000 (w64 (e6.used+n3)))))⟩]
end Go.Proofs.YtpgaganbacipnaaGreat
