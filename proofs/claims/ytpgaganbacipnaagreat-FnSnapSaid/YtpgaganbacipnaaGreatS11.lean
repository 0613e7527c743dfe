/-
  Lemmas, part 11.
-/
import Derived.Test.YtpgaganbacipnaaGreatS10
import Derived.Test.YtpgaganbacipnaaGreatS1
namespace Go.Proofs.YtpgaganbacipnaaGreat
open Go Go.RowKit Eng Go.Sort
def U0E(x y:Job):Bool:=!decide (x.prio<y.prio\/(x.prio=y.prio/\y.id<x.id))
def O1z(l:List Job):Prop:=(l.map (·.id)).Nodup/\(∀j∈l,-2305843009213693952<=j.prio/\j.prio<=2305843009213693952/\-2305843009213693952<=j.id/\j.id<=2305843009213693952)/\l.length<4611686018427387904
instance(l:List Job):Decidable (O1z l):=by unfold O1z;infer_instance
end Go.Proofs.YtpgaganbacipnaaGreat
namespace Go.Proofs.YtpgaganbacipnaaGreat
open Go Go.RowKit Eng
noncomputable def U0O:L :=
 lf Tryz.prog M0l [] [] [] [] [(11,8)] [] []
def Un(l1:List Job)(i4:Nat)(x4:Job)(k4:Unit->Option Bool)(v5:Int)(k5:Int->Option Bool):Option Bool :=
 bif (decide (v5<(i4:Int)))then((idx l1 v5).bind fun e6=>bif (e6.id==x4.id)then(some false)else(k5 (w64 (v5+1))))else(k4 ())
def WM(l1:List Job)(x4:Job)(i4:Nat)(_:Unit)(k4:Unit->Option Bool):Option Bool :=
 bif (!(U1 x4))then(some false)else(whl (Un l1 i4 x4 k4) 9223372036854775807 0)
def QM(_:Unit):Option Bool :=
 some true
def Mp(l1:List Job):Option Bool :=
 bif (decide (60<(l1.length:Int)))then(some false)else(rgl (WM l1) QM l1 0 ())
theorem VS{l1:List Job}{r:Bool}(H:Mp l1=some r):Snd Tryz.prog M0l [rV 11 (l1.map eJob)] (.bool r) []:=by
 refine wS U0O [.t 2] ?_
 unfold Mp at H
 refine wG [.u 7 (.ln _ _ fun _=>lm l1 eJob)] fun q2=>?_
 refine O0 H (fun H=>?_) fun H=>?_
 .obtain rfl:=sI H
  exact wP (wE [(2,.d)])
 .refine wG [.u 10 (.ln _ _ fun _=>lm l1 eJob)] fun q3=>?_
  refine wR (fun(i4:Nat) (v4:Unit)=>⟨[(0,rV 11 (l1.map eJob)),(9,rV 11 (l1.map eJob)),(10,iV (l1.length:Int)),(11,iV (i4:Int))],[],[],[]⟩) H (fun i4 x4 v4 I m k4 hxv4 hiv4 H N48=>?_) (fun v4 I m H=>?_)
  .unfold WM at H
   refine wP ?_
   refine wt (ltT hiv4) ?_
   refine wG [.u 14 (.ix _ _ _ fun _=>V0 eJob (Z1 hxv4)),.c 17 (WP x4)] fun _=>?_
   refine O0 H (fun H=>?_) fun H=>?_
   .obtain rfl:=sI H
    exact wP (wE [(2,.d)])
   .refine wP ?_
    refine wW (fun(v5:Int)=>⟨[(0,rV 11 (l1.map eJob)),(3,iV (i4:Int)),(4,.ptr 4 0),(5,iV v5),(9,rV 11 (l1.map eJob)),(10,iV (l1.length:Int)),(11,iV (i4:Int))],[],[(4,(eJob x4).cells)],[]⟩) H (fun v5 I m k5 H N38=>?_)
    unfold Un at H
    refine wP ?_
    refine O0 H (fun H=>?_) fun H=>?_
    .obtain⟨e6,h6,H⟩:=bB H
     refine wG [.u 26 (.ix _ _ _ fun _=>V0 eJob h6)] fun _=>?_
     refine O0 H (fun H=>?_) fun H=>?_
     .obtain rfl:=sI H
      exact wP (wE [(2,.d)])
     .refine wP ?_
      exact wT (N38 _ H)
    .refine wG [.w 32 (wi .i64 rfl hiv4 q2.1)] fun _=>?_
     exact wT (N48 () H)
  .unfold QM at H
   refine wP ?_
   refine wf (ltF l1.length) ?_
   obtain rfl:=sI H
   exact wP (wE [(2,.d)])
noncomputable def Y0w:L :=
 lf Tryz.prog WO [] [] [] [] [] [] []
def Jv(a1 b2:Job):Option Bool :=
 some ((decide (b2.prio<a1.prio))||((a1.prio==b2.prio)&&(decide (a1.id<b2.id))))
theorem L0m{a1 b2:Job}{r:Bool}(H:Jv a1 b2=some r):Snd Tryz.prog WO [eJob a1,eJob b2] (.bool r) []:=by
 refine wS Y0w [.t 4] ?_
 unfold Jv at H
 obtain rfl:=sI H
 exact wP (wE [(4,.d)])
def J8(a1 b2:Job):Bool :=
 ((decide (b2.prio<a1.prio))||((a1.prio==b2.prio)&&(decide (a1.id<b2.id))))
theorem V0C(a1 b2:Job):Jv a1 b2=some (J8 a1 b2):=by
 unfold Jv J8
 first|rfl|simp only[O8]
theorem Q0u(a1 b2:Job):Snd Tryz.prog WO [eJob a1,eJob b2] (.bool (J8 a1 b2)) []:=L0m (V0C a1 b2)
noncomputable def O15:L :=
 lf Tryz.prog X0B [10,21] [] [] [] [] [] [32087347]
def Md(x6:Job)(k6:(Bool×(List Job))->Option (List Job))(v8:Bool×(List Job)):Option (List Job) :=
 (appL 88 v8.2 [x6]).bind fun xs9=>k6 (v8.1,xs9)
def Jn(x4 x6:Job)(_:Nat)(v6:Bool×(List Job))(k6:(Bool×(List Job))->Option (List Job)):Option (List Job) :=
 bif ((!v6.1)&&(J8 x4 x6))then((appL 88 v6.2 [x4]).bind fun xs7=>(Md x6 k6) (true,xs7))else((Md x6 k6) (v6.1,v6.2))
def Mn(x4:Job)(k4:(List Job)->Option (List Job))(v6:Bool×(List Job)):Option (List Job) :=
 bif (!v6.1)then((appL 88 v6.2 [x4]).bind fun xs10=>k4 xs10)else(k4 v6.2)
def OJ(x4:Job)(_:Nat)(v4:(List Job))(k4:(List Job)->Option (List Job)):Option (List Job) :=
 rgl (Jn x4) (Mn x4 k4) v4 0 (false,[])
def MY(v4:(List Job)):Option (List Job) :=
 some v4
def O00(l1:List Job):Option (List Job) :=
 (Mp l1).bind fun b2=>bif (!b2)then(some [])else(rgl OJ MY l1 0 [])
theorem V12{l1:List Job}{r:(List Job)}(H:O00 l1=some r):Snd Tryz.prog X0B [rV 11 (l1.map eJob)] (nV 11 (r.map eJob)) []:=by
 refine wS O15 [.t 2] ?_
 unfold O00 at H
 obtain⟨b2,h2,H⟩:=bB H
 refine wG [.c 12 (VS h2)] fun _=>?_
 refine O0 H (fun H=>?_) fun H=>?_
 .refine wP ?_
  replace H:=sI H;subst H
  exact wN [(2,.f)] [] [] [10] [] [⟨_,MC ([]:List Job)⟩]
 .refine wG [.u 16 (.ln _ _ fun _=>lm l1 eJob)] fun q3=>?_
  refine wR (fun(i4:Nat) (v4:(List Job))=>⟨[(3,.sref 10),(15,rV 11 (l1.map eJob)),(16,iV (l1.length:Int)),(17,iV (i4:Int))],[],[],[(10,⟨11,v4.map eJob,false⟩)]⟩) H (fun i4 x4 v4 I m k4 hxv4 hiv4 H N57=>?_) (fun v4 I m H=>?_)
  .unfold OJ at H
   refine wP ?_
   refine wt (ltT hiv4) ?_
   refine wG [.u 19 (.ix _ _ _ fun _=>V0 eJob (Z1 hxv4)),.u 23 (.ln _ _ fun _=>lm v4 eJob)] fun q5=>?_
   refine wR (fun(i6:Nat) (v6:Bool×(List Job))=>⟨[(5,.ptr 5 0),(6,.sref 21),(7,.bool v6.1),(15,rV 11 (l1.map eJob)),(16,iV (l1.length:Int)),(17,iV (i4:Int)),(22,.sref 10),(23,iV (v4.length:Int)),(24,iV (i6:Int))],[],[(5,(eJob x4).cells)],[(21,⟨11,v6.2.map eJob,false⟩),(10,⟨11,v4.map eJob,false⟩)]⟩) H (fun i6 x6 v6 I m k6 hxv6 hiv6 H N38=>?_) (fun v6 I m H=>?_)
   .unfold Jn at H
    refine wP ?_
    refine wt (ltT hiv6) ?_
    refine wG [.u 26 (.ix _ _ _ fun _=>V0 eJob (Z1 hxv6)),.u 27 (.el _ _ _ fun _=>gm eJob (Q7 (Z1 hxv6))),.g 33 [((!v6.1),true)] (.call _ _ _ _ _ (AEs.refl _) (fun _=>Q0u x4 x6))] fun _=>?_
    refine Q6 (r:=r) (Md x6 k6) 0 (fun v8:Bool×(List Job)=>⟨[(5,.ptr 5 0),(6,.sref 21),(7,.bool v8.1),(9,.ptr 9 0),(15,.sl .rd 11 (l1.map eJob)),(16,.int .i64 (l1.length:Int)),(17,.int .i64 (i4:Int)),(22,.sref 10),(23,.int .i64 (v4.length:Int)),(24,.int .i64 (i6:Int))],[],[(5,(eJob x4).cells),(9,(eJob x6).cells)],[(21,⟨11,v8.2.map eJob,false⟩),(10,⟨11,v4.map eJob,false⟩)]⟩) (by kernel_rfl) (fun v8 H=>?_) (fun J30=>?_)
    .unfold Md at H
     obtain⟨xs9,h9,H⟩:=bB H
     refine wG [.u 42 (.ap _ _ _ _ fun _=>L0 eJob h9),.w 43 (wi .i64 rfl hiv6 q5.1)] fun _=>?_
     exact wT (N38 _ H)
    .refine O0 H (fun H=>?_) fun H=>?_
     .obtain⟨xs7,h7,H⟩:=bB H
      refine wG [.u 38 (.ap _ _ _ _ fun _=>L0 eJob h7)] fun _=>?_
      exact wT (J30 _ H)
     .refine wP ?_
      exact wT (J30 _ H)
   .unfold Mn at H
    refine wP ?_
    refine wf (ltF v4.length) ?_
    refine wP ?_
    refine O0 H (fun H=>?_) fun H=>?_
    .obtain⟨xs10,h10,H⟩:=bB H
     refine wG [.u 49 (.ap _ _ _ _ fun _=>L0 eJob h10),.w 51 (wi .i64 rfl hiv4 q3.1)] fun _=>?_
     exact U0o (N57 _ H) [] [] [(10,(some 21,0))] [] (by kernel_rfl) (by kernel_rfl)
    .refine wG [.w 51 (wi .i64 rfl hiv4 q3.1)] fun _=>?_
     exact U0o (N57 _ H) [] [] [(10,(some 21,0))] [] (by kernel_rfl) (by kernel_rfl)
  .unfold MY at H
   refine wP ?_
   refine wf (ltF l1.length) ?_
   refine wP ?_
   replace H:=sI H;subst H
   exact wN [(2,.f)] [] [] [10] [] [⟨_,MC v4⟩]
noncomputable def U0N:L :=
 lf Tryz.prog J0k [] [] [] [] [] [] []
def Yh(id2:Int)(x4:Job)(_:Nat)(_:Unit)(k4:Unit->Option (Job×Bool)):Option (Job×Bool) :=
 bif (x4.id==id2)then(some (x4,true))else(k4 ())
def JL(_:Unit):Option (Job×Bool) :=
 some ((Job.mk 0 0 0 (Vec.mk 0 0 0) (Vec.mk 0 0 0) 0 0),false)
def Lh(l1:List Job)(id2:Int):Option (Job×Bool) :=
 rgl (Yh id2) JL l1 0 ()
theorem VA{l1:List Job}{id2:Int}{r:Job×Bool}(H:Lh l1 id2=some r):Snd Tryz.prog J0k [rV 11 (l1.map eJob),iV id2] (.tup [eJob r.1,.bool r.2]) []:=by
 refine wS U0N [.c 4 11 true,.t 5] ?_
 unfold Lh at H
 refine wG [.u 9 (.ln _ _ fun _=>lm l1 eJob)] fun q3=>?_
 refine wR (fun(i4:Nat) (v4:Unit)=>⟨[(1,iV id2),(4,.ptr 4 0),(8,rV 11 (l1.map eJob)),(9,iV (l1.length:Int)),(10,iV (i4:Int))],[],[(4,(eJob (Job.mk 0 0 0 (Vec.mk 0 0 0) (Vec.mk 0 0 0) 0 0)).cells)],[]⟩) H (fun i4 x4 v4 I m k4 hxv4 hiv4 H N20=>?_) (fun v4 I m H=>?_)
 .unfold Yh at H
  refine wP ?_
  refine wt (ltT hiv4) ?_
  refine wG [.u 12 (.ix _ _ _ fun _=>V0 eJob (Z1 hxv4))] fun _=>?_
  refine O0 H (fun H=>?_) fun H=>?_
  .refine wP ?_
   replace H:=sI H;subst H
   exact wN [(4,.d),(5,.d)] [(4,[])] [] [] [] []
  .refine wG [.w 19 (wi .i64 rfl hiv4 q3.1)] fun _=>?_
   exact wT (N20 () H)
 .unfold JL at H
  refine wP ?_
  refine wf (ltF l1.length) ?_
  refine wP ?_
  replace H:=sI H;subst H
  exact wN [(4,.d),(5,.d)] [(4,[])] [] [] [] []
noncomputable def Y0x:L :=
 lf Tryz.prog Oh [] [] [] [] [] [] []
def Vx(k1 x2:Job):Option Bool :=
 some (k1.id==x2.id)
theorem J0n{k1 x2:Job}{r:Bool}(H:Vx k1 x2=some r):Snd Tryz.prog Oh [eJob k1,.ept (eJob x2) 0] (.bool r) []:=by
 refine wS Y0x [.t 3] ?_
 unfold Vx at H
 obtain rfl:=sI H
 exact wP (wE [(3,.d)])
def Yv(k1 x2:Job):Bool :=
 (k1.id==x2.id)
theorem O0H(k1 x2:Job):Vx k1 x2=some (Yv k1 x2):=by
 unfold Vx Yv
 first|rfl|simp only[O8]
theorem M0x(k1 x2:Job):Snd Tryz.prog Oh [eJob k1,.ept (eJob x2) 0] (.bool (Yv k1 x2)) []:=J0n (O0H k1 x2)
noncomputable def Lf:L :=
 lf Tryz.prog Q2 [] [] [] [] [] [] []
def Z2(c2 x4:Job)(i4:Nat)(_:Unit)(k4:Unit->Option Int):Option Int :=
 bif (Yv x4 c2)then(some (i4:Int))else(k4 ())
def U3(_:Unit):Option Int :=
 some (-1)
def W2(s1:List Job)(c2:Job):Option Int :=
 rgl (Z2 c2) U3 s1 0 ()
theorem Of{s1:List Job}{c2:Job}{r:Int}(H:W2 s1 c2=some r):Snd Tryz.prog Q2 [rV 11 (s1.map eJob),.fn Oh [.ept (eJob c2) 0]] (iV r) []:=by
 refine wS Lf [.t 4] ?_
 unfold W2 at H
 refine wG [.u 7 (.ln _ _ fun _=>lm s1 eJob)] fun q3=>?_
 refine wR (fun(i4:Nat) (v4:Unit)=>⟨[(0,rV 11 (s1.map eJob)),(1,.fn Oh [.ept (eJob c2) 0]),(7,iV (s1.length:Int)),(8,iV (i4:Int))],[],[],[]⟩) H (fun i4 x4 v4 I m k4 hxv4 hiv4 H N20=>?_) (fun v4 I m H=>?_)
 .unfold Z2 at H
  refine wP ?_
  refine wt (ltT hiv4) ?_
  refine wG [.u 14 (.ix _ _ _ fun _=>V0 eJob (Z1 hxv4)),.u 16 (.clsr _ _ _ _ _ (AEs.refl _) (by kernel_rfl) (fun _=>M0x x4 c2))] fun _=>?_
  refine O0 H (fun H=>?_) fun H=>?_
  .refine wP ?_
   replace H:=sI H;subst H
   exact wE [(4,.d)]
  .refine wG [.w 18 (wi .i64 rfl hiv4 q3.1)] fun _=>?_
   exact wT (N20 () H)
 .unfold U3 at H
  refine wP ?_
  refine wf (ltF s1.length) ?_
  obtain rfl:=sI H
  exact wP (wE [(4,.d)])
noncomputable def Lc:L :=
 lf Tryz.prog X4 [] [] [] [] [] [] []
def Q1(s1:List Job)(c2:Job):Option Bool :=
 (W2 s1 c2).bind fun n3=>some (decide (0<=n3))
theorem Wc{s1:List Job}{c2:Job}{r:Bool}(H:Q1 s1 c2=some r):Snd Tryz.prog X4 [rV 11 (s1.map eJob),.fn Oh [.ept (eJob c2) 0]] (.bool r) []:=by
 refine wS Lc [.t 4] ?_
 unfold Q1 at H
 obtain⟨n3,h3,H⟩:=bB H
 refine wG [.c 7 (Of h3)] fun _=>?_
 replace H:=sI H;subst H
 exact wE [(4,.d)]
noncomputable def U0P:L :=
 lf Tryz.prog Q0m [] [] [] [] [] [] []
def ON(l1:List Job)(x3:Job)(i3:Nat)(_:Unit)(k3:Unit->Option Bool):Option Bool :=
 (bif (!(Zg x3))then some default else(cutL l1 none (some (i3:Int)))).bind fun xs4=>(bif (!(Zg x3))then some default else(Q1 xs4 x3)).bind fun b5=>bif ((!(Zg x3))||b5)then(some false)else(k3 ())
def WN(l1:List Job)(_:Unit):Option Bool :=
 some (decide ((l1.length:Int)<=60))
def XL(l1:List Job):Option Bool :=
 rgl (ON l1) (WN l1) l1 0 ()
theorem V0Q{l1:List Job}{r:Bool}(H:XL l1=some r):Snd Tryz.prog Q0m [rV 11 (l1.map eJob)] (.bool r) []:=by
 refine wS U0P [.t 2] ?_
 unfold XL at H
 refine wG [.u 6 (.ln _ _ fun _=>lm l1 eJob)] fun q2=>?_
 refine wR (fun(i3:Nat) (v3:Unit)=>⟨[(0,rV 11 (l1.map eJob)),(5,rV 11 (l1.map eJob)),(6,iV (l1.length:Int)),(7,iV (i3:Int))],[],[],[]⟩) H (fun i3 x3 v3 I m k3 hxv3 hiv3 H N20=>?_) (fun v3 I m H=>?_)
 .unfold ON at H
  refine wP ?_
  refine wt (ltT hiv3) ?_
  obtain⟨xs4,h4,H⟩:=bB H
  obtain⟨b5,h5,H⟩:=bB H
  refine wG [.u 10 (.ix _ _ _ fun _=>V0 eJob (Z1 hxv3)),.c 13 (U04 x3),.g 18 [(_,false)] (.sc _ _ _ _ fun q=>UX eJob (bF q.1 h4)),.g 20 [(_,false)] (.call _ _ _ _ _ (AEs.refl _) (fun q=>Wc (bF q.1 h5)))] fun _=>?_
  refine O0 H (fun H=>?_) fun H=>?_
  .obtain rfl:=sI H
   exact wP (wE [(2,.d)])
  .refine wG [.w 22 (wi .i64 rfl hiv3 q2.1)] fun _=>?_
   exact wT (N20 () H)
 .unfold WN at H
  refine wP ?_
  refine wf (ltF l1.length) ?_
  refine wG [.u 24 (.ln _ _ fun _=>lm l1 eJob)] fun q6=>?_
  replace H:=sI H;subst H
  exact wE [(2,.d)]
noncomputable def J0O:L :=
 lf Tryz.prog Mv [] [] [] [] [] [] []
def ZK(j1:Job)(x2:Int):Option Bool :=
 some (j1.id==x2)
theorem U0x{j1:Job}{x2:Int}{r:Bool}(H:ZK j1 x2=some r):Snd Tryz.prog Mv [eJob j1,.ept (.agg [iV x2]) 0] (.bool r) []:=by
 refine wS J0O [.t 3] ?_
 unfold ZK at H
 obtain rfl:=sI H
 exact wP (wE [(3,.d)])
def YL(j1:Job)(x2:Int):Bool :=
 (j1.id==x2)
theorem Q0X(j1:Job)(x2:Int):ZK j1 x2=some (YL j1 x2):=by
 unfold ZK YL
 first|rfl|simp only[O8]
theorem Z0Q(j1:Job)(x2:Int):Snd Tryz.prog Mv [eJob j1,.ept (.agg [iV x2]) 0] (.bool (YL j1 x2)) []:=U0x (Q0X j1 x2)
noncomputable def Og:L :=
 lf Tryz.prog Q2 [] [] [] [] [] [] []
def M3(c2:Int)(x4:Job)(i4:Nat)(_:Unit)(k4:Unit->Option Int):Option Int :=
 bif (YL x4 c2)then(some (i4:Int))else(k4 ())
def V6(_:Unit):Option Int :=
 some (-1)
def M1(s1:List Job)(c2:Int):Option Int :=
 rgl (M3 c2) V6 s1 0 ()
theorem Qg{s1:List Job}{c2 r:Int}(H:M1 s1 c2=some r):Snd Tryz.prog Q2 [rV 11 (s1.map eJob),.fn Mv [.ept (.agg [iV c2]) 0]] (iV r) []:=by
 refine wS Og [.t 4] ?_
 unfold M1 at H
 refine wG [.u 7 (.ln _ _ fun _=>lm s1 eJob)] fun q3=>?_
 refine wR (fun(i4:Nat) (v4:Unit)=>⟨[(0,rV 11 (s1.map eJob)),(1,.fn Mv [.ept (.agg [iV c2]) 0]),(7,iV (s1.length:Int)),(8,iV (i4:Int))],[],[],[]⟩) H (fun i4 x4 v4 I m k4 hxv4 hiv4 H N20=>?_) (fun v4 I m H=>?_)
 .unfold M3 at H
  refine wP ?_
  refine wt (ltT hiv4) ?_
  refine wG [.u 14 (.ix _ _ _ fun _=>V0 eJob (Z1 hxv4)),.u 16 (.clsr _ _ _ _ _ (AEs.refl _) (by kernel_rfl) (fun _=>Z0Q x4 c2))] fun _=>?_
  refine O0 H (fun H=>?_) fun H=>?_
  .refine wP ?_
   replace H:=sI H;subst H
   exact wE [(4,.d)]
  .refine wG [.w 18 (wi .i64 rfl hiv4 q3.1)] fun _=>?_
   exact wT (N20 () H)
 .unfold V6 at H
  refine wP ?_
  refine wf (ltF s1.length) ?_
  obtain rfl:=sI H
  exact wP (wE [(4,.d)])
noncomputable def Y16:L :=
 lf Tryz.prog W0B [] [] [] [] [] [] []
def YR(l1:List Job)(id2:Int):Option Int :=
 (M1 l1 id2).bind fun n3=>some n3
theorem Z0r{l1:List Job}{id2 r:Int}(H:YR l1 id2=some r):Snd Tryz.prog W0B [rV 11 (l1.map eJob),iV id2] (iV r) []:=by
 refine wS Y16 [.t 4] ?_
 unfold YR at H
 obtain⟨n3,h3,H⟩:=bB H
 refine wG [.c 7 (Qg h3)] fun _=>?_
 replace H:=sI H;subst H
 exact wE [(4,.d)]
noncomputable def O0E:L :=
 lf Tryz.prog U0e [] [(64,1)] [] [] [] [] []
def OF(x4:Node)(_:Nat)(v4:(List (List Pt)))(k4:(List (List Pt))->Option (Room×Bool)):Option (Room×Bool) :=
 (appL 24 v4 [(Y7 x4.cap).1]).bind fun xs5=>k4 xs5
def WF(s1:State)(v4:(List (List Pt))):Option (Room×Bool) :=
 (Uy (Room.mk s1.topo s1.up v4 ((Y7 s1.lic).1))).bind fun y6=>some (y6,true)
def Xr(s1:State):Option (Room×Bool) :=
 (Vj s1.topo).bind fun b2=>bif (((!b2)||((s1.up.length:Int)!=(s1.topo.nodes.length:Int)))||(!(W0 s1.lic)))then(some ((Room.mk (Topo.mk [] []) [] [] []),false))else(rgl OF (WF s1) s1.topo.nodes 0 [])
theorem U06{s1:State}{r:Room×Bool}(H:Xr s1=some r):Snd Tryz.prog U0e [Y3 .rd s1] (.tup [.agg [nV 1 (r.1.topo.parents.map eI),nV 4 (r.1.topo.nodes.map V1),.sref 0,nV 1 (r.1.profs.map (Z3 .nw)),nV 4 (r.1.lics.map ePt)],.bool r.2]) [⟨1,r.1.up.map eBo,false⟩]:=by
 refine wS O0E [.c 2 5 true,.t 3] ?_
 unfold Xr at H
 obtain⟨b2,h2,H⟩:=bB H
 refine wG [.c 16 (WY h2),.g 21 [((!b2),false)] (.ln _ _ fun _=>lm s1.up eBo),.g 25 [((!b2),false)] (.ln _ _ fun _=>lm s1.topo.nodes V1),.g 31 [(((!b2)||((s1.up.length:Int)!=(s1.topo.nodes.length:Int))),false)] (.call _ _ _ _ _ (AEs.refl _) (fun _=>L5 s1.lic))] fun _=>?_
 refine O0 H (fun H=>?_) fun H=>?_
 .refine wP ?_
  replace H:=sI H;subst H
  exact wN [(2,.d),(3,.d)] [(2,[.n 1,.n 4,.d,.n 1,.n 4])] [] [] [none] [⟨_,nw_I ([]:List Int)⟩,⟨_,O2 ([]:List Node)⟩,⟨_,Wa ([]:List (List Pt))⟩,⟨_,Vo ([]:List Pt)⟩]
 .refine wG [.u 38 (.ln _ _ fun _=>lm s1.topo.nodes V1)] fun q3=>?_
  refine X08 (fun(i4:Nat) (v4:(List (List Pt)))=>⟨[(1,.ptr 1 0),(2,.ptr 2 0),(4,.ptr 4 0),(37,.sl .rd 4 (s1.topo.nodes.map V1)),(38,.int .i64 (s1.topo.nodes.length:Int)),(39,.int .i64 (i4:Int))],[],[(1,(Y3 .rd s1).cells),(2,[.nl,.nl,.nl,.nl,.nl]),(4,[.sl .rd 1 (s1.topo.parents.map eI),.sl .rd 4 (s1.topo.nodes.map V1),.sl .rd 1 (s1.up.map eBo),.sref 524000,.nl])],[(524000,⟨1,v4.map (Z3 .nw),false⟩)]⟩) [] [(4,[.d,.d,.d,.z 524000,.d])] [(524000,(none,1))] [] (by kernel_rfl) (by kernel_rfl) H (fun i4 x4 v4 I m k4 hxv4 hiv4 H N24=>?_) (fun v4 I m H=>?_)
  .unfold OF at H
   refine wP ?_
   refine wt (ltT hiv4) ?_
   obtain⟨xs5,h5,H⟩:=bB H
   refine wG [.u 41 (.ix _ _ _ fun _=>V0 V1 (Z1 hxv4)),.c 46 (V0b x4.cap),.u 53 (.ap _ _ _ _ fun _=>L0 (Z3 .nw) h5),.w 55 (wi .i64 rfl hiv4 q3.1)] fun _=>?_
   exact wT (N24 _ H)
  .unfold WF at H
   refine wP ?_
   refine wf (ltF s1.topo.nodes.length) ?_
   obtain⟨y6,h6,H⟩:=bB H
   refine wG [.c 59 (V0b s1.lic),.u 64 (.call _ _ _ _ _ (AEs.of (xs:=[.agg [rV 1 (s1.topo.parents.map eI),rV 4 (s1.topo.nodes.map V1),rV 1 (s1.up.map eBo),rV 1 (v4.map (Z3 .nw)),rV 4 (((Y7 s1.lic).1).map ePt)]]) (by simp)) (fun _=>Q0a h6))] fun _=>?_
   replace H:=sI H;subst H
   exact wN [(2,.d),(3,.d)] [(2,[.d,.d,.d,.f,.d])] [(65000,some 65000,0)] [65001] [some 65000] [⟨_,nw_I y6.topo.parents⟩,⟨_,O2 y6.topo.nodes⟩,⟨_,Wa y6.profs⟩,⟨_,Vo y6.lics⟩,⟨_,Qs y6.up⟩]
noncomputable def U0V:L :=
 lf Tryz.prog W0s [] [] [] [] [] [] []
def JB(s1:State)(x4:Run)(_:Nat)(v4:Room)(k4:Room->Option (Room×Bool)):Option (Room×Bool) :=
 (Vy v4 x4.job x4.nodes).bind fun b5=>bif (((((!b5)||(!(Z4 x4.t)))||(decide (s1.now<x4.t)))||(decide ((w64 (x4.t+x4.job.wall))<=s1.now)))||(decide (1000000000<(w64 (x4.t+x4.job.wall)))))then(some ((Room.mk (Topo.mk [] []) [] [] []),false))else((Wp v4 (Job.mk x4.job.id x4.job.prio x4.job.nodes x4.job.need x4.job.lic (w64 ((w64 (x4.t+x4.job.wall))-s1.now)) x4.job.level) s1.now x4.nodes).bind fun y6=>bif (!y6.2)then(some ((Room.mk (Topo.mk [] []) [] [] []),false))else(k4 y6.1))
def L0a(v4:Room):Option (Room×Bool) :=
 some (v4,true)
def Xg(s1:State):Option (Room×Bool) :=
 (Xr s1).bind fun y2=>bif ((!y2.2)||(!(Z4 s1.now)))then(some ((Room.mk (Topo.mk [] []) [] [] []),false))else(rgl (JB s1) L0a s1.runs 0 y2.1)
theorem OY{s1:State}{r:Room×Bool}(H:Xg s1=some r):Snd Tryz.prog W0s [Y3 .rd s1] (.tup [Lo .nw r.1,.bool r.2]) []:=by
 refine wS U0V [.c 2 5 true,.t 3] ?_
 unfold Xg at H
 obtain⟨y2,h2,H⟩:=bB H
 refine wG [.c 14 (U06 h2),.g 22 [((!y2.2),false)] (.call _ _ _ _ _ (AEs.refl _) (fun _=>Z9 s1.now))] fun _=>?_
 refine O0 H (fun H=>?_) fun H=>?_
 .refine wP ?_
  replace H:=sI H;subst H
  exact wN [(2,.d),(3,.d)] [(2,[.n 1,.n 4,.n 1,.n 1,.n 4])] [] [] [] [⟨_,nw_I ([]:List Int)⟩,⟨_,O2 ([]:List Node)⟩,⟨_,Qs ([]:List Bool)⟩,⟨_,Wa ([]:List (List Pt))⟩,⟨_,Vo ([]:List Pt)⟩]
 .refine wG [.u 28 (.ln _ _ fun _=>lm s1.runs (X1 .rd))] fun q3=>?_
  refine wR (fun(i4:Nat) (v4:Room)=>⟨[(1,.ptr 1 0),(2,.ptr 2 0),(4,.ptr 4 0),(27,rV 13 (s1.runs.map (X1 .rd))),(28,iV (s1.runs.length:Int)),(29,iV (i4:Int))],[],[(1,(Y3 .rd s1).cells),(2,[.nl,.nl,.nl,.nl,.nl]),(4,(Lo .nw v4).cells)],[]⟩) H (fun i4 x4 v4 I m k4 hxv4 hiv4 H N46=>?_) (fun v4 I m H=>?_)
  .unfold JB at H
   refine wP ?_
   refine wt (ltT hiv4) ?_
   obtain⟨b5,h5,H⟩:=bB H
   refine wG [.u 31 (.ix _ _ _ fun _=>V0 (X1 .rd) (Z1 hxv4)),.u 44 (.call _ _ _ _ _ (AEs.of (xs:=[.agg [rV 1 (v4.topo.parents.map eI),rV 4 (v4.topo.nodes.map V1),rV 1 (v4.up.map eBo),rV 1 (v4.profs.map (Z3 .nw)),rV 4 (v4.lics.map ePt)],.agg [iV x4.job.id,iV x4.job.prio,iV x4.job.nodes,iV x4.job.need.a,iV x4.job.need.b,iV x4.job.need.c,iV x4.job.lic.a,iV x4.job.lic.b,iV x4.job.lic.c,iV x4.job.wall,iV x4.job.level],rV 1 (x4.nodes.map eI)]) (by simp)) (fun _=>V0a h5)),.g 49 [((!b5),false)] (.call _ _ _ _ _ (AEs.refl _) (fun _=>Z9 x4.t))] fun _=>?_
   refine O0 H (fun H=>?_) fun H=>?_
   .refine wP ?_
    replace H:=sI H;subst H
    exact wN [(2,.d),(3,.d)] [(2,[.n 1,.n 4,.n 1,.n 1,.n 4])] [] [] [] [⟨_,nw_I ([]:List Int)⟩,⟨_,O2 ([]:List Node)⟩,⟨_,Qs ([]:List Bool)⟩,⟨_,Wa ([]:List (List Pt))⟩,⟨_,Vo ([]:List Pt)⟩]
   .obtain⟨y6,h6,H⟩:=bB H
    refine wG [.u 84 (.call _ _ _ _ _ (AEs.of (xs:=[.agg [rV 1 (v4.topo.parents.map eI),rV 4 (v4.topo.nodes.map V1),rV 1 (v4.up.map eBo),rV 1 (v4.profs.map (Z3 .nw)),rV 4 (v4.lics.map ePt)],.agg [iV x4.job.id,iV x4.job.prio,iV x4.job.nodes,iV x4.job.need.a,iV x4.job.need.b,iV x4.job.need.c,iV x4.job.lic.a,iV x4.job.lic.b,iV x4.job.lic.c,iV (w64 ((w64 (x4.t+x4.job.wall))-s1.now)),iV x4.job.level],iV s1.now,rV 1 (x4.nodes.map eI)]) (by simp)) (fun _=>J0a h6))] fun _=>?_
    refine O0 H (fun H=>?_) fun H=>?_
    .refine wP ?_
     replace H:=sI H;subst H
     exact wN [(2,.d),(3,.d)] [(2,[.n 1,.n 4,.n 1,.n 1,.n 4])] [] [] [] [⟨_,nw_I ([]:List Int)⟩,⟨_,O2 ([]:List Node)⟩,⟨_,Qs ([]:List Bool)⟩,⟨_,Wa ([]:List (List Pt))⟩,⟨_,Vo ([]:List Pt)⟩]
    .refine wG [.w 91 (wi .i64 rfl hiv4 q3.1)] fun _=>?_
     exact wT (N46 _ H)
  .unfold L0a at H
   refine wP ?_
   refine wf (ltF s1.runs.length) ?_
   refine wP ?_
   replace H:=sI H;subst H
   exact wN [(2,.d),(3,.d)] [(2,[])] [] [] [] [⟨_,nw_I v4.topo.parents⟩,⟨_,O2 v4.topo.nodes⟩,⟨_,Qs v4.up⟩,⟨_,Wa v4.profs⟩,⟨_,Vo v4.lics⟩]
noncomputable def X0N:L :=
 lf Tryz.prog M0k [6] [] [] [] [] [] []
def ML(x4:Run)(_:Nat)(v4:(List Job))(k4:(List Job)->Option (List Job)):Option (List Job) :=
 (appL 88 v4 [x4.job]).bind fun xs5=>k4 xs5
def OL(v4:(List Job)):Option (List Job) :=
 some v4
def Zm(s1:State):Option (List Job) :=
 (appL 88 ([]:List Job) s1.queue).bind fun xs2=>rgl ML OL s1.runs 0 xs2
theorem QR{s1:State}{r:(List Job)}(H:Zm s1=some r):Snd Tryz.prog M0k [Y3 .rd s1] (nV 11 (r.map eJob)) []:=by
 refine wS X0N [.t 2] ?_
 unfold Zm at H
 obtain⟨xs2,h2,H⟩:=bB H
 refine wG [.u 9 (.ap _ _ _ _ fun _=>L0 eJob h2),.u 12 (.ln _ _ fun _=>lm s1.runs (X1 .rd))] fun q3=>?_
 refine wR (fun(i4:Nat) (v4:(List Job))=>⟨[(3,.sref 6),(11,rV 13 (s1.runs.map (X1 .rd))),(12,iV (s1.runs.length:Int)),(13,iV (i4:Int))],[],[],[(6,⟨11,v4.map eJob,false⟩)]⟩) H (fun i4 x4 v4 I m k4 hxv4 hiv4 H N15=>?_) (fun v4 I m H=>?_)
 .unfold ML at H
  refine wP ?_
  refine wt (ltT hiv4) ?_
  obtain⟨xs5,h5,H⟩:=bB H
  refine wG [.u 15 (.ix _ _ _ fun _=>V0 (X1 .rd) (Z1 hxv4)),.u 21 (.ap _ _ _ _ fun _=>L0 eJob h5),.w 22 (wi .i64 rfl hiv4 q3.1)] fun _=>?_
  exact wT (N15 _ H)
 .unfold OL at H
  refine wP ?_
  refine wf (ltF s1.runs.length) ?_
  refine wP ?_
  replace H:=sI H;subst H
  exact wN [(2,.f)] [] [] [6] [] [⟨_,MC v4⟩]
noncomputable def X0O:L :=
 lf Tryz.prog W0l [] [] [] [] [(13,12)] [] []
def Ow(s1:State)(x6:Run)(x8:Int)(i8:Nat)(_:Unit)(k8:Unit->Option Bool):Option Bool :=
 (idx s1.up x8).bind fun e9=>(bif (!e9)then some default else(bif (decide (0<(i8:Int)))then(idx x6.nodes (w64 ((i8:Int)-1)))else some default)).bind fun e10=>bif ((!e9)||((decide (0<(i8:Int)))&&(decide (x8<=e10))))then(some false)else(k8 ())
def Uc(s1:State)(x6:Run)(k6:Unit->Option Bool)(_:Unit):Option Bool :=
 (Qx s1.topo x6.nodes).bind fun n11=>(Ua s1.topo n11).bind fun n12=>bif (decide (x6.job.level<n12))then(some false)else(k6 ())
def Qw(s1:State)(x14:End)(_:Nat)(_:Unit)(k14:Unit->Option Bool):Option Bool :=
 bif ((((((decide (x14.id<1))||(decide (999<x14.id)))||(decide (x14.t<0)))||(decide (s1.now<x14.t)))||(decide (x14.why<1)))||(decide (4<x14.why)))then(some false)else(k14 ())
def VM(_:Unit):Option Bool :=
 some true
def Ww(s1:State)(x6:Run)(_:Nat)(_:Unit)(k6:Unit->Option Bool):Option Bool :=
 rgl (Ow s1 x6) (Uc s1 x6 k6) x6.nodes 0 ()
def UM(s1:State)(_:Unit):Option Bool :=
 rgl (Qw s1) VM s1.ends 0 ()
def Q9(s1:State):Option Bool :=
 (Xg s1).bind fun y2=>(bif (((!y2.2)||(decide (s1.depth<0)))||(decide (60<s1.depth)))then some default else(Zm s1)).bind fun y3=>(bif (((!y2.2)||(decide (s1.depth<0)))||(decide (60<s1.depth)))then some default else(Mp y3)).bind fun b4=>bif (((((!y2.2)||(decide (s1.depth<0)))||(decide (60<s1.depth)))||(!b4))||(decide (300<(s1.ends.length:Int))))then(some false)else(rgl (Ww s1) (UM s1) s1.runs 0 ())
theorem Zb{s1:State}{r:Bool}(H:Q9 s1=some r):Snd Tryz.prog W0l [Y3 .rd s1] (.bool r) []:=by
 refine wS X0O [.t 2] ?_
 unfold Q9 at H
 obtain⟨y2,h2,H⟩:=bB H
 obtain⟨y3,h3,H⟩:=bB H
 obtain⟨b4,h4,H⟩:=bB H
 refine wG [.c 13 (OY h2),.g 30 [(_,false)] (.call _ _ _ _ _ (AEs.refl _) (fun q=>QR (bF q.1 h3))),.g 31 [(_,false)] (.call _ _ _ _ _ (AEs.refl _) (fun q=>VS (bF q.1 h4))),.g 37 [(((((!y2.2)||(decide (s1.depth<0)))||(decide (60<s1.depth)))||(!b4)),false)] (.ln _ _ fun _=>lm s1.ends eEnd)] fun _=>?_
 refine O0 H (fun H=>?_) fun H=>?_
 .obtain rfl:=sI H
  exact wP (wE [(2,.d)])
 .refine wG [.u 42 (.ln _ _ fun _=>lm s1.runs (X1 .rd))] fun q5=>?_
  refine wR (fun(i6:Nat) (v6:Unit)=>⟨[(1,.ptr 1 0),(41,rV 13 (s1.runs.map (X1 .rd))),(42,iV (s1.runs.length:Int)),(43,iV (i6:Int))],[],[(1,(Y3 .rd s1).cells)],[]⟩) H (fun i6 x6 v6 I m k6 hxv6 hiv6 H N51=>?_) (fun v6 I m H=>?_)
  .unfold Ww at H
   refine wP ?_
   refine wt (ltT hiv6) ?_
   refine wG [.u 45 (.ix _ _ _ fun _=>V0 (X1 .rd) (Z1 hxv6)),.u 49 (.ln _ _ fun _=>lm x6.nodes eI)] fun q7=>?_
   refine wR (fun(i8:Nat) (v8:Unit)=>⟨[(1,.ptr 1 0),(6,.ptr 6 0),(41,rV 13 (s1.runs.map (X1 .rd))),(42,iV (s1.runs.length:Int)),(43,iV (i6:Int)),(48,rV 1 (x6.nodes.map eI)),(49,iV (x6.nodes.length:Int)),(50,iV (i8:Int))],[],[(1,(Y3 .rd s1).cells),(6,(X1 .rd x6).cells)],[]⟩) H (fun i8 x8 v8 I m k8 hxv8 hiv8 H N34=>?_) (fun v8 I m H=>?_)
   .unfold Ow at H
    refine wP ?_
    refine wt (ltT hiv8) ?_
    obtain⟨e9,h9,H⟩:=bB H
    obtain⟨e10,h10,H⟩:=bB H
    refine wG [.u 53 (.ix _ _ _ fun _=>V0 eI (Z1 hxv8)),.u 58 (.ix _ _ _ fun _=>V0 eBo h9),.g 69 [(_,true),(_,false)] (.ix _ _ _ fun q=>V0 eI (bT q.1 (bF q.2.1 h10)))] fun _=>?_
    refine O0 H (fun H=>?_) fun H=>?_
    .obtain rfl:=sI H
     exact wP (wE [(2,.d)])
    .refine wG [.w 75 (wi .i64 rfl hiv8 q7.1)] fun _=>?_
     exact wT (N34 () H)
   .unfold Uc at H
    refine wP ?_
    refine wf (ltF x6.nodes.length) ?_
    obtain⟨n11,h11,H⟩:=bB H
    obtain⟨n12,h12,H⟩:=bB H
    refine wG [.c 82 (Q0T h11),.c 83 (Xc h12)] fun _=>?_
    refine O0 H (fun H=>?_) fun H=>?_
    .obtain rfl:=sI H
     exact wP (wE [(2,.d)])
    .refine wG [.w 88 (wi .i64 rfl hiv6 q5.1)] fun _=>?_
     exact wT (N51 () H)
  .unfold UM at H
   refine wP ?_
   refine wf (ltF s1.runs.length) ?_
   refine wG [.u 91 (.ln _ _ fun _=>lm s1.ends eEnd)] fun q13=>?_
   refine wR (fun(i14:Nat) (v14:Unit)=>⟨[(1,.ptr 1 0),(90,rV 3 (s1.ends.map eEnd)),(91,iV (s1.ends.length:Int)),(92,iV (i14:Int))],[],[(1,(Y3 .rd s1).cells)],[]⟩) H (fun i14 x14 v14 I m k14 hxv14 hiv14 H N73=>?_) (fun v14 I m H=>?_)
   .unfold Qw at H
    refine wP ?_
    refine wt (ltT hiv14) ?_
    refine wG [.u 94 (.ix _ _ _ fun _=>V0 eEnd (Z1 hxv14))] fun _=>?_
    refine O0 H (fun H=>?_) fun H=>?_
    .obtain rfl:=sI H
     exact wP (wE [(2,.d)])
    .refine wG [.w 126 (wi .i64 rfl hiv14 q13.1)] fun _=>?_
     exact wT (N73 () H)
   .unfold VM at H
    refine wP ?_
    refine wf (ltF s1.ends.length) ?_
    obtain rfl:=sI H
    exact wP (wE [(2,.d)])
noncomputable def V0N:L :=
 lf Tryz.prog L0k [18,23,28,36,48] [(6,0),(10,0),(11,0),(15,0)] [] [] [(1,12)] [] [64819]
def Lv(x7:Run)(_:Nat)(v7:(List Run))(k7:(List Run)->Option State):Option State :=
 (appL 8 ([]:List Int) x7.nodes).bind fun xs8=>(appL 120 v7 [(Run.mk x7.job x7.t xs8)]).bind fun xs9=>k7 xs9
def LL(s1:State)(xs2:List Int)(xs3:List Node)(xs4:List Bool)(xs5:List Job)(v7:(List Run)):Option State :=
 (appL 24 ([]:List End) s1.ends).bind fun xs10=>some (State.mk (Topo.mk xs2 xs3) xs4 s1.lic s1.depth s1.now xs5 v7 xs10)
def Ja(s1:State):Option State :=
 (appL 8 ([]:List Int) s1.topo.parents).bind fun xs2=>(appL 32 ([]:List Node) s1.topo.nodes).bind fun xs3=>(appL 1 ([]:List Bool) s1.up).bind fun xs4=>(appL 88 ([]:List Job) s1.queue).bind fun xs5=>rgl Lv (LL s1 xs2 xs3 xs4 xs5) s1.runs 0 []
theorem Yg{s1 r:State}(H:Ja s1=some r):Snd Tryz.prog L0k [Y3 .rd s1] (.agg [nV 1 (r.topo.parents.map eI),nV 4 (r.topo.nodes.map V1),.sref 0,iV r.lic.a,iV r.lic.b,iV r.lic.c,iV r.depth,iV r.now,.sref 1,.sref 2,.sref 3]) [⟨1,r.up.map eBo,false⟩,⟨11,r.queue.map eJob,false⟩,⟨13,r.runs.map (X1 .nw),false⟩,⟨3,r.ends.map eEnd,false⟩]:=by
 refine wS V0N [.c 2 11 true] ?_
 unfold Ja at H
 obtain⟨xs2,h2,H⟩:=bB H
 obtain⟨xs3,h3,H⟩:=bB H
 obtain⟨xs4,h4,H⟩:=bB H
 obtain⟨xs5,h5,H⟩:=bB H
 refine wG [.u 10 (.ap _ _ _ _ fun _=>L0 eI h2),.u 15 (.ap _ _ _ _ fun _=>L0 V1 h3),.u 21 (.ap _ _ _ _ fun _=>L0 eBo h4),.u 26 (.ap _ _ _ _ fun _=>L0 eJob h5),.u 31 (.ln _ _ fun _=>lm s1.runs (X1 .rd))] fun q6=>?_
 refine wR (fun(i7:Nat) (v7:(List Run))=>⟨[(1,.ptr 1 0),(2,.ptr 2 0),(3,.sref 28),(30,rV 13 (s1.runs.map (X1 .rd))),(31,iV (s1.runs.length:Int)),(32,iV (i7:Int))],[],[(1,[nV 1 (xs2.map eI),nV 4 (xs3.map V1),.sref 18,iV s1.lic.a,iV s1.lic.b,iV s1.lic.c,iV s1.depth,iV s1.now,.sref 23,rV 13 (s1.runs.map (X1 .rd)),rV 3 (s1.ends.map eEnd)]),(2,[.nl,.nl,.nl,iV 0,iV 0,iV 0,iV 0,iV 0,.nl,.nl,.nl])],[(18,⟨1,xs4.map eBo,false⟩),(23,⟨11,xs5.map eJob,false⟩),(28,⟨13,v7.map (X1 .nw),false⟩)]⟩) H (fun i7 x7 v7 I m k7 hxv7 hiv7 H N20=>?_) (fun v7 I m H=>?_)
 .unfold Lv at H
  refine wP ?_
  refine wt (ltT hiv7) ?_
  obtain⟨xs8,h8,H⟩:=bB H
  refine wG [.u 34 (.ix _ _ _ fun _=>V0 (X1 .rd) (Z1 hxv7)),.u 39 (.ap _ _ _ _ fun _=>L0 eI h8)] fun _=>?_
  refine Wh_fz [(39,.f)] [(5,[.d,.d,.d,.d,.d,.d,.d,.d,.d,.d,.d,.d,.f])] [36] (by kernel_rfl) ?_
  obtain⟨xs9,h9,H⟩:=bB H
  refine wG [.u 44 (.ap _ _ _ _ fun _=>L0 (X1 .nw) h9),.w 45 (wi .i64 rfl hiv7 q6.1)] fun _=>?_
  exact wT (N20 _ H)
 .unfold LL at H
  refine wP ?_
  refine wf (ltF s1.runs.length) ?_
  obtain⟨xs10,h10,H⟩:=bB H
  refine wG [.u 51 (.ap _ _ _ _ fun _=>L0 eEnd h10)] fun _=>?_
  replace H:=sI H;subst H
  exact wN [(2,.d)] [(2,[])] [(18,some 18,0),(23,some 23,0),(28,some 28,0),(48,some 48,0)] [] [some 18,some 23,some 28,some 48] [⟨_,nw_I xs2⟩,⟨_,O2 xs3⟩,⟨_,Qs xs4⟩,⟨_,MC xs5⟩,⟨_,OC v7⟩,⟨_,VW xs10⟩]
noncomputable def M0F:L :=
 lf Tryz.prog J0e [] [(29,1)] [] [] [] [] []
def MG(_:Node)(_:Nat)(v5:(List Bool))(k5:(List Bool)->Option (State×Bool)):Option (State×Bool) :=
 (appL 1 v5 [true]).bind fun xs6=>k5 xs6
def OG(t1:Topo)(lic2:Vec)(depth3:Int)(v5:(List Bool)):Option (State×Bool) :=
 (Q9 (State.mk t1 v5 lic2 depth3 0 [] [] [])).bind fun b7=>bif (!b7)then(some ((State.mk (Topo.mk [] []) [] (Vec.mk 0 0 0) 0 0 [] [] []),false))else((Ja (State.mk t1 v5 lic2 depth3 0 [] [] [])).bind fun y8=>some (y8,true))
def LB(t1:Topo)(lic2:Vec)(depth3:Int):Option (State×Bool) :=
 rgl MG (OG t1 lic2 depth3) t1.nodes 0 []
theorem U0D{t1:Topo}{lic2:Vec}{depth3:Int}{r:State×Bool}(H:LB t1 lic2 depth3=some r):Snd Tryz.prog J0e [U5 .rd t1,eVec lic2,iV depth3] (.tup [.agg [nV 1 (r.1.topo.parents.map eI),nV 4 (r.1.topo.nodes.map V1),.sref 0,iV r.1.lic.a,iV r.1.lic.b,iV r.1.lic.c,iV r.1.depth,iV r.1.now,.sref 1,.sref 2,.sref 3],.bool r.2]) [⟨1,r.1.up.map eBo,false⟩,⟨11,r.1.queue.map eJob,false⟩,⟨13,r.1.runs.map (X1 .nw),false⟩,⟨3,r.1.ends.map eEnd,false⟩]:=by
 refine wS M0F [.c 6 11 true,.t 7] ?_
 unfold LB at H
 refine wG [.u 15 (.ln _ _ fun _=>lm t1.nodes V1)] fun q4=>?_
 refine X08 (fun(i5:Nat) (v5:(List Bool))=>⟨[(6,.ptr 6 0),(8,.ptr 8 0),(15,.int .i64 (t1.nodes.length:Int)),(16,.int .i64 (i5:Int))],[],[(6,[.nl,.nl,.nl,.int .i64 0,.int .i64 0,.int .i64 0,.int .i64 0,.int .i64 0,.nl,.nl,.nl]),(8,[.sl .rd 1 (t1.parents.map eI),.sl .rd 4 (t1.nodes.map V1),.sref 297000,.int .i64 lic2.a,.int .i64 lic2.b,.int .i64 lic2.c,.int .i64 depth3,.int .i64 0,.nl,.nl,.nl])],[(297000,⟨1,v5.map eBo,false⟩)]⟩) [] [(8,[.d,.d,.z 297000,.d,.d,.d,.d,.d,.d,.d,.d])] [(297000,(none,1))] [] (by kernel_rfl) (by kernel_rfl) H (fun i5 x5 v5 I m k5 hxv5 hiv5 H N13=>?_) (fun v5 I m H=>?_)
 .unfold MG at H
  refine wP ?_
  refine wt (ltT hiv5) ?_
  obtain⟨xs6,h6,H⟩:=bB H
  refine wG [.u 21 (.ap _ _ _ _ fun _=>L0 eBo h6),.w 23 (wi .i64 rfl hiv5 q4.1)] fun _=>?_
  exact wT (N13 _ H)
 .unfold OG at H
  refine wP ?_
  refine wf (ltF t1.nodes.length) ?_
  obtain⟨b7,h7,H⟩:=bB H
  refine wG [.c 25 (Zb h7)] fun _=>?_
  refine O0 H (fun H=>?_) fun H=>?_
  .refine wP ?_
   replace H:=sI H;subst H
   exact wN [(6,.d),(7,.d)] [(6,[.n 1,.n 4,.d,.d,.d,.d,.d,.d,.d,.d,.d])] [] [] [none,none,none,none] [⟨_,nw_I ([]:List Int)⟩,⟨_,O2 ([]:List Node)⟩]
  .obtain⟨y8,h8,H⟩:=bB H
   refine wG [.c 29 (Yg h8)] fun _=>?_
   replace H:=sI H;subst H
   exact wN [(6,.d),(7,.d)] [(6,[])] [(30000,some 30000,0),(30001,some 30001,0),(30002,some 30002,0),(30003,some 30003,0)] [] [some 30000,some 30001,some 30002,some 30003] [⟨_,nw_I y8.topo.parents⟩,⟨_,O2 y8.topo.nodes⟩,⟨_,Qs y8.up⟩,⟨_,MC y8.queue⟩,⟨_,OC y8.runs⟩,⟨_,VW y8.ends⟩]
noncomputable def U0U:L :=
 lf Tryz.prog Z0s [8] [] [] [] [] [] []
def Wz(id2:Int)(x4:Job)(_:Nat)(v4:(List Job))(k4:(List Job)->Option (List Job)):Option (List Job) :=
 bif (x4.id != id2)then((appL 88 v4 [x4]).bind fun xs5=>k4 xs5)else(k4 v4)
def UR(v4:(List Job)):Option (List Job) :=
 some v4
def Jo(l1:List Job)(id2:Int):Option (List Job) :=
 rgl (Wz id2) UR l1 0 []
theorem V0j{l1:List Job}{id2:Int}{r:(List Job)}(H:Jo l1 id2=some r):Snd Tryz.prog Z0s [rV 11 (l1.map eJob),iV id2] (.sref 0) [⟨11,r.map eJob,false⟩]:=by
 refine wS U0U [.t 4] ?_
 unfold Jo at H
 refine wG [.u 10 (.ln _ _ fun _=>lm l1 eJob)] fun q3=>?_
 refine wR (fun(i4:Nat) (v4:(List Job))=>⟨[(1,iV id2),(5,.sref 8),(9,rV 11 (l1.map eJob)),(10,iV (l1.length:Int)),(11,iV (i4:Int))],[],[],[(8,⟨11,v4.map eJob,false⟩)]⟩) H (fun i4 x4 v4 I m k4 hxv4 hiv4 H N19=>?_) (fun v4 I m H=>?_)
 .unfold Wz at H
  refine wP ?_
  refine wt (ltT hiv4) ?_
  refine wG [.u 13 (.ix _ _ _ fun _=>V0 eJob (Z1 hxv4))] fun _=>?_
  refine O0 H (fun H=>?_) fun H=>?_
  .obtain⟨xs5,h5,H⟩:=bB H
   refine wG [.u 22 (.ap _ _ _ _ fun _=>L0 eJob h5),.w 23 (wi .i64 rfl hiv4 q3.1)] fun _=>?_
   exact wT (N19 _ H)
  .refine wG [.w 23 (wi .i64 rfl hiv4 q3.1)] fun _=>?_
   exact wT (N19 _ H)
 .unfold UR at H
  refine wP ?_
  refine wf (ltF l1.length) ?_
  refine wP ?_
  replace H:=sI H;subst H
  exact wN [(4,.d)] [] [(8,some 8,0)] [] [some 8] [⟨_,MC v4⟩]
noncomputable def Y0N:L :=
 lf Tryz.prog O0k [] [] [] [] [] [] []
def WL(x3:Run)(_:Nat)(v3:Int)(k3:Int->Option Int):Option Int :=
 bif ((decide (v3<0))||(decide ((w64 (x3.t+x3.job.wall))<v3)))then(k3 (w64 (x3.t+x3.job.wall)))else(k3 v3)
def V06(v3:Int):Option Int :=
 some v3
def Zy(s1:State):Option Int :=
 rgl WL V06 s1.runs 0 (-1)
theorem Z0a{s1:State}{r:Int}(H:Zy s1=some r):Snd Tryz.prog O0k [Y3 .rd s1] (iV r) []:=by
 refine wS Y0N [.t 2] ?_
 unfold Zy at H
 refine wG [.u 8 (.ln _ _ fun _=>lm s1.runs (X1 .rd))] fun q2=>?_
 refine wR (fun(i3:Nat) (v3:Int)=>⟨[(3,iV v3),(7,rV 13 (s1.runs.map (X1 .rd))),(8,iV (s1.runs.length:Int)),(9,iV (i3:Int))],[],[],[]⟩) H (fun i3 x3 v3 I m k3 hxv3 hiv3 H N19=>?_) (fun v3 I m H=>?_)
 .unfold WL at H
  refine wP ?_
  refine wt (ltT hiv3) ?_
  refine wG [.u 11 (.ix _ _ _ fun _=>V0 (X1 .rd) (Z1 hxv3))] fun _=>?_
  refine O0 H (fun H=>?_) fun H=>?_
  .refine wG [.w 31 (wi .i64 rfl hiv3 q2.1)] fun _=>?_
   exact wT (N19 _ H)
  .refine wG [.w 31 (wi .i64 rfl hiv3 q2.1)] fun _=>?_
   exact wT (N19 _ H)
 .unfold V06 at H
  refine wP ?_
  refine wf (ltF s1.runs.length) ?_
  obtain rfl:=sI H
  exact wP (wE [(2,.d)])
noncomputable def O0i:L :=
 lf Tryz.prog M05 [41,42] [] [] [] [] [] []
def U0i:List Rv:=[.t 8,.t 9,.t 10]
theorem Y0j:YF Tryz.prog M05 4 O0i U0i=true:=by kernel_rfl
def Xi(now2 depth4:Int)(x11:Job)(_:Nat)(v11:Room×(List Held)×(List Held))(k11:(Room×(List Held)×(List Held))->Option ((List Held)×(List Held)×Bool)):Option ((List Held)×(List Held)×Bool) :=
 (Vs v11.1 x11 now2).bind fun y12=>bif ((!y12.2.2)||((decide (now2<y12.1))&&(decide (depth4<=(v11.2.2.length:Int)))))then(k11 (v11.1,v11.2.1,v11.2.2))else((Wp v11.1 x11 y12.1 y12.2.1).bind fun y13=>bif (!y13.2)then(k11 (v11.1,v11.2.1,v11.2.2))else(bif (y12.1==now2)then((appL 40 v11.2.1 [(Held.mk x11.id y12.1 y12.2.1)]).bind fun xs14=>k11 (y13.1,xs14,v11.2.2))else((appL 40 v11.2.2 [(Held.mk x11.id y12.1 y12.2.1)]).bind fun xs15=>k11 (y13.1,v11.2.1,xs15))))
def Jp(v11:Room×(List Held)×(List Held)):Option ((List Held)×(List Held)×Bool) :=
 some (v11.2.1,v11.2.2,true)
def Mk(r1:Room)(now2:Int)(l3:List Job)(depth4:Int):Option ((List Held)×(List Held)×Bool) :=
 (Qp r1).bind fun b5=>(bif (!b5)then some default else(Mp l3)).bind fun b6=>bif (((((!b5)||(!b6))||(!(Z4 now2)))||(decide (depth4<0)))||(decide (60<depth4)))then(some ([],[],false))else((O00 l3).bind fun y9=>rgl (Xi now2 depth4) Jp y9 0 (r1,[],[]))
set_option maxRecDepth 20000 in
theorem V0i{r1:Room}{now2:Int}{l3:List Job}{depth4:Int}{r:(List Held)×(List Held)×Bool}(H:Mk r1 now2 l3 depth4=some r):ConD Tryz.prog M05 [Lo .nw r1,iV now2,.sref 0,iV depth4] [] [(11,l3.map eJob)] (.tup [.sref 1,.sref 2,.bool r.2.2]) [] [some (l3.map eJob)] [(3,r.1.map (M0d .nw)),(3,r.2.1.map (M0d .nw))]:=by
 refine Z0e [true] Y0j rfl (by kernel_rfl) ?_
 unfold Mk at H
 obtain⟨b5,h5,H⟩:=bB H
 obtain⟨b6,h6,H⟩:=bB H
 refine wG [.u 21 (.call _ _ _ _ _ (AEs.of (xs:=[.agg [rV 1 (r1.topo.parents.map eI),rV 4 (r1.topo.nodes.map V1),rV 1 (r1.up.map eBo),rV 1 (r1.profs.map (Z3 .nw)),rV 4 (r1.lics.map ePt)]]) (by simp)) (fun _=>VJ h5)),.g 25 [(_,false)] (.call _ _ _ _ _ (AEs.refl _) (fun q=>VS (bF q.1 h6))),.g 30 [(((!b5)||(!b6)),false)] (.call _ _ _ _ _ (AEs.refl _) (fun _=>Z9 now2))] fun _=>?_
 refine O0 H (fun H=>?_) fun H=>?_
 .refine wP ?_
  replace H:=sI H;subst H
  exact V4 [(8,.z 700000007),(9,.z 700000008),(10,.d)] [] [(700000007,none,3),(700000008,none,3),(1000000000,some 1000000000,0)] [] [700000007,700000008] (by kernel_rfl)
 .obtain⟨y9,h9,H⟩:=bB H
  refine wG [.c 44 (V12 h9),.u 45 (.ln _ _ fun _=>lm y9 eJob)] fun q10=>?_
  refine wR (fun(i11:Nat) (v11:Room×(List Held)×(List Held))=>⟨[(1,iV now2),(3,iV depth4),(4,.ptr 4 0),(11,.sref 41),(12,.sref 42),(44,nV 11 (y9.map eJob)),(45,iV (y9.length:Int)),(46,iV (i11:Int))],[],[(4,(Lo .nw v11.1).cells)],[(41,⟨3,v11.2.1.map (M0d .nw),false⟩),(42,⟨3,v11.2.2.map (M0d .nw),false⟩),(1000000000,⟨11,l3.map eJob,false⟩)]⟩) H (fun i11 x11 v11 I m k11 hxv11 hiv11 H N45=>?_) (fun v11 I m H=>?_)
  .unfold Xi at H
   refine wP ?_
   refine wt (ltT hiv11) ?_
   obtain⟨y12,h12,H⟩:=bB H
   refine wG [.u 48 (.ix _ _ _ fun _=>V0 eJob (Z1 hxv11)),.u 54 (.call _ _ _ _ _ (AEs.of (xs:=[.agg [rV 1 (v11.1.topo.parents.map eI),rV 4 (v11.1.topo.nodes.map V1),rV 1 (v11.1.up.map eBo),rV 1 (v11.1.profs.map (Z3 .nw)),rV 4 (v11.1.lics.map ePt)],.agg [iV x11.id,iV x11.prio,iV x11.nodes,iV x11.need.a,iV x11.need.b,iV x11.need.c,iV x11.lic.a,iV x11.lic.b,iV x11.lic.c,iV x11.wall,iV x11.level],iV now2]) (by simp)) (fun _=>V07 h12)),.g 66 [((decide (now2<y12.1)),true),((!y12.2.2),false)] (.ln _ _ fun _=>lm v11.2.2 (M0d .nw))] fun _=>?_
   refine O0 H (fun H=>?_) fun H=>?_
   .refine wG [.w 101 (wi .i64 rfl hiv11 q10.1)] fun _=>?_
    exact wT (N45 _ H)
   .obtain⟨y13,h13,H⟩:=bB H
    refine wG [.u 76 (.call _ _ _ _ _ (AEs.of (xs:=[.agg [rV 1 (v11.1.topo.parents.map eI),rV 4 (v11.1.topo.nodes.map V1),rV 1 (v11.1.up.map eBo),rV 1 (v11.1.profs.map (Z3 .nw)),rV 4 (v11.1.lics.map ePt)],.agg [iV x11.id,iV x11.prio,iV x11.nodes,iV x11.need.a,iV x11.need.b,iV x11.need.c,iV x11.lic.a,iV x11.lic.b,iV x11.lic.c,iV x11.wall,iV x11.level],iV y12.1,rV 1 (y12.2.1.map eI)]) (by simp)) (fun _=>J0a h13))] fun _=>?_
    refine O0 H (fun H=>?_) fun H=>?_
    .refine wG [.w 101 (wi .i64 rfl hiv11 q10.1)] fun _=>?_
     exact wT (N45 _ H)
    .refine wP ?_
     refine O0 H (fun H=>?_) fun H=>?_
     .obtain⟨xs14,h14,H⟩:=bB H
      refine wG [.u 92 (.ap _ _ _ _ fun _=>L0 (M0d .nw) h14),.w 101 (wi .i64 rfl hiv11 q10.1)] fun _=>?_
      exact wT (N45 _ H)
     .obtain⟨xs15,h15,H⟩:=bB H
      refine wG [.u 100 (.ap _ _ _ _ fun _=>L0 (M0d .nw) h15),.w 101 (wi .i64 rfl hiv11 q10.1)] fun _=>?_
      exact wT (N45 _ H)
  .unfold Jp at H
   refine wP ?_
   refine wf (ltF y9.length) ?_
   refine wP ?_
   replace H:=sI H;subst H
   exact V4 [(8,.d),(9,.d),(10,.d)] [] [(41,some 41,0),(42,some 42,0),(1000000000,some 1000000000,0)] [] [41,42] (by kernel_rfl)
noncomputable def M03:L :=
 lf Tryz.prog V9 [] [(25,2),(47,1)] [] [] [] [] []
def Z03:List Rv:=[.c 2 11 true]
theorem L04:YF Tryz.prog V9 1 M03 Z03=true:=by kernel_rfl
def Ub(s1:State)(x5:Held)(_:Nat)(v5:(List Job)×(List Run))(k5:((List Job)×(List Run))->Option State):Option State :=
 (Lh v5.1 x5.id).bind fun y6=>(Jo v5.1 x5.id).bind fun y7=>(appL 120 v5.2 [(Run.mk y6.1 s1.now x5.nodes)]).bind fun xs8=>k5 (y7,xs8)
def Jx(s1:State)(v5:(List Job)×(List Run)):Option State :=
 some (State.mk s1.topo s1.up s1.lic s1.depth s1.now v5.1 v5.2 s1.ends)
def M2(s1:State):Option State :=
 (Xg s1).bind fun y2=>(Mk y2.1 s1.now s1.queue s1.depth).bind fun y3=>rgl (Ub s1) (Jx s1) y3.1 0 (s1.queue,s1.runs)
set_option maxRecDepth 20000 in
theorem O6{s1 r:State}(H:M2 s1=some r):ConD Tryz.prog V9 [.agg [nV 1 (s1.topo.parents.map eI),nV 4 (s1.topo.nodes.map V1),.sref 0,iV s1.lic.a,iV s1.lic.b,iV s1.lic.c,iV s1.depth,iV s1.now,.sref 1,.sref 2,.sref 3]] [] [(1,s1.up.map eBo),(11,s1.queue.map eJob),(13,s1.runs.map (X1 .nw)),(3,s1.ends.map eEnd)] (.agg [nV 1 (r.topo.parents.map eI),nV 4 (r.topo.nodes.map V1),.sref 4,iV r.lic.a,iV r.lic.b,iV r.lic.c,iV r.depth,iV r.now,.sref 5,.sref 6,.sref 7]) [] [none,none,none,none] [(1,r.up.map eBo),(11,r.queue.map eJob),(13,r.runs.map (X1 .nw)),(3,r.ends.map eEnd)]:=by
 refine Z0e [false,false,false,false] L04 rfl (by kernel_rfl) ?_
 unfold M2 at H
 obtain⟨y2,h2,H⟩:=bB H
 obtain⟨y3,h3,H⟩:=bB H
 refine wG [.u 14 (.call _ _ _ _ _ (AEs.of (xs:=[.agg [rV 1 (s1.topo.parents.map eI),rV 4 (s1.topo.nodes.map V1),rV 1 (s1.up.map eBo),iV s1.lic.a,iV s1.lic.b,iV s1.lic.c,iV s1.depth,iV s1.now,rV 11 (s1.queue.map eJob),rV 13 (s1.runs.map (X1 .nw)),rV 3 (s1.ends.map eEnd)]]) (by simp)) (fun _=>OY h2)),.u 25 (.cw M05 [] [500000001] [] [(11,s1.queue.map eJob)] [Lo .nw y2.1,iV s1.now,.sref 0,iV s1.depth] _ _ _ _ _ (GEs.of [true,false,true,false] (by simp)) (by simp) (by simp) (by simp) (fun _=>V0i h3)),.u 30 (.ln _ _ fun _=>lm y3.1 (M0d .nw))] fun q4=>?_
 refine wR (fun(i5:Nat) (v5:(List Job)×(List Run))=>⟨[(1,.ptr 1 0),(2,.ptr 2 0),(29,.sref 26000),(30,iV (y3.1.length:Int)),(31,iV (i5:Int))],[],[(1,[nV 1 (s1.topo.parents.map eI),nV 4 (s1.topo.nodes.map V1),.sref 500000000,iV s1.lic.a,iV s1.lic.b,iV s1.lic.c,iV s1.depth,iV s1.now,.sref 500000001,.sref 500000002,.sref 500000003]),(2,[.nl,.nl,.nl,iV 0,iV 0,iV 0,iV 0,iV 0,.nl,.nl,.nl])],[(500000000,⟨1,s1.up.map eBo,false⟩),(500000001,⟨11,v5.1.map eJob,false⟩),(500000002,⟨13,v5.2.map (X1 .nw),false⟩),(500000003,⟨3,s1.ends.map eEnd,false⟩),(26000,⟨3,y3.1.map (M0d .nw),false⟩)]⟩) H (fun i5 x5 v5 I m k5 hxv5 hiv5 H N20=>?_) (fun v5 I m H=>?_)
 .unfold Ub at H
  refine wP ?_
  refine wt (ltT hiv5) ?_
  obtain⟨y6,h6,H⟩:=bB H
  obtain⟨y7,h7,H⟩:=bB H
  obtain⟨xs8,h8,H⟩:=bB H
  refine wG [.u 33 (.ix _ _ _ fun _=>V0 (M0d .nw) (Z1 hxv5)),.u 34 (.el _ _ _ fun _=>gm (M0d .nw) (Q7 (Z1 hxv5))),.c 40 (VA h6),.c 47 (V0j h7),.u 58 (.ap _ _ _ _ fun _=>L0 (X1 .nw) h8),.w 60 (wi .i64 rfl hiv5 q4.1)] fun _=>?_
  exact U0o (N20 _ H) [] [] [(500000001,(some 48000,0))] [] (by kernel_rfl) (by kernel_rfl)
 .unfold Jx at H
  refine wP ?_
  refine wf (ltF y3.1.length) ?_
  refine wP ?_
  replace H:=sI H;subst H
  exact V4 [(2,.d)] [(2,[])] [(500000000,some 500000000,0),(500000001,some 500000001,0),(500000002,some 500000002,0),(500000003,some 500000003,0)] [] [500000000,500000001,500000002,500000003] (by kernel_rfl)
noncomputable def W15:L :=
 lf Tryz.prog Y0B [40] [(26,1),(79,2)] [] [] [] [] []
def XJ(v6:State×Int)(x8:Run)(_:Nat)(v8:(List End)×(List Run))(k8:((List End)×(List Run))->Option (State×Bool)):Option (State×Bool) :=
 bif ((w64 (x8.t+x8.job.wall))==v6.2)then((appL 24 v8.1 [(End.mk x8.job.id v6.2 1)]).bind fun xs9=>k8 (xs9,v8.2))else((appL 120 v8.2 [x8]).bind fun xs10=>k8 (v8.1,xs10))
def QY(v6:State×Int)(k6:(State×Int)->Option (State×Bool))(v8:(List End)×(List Run)):Option (State×Bool) :=
 bif (decide (300<(v8.1.length:Int)))then(some ((State.mk (Topo.mk [] []) [] (Vec.mk 0 0 0) 0 0 [] [] []),false))else((M2 (State.mk v6.1.topo v6.1.up v6.1.lic v6.1.depth v6.2 v6.1.queue v8.2 v8.1)).bind fun y12=>(Zy y12).bind fun n13=>k6 (y12,n13))
def Vu(t2:Int)(v6:State×Int)(k6:(State×Int)->Option (State×Bool)):Option (State×Bool) :=
 bif ((decide (0<=v6.2))&&(decide (v6.2<=t2)))then(rgl (XJ v6) (QY v6 k6) v6.1.runs 0 (v6.1.ends,[]))else(some ((State.mk v6.1.topo v6.1.up v6.1.lic v6.1.depth t2 v6.1.queue v6.1.runs v6.1.ends),true))
def W00(s1:State)(t2:Int):Option (State×Bool) :=
 (Q9 s1).bind fun b3=>bif (((!b3)||(!(Z4 t2)))||(decide (t2<s1.now)))then(some ((State.mk (Topo.mk [] []) [] (Vec.mk 0 0 0) 0 0 [] [] []),false))else((Ja s1).bind fun y4=>(Zy y4).bind fun n5=>whl (Vu t2) 9223372036854775807 (y4,n5))
theorem X12{s1:State}{t2:Int}{r:State×Bool}(H:W00 s1 t2=some r):Snd Tryz.prog Y0B [Y3 .rd s1,iV t2] (.tup [.agg [nV 1 (r.1.topo.parents.map eI),nV 4 (r.1.topo.nodes.map V1),.sref 0,iV r.1.lic.a,iV r.1.lic.b,iV r.1.lic.c,iV r.1.depth,iV r.1.now,.sref 1,.sref 2,.sref 3],.bool r.2]) [⟨1,r.1.up.map eBo,false⟩,⟨11,r.1.queue.map eJob,false⟩,⟨13,r.1.runs.map (X1 .nw),false⟩,⟨3,r.1.ends.map eEnd,false⟩]:=by
 refine wS W15 [.c 4 11 true,.t 5] ?_
 unfold W00 at H
 obtain⟨b3,h3,H⟩:=bB H
 refine wG [.c 11 (Zb h3),.g 15 [((!b3),false)] (.call _ _ _ _ _ (AEs.refl _) (fun _=>Z9 t2))] fun _=>?_
 refine O0 H (fun H=>?_) fun H=>?_
 .refine wP ?_
  replace H:=sI H;subst H
  exact wN [(4,.d),(5,.d)] [(4,[.n 1,.n 4,.d,.d,.d,.d,.d,.d,.d,.d,.d])] [] [] [none,none,none,none] [⟨_,nw_I ([]:List Int)⟩,⟨_,O2 ([]:List Node)⟩]
 .obtain⟨y4,h4,H⟩:=bB H
  obtain⟨n5,h5,H⟩:=bB H
  refine wG [.c 26 (Yg h4),.u 28 (.call _ _ _ _ _ (AEs.of (xs:=[.agg [rV 1 (y4.topo.parents.map eI),rV 4 (y4.topo.nodes.map V1),rV 1 (y4.up.map eBo),iV y4.lic.a,iV y4.lic.b,iV y4.lic.c,iV y4.depth,iV y4.now,rV 11 (y4.queue.map eJob),rV 13 (y4.runs.map (X1 .nw)),rV 3 (y4.ends.map eEnd)]]) (by simp)) (fun _=>Z0a h5))] fun _=>?_
  refine wW (fun(v6:State×Int)=>⟨[(1,iV t2),(2,.ptr 2 0),(4,.ptr 4 0),(6,iV v6.2)],[],[(2,[nV 1 (v6.1.topo.parents.map eI),nV 4 (v6.1.topo.nodes.map V1),.sref 27000,iV v6.1.lic.a,iV v6.1.lic.b,iV v6.1.lic.c,iV v6.1.depth,iV v6.1.now,.sref 27001,.sref 27002,.sref 27003]),(4,[.nl,.nl,.nl,iV 0,iV 0,iV 0,iV 0,iV 0,.nl,.nl,.nl])],[(27000,⟨1,v6.1.up.map eBo,false⟩),(27001,⟨11,v6.1.queue.map eJob,false⟩),(27002,⟨13,v6.1.runs.map (X1 .nw),false⟩),(27003,⟨3,v6.1.ends.map eEnd,false⟩)]⟩) H (fun v6 I m k6 H N55=>?_)
  unfold Vu at H
  refine wP ?_
  refine O0 H (fun H=>?_) fun H=>?_
  .refine wG [.u 43 (.ln _ _ fun _=>lm v6.1.runs (X1 .nw))] fun q7=>?_
   refine wR (fun(i8:Nat) (v8:(List End)×(List Run))=>⟨[(1,iV t2),(2,.ptr 2 0),(4,.ptr 4 0),(6,iV v6.2),(7,.sref 40),(42,.sref 27002),(43,iV (v6.1.runs.length:Int)),(44,iV (i8:Int))],[],[(2,[nV 1 (v6.1.topo.parents.map eI),nV 4 (v6.1.topo.nodes.map V1),.sref 27000,iV v6.1.lic.a,iV v6.1.lic.b,iV v6.1.lic.c,iV v6.1.depth,iV v6.2,.sref 27001,.sref 27002,.sref 27003]),(4,[.nl,.nl,.nl,iV 0,iV 0,iV 0,iV 0,iV 0,.nl,.nl,.nl])],[(27000,⟨1,v6.1.up.map eBo,false⟩),(27001,⟨11,v6.1.queue.map eJob,false⟩),(27002,⟨13,v6.1.runs.map (X1 .nw),false⟩),(27003,⟨3,v8.1.map eEnd,false⟩),(40,⟨13,v8.2.map (X1 .nw),false⟩)]⟩) H (fun i8 x8 v8 I m k8 hxv8 hiv8 H N34=>?_) (fun v8 I m H=>?_)
   .unfold XJ at H
    refine wP ?_
    refine wt (ltT hiv8) ?_
    refine wG [.u 46 (.ix _ _ _ fun _=>V0 (X1 .nw) (Z1 hxv8)),.u 47 (.el _ _ _ fun _=>gm (X1 .nw) (Q7 (Z1 hxv8)))] fun _=>?_
    refine O0 H (fun H=>?_) fun H=>?_
    .obtain⟨xs9,h9,H⟩:=bB H
     refine wG [.u 64 (.ap _ _ _ _ fun _=>L0 eEnd h9),.w 70 (wi .i64 rfl hiv8 q7.1)] fun _=>?_
     exact wT (N34 _ H)
    .obtain⟨xs10,h10,H⟩:=bB H
     refine wG [.u 69 (.ap _ _ _ _ fun _=>L0 (X1 .nw) h10),.w 70 (wi .i64 rfl hiv8 q7.1)] fun _=>?_
     exact wT (N34 _ H)
   .unfold QY at H
    refine wP ?_
    refine wf (ltF v6.1.runs.length) ?_
    refine wG [.u 75 (.ln _ _ fun _=>lm v8.1 eEnd)] fun q11=>?_
    refine O0 H (fun H=>?_) fun H=>?_
    .refine wP ?_
     replace H:=sI H;subst H
     exact wN [(4,.d),(5,.d)] [(4,[.n 1,.n 4,.d,.d,.d,.d,.d,.d,.d,.d,.d])] [] [] [none,none,none,none] [⟨_,nw_I ([]:List Int)⟩,⟨_,O2 ([]:List Node)⟩]
    .obtain⟨y12,h12,H⟩:=bB H
     obtain⟨n13,h13,H⟩:=bB H
     refine wG [.u 79 (.cw V9 [] [27000,27001,40,27003] [] [(1,v6.1.up.map eBo),(11,v6.1.queue.map eJob),(13,v8.2.map (X1 .nw)),(3,v8.1.map eEnd)] [.agg [nV 1 (v6.1.topo.parents.map eI),nV 4 (v6.1.topo.nodes.map V1),.sref 0,iV v6.1.lic.a,iV v6.1.lic.b,iV v6.1.lic.c,iV v6.1.depth,iV v6.2,.sref 1,.sref 2,.sref 3]] _ _ _ _ _ (GEs.of [true] (by simp)) (by simp) (by simp) (by simp) (fun _=>have k:=O6 h12;k)),.u 37 (.call _ _ _ _ _ (AEs.of (xs:=[.agg [rV 1 (y12.topo.parents.map eI),rV 4 (y12.topo.nodes.map V1),rV 1 (y12.up.map eBo),iV y12.lic.a,iV y12.lic.b,iV y12.lic.c,iV y12.depth,iV y12.now,rV 11 (y12.queue.map eJob),rV 13 (y12.runs.map (X1 .nw)),rV 3 (y12.ends.map eEnd)]]) (by simp)) (fun _=>Z0a h13))] fun _=>?_
     exact U0o (N55 _ H) [] [] [(27000,(some 80000,0)),(27001,(some 80001,0)),(27002,(some 80002,0)),(27003,(some 80003,0))] [] (by kernel_rfl) (by kernel_rfl)
  .refine wP ?_
   replace H:=sI H;subst H
   exact wN [(4,.d),(5,.d)] [(4,[])] [(27000,some 27000,0),(27001,some 27001,0),(27002,some 27002,0),(27003,some 27003,0)] [] [some 27000,some 27001,some 27002,some 27003] [⟨_,nw_I v6.1.topo.parents⟩,⟨_,O2 v6.1.topo.nodes⟩,⟨_,Qs v6.1.up⟩,⟨_,MC v6.1.queue⟩,⟨_,OC v6.1.runs⟩,⟨_,VW v6.1.ends⟩]
noncomputable def M0E:L :=
 lf Tryz.prog Q0e [] [(13,1)] [] [] [] [] []
def LF(_:Bool)(i5:Nat)(v5:(List Bool))(k5:(List Bool)->Option Bool):Option Bool :=
 (idx v5 (i5:Int)).bind fun _=>k5 (v5.set (i5:Int).toNat true)
def MF(j2:Job)(y3:Room×Bool)(v5:(List Bool)):Option Bool :=
 (Vs (Room.mk y3.1.topo v5 y3.1.profs y3.1.lics) j2 0).bind fun y7=>some (y3.2&&y7.2.2)
def YA(s1:State)(j2:Job):Option Bool :=
 (Xr s1).bind fun y3=>rgl LF (MF j2 y3) y3.1.up 0 y3.1.up
theorem Y0C{s1:State}{j2:Job}{r:Bool}(H:YA s1 j2=some r):Snd Tryz.prog Q0e [Y3 .rd s1,eJob j2] (.bool r) []:=by
 refine wS M0E [.t 4] ?_
 unfold YA at H
 obtain⟨y3,h3,H⟩:=bB H
 refine wG [.c 13 (U06 h3),.u 18 (.ln _ _ fun _=>lm y3.1.up eBo)] fun q4=>?_
 refine wR (fun(i5:Nat) (v5:(List Bool))=>⟨[(3,.ptr 3 0),(5,.ptr 5 0),(6,.bool y3.2),(18,iV (y3.1.up.length:Int)),(19,iV (i5:Int))],[],[(3,(eJob j2).cells),(5,[nV 1 (y3.1.topo.parents.map eI),nV 4 (y3.1.topo.nodes.map V1),.sref 14000,nV 1 (y3.1.profs.map (Z3 .nw)),nV 4 (y3.1.lics.map ePt)])],[(14000,⟨1,v5.map eBo,false⟩)]⟩) H (fun i5 x5 v5 I m k5 hxv5 hiv5 H N15=>?_) (fun v5 I m H=>?_)
 .unfold LF at H
  refine wP ?_
  refine wt (ltT hiv5) ?_
  obtain⟨e6,h6,H⟩:=bB H
  refine wG [.u 25 (.ix _ _ _ fun _=>V0 eBo h6),.u 1000000 (.sto _ _ _ (eBo true) _ (fun _=>gm eBo (Q7 h6)) (fun _=>YH ..)),.w 26 (wi .i64 rfl hiv5 q4.1)] fun _=>?_
  exact wT (N15 _ H)
 .unfold MF at H
  refine wP ?_
  refine wf (ltF y3.1.up.length) ?_
  obtain⟨y7,h7,H⟩:=bB H
  refine wG [.u 30 (.call _ _ _ _ _ (AEs.of (xs:=[.agg [rV 1 (y3.1.topo.parents.map eI),rV 4 (y3.1.topo.nodes.map V1),rV 1 (v5.map eBo),rV 1 (y3.1.profs.map (Z3 .nw)),rV 4 (y3.1.lics.map ePt)],.agg [iV j2.id,iV j2.prio,iV j2.nodes,iV j2.need.a,iV j2.need.b,iV j2.need.c,iV j2.lic.a,iV j2.lic.b,iV j2.lic.c,iV j2.wall,iV j2.level],iV 0]) (by simp)) (fun _=>V07 h7))] fun _=>?_
  replace H:=sI H;subst H
  exact wE [(4,.d)]
noncomputable def X0V:L :=
 lf Tryz.prog U0s [] [(39,1),(47,2)] [] [] [] [] []
def JR(s1:State)(j2:Job):Option (State×Int) :=
 (Q9 s1).bind fun b3=>bif ((!b3)||(!(U1 j2)))then(some ((State.mk (Topo.mk [] []) [] (Vec.mk 0 0 0) 0 0 [] [] []),1))else((Zm s1).bind fun y4=>(Lh y4 j2.id).bind fun y5=>bif y5.2 then(some ((State.mk (Topo.mk [] []) [] (Vec.mk 0 0 0) 0 0 [] [] []),2))else(bif (decide (60<=(y4.length:Int)))then(some ((State.mk (Topo.mk [] []) [] (Vec.mk 0 0 0) 0 0 [] [] []),3))else((YA s1 j2).bind fun b7=>bif (!b7)then(some ((State.mk (Topo.mk [] []) [] (Vec.mk 0 0 0) 0 0 [] [] []),4))else((Ja s1).bind fun y8=>(appL 88 y8.queue [j2]).bind fun xs9=>(M2 (State.mk y8.topo y8.up y8.lic y8.depth y8.now xs9 y8.runs y8.ends)).bind fun y10=>some (y10,0)))))
theorem Y0T{s1:State}{j2:Job}{r:State×Int}(H:JR s1 j2=some r):Snd Tryz.prog U0s [Y3 .rd s1,eJob j2] (.tup [.agg [nV 1 (r.1.topo.parents.map eI),nV 4 (r.1.topo.nodes.map V1),.sref 0,iV r.1.lic.a,iV r.1.lic.b,iV r.1.lic.c,iV r.1.depth,iV r.1.now,.sref 1,.sref 2,.sref 3],iV r.2]) [⟨1,r.1.up.map eBo,false⟩,⟨11,r.1.queue.map eJob,false⟩,⟨13,r.1.runs.map (X1 .nw),false⟩,⟨3,r.1.ends.map eEnd,false⟩]:=by
 refine wS X0V [.c 4 11 true,.t 5] ?_
 unfold JR at H
 obtain⟨b3,h3,H⟩:=bB H
 refine wG [.c 10 (Zb h3),.g 14 [((!b3),false)] (.call _ _ _ _ _ (AEs.refl _) (fun _=>WP j2))] fun _=>?_
 refine O0 H (fun H=>?_) fun H=>?_
 .refine wP ?_
  replace H:=sI H;subst H
  exact wN [(4,.d),(5,.d)] [(4,[.n 1,.n 4,.d,.d,.d,.d,.d,.d,.d,.d,.d])] [] [] [none,none,none,none] [⟨_,nw_I ([]:List Int)⟩,⟨_,O2 ([]:List Node)⟩]
 .obtain⟨y4,h4,H⟩:=bB H
  obtain⟨y5,h5,H⟩:=bB H
  refine wG [.c 19 (QR h4),.c 24 (VA h5)] fun _=>?_
  refine O0 H (fun H=>?_) fun H=>?_
  .refine wP ?_
   replace H:=sI H;subst H
   exact wN [(4,.d),(5,.d)] [(4,[.n 1,.n 4,.d,.d,.d,.d,.d,.d,.d,.d,.d])] [] [] [none,none,none,none] [⟨_,nw_I ([]:List Int)⟩,⟨_,O2 ([]:List Node)⟩]
  .refine wG [.u 30 (.ln _ _ fun _=>lm y4 eJob)] fun q6=>?_
   refine O0 H (fun H=>?_) fun H=>?_
   .refine wP ?_
    replace H:=sI H;subst H
    exact wN [(4,.d),(5,.d)] [(4,[.n 1,.n 4,.d,.d,.d,.d,.d,.d,.d,.d,.d])] [] [] [none,none,none,none] [⟨_,nw_I ([]:List Int)⟩,⟨_,O2 ([]:List Node)⟩]
   .obtain⟨b7,h7,H⟩:=bB H
    refine wG [.c 35 (Y0C h7)] fun _=>?_
    refine O0 H (fun H=>?_) fun H=>?_
    .refine wP ?_
     replace H:=sI H;subst H
     exact wN [(4,.d),(5,.d)] [(4,[.n 1,.n 4,.d,.d,.d,.d,.d,.d,.d,.d,.d])] [] [] [none,none,none,none] [⟨_,nw_I ([]:List Int)⟩,⟨_,O2 ([]:List Node)⟩]
    .obtain⟨y8,h8,H⟩:=bB H
     obtain⟨xs9,h9,H⟩:=bB H
     obtain⟨y10,h10,H⟩:=bB H
     refine wG [.c 39 (Yg h8),.u 44 (.ap _ _ _ _ fun _=>L0 eJob h9),.u 47 (.cw V9 [] [40000,40001,40002,40003] [] [(1,y8.up.map eBo),(11,xs9.map eJob),(13,y8.runs.map (X1 .nw)),(3,y8.ends.map eEnd)] [.agg [nV 1 (y8.topo.parents.map eI),nV 4 (y8.topo.nodes.map V1),.sref 0,iV y8.lic.a,iV y8.lic.b,iV y8.lic.c,iV y8.depth,iV y8.now,.sref 1,.sref 2,.sref 3]] _ _ _ _ _ (GEs.of [true] (by simp)) (by simp) (by simp) (by simp) (fun _=>have k:=O6 h10;k))] fun _=>?_
     replace H:=sI H;subst H
     exact wN [(4,.d),(5,.d)] [(4,[])] [(48000,some 48000,0),(48001,some 48001,0),(48002,some 48002,0),(48003,some 48003,0)] [] [some 48000,some 48001,some 48002,some 48003] [⟨_,nw_I y10.topo.parents⟩,⟨_,O2 y10.topo.nodes⟩,⟨_,Qs y10.up⟩,⟨_,MC y10.queue⟩,⟨_,OC y10.runs⟩,⟨_,VW y10.ends⟩]
noncomputable def U09:L :=
 lf Tryz.prog Qv [12] [] [] [] [] [] []
def Z09:List Rv:=[.c 8 11 true]
theorem Q09:YF Tryz.prog Qv 4 U09 Z09=true:=by kernel_rfl
def Wm(s1:State)(why2 id3 node4:Int)(x6:Run)(_:Nat)(v6:(List End)×(List Run))(k6:((List End)×(List Run))->Option State):Option State :=
 (bif (x6.job.id==id3)then some default else(Vc x6.nodes node4)).bind fun b7=>bif ((x6.job.id==id3)||b7)then((appL 24 v6.1 [(End.mk x6.job.id s1.now why2)]).bind fun xs8=>k6 (xs8,v6.2))else((appL 120 v6.2 [x6]).bind fun xs9=>k6 (v6.1,xs9))
def Lz(s1:State)(v6:(List End)×(List Run)):Option State :=
 some (State.mk s1.topo s1.up s1.lic s1.depth s1.now s1.queue v6.2 v6.1)
def Ya(s1:State)(why2 id3 node4:Int):Option State :=
 rgl (Wm s1 why2 id3 node4) (Lz s1) s1.runs 0 (s1.ends,[])
set_option maxRecDepth 20000 in
theorem XF{s1:State}{why2 id3 node4:Int}{r:State}(H:Ya s1 why2 id3 node4=some r):ConD Tryz.prog Qv [.agg [nV 1 (s1.topo.parents.map eI),nV 4 (s1.topo.nodes.map V1),.sref 0,iV s1.lic.a,iV s1.lic.b,iV s1.lic.c,iV s1.depth,iV s1.now,.sref 1,.sref 2,.sref 3],iV why2,iV id3,iV node4] [] [(1,s1.up.map eBo),(11,s1.queue.map eJob),(13,s1.runs.map (X1 .nw)),(3,s1.ends.map eEnd)] (.agg [nV 1 (r.topo.parents.map eI),nV 4 (r.topo.nodes.map V1),.sref 4,iV r.lic.a,iV r.lic.b,iV r.lic.c,iV r.depth,iV r.now,.sref 5,.sref 6,.sref 7]) [] [none,none,none,none] [(1,r.up.map eBo),(11,r.queue.map eJob),(13,r.runs.map (X1 .nw)),(3,r.ends.map eEnd)]:=by
 refine Z0e [false,false,false,false] Q09 rfl (by kernel_rfl) ?_
 unfold Ya at H
 refine wG [.u 15 (.ln _ _ fun _=>lm s1.runs (X1 .nw))] fun q5=>?_
 refine wR (fun(i6:Nat) (v6:(List End)×(List Run))=>⟨[(1,iV why2),(2,iV id3),(3,iV node4),(4,.ptr 4 0),(8,.ptr 8 0),(9,.sref 12),(14,.sref 500000002),(15,iV (s1.runs.length:Int)),(16,iV (i6:Int))],[],[(4,[nV 1 (s1.topo.parents.map eI),nV 4 (s1.topo.nodes.map V1),.sref 500000000,iV s1.lic.a,iV s1.lic.b,iV s1.lic.c,iV s1.depth,iV s1.now,.sref 500000001,.sref 500000002,.sref 500000003]),(8,[.nl,.nl,.nl,iV 0,iV 0,iV 0,iV 0,iV 0,.nl,.nl,.nl])],[(500000000,⟨1,s1.up.map eBo,false⟩),(500000001,⟨11,s1.queue.map eJob,false⟩),(500000002,⟨13,s1.runs.map (X1 .nw),false⟩),(500000003,⟨3,v6.1.map eEnd,false⟩),(12,⟨13,v6.2.map (X1 .nw),false⟩)]⟩) H (fun i6 x6 v6 I m k6 hxv6 hiv6 H N19=>?_) (fun v6 I m H=>?_)
 .unfold Wm at H
  refine wP ?_
  refine wt (ltT hiv6) ?_
  obtain⟨b7,h7,H⟩:=bB H
  refine wG [.u 18 (.ix _ _ _ fun _=>V0 (X1 .nw) (Z1 hxv6)),.u 19 (.el _ _ _ fun _=>gm (X1 .nw) (Q7 (Z1 hxv6))),.g 29 [(_,false)] (.call _ _ _ _ _ (AEs.refl _) (fun q=>Xj (bF q.1 h7)))] fun _=>?_
  refine O0 H (fun H=>?_) fun H=>?_
  .obtain⟨xs8,h8,H⟩:=bB H
   refine wG [.u 41 (.ap _ _ _ _ fun _=>L0 eEnd h8),.w 47 (wi .i64 rfl hiv6 q5.1)] fun _=>?_
   exact wT (N19 _ H)
  .obtain⟨xs9,h9,H⟩:=bB H
   refine wG [.u 46 (.ap _ _ _ _ fun _=>L0 (X1 .nw) h9),.w 47 (wi .i64 rfl hiv6 q5.1)] fun _=>?_
   exact wT (N19 _ H)
 .unfold Lz at H
  refine wP ?_
  refine wf (ltF s1.runs.length) ?_
  refine wP ?_
  replace H:=sI H;subst H
  exact V4 [(8,.d)] [(8,[])] [(500000000,some 500000000,0),(500000001,some 500000001,0),(12,some 12,0),(500000003,some 500000003,0)] [] [500000000,500000001,12,500000003] (by kernel_rfl)
noncomputable def L0V:L :=
 lf Tryz.prog Z0t [] [(54,1),(59,1),(74,2),(76,2)] [] [] [] [] [511]
def Zl(id2 why3:Int)(y9:State)(v12:(List Job)×(List End)):Option (State×Int) :=
 (Ya (State.mk y9.topo y9.up y9.lic y9.depth y9.now v12.1 y9.runs v12.2) why3 id2 (-1)).bind fun y13=>(M2 y13).bind fun y14=>some (y14,0)
def LG(s1:State)(id2 why3:Int):Option (State×Int) :=
 (Q9 s1).bind fun b4=>bif ((!b4)||((why3 != 2)&&(why3 != 3)))then(some ((State.mk (Topo.mk [] []) [] (Vec.mk 0 0 0) 0 0 [] [] []),1))else((Lh s1.queue id2).bind fun y5=>(Zm s1).bind fun y6=>(Lh y6 id2).bind fun y7=>bif ((!y7.2)||(y5.2&&(why3==2)))then(some ((State.mk (Topo.mk [] []) [] (Vec.mk 0 0 0) 0 0 [] [] []),5))else(bif (decide (300<=(s1.ends.length:Int)))then(some ((State.mk (Topo.mk [] []) [] (Vec.mk 0 0 0) 0 0 [] [] []),6))else((Ja s1).bind fun y9=>bif y5.2 then((Jo y9.queue id2).bind fun y10=>(appL 24 y9.ends [(End.mk id2 y9.now why3)]).bind fun xs11=>(Zl id2 why3 y9) (y10,xs11))else((Zl id2 why3 y9) (y9.queue,y9.ends)))))
theorem W0j{s1:State}{id2 why3:Int}{r:State×Int}(H:LG s1 id2 why3=some r):Snd Tryz.prog Z0t [Y3 .rd s1,iV id2,iV why3] (.tup [.agg [nV 1 (r.1.topo.parents.map eI),nV 4 (r.1.topo.nodes.map V1),.sref 0,iV r.1.lic.a,iV r.1.lic.b,iV r.1.lic.c,iV r.1.depth,iV r.1.now,.sref 1,.sref 2,.sref 3],iV r.2]) [⟨1,r.1.up.map eBo,false⟩,⟨11,r.1.queue.map eJob,false⟩,⟨13,r.1.runs.map (X1 .nw),false⟩,⟨3,r.1.ends.map eEnd,false⟩]:=by
 refine wS L0V [.c 6 11 true,.t 7] ?_
 unfold LG at H
 obtain⟨b4,h4,H⟩:=bB H
 refine wG [.c 13 (Zb h4)] fun _=>?_
 refine O0 H (fun H=>?_) fun H=>?_
 .refine wP ?_
  replace H:=sI H;subst H
  exact wN [(6,.d),(7,.d)] [(6,[.n 1,.n 4,.d,.d,.d,.d,.d,.d,.d,.d,.d])] [] [] [none,none,none,none] [⟨_,nw_I ([]:List Int)⟩,⟨_,O2 ([]:List Node)⟩]
 .obtain⟨y5,h5,H⟩:=bB H
  obtain⟨y6,h6,H⟩:=bB H
  obtain⟨y7,h7,H⟩:=bB H
  refine wG [.c 28 (VA h5),.c 33 (QR h6),.c 35 (VA h7)] fun _=>?_
  refine O0 H (fun H=>?_) fun H=>?_
  .refine wP ?_
   replace H:=sI H;subst H
   exact wN [(6,.d),(7,.d)] [(6,[.n 1,.n 4,.d,.d,.d,.d,.d,.d,.d,.d,.d])] [] [] [none,none,none,none] [⟨_,nw_I ([]:List Int)⟩,⟨_,O2 ([]:List Node)⟩]
  .refine wG [.u 50 (.ln _ _ fun _=>lm s1.ends eEnd)] fun q8=>?_
   refine O0 H (fun H=>?_) fun H=>?_
   .refine wP ?_
    replace H:=sI H;subst H
    exact wN [(6,.d),(7,.d)] [(6,[.n 1,.n 4,.d,.d,.d,.d,.d,.d,.d,.d,.d])] [] [] [none,none,none,none] [⟨_,nw_I ([]:List Int)⟩,⟨_,O2 ([]:List Node)⟩]
   .obtain⟨y9,h9,H⟩:=bB H
    refine wG [.c 54 (Yg h9)] fun _=>?_
    refine Q6 (r:=r) (Zl id2 why3 y9) 0 (fun v12:(List Job)×(List End)=>⟨[(1,.int .i64 id2),(2,.int .i64 why3),(3,.ptr 3 0),(6,.ptr 6 0)],[],[(3,[.sl .nw 1 (y9.topo.parents.map eI),.sl .nw 4 (y9.topo.nodes.map V1),.sref 55000,.int .i64 y9.lic.a,.int .i64 y9.lic.b,.int .i64 y9.lic.c,.int .i64 y9.depth,.int .i64 y9.now,.sref 60000,.sref 55002,.sref 55003]),(6,[.nl,.nl,.nl,.int .i64 0,.int .i64 0,.int .i64 0,.int .i64 0,.int .i64 0,.nl,.nl,.nl])],[(55000,⟨1,y9.up.map eBo,false⟩),(60000,⟨11,v12.1.map eJob,false⟩),(55002,⟨13,y9.runs.map (X1 .nw),false⟩),(55003,⟨3,v12.2.map eEnd,false⟩)]⟩) (by kernel_rfl) (fun v12 H=>?_) (fun J36=>?_)
    .unfold Zl at H
     obtain⟨y13,h13,H⟩:=bB H
     obtain⟨y14,h14,H⟩:=bB H
     refine wG [.u 74 (.cw Qv [] [55000,60000,55002,55003] [] [(1,y9.up.map eBo),(11,v12.1.map eJob),(13,y9.runs.map (X1 .nw)),(3,v12.2.map eEnd)] [.agg [nV 1 (y9.topo.parents.map eI),nV 4 (y9.topo.nodes.map V1),.sref 0,iV y9.lic.a,iV y9.lic.b,iV y9.lic.c,iV y9.depth,iV y9.now,.sref 1,.sref 2,.sref 3],iV why3,iV id2,iV (-1)] _ _ _ _ _ (GEs.of [true,false,false,false] (by simp)) (by simp) (by simp) (by simp) (fun _=>have k:=XF h13;k)),.u 76 (.cw V9 [] [75000,75001,75002,75003] [] [(1,y13.up.map eBo),(11,y13.queue.map eJob),(13,y13.runs.map (X1 .nw)),(3,y13.ends.map eEnd)] [.agg [nV 1 (y13.topo.parents.map eI),nV 4 (y13.topo.nodes.map V1),.sref 0,iV y13.lic.a,iV y13.lic.b,iV y13.lic.c,iV y13.depth,iV y13.now,.sref 1,.sref 2,.sref 3]] _ _ _ _ _ (GEs.of [true] (by simp)) (by simp) (by simp) (by simp) (fun _=>O6 h14))] fun _=>?_
     replace H:=sI H;subst H
     exact wN [(6,.d),(7,.d)] [(6,[])] [(77000,some 77000,0),(77001,some 77001,0),(77002,some 77002,0),(77003,some 77003,0)] [] [some 77000,some 77001,some 77002,some 77003] [⟨_,nw_I y14.topo.parents⟩,⟨_,O2 y14.topo.nodes⟩,⟨_,Qs y14.up⟩,⟨_,MC y14.queue⟩,⟨_,OC y14.runs⟩,⟨_,VW y14.ends⟩]
    .refine O0 H (fun H=>?_) fun H=>?_
     .obtain⟨y10,h10,H⟩:=bB H
      obtain⟨xs11,h11,H⟩:=bB H
      refine wG [.c 59 (V0j h10),.u 69 (.ap _ _ _ _ fun _=>L0 eEnd h11)] fun _=>?_
      exact wT (J36 _ H)
     .refine wP ?_
      exact U0o (J36 _ H) [] [] [(60000,(some 55001,0))] [] (by kernel_rfl) (by kernel_rfl)
noncomputable def Z0N:L :=
 lf Tryz.prog MZ [] [] [] [] [] [] []
def JI(s1:State)(n2:Int):Option Bool :=
 some ((decide (0<=n2))&&(decide (n2<(s1.topo.nodes.length:Int))))
theorem V0u{s1:State}{n2:Int}{r:Bool}(H:JI s1 n2=some r):Snd Tryz.prog MZ [Y3 .rd s1,iV n2] (.bool r) []:=by
 refine wS Z0N [.t 4] ?_
 unfold JI at H
 refine wG [.g 12 [((decide (0<=n2)),true)] (.ln _ _ fun _=>lm s1.topo.nodes V1)] fun _=>?_
 replace H:=sI H;subst H
 exact wE [(4,.d)]
def La(s1:State)(n2:Int):Bool :=
 ((decide (0<=n2))&&(decide (n2<(s1.topo.nodes.length:Int))))
theorem Q0S(s1:State)(n2:Int):JI s1 n2=some (La s1 n2):=by
 unfold JI La
 first|rfl|simp only[O8]
theorem J09(s1:State)(n2:Int):Snd Tryz.prog MZ [Y3 .rd s1,iV n2] (.bool (La s1 n2)) []:=V0u (Q0S s1 n2)
noncomputable def Z1d:L :=
 lf Tryz.prog X0S [] [(26,1),(48,2),(59,2)] [] [] [] [] []
def M02(n2:Int)(x7:Run)(_:Nat)(v7:(List Job))(k7:(List Job)->Option (State×Int)):Option (State×Int) :=
 (Vc x7.nodes n2).bind fun b8=>bif b8 then((appL 88 v7 [x7.job]).bind fun xs9=>k7 xs9)else(k7 v7)
def O02(n2:Int)(y5:State)(v7:(List Job)):Option (State×Int) :=
 (Ya (State.mk y5.topo y5.up y5.lic y5.depth y5.now v7 y5.runs y5.ends) 4 0 n2).bind fun y10=>bif (decide (300<(y10.ends.length:Int)))then(some ((State.mk (Topo.mk [] []) [] (Vec.mk 0 0 0) 0 0 [] [] []),6))else((idx y10.up n2).bind fun _=>(M2 (State.mk y10.topo (y10.up.set n2.toNat false) y10.lic y10.depth y10.now y10.queue y10.runs y10.ends)).bind fun y13=>some (y13,0))
def U0b(s1:State)(n2:Int):Option (State×Int) :=
 (Q9 s1).bind fun b3=>bif (!b3)then(some ((State.mk (Topo.mk [] []) [] (Vec.mk 0 0 0) 0 0 [] [] []),1))else((bif (!(La s1 n2))then some default else(idx s1.up n2)).bind fun e4=>bif ((!(La s1 n2))||(!e4))then(some ((State.mk (Topo.mk [] []) [] (Vec.mk 0 0 0) 0 0 [] [] []),7))else((Ja s1).bind fun y5=>rgl (M02 n2) (O02 n2 y5) y5.runs 0 y5.queue))
theorem V1a{s1:State}{n2:Int}{r:State×Int}(H:U0b s1 n2=some r):Snd Tryz.prog X0S [Y3 .rd s1,iV n2] (.tup [.agg [nV 1 (r.1.topo.parents.map eI),nV 4 (r.1.topo.nodes.map V1),.sref 0,iV r.1.lic.a,iV r.1.lic.b,iV r.1.lic.c,iV r.1.depth,iV r.1.now,.sref 1,.sref 2,.sref 3],iV r.2]) [⟨1,r.1.up.map eBo,false⟩,⟨11,r.1.queue.map eJob,false⟩,⟨13,r.1.runs.map (X1 .nw),false⟩,⟨3,r.1.ends.map eEnd,false⟩]:=by
 refine wS Z1d [.c 4 11 true,.t 5] ?_
 unfold U0b at H
 obtain⟨b3,h3,H⟩:=bB H
 refine wG [.c 9 (Zb h3)] fun _=>?_
 refine O0 H (fun H=>?_) fun H=>?_
 .refine wP ?_
  replace H:=sI H;subst H
  exact wN [(4,.d),(5,.d)] [(4,[.n 1,.n 4,.d,.d,.d,.d,.d,.d,.d,.d,.d])] [] [] [none,none,none,none] [⟨_,nw_I ([]:List Int)⟩,⟨_,O2 ([]:List Node)⟩]
 .obtain⟨e4,h4,H⟩:=bB H
  refine wG [.c 14 (J09 s1 n2),.g 20 [(_,false)] (.ix _ _ _ fun q=>V0 eBo (bF q.1 h4))] fun _=>?_
  refine O0 H (fun H=>?_) fun H=>?_
  .refine wP ?_
   replace H:=sI H;subst H
   exact wN [(4,.d),(5,.d)] [(4,[.n 1,.n 4,.d,.d,.d,.d,.d,.d,.d,.d,.d])] [] [] [none,none,none,none] [⟨_,nw_I ([]:List Int)⟩,⟨_,O2 ([]:List Node)⟩]
  .obtain⟨y5,h5,H⟩:=bB H
   refine wG [.c 26 (Yg h5),.u 29 (.ln _ _ fun _=>lm y5.runs (X1 .nw))] fun q6=>?_
   refine wR (fun(i7:Nat) (v7:(List Job))=>⟨[(1,iV n2),(2,.ptr 2 0),(4,.ptr 4 0),(28,.sref 27002),(29,iV (y5.runs.length:Int)),(30,iV (i7:Int))],[],[(2,[nV 1 (y5.topo.parents.map eI),nV 4 (y5.topo.nodes.map V1),.sref 27000,iV y5.lic.a,iV y5.lic.b,iV y5.lic.c,iV y5.depth,iV y5.now,.sref 27001,.sref 27002,.sref 27003]),(4,[.nl,.nl,.nl,iV 0,iV 0,iV 0,iV 0,iV 0,.nl,.nl,.nl])],[(27000,⟨1,y5.up.map eBo,false⟩),(27001,⟨11,v7.map eJob,false⟩),(27002,⟨13,y5.runs.map (X1 .nw),false⟩),(27003,⟨3,y5.ends.map eEnd,false⟩)]⟩) H (fun i7 x7 v7 I m k7 hxv7 hiv7 H N33=>?_) (fun v7 I m H=>?_)
   .unfold M02 at H
    refine wP ?_
    refine wt (ltT hiv7) ?_
    obtain⟨b8,h8,H⟩:=bB H
    refine wG [.u 32 (.ix _ _ _ fun _=>V0 (X1 .nw) (Z1 hxv7)),.u 33 (.el _ _ _ fun _=>gm (X1 .nw) (Q7 (Z1 hxv7))),.c 37 (Xj h8)] fun _=>?_
    refine O0 H (fun H=>?_) fun H=>?_
    .obtain⟨xs9,h9,H⟩:=bB H
     refine wG [.u 43 (.ap _ _ _ _ fun _=>L0 eJob h9),.w 45 (wi .i64 rfl hiv7 q6.1)] fun _=>?_
     exact wT (N33 _ H)
    .refine wG [.w 45 (wi .i64 rfl hiv7 q6.1)] fun _=>?_
     exact wT (N33 _ H)
   .unfold O02 at H
    refine wP ?_
    refine wf (ltF y5.runs.length) ?_
    obtain⟨y10,h10,H⟩:=bB H
    refine wG [.u 48 (.cw Qv [] [27000,27001,27002,27003] [] [(1,y5.up.map eBo),(11,v7.map eJob),(13,y5.runs.map (X1 .nw)),(3,y5.ends.map eEnd)] [.agg [nV 1 (y5.topo.parents.map eI),nV 4 (y5.topo.nodes.map V1),.sref 0,iV y5.lic.a,iV y5.lic.b,iV y5.lic.c,iV y5.depth,iV y5.now,.sref 1,.sref 2,.sref 3],iV 4,iV 0,iV n2] _ _ _ _ _ (GEs.of [true,false,false,false] (by simp)) (by simp) (by simp) (by simp) (fun _=>have k:=XF h10;k)),.u 51 (.ln _ _ fun _=>lm y10.ends eEnd)] fun q11=>?_
    refine O0 H (fun H=>?_) fun H=>?_
    .refine wP ?_
     replace H:=sI H;subst H
     exact wN [(4,.d),(5,.d)] [(4,[.n 1,.n 4,.d,.d,.d,.d,.d,.d,.d,.d,.d])] [] [] [none,none,none,none] [⟨_,nw_I ([]:List Int)⟩,⟨_,O2 ([]:List Node)⟩]
    .obtain⟨e12,h12,H⟩:=bB H
     obtain⟨y13,h13,H⟩:=bB H
     refine wG [.u 57 (.ix _ _ _ fun _=>V0 eBo h12),.u 1000000 (.sto _ _ _ (eBo false) _ (fun _=>gm eBo (Q7 h12)) (fun _=>YH ..)),.u 59 (.cw V9 [] [49000,49001,49002,49003] [] [(1,(y10.up.set n2.toNat false).map eBo),(11,y10.queue.map eJob),(13,y10.runs.map (X1 .nw)),(3,y10.ends.map eEnd)] [.agg [nV 1 (y10.topo.parents.map eI),nV 4 (y10.topo.nodes.map V1),.sref 0,iV y10.lic.a,iV y10.lic.b,iV y10.lic.c,iV y10.depth,iV y10.now,.sref 1,.sref 2,.sref 3]] _ _ _ _ _ (GEs.of [true] (by simp)) (by simp) (by simp[-List.map_set]) (by simp) (fun _=>have k:=O6 h13;k))] fun _=>?_
     replace H:=sI H;subst H
     exact wN [(4,.d),(5,.d)] [(4,[])] [(60000,some 60000,0),(60001,some 60001,0),(60002,some 60002,0),(60003,some 60003,0)] [] [some 60000,some 60001,some 60002,some 60003] [⟨_,nw_I y13.topo.parents⟩,⟨_,O2 y13.topo.nodes⟩,⟨_,Qs y13.up⟩,⟨_,MC y13.queue⟩,⟨_,OC y13.runs⟩,⟨_,VW y13.ends⟩]
noncomputable def Q0V:L :=
 lf Tryz.prog O0s [] [(23,1),(29,2)] [] [] [] [] []
def YS(s1:State)(n2:Int):Option (State×Int) :=
 (Q9 s1).bind fun b3=>bif (!b3)then(some ((State.mk (Topo.mk [] []) [] (Vec.mk 0 0 0) 0 0 [] [] []),1))else((bif (!(La s1 n2))then some default else(idx s1.up n2)).bind fun e4=>bif ((!(La s1 n2))||e4)then(some ((State.mk (Topo.mk [] []) [] (Vec.mk 0 0 0) 0 0 [] [] []),8))else((Ja s1).bind fun y5=>(idx y5.up n2).bind fun _=>(M2 (State.mk y5.topo (y5.up.set n2.toNat true) y5.lic y5.depth y5.now y5.queue y5.runs y5.ends)).bind fun y7=>some (y7,0)))
theorem X0T{s1:State}{n2:Int}{r:State×Int}(H:YS s1 n2=some r):Snd Tryz.prog O0s [Y3 .rd s1,iV n2] (.tup [.agg [nV 1 (r.1.topo.parents.map eI),nV 4 (r.1.topo.nodes.map V1),.sref 0,iV r.1.lic.a,iV r.1.lic.b,iV r.1.lic.c,iV r.1.depth,iV r.1.now,.sref 1,.sref 2,.sref 3],iV r.2]) [⟨1,r.1.up.map eBo,false⟩,⟨11,r.1.queue.map eJob,false⟩,⟨13,r.1.runs.map (X1 .nw),false⟩,⟨3,r.1.ends.map eEnd,false⟩]:=by
 refine wS Q0V [.c 4 11 true,.t 5] ?_
 unfold YS at H
 obtain⟨b3,h3,H⟩:=bB H
 refine wG [.c 7 (Zb h3)] fun _=>?_
 refine O0 H (fun H=>?_) fun H=>?_
 .refine wP ?_
  replace H:=sI H;subst H
  exact wN [(4,.d),(5,.d)] [(4,[.n 1,.n 4,.d,.d,.d,.d,.d,.d,.d,.d,.d])] [] [] [none,none,none,none] [⟨_,nw_I ([]:List Int)⟩,⟨_,O2 ([]:List Node)⟩]
 .obtain⟨e4,h4,H⟩:=bB H
  refine wG [.c 12 (J09 s1 n2),.g 18 [(_,false)] (.ix _ _ _ fun q=>V0 eBo (bF q.1 h4))] fun _=>?_
  refine O0 H (fun H=>?_) fun H=>?_
  .refine wP ?_
   replace H:=sI H;subst H
   exact wN [(4,.d),(5,.d)] [(4,[.n 1,.n 4,.d,.d,.d,.d,.d,.d,.d,.d,.d])] [] [] [none,none,none,none] [⟨_,nw_I ([]:List Int)⟩,⟨_,O2 ([]:List Node)⟩]
  .obtain⟨y5,h5,H⟩:=bB H
   obtain⟨e6,h6,H⟩:=bB H
   obtain⟨y7,h7,H⟩:=bB H
   refine wG [.c 23 (Yg h5),.u 27 (.ix _ _ _ fun _=>V0 eBo h6),.u 1000000 (.sto _ _ _ (eBo true) _ (fun _=>gm eBo (Q7 h6)) (fun _=>YH ..)),.u 29 (.cw V9 [] [24000,24001,24002,24003] [] [(1,(y5.up.set n2.toNat true).map eBo),(11,y5.queue.map eJob),(13,y5.runs.map (X1 .nw)),(3,y5.ends.map eEnd)] [.agg [nV 1 (y5.topo.parents.map eI),nV 4 (y5.topo.nodes.map V1),.sref 0,iV y5.lic.a,iV y5.lic.b,iV y5.lic.c,iV y5.depth,iV y5.now,.sref 1,.sref 2,.sref 3]] _ _ _ _ _ (GEs.of [true] (by simp)) (by simp) (by simp[-List.map_set]) (by simp) (fun _=>have k:=O6 h7;k))] fun _=>?_
   replace H:=sI H;subst H
   exact wN [(4,.d),(5,.d)] [(4,[])] [(30000,some 30000,0),(30001,some 30001,0),(30002,some 30002,0),(30003,some 30003,0)] [] [some 30000,some 30001,some 30002,some 30003] [⟨_,nw_I y7.topo.parents⟩,⟨_,O2 y7.topo.nodes⟩,⟨_,Qs y7.up⟩,⟨_,MC y7.queue⟩,⟨_,OC y7.runs⟩,⟨_,VW y7.ends⟩]
noncomputable def W0V:L :=
 lf Tryz.prog M0s [] [(18,1),(30,2)] [] [] [] [] []
def XS(s1:State)(lic2:Vec):Option (State×Int) :=
 (Q9 s1).bind fun b3=>bif ((!b3)||(!(W0 lic2)))then(some ((State.mk (Topo.mk [] []) [] (Vec.mk 0 0 0) 0 0 [] [] []),1))else((Ja s1).bind fun y4=>(Xg (State.mk y4.topo y4.up lic2 y4.depth y4.now y4.queue y4.runs y4.ends)).bind fun y5=>bif (!y5.2)then(some ((State.mk (Topo.mk [] []) [] (Vec.mk 0 0 0) 0 0 [] [] []),9))else((M2 (State.mk y4.topo y4.up lic2 y4.depth y4.now y4.queue y4.runs y4.ends)).bind fun y6=>some (y6,0)))
theorem V0T{s1:State}{lic2:Vec}{r:State×Int}(H:XS s1 lic2=some r):Snd Tryz.prog M0s [Y3 .rd s1,eVec lic2] (.tup [.agg [nV 1 (r.1.topo.parents.map eI),nV 4 (r.1.topo.nodes.map V1),.sref 0,iV r.1.lic.a,iV r.1.lic.b,iV r.1.lic.c,iV r.1.depth,iV r.1.now,.sref 1,.sref 2,.sref 3],iV r.2]) [⟨1,r.1.up.map eBo,false⟩,⟨11,r.1.queue.map eJob,false⟩,⟨13,r.1.runs.map (X1 .nw),false⟩,⟨3,r.1.ends.map eEnd,false⟩]:=by
 refine wS W0V [.c 4 11 true,.t 5] ?_
 unfold XS at H
 obtain⟨b3,h3,H⟩:=bB H
 refine wG [.c 9 (Zb h3),.g 13 [((!b3),false)] (.call _ _ _ _ _ (AEs.refl _) (fun _=>L5 lic2))] fun _=>?_
 refine O0 H (fun H=>?_) fun H=>?_
 .refine wP ?_
  replace H:=sI H;subst H
  exact wN [(4,.d),(5,.d)] [(4,[.n 1,.n 4,.d,.d,.d,.d,.d,.d,.d,.d,.d])] [] [] [none,none,none,none] [⟨_,nw_I ([]:List Int)⟩,⟨_,O2 ([]:List Node)⟩]
 .obtain⟨y4,h4,H⟩:=bB H
  obtain⟨y5,h5,H⟩:=bB H
  refine wG [.c 18 (Yg h4),.u 23 (.call _ _ _ _ _ (AEs.of (xs:=[.agg [rV 1 (y4.topo.parents.map eI),rV 4 (y4.topo.nodes.map V1),rV 1 (y4.up.map eBo),iV lic2.a,iV lic2.b,iV lic2.c,iV y4.depth,iV y4.now,rV 11 (y4.queue.map eJob),rV 13 (y4.runs.map (X1 .nw)),rV 3 (y4.ends.map eEnd)]]) (by simp)) (fun _=>OY h5))] fun _=>?_
  refine O0 H (fun H=>?_) fun H=>?_
  .refine wP ?_
   replace H:=sI H;subst H
   exact wN [(4,.d),(5,.d)] [(4,[.n 1,.n 4,.d,.d,.d,.d,.d,.d,.d,.d,.d])] [] [] [none,none,none,none] [⟨_,nw_I ([]:List Int)⟩,⟨_,O2 ([]:List Node)⟩]
  .obtain⟨y6,h6,H⟩:=bB H
   refine wG [.u 30 (.cw V9 [] [19000,19001,19002,19003] [] [(1,y4.up.map eBo),(11,y4.queue.map eJob),(13,y4.runs.map (X1 .nw)),(3,y4.ends.map eEnd)] [.agg [nV 1 (y4.topo.parents.map eI),nV 4 (y4.topo.nodes.map V1),.sref 0,iV lic2.a,iV lic2.b,iV lic2.c,iV y4.depth,iV y4.now,.sref 1,.sref 2,.sref 3]] _ _ _ _ _ (GEs.of [true] (by simp)) (by simp) (by simp) (by simp) (fun _=>have k:=O6 h6;k))] fun _=>?_
   replace H:=sI H;subst H
   exact wN [(4,.d),(5,.d)] [(4,[])] [(31000,some 31000,0),(31001,some 31001,0),(31002,some 31002,0),(31003,some 31003,0)] [] [some 31000,some 31001,some 31002,some 31003] [⟨_,nw_I y6.topo.parents⟩,⟨_,O2 y6.topo.nodes⟩,⟨_,Qs y6.up⟩,⟨_,MC y6.queue⟩,⟨_,OC y6.runs⟩,⟨_,VW y6.ends⟩]
noncomputable def O0w:L :=
 lf Tryz.prog Q08 [] [] [] [] [] [] []
def Oo(x6:Run)(_:Nat)(v6:(List Run))(k6:(List Run)->Option State):Option State :=
 (Wi x6.nodes).bind fun y7=>(appL 120 v6 [(Run.mk x6.job x6.t y7)]).bind fun xs8=>k6 xs8
def UD(s1:State)(y2:Topo)(xs3:List Bool)(xs4:List Job)(v6:(List Run)):Option State :=
 (appL 24 ([]:List End) s1.ends).bind fun xs9=>some (State.mk y2 xs3 s1.lic s1.depth s1.now xs4 v6 xs9)
def Yo(s1:State):Option State :=
 (Qi s1.topo).bind fun y2=>(appL 1 ([]:List Bool) s1.up).bind fun xs3=>(appL 88 ([]:List Job) s1.queue).bind fun xs4=>rgl Oo (UD s1 y2 xs3 xs4) s1.runs 0 []
theorem Q0x{s1 r:State}(H:Yo s1=some r):Snd Tryz.prog Q08 [Y3 .rd s1] (.agg [nV 1 (r.topo.parents.map eI),nV 4 (r.topo.nodes.map V1),nV 1 (r.up.map eBo),iV r.lic.a,iV r.lic.b,iV r.lic.c,iV r.depth,iV r.now,.sref 0,.sref 1,.sref 2]) [⟨11,r.queue.map eJob,false⟩,⟨13,r.runs.map (X1 .nw),false⟩,⟨3,r.ends.map eEnd,false⟩]:=by
 refine wS O0w [.c 2 11 true] ?_
 unfold Yo at H
 obtain⟨y2,h2,H⟩:=bB H
 obtain⟨xs3,h3,H⟩:=bB H
 obtain⟨xs4,h4,H⟩:=bB H
 refine wG [.c 8 (JM h2),.u 12 (.ap _ _ _ _ fun _=>L0 eBo h3),.u 16 (.ap _ _ _ _ fun _=>L0 eJob h4),.u 20 (.ln _ _ fun _=>lm s1.runs (X1 .rd))] fun q5=>?_
 refine X08 (fun(i6:Nat) (v6:(List Run))=>⟨[(1,.ptr 1 0),(2,.ptr 2 0),(3,.sref 515002),(19,.sl .rd 13 (s1.runs.map (X1 .rd))),(20,.int .i64 (s1.runs.length:Int)),(21,.int .i64 (i6:Int))],[],[(1,[.sl .nw 1 (y2.parents.map eI),.sl .nw 4 (y2.nodes.map V1),.sref 12,.int .i64 s1.lic.a,.int .i64 s1.lic.b,.int .i64 s1.lic.c,.int .i64 s1.depth,.int .i64 s1.now,.sref 16,.sl .rd 13 (s1.runs.map (X1 .rd)),.sl .rd 3 (s1.ends.map eEnd)]),(2,[.nl,.nl,.nl,.int .i64 0,.int .i64 0,.int .i64 0,.int .i64 0,.int .i64 0,.nl,.nl,.nl])],[(12,⟨1,xs3.map eBo,false⟩),(16,⟨11,xs4.map eJob,false⟩),(515002,⟨13,v6.map (X1 .nw),false⟩)]⟩) [(3,.z 515002)] [] [(515002,(none,13))] [] (by kernel_rfl) (by kernel_rfl) H (fun i6 x6 v6 I m k6 hxv6 hiv6 H N20=>?_) (fun v6 I m H=>?_)
 .unfold Oo at H
  refine wP ?_
  refine wt (ltT hiv6) ?_
  obtain⟨y7,h7,H⟩:=bB H
  obtain⟨xs8,h8,H⟩:=bB H
  refine wG [.u 23 (.ix _ _ _ fun _=>V0 (X1 .rd) (Z1 hxv6)),.c 27 (O07 h7),.u 32 (.ap _ _ _ _ fun _=>L0 (X1 .nw) h8),.w 33 (wi .i64 rfl hiv6 q5.1)] fun _=>?_
  exact wT (N20 _ H)
 .unfold UD at H
  refine wP ?_
  refine wf (ltF s1.runs.length) ?_
  obtain⟨xs9,h9,H⟩:=bB H
  refine wG [.u 38 (.ap _ _ _ _ fun _=>L0 eEnd h9)] fun _=>?_
  replace H:=sI H;subst H
  exact wN [(2,.d)] [(2,[.d,.d,.f,.d,.d,.d,.d,.d,.d,.d,.d])] [(16,some 16,0),(515002,some 515002,0),(38,some 38,0)] [12] [some 16,some 515002,some 38] [⟨_,nw_I y2.parents⟩,⟨_,O2 y2.nodes⟩,⟨_,Qs xs3⟩,⟨_,MC xs4⟩,⟨_,OC v6⟩,⟨_,VW xs9⟩]
noncomputable def X16:L :=
 lf Tryz.prog O0B [] [] [] [] [] [] []
def UZ(x7:Node)(_:Nat)(v7:(List (List Pt)))(k7:(List (List Pt))->Option Room):Option Room :=
 (appL 24 v7 [(Um x7.cap).1]).bind fun xs8=>k7 xs8
def VZ(lic3:Vec)(y4:Topo)(xs5:List Bool)(v7:(List (List Pt))):Option Room :=
 some (Room.mk y4 xs5 v7 ((Um lic3).1))
def W01(t1:Topo)(up2:List Bool)(lic3:Vec):Option Room :=
 (Qi t1).bind fun y4=>(appL 1 ([]:List Bool) up2).bind fun xs5=>rgl UZ (VZ lic3 y4 xs5) t1.nodes 0 []
theorem W17{t1:Topo}{up2:List Bool}{lic3:Vec}{r:Room}(H:W01 t1 up2 lic3=some r):Snd Tryz.prog O0B [U5 .rd t1,rV 1 (up2.map eBo),eVec lic3] (Lo .nw r) []:=by
 refine wS X16 [.c 6 5 true] ?_
 unfold W01 at H
 obtain⟨y4,h4,H⟩:=bB H
 obtain⟨xs5,h5,H⟩:=bB H
 refine wG [.c 13 (JM h4),.u 15 (.ap _ _ _ _ fun _=>L0 eBo h5),.u 19 (.ln _ _ fun _=>lm t1.nodes V1)] fun q6=>?_
 refine X08 (fun(i7:Nat) (v7:(List (List Pt)))=>⟨[(5,.ptr 5 0),(6,.ptr 6 0),(7,.ptr 7 0),(18,.sl .rd 4 (t1.nodes.map V1)),(19,.int .i64 (t1.nodes.length:Int)),(20,.int .i64 (i7:Int))],[],[(5,(eVec lic3).cells),(6,[.nl,.nl,.nl,.nl,.nl]),(7,[.sl .nw 1 (y4.parents.map eI),.sl .nw 4 (y4.nodes.map V1),.sref 15,.sref 190001,.nl])],[(15,⟨1,xs5.map eBo,false⟩),(190001,⟨1,v7.map (Z3 .nw),false⟩)]⟩) [] [(7,[.d,.d,.d,.z 190001,.d])] [(190001,(none,1))] [] (by kernel_rfl) (by kernel_rfl) H (fun i7 x7 v7 I m k7 hxv7 hiv7 H N17=>?_) (fun v7 I m H=>?_)
 .unfold UZ at H
  refine wP ?_
  refine wt (ltT hiv7) ?_
  obtain⟨xs8,h8,H⟩:=bB H
  refine wG [.u 22 (.ix _ _ _ fun _=>V0 V1 (Z1 hxv7)),.c 27 (U0d x7.cap),.u 34 (.ap _ _ _ _ fun _=>L0 (Z3 .nw) h8),.w 36 (wi .i64 rfl hiv7 q6.1)] fun _=>?_
  exact wT (N17 _ H)
 .unfold VZ at H
  refine wP ?_
  refine wf (ltF t1.nodes.length) ?_
  refine wG [.c 39 (U0d lic3)] fun _=>?_
  replace H:=sI H;subst H
  exact wN [(6,.d)] [(6,[.d,.d,.f,.f,.d])] [] [15,190001] [] [⟨_,nw_I y4.parents⟩,⟨_,O2 y4.nodes⟩,⟨_,Qs xs5⟩,⟨_,Wa v7⟩,⟨_,Vo ((Um lic3).1)⟩]
noncomputable def Z0X:L :=
 lf Tryz.prog M0t [] [] [] [] [] [] []
def OE(s1:State)(x5:Run)(_:Nat)(v5:Room)(k5:Room->Option (Room×Bool)):Option (Room×Bool) :=
 bif (((!(Zg x5.job))||(!(Y0 x5.t 0 s1.now)))||(!(Y0 (w64 (x5.t+x5.job.wall)) (w64 (s1.now+1)) 1000000000)))then(some ((Room.mk (Topo.mk [] []) [] [] []),false))else((U8 v5 x5.job s1.now (w64 (x5.t+x5.job.wall)) x5.nodes).bind fun y6=>bif (!y6.2)then(some ((Room.mk (Topo.mk [] []) [] [] []),false))else(k5 y6.1))
def Y0d(v5:Room):Option (Room×Bool) :=
 some (v5,true)
def MU(s1:State):Option (Room×Bool) :=
 (Qj s1.topo).bind fun b2=>bif ((((!b2)||((s1.up.length:Int)!=(s1.topo.nodes.length:Int)))||(!(Y2 s1.lic)))||(!(X8 s1.now)))then(some ((Room.mk (Topo.mk [] []) [] [] []),false))else((W01 s1.topo s1.up s1.lic).bind fun y3=>rgl (OE s1) Y0d s1.runs 0 y3)
theorem Y0Y{s1:State}{r:Room×Bool}(H:MU s1=some r):Snd Tryz.prog M0t [Y3 .rd s1] (.tup [Lo .nw r.1,.bool r.2]) []:=by
 refine wS Z0X [.c 2 5 true,.t 3] ?_
 unfold MU at H
 obtain⟨b2,h2,H⟩:=bB H
 refine wG [.c 11 (Ju h2),.g 16 [((!b2),false)] (.ln _ _ fun _=>lm s1.up eBo),.g 20 [((!b2),false)] (.ln _ _ fun _=>lm s1.topo.nodes V1),.g 26 [(((!b2)||((s1.up.length:Int)!=(s1.topo.nodes.length:Int))),false)] (.call _ _ _ _ _ (AEs.refl _) (fun _=>L7 s1.lic)),.g 32 [((((!b2)||((s1.up.length:Int)!=(s1.topo.nodes.length:Int)))||(!(Y2 s1.lic))),false)] (.call _ _ _ _ _ (AEs.refl _) (fun _=>Lu s1.now))] fun _=>?_
 refine O0 H (fun H=>?_) fun H=>?_
 .refine wP ?_
  replace H:=sI H;subst H
  exact wN [(2,.d),(3,.d)] [(2,[.n 1,.n 4,.n 1,.n 1,.n 4])] [] [] [] [⟨_,nw_I ([]:List Int)⟩,⟨_,O2 ([]:List Node)⟩,⟨_,Qs ([]:List Bool)⟩,⟨_,Wa ([]:List (List Pt))⟩,⟨_,Vo ([]:List Pt)⟩]
 .obtain⟨y3,h3,H⟩:=bB H
  refine wG [.c 42 (W17 h3),.u 45 (.ln _ _ fun _=>lm s1.runs (X1 .rd))] fun q4=>?_
  refine wR (fun(i5:Nat) (v5:Room)=>⟨[(1,.ptr 1 0),(2,.ptr 2 0),(4,.ptr 4 0),(44,rV 13 (s1.runs.map (X1 .rd))),(45,iV (s1.runs.length:Int)),(46,iV (i5:Int))],[],[(1,(Y3 .rd s1).cells),(2,[.nl,.nl,.nl,.nl,.nl]),(4,(Lo .nw v5).cells)],[]⟩) H (fun i5 x5 v5 I m k5 hxv5 hiv5 H N40=>?_) (fun v5 I m H=>?_)
  .unfold OE at H
   refine wP ?_
   refine wt (ltT hiv5) ?_
   refine wG [.u 48 (.ix _ _ _ fun _=>V0 (X1 .rd) (Z1 hxv5)),.c 52 (U04 x5.job),.g 59 [((!(Zg x5.job)),false)] (.call _ _ _ _ _ (AEs.refl _) (fun _=>V2 x5.t 0 s1.now)),.g 72 [(((!(Zg x5.job))||(!(Y0 x5.t 0 s1.now))),false)] (.call _ _ _ _ _ (AEs.refl _) (fun _=>V2 (w64 (x5.t+x5.job.wall)) (w64 (s1.now+1)) 1000000000))] fun _=>?_
   refine O0 H (fun H=>?_) fun H=>?_
   .refine wP ?_
    replace H:=sI H;subst H
    exact wN [(2,.d),(3,.d)] [(2,[.n 1,.n 4,.n 1,.n 1,.n 4])] [] [] [] [⟨_,nw_I ([]:List Int)⟩,⟨_,O2 ([]:List Node)⟩,⟨_,Qs ([]:List Bool)⟩,⟨_,Wa ([]:List (List Pt))⟩,⟨_,Vo ([]:List Pt)⟩]
   .obtain⟨y6,h6,H⟩:=bB H
    refine wG [.u 90 (.call _ _ _ _ _ (AEs.of (xs:=[.agg [rV 1 (v5.topo.parents.map eI),rV 4 (v5.topo.nodes.map V1),rV 1 (v5.up.map eBo),rV 1 (v5.profs.map (Z3 .nw)),rV 4 (v5.lics.map ePt)],.agg [iV x5.job.id,iV x5.job.prio,iV x5.job.nodes,iV x5.job.need.a,iV x5.job.need.b,iV x5.job.need.c,iV x5.job.lic.a,iV x5.job.lic.b,iV x5.job.lic.c,iV x5.job.wall,iV x5.job.level],iV s1.now,iV (w64 (x5.t+x5.job.wall)),rV 1 (x5.nodes.map eI),.fn Yr []]) (by simp)) (fun _=>XU h6))] fun _=>?_
    refine O0 H (fun H=>?_) fun H=>?_
    .refine wP ?_
     replace H:=sI H;subst H
     exact wN [(2,.d),(3,.d)] [(2,[.n 1,.n 4,.n 1,.n 1,.n 4])] [] [] [] [⟨_,nw_I ([]:List Int)⟩,⟨_,O2 ([]:List Node)⟩,⟨_,Qs ([]:List Bool)⟩,⟨_,Wa ([]:List (List Pt))⟩,⟨_,Vo ([]:List Pt)⟩]
    .refine wG [.w 97 (wi .i64 rfl hiv5 q4.1)] fun _=>?_
     exact wT (N40 _ H)
  .unfold Y0d at H
   refine wP ?_
   refine wf (ltF s1.runs.length) ?_
   refine wP ?_
   replace H:=sI H;subst H
   exact wN [(2,.d),(3,.d)] [(2,[])] [] [] [] [⟨_,nw_I v5.topo.parents⟩,⟨_,O2 v5.topo.nodes⟩,⟨_,Qs v5.up⟩,⟨_,Wa v5.profs⟩,⟨_,Vo v5.lics⟩]
noncomputable def L0w:L :=
 lf Tryz.prog O08 [6] [] [] [] [] [] []
def JW(x4:Run)(_:Nat)(v4:(List Job))(k4:(List Job)->Option (List Job)):Option (List Job) :=
 (appL 88 v4 [x4.job]).bind fun xs5=>k4 xs5
def LW(v4:(List Job)):Option (List Job) :=
 some v4
def Oa(s1:State):Option (List Job) :=
 (appL 88 ([]:List Job) s1.queue).bind fun xs2=>rgl JW LW s1.runs 0 xs2
theorem Ul{s1:State}{r:(List Job)}(H:Oa s1=some r):Snd Tryz.prog O08 [Y3 .rd s1] (nV 11 (r.map eJob)) []:=by
 refine wS L0w [.t 2] ?_
 unfold Oa at H
 obtain⟨xs2,h2,H⟩:=bB H
 refine wG [.u 9 (.ap _ _ _ _ fun _=>L0 eJob h2),.u 12 (.ln _ _ fun _=>lm s1.runs (X1 .rd))] fun q3=>?_
 refine wR (fun(i4:Nat) (v4:(List Job))=>⟨[(3,.sref 6),(11,rV 13 (s1.runs.map (X1 .rd))),(12,iV (s1.runs.length:Int)),(13,iV (i4:Int))],[],[],[(6,⟨11,v4.map eJob,false⟩)]⟩) H (fun i4 x4 v4 I m k4 hxv4 hiv4 H N15=>?_) (fun v4 I m H=>?_)
 .unfold JW at H
  refine wP ?_
  refine wt (ltT hiv4) ?_
  obtain⟨xs5,h5,H⟩:=bB H
  refine wG [.u 15 (.ix _ _ _ fun _=>V0 (X1 .rd) (Z1 hxv4)),.u 21 (.ap _ _ _ _ fun _=>L0 eJob h5),.w 22 (wi .i64 rfl hiv4 q3.1)] fun _=>?_
  exact wT (N15 _ H)
 .unfold LW at H
  refine wP ?_
  refine wf (ltF s1.runs.length) ?_
  refine wP ?_
  replace H:=sI H;subst H
  exact wN [(2,.f)] [] [] [6] [] [⟨_,MC v4⟩]
noncomputable def V0P:L :=
 lf Tryz.prog U0m [] [] [] [] [(13,18)] [] []
def QN(s1:State)(x8:Int)(_:Nat)(_:Unit)(k8:Unit->Option Bool):Option Bool :=
 (idx s1.up x8).bind fun e9=>bif (!e9)then(some false)else(k8 ())
def UN(s1:State)(x6:Run)(k6:Unit->Option Bool)(_:Unit):Option Bool :=
 (Vl x6.nodes).bind fun b10=>(bif (!b10)then some default else(QI s1.topo x6.nodes)).bind fun n11=>(bif (!b10)then some default else(VH s1.topo n11)).bind fun n12=>bif ((!b10)||(decide (x6.job.level<n12)))then(some false)else(k6 ())
def Yx(s1:State)(x14:End)(_:Nat)(_:Unit)(k14:Unit->Option Bool):Option Bool :=
 bif (((!(Y0 x14.id 1 999))||(!(Y0 x14.t 0 s1.now)))||(!(Y0 x14.why 1 4)))then(some false)else(k14 ())
def XN(_:Unit):Option Bool :=
 some true
def Xx(s1:State)(x6:Run)(_:Nat)(_:Unit)(k6:Unit->Option Bool):Option Bool :=
 rgl (QN s1) (UN s1 x6 k6) x6.nodes 0 ()
def VN(s1:State)(_:Unit):Option Bool :=
 rgl (Yx s1) XN s1.ends 0 ()
def Ze(s1:State):Option Bool :=
 (MU s1).bind fun y2=>(bif ((!y2.2)||(!(Y0 s1.depth 0 60)))then some default else(Oa s1)).bind fun y3=>(bif ((!y2.2)||(!(Y0 s1.depth 0 60)))then some default else(XL y3)).bind fun b4=>bif ((((!y2.2)||(!(Y0 s1.depth 0 60)))||(!b4))||(decide (300<(s1.ends.length:Int))))then(some false)else(rgl (Xx s1) (VN s1) s1.runs 0 ())
theorem Ql{s1:State}{r:Bool}(H:Ze s1=some r):Snd Tryz.prog U0m [Y3 .rd s1] (.bool r) []:=by
 refine wS V0P [.t 2] ?_
 unfold Ze at H
 obtain⟨y2,h2,H⟩:=bB H
 obtain⟨y3,h3,H⟩:=bB H
 obtain⟨b4,h4,H⟩:=bB H
 refine wG [.c 13 (Y0Y h2),.g 21 [((!y2.2),false)] (.call _ _ _ _ _ (AEs.refl _) (fun _=>V2 s1.depth 0 60)),.g 26 [(_,false)] (.call _ _ _ _ _ (AEs.refl _) (fun q=>Ul (bF q.1 h3))),.g 27 [(_,false)] (.call _ _ _ _ _ (AEs.refl _) (fun q=>V0Q (bF q.1 h4))),.g 33 [((((!y2.2)||(!(Y0 s1.depth 0 60)))||(!b4)),false)] (.ln _ _ fun _=>lm s1.ends eEnd)] fun _=>?_
 refine O0 H (fun H=>?_) fun H=>?_
 .obtain rfl:=sI H
  exact wP (wE [(2,.d)])
 .refine wG [.u 38 (.ln _ _ fun _=>lm s1.runs (X1 .rd))] fun q5=>?_
  refine wR (fun(i6:Nat) (v6:Unit)=>⟨[(1,.ptr 1 0),(37,rV 13 (s1.runs.map (X1 .rd))),(38,iV (s1.runs.length:Int)),(39,iV (i6:Int))],[],[(1,(Y3 .rd s1).cells)],[]⟩) H (fun i6 x6 v6 I m k6 hxv6 hiv6 H N52=>?_) (fun v6 I m H=>?_)
  .unfold Xx at H
   refine wP ?_
   refine wt (ltT hiv6) ?_
   refine wG [.u 41 (.ix _ _ _ fun _=>V0 (X1 .rd) (Z1 hxv6)),.u 45 (.ln _ _ fun _=>lm x6.nodes eI)] fun q7=>?_
   refine wR (fun(i8:Nat) (v8:Unit)=>⟨[(1,.ptr 1 0),(6,.ptr 6 0),(37,rV 13 (s1.runs.map (X1 .rd))),(38,iV (s1.runs.length:Int)),(39,iV (i6:Int)),(44,rV 1 (x6.nodes.map eI)),(45,iV (x6.nodes.length:Int)),(46,iV (i8:Int))],[],[(1,(Y3 .rd s1).cells),(6,(X1 .rd x6).cells)],[]⟩) H (fun i8 x8 v8 I m k8 hxv8 hiv8 H N35=>?_) (fun v8 I m H=>?_)
   .unfold QN at H
    refine wP ?_
    refine wt (ltT hiv8) ?_
    obtain⟨e9,h9,H⟩:=bB H
    refine wG [.u 48 (.ix _ _ _ fun _=>V0 eI (Z1 hxv8)),.u 53 (.ix _ _ _ fun _=>V0 eBo h9)] fun _=>?_
    refine O0 H (fun H=>?_) fun H=>?_
    .obtain rfl:=sI H
     exact wP (wE [(2,.d)])
    .refine wG [.w 56 (wi .i64 rfl hiv8 q7.1)] fun _=>?_
     exact wT (N35 () H)
   .unfold UN at H
    refine wP ?_
    refine wf (ltF x6.nodes.length) ?_
    obtain⟨b10,h10,H⟩:=bB H
    obtain⟨n11,h11,H⟩:=bB H
    obtain⟨n12,h12,H⟩:=bB H
    refine wG [.c 59 (L0i h10),.g 68 [(_,false)] (.call _ _ _ _ _ (AEs.refl _) (fun q=>U0Y (bF q.1 h11))),.g 69 [(_,false)] (.call _ _ _ _ _ (AEs.refl _) (fun q=>Z04 (bF q.1 h12)))] fun _=>?_
    refine O0 H (fun H=>?_) fun H=>?_
    .obtain rfl:=sI H
     exact wP (wE [(2,.d)])
    .refine wG [.w 75 (wi .i64 rfl hiv6 q5.1)] fun _=>?_
     exact wT (N52 () H)
  .unfold VN at H
   refine wP ?_
   refine wf (ltF s1.runs.length) ?_
   refine wG [.u 78 (.ln _ _ fun _=>lm s1.ends eEnd)] fun q13=>?_
   refine wR (fun(i14:Nat) (v14:Unit)=>⟨[(1,.ptr 1 0),(77,rV 3 (s1.ends.map eEnd)),(78,iV (s1.ends.length:Int)),(79,iV (i14:Int))],[],[(1,(Y3 .rd s1).cells)],[]⟩) H (fun i14 x14 v14 I m k14 hxv14 hiv14 H N74=>?_) (fun v14 I m H=>?_)
   .unfold Yx at H
    refine wP ?_
    refine wt (ltT hiv14) ?_
    refine wG [.u 81 (.ix _ _ _ fun _=>V0 eEnd (Z1 hxv14)),.c 85 (V2 x14.id 1 999),.g 92 [((!(Y0 x14.id 1 999)),false)] (.call _ _ _ _ _ (AEs.refl _) (fun _=>V2 x14.t 0 s1.now)),.g 98 [(((!(Y0 x14.id 1 999))||(!(Y0 x14.t 0 s1.now))),false)] (.call _ _ _ _ _ (AEs.refl _) (fun _=>V2 x14.why 1 4))] fun _=>?_
    refine O0 H (fun H=>?_) fun H=>?_
    .obtain rfl:=sI H
     exact wP (wE [(2,.d)])
    .refine wG [.w 101 (wi .i64 rfl hiv14 q13.1)] fun _=>?_
     exact wT (N74 () H)
   .unfold XN at H
    refine wP ?_
    refine wf (ltF s1.ends.length) ?_
    obtain rfl:=sI H
    exact wP (wE [(2,.d)])
noncomputable def L0O:L :=
 lf Tryz.prog Z0m [] [] [] [] [(1,24)] [] []
def Ly(j1:Job):Option Str :=
 (O4 j1.id).bind fun w2=>(O4 j1.prio).bind fun w3=>(O4 j1.nodes).bind fun w4=>(Oi j1.need).bind fun w5=>(Oi j1.lic).bind fun w6=>(O4 j1.wall).bind fun w7=>(O4 j1.level).bind fun w8=>(Ws [w2,w3,w4,w5,w6,w7,w8]).bind fun w9=>some w9
theorem L0c{j1:Job}{r:Str}(H:Ly j1=some r):Snd Tryz.prog Z0m [eJob j1] (.str r) []:=by
 refine wS L0O [.t 2] ?_
 unfold Ly at H
 obtain⟨w2,h2,H⟩:=bB H
 obtain⟨w3,h3,H⟩:=bB H
 obtain⟨w4,h4,H⟩:=bB H
 obtain⟨w5,h5,H⟩:=bB H
 obtain⟨w6,h6,H⟩:=bB H
 obtain⟨w7,h7,H⟩:=bB H
 obtain⟨w8,h8,H⟩:=bB H
 obtain⟨w9,h9,H⟩:=bB H
 refine wG [.c 5 (Y4 h2),.c 8 (Y4 h3),.c 11 (Y4 h4),.c 14 (Oq h5),.c 17 (Oq h6),.c 20 (Y4 h7),.c 23 (Y4 h8),.c 25 (XD h9)] fun _=>?_
 replace H:=sI H;subst H
 exact wE [(2,.d)]
noncomputable def O0O:L :=
 lf Tryz.prog J0l [] [] [] [] [] [] []
def My(w1:List Str):Option Job :=
 (idx w1 0).bind fun e2=>(W4 e2).bind fun y3=>(idx w1 1).bind fun e4=>(W4 e4).bind fun y5=>(idx w1 2).bind fun e6=>(W4 e6).bind fun y7=>(idx w1 3).bind fun e8=>(Vm e8).bind fun y9=>(idx w1 4).bind fun e10=>(Vm e10).bind fun y11=>(idx w1 5).bind fun e12=>(W4 e12).bind fun y13=>(idx w1 6).bind fun e14=>(W4 e14).bind fun y15=>some (Job.mk y3.1 y5.1 y7.1 y9.1 y11.1 y13.1 y15.1)
theorem M0c{w1:List Str}{r:Job}(H:My w1=some r):Snd Tryz.prog J0l [rV 1 (w1.map eS)] (eJob r) []:=by
 refine wS O0O [.c 2 11 true] ?_
 unfold My at H
 obtain⟨e2,h2,H⟩:=bB H
 obtain⟨y3,h3,H⟩:=bB H
 obtain⟨e4,h4,H⟩:=bB H
 obtain⟨y5,h5,H⟩:=bB H
 obtain⟨e6,h6,H⟩:=bB H
 obtain⟨y7,h7,H⟩:=bB H
 obtain⟨e8,h8,H⟩:=bB H
 obtain⟨y9,h9,H⟩:=bB H
 obtain⟨e10,h10,H⟩:=bB H
 obtain⟨y11,h11,H⟩:=bB H
 obtain⟨e12,h12,H⟩:=bB H
 obtain⟨y13,h13,H⟩:=bB H
 obtain⟨e14,h14,H⟩:=bB H
 obtain⟨y15,h15,H⟩:=bB H
 refine wG [.u 7 (.ix _ _ _ fun _=>V0 eS h2),.c 9 (U6 h3),.u 15 (.ix _ _ _ fun _=>V0 eS h4),.c 17 (U6 h5),.u 23 (.ix _ _ _ fun _=>V0 eS h6),.c 25 (U6 h7),.u 31 (.ix _ _ _ fun _=>V0 eS h8),.c 33 (LD h9),.u 39 (.ix _ _ _ fun _=>V0 eS h10),.c 41 (LD h11),.u 47 (.ix _ _ _ fun _=>V0 eS h12),.c 49 (U6 h13),.u 55 (.ix _ _ _ fun _=>V0 eS h14),.c 57 (U6 h15)] fun _=>?_
 replace H:=sI H;subst H
 exact wN [(2,.d)] [(2,[])] [] [] [] []
noncomputable def J03:L :=
 lf Tryz.prog UF [] [] [] [] [(6,9)] [] []
def Xl(s2:List Int)(x5:Int)(i5:Nat)(_:Unit)(k5:Unit->Option Bool):Option Bool :=
 (idx s2 (i5:Int)).bind fun e6=>bif (x5 != e6)then(some false)else(k5 ())
def Oy(_:Unit):Option Bool :=
 some true
def U9(s1 s2:List Int):Option Bool :=
 bif ((s1.length:Int)!=(s2.length:Int))then(some false)else(rgl (Xl s2) Oy s1 0 ())
theorem UC{s1 s2:List Int}{r:Bool}(H:U9 s1 s2=some r):Snd Tryz.prog UF [rV 1 (s1.map eI),rV 1 (s2.map eI)] (.bool r) []:=by
 refine wS J03 [.t 4] ?_
 unfold U9 at H
 refine wG [.u 7 (.ln _ _ fun _=>lm s1 eI),.u 9 (.ln _ _ fun _=>lm s2 eI)] fun q3=>?_
 refine O0 H (fun H=>?_) fun H=>?_
 .obtain rfl:=sI H
  exact wP (wE [(4,.d)])
 .refine wG [.u 12 (.ln _ _ fun _=>lm s1 eI)] fun q4=>?_
  refine wR (fun(i5:Nat) (v5:Unit)=>⟨[(0,rV 1 (s1.map eI)),(1,rV 1 (s2.map eI)),(12,iV (s1.length:Int)),(13,iV (i5:Int))],[],[],[]⟩) H (fun i5 x5 v5 I m k5 hxv5 hiv5 H N27=>?_) (fun v5 I m H=>?_)
  .unfold Xl at H
   refine wP ?_
   refine wt (ltT hiv5) ?_
   obtain⟨e6,h6,H⟩:=bB H
   refine wG [.u 18 (.ix _ _ _ fun _=>V0 eI (Z1 hxv5)),.u 22 (.ix _ _ _ fun _=>V0 eI h6)] fun _=>?_
   refine O0 H (fun H=>?_) fun H=>?_
   .obtain rfl:=sI H
    exact wP (wE [(4,.d)])
   .refine wG [.w 25 (wi .i64 rfl hiv5 q3.1)] fun _=>?_
    exact wT (N27 () H)
  .unfold Oy at H
   refine wP ?_
   refine wf (ltF s1.length) ?_
   obtain rfl:=sI H
   exact wP (wE [(4,.d)])
noncomputable def M0O:L :=
 lf Tryz.prog OK [] [] [] [] [] [] []
def ZL(a1 b2:Run):Option Bool :=
 (bif ((a1.job.id==b2.job.id&&(a1.job.prio==b2.job.prio&&(a1.job.nodes==b2.job.nodes&&(a1.job.need.a==b2.job.need.a&&(a1.job.need.b==b2.job.need.b&&(a1.job.need.c==b2.job.need.c&&(a1.job.lic.a==b2.job.lic.a&&(a1.job.lic.b==b2.job.lic.b&&(a1.job.lic.c==b2.job.lic.c&&(a1.job.wall==b2.job.wall&&(a1.job.level==b2.job.level&&true)))))))))))&&(a1.t==b2.t))then(U9 a1.nodes b2.nodes)else some default).bind fun b3=>some (((a1.job.id==b2.job.id&&(a1.job.prio==b2.job.prio&&(a1.job.nodes==b2.job.nodes&&(a1.job.need.a==b2.job.need.a&&(a1.job.need.b==b2.job.need.b&&(a1.job.need.c==b2.job.need.c&&(a1.job.lic.a==b2.job.lic.a&&(a1.job.lic.b==b2.job.lic.b&&(a1.job.lic.c==b2.job.lic.c&&(a1.job.wall==b2.job.wall&&(a1.job.level==b2.job.level&&true)))))))))))&&(a1.t==b2.t))&&b3)
theorem J0P{a1 b2:Run}{r:Bool}(H:ZL a1 b2=some r):Snd Tryz.prog OK [X1 .rd a1,X1 .rd b2] (.bool r) []:=by
 refine wS M0O [.t 4] ?_
 unfold ZL at H
 obtain⟨b3,h3,H⟩:=bB H
 refine wG [.g 22 [(_,true)] (.call _ _ _ _ _ (AEs.refl _) (fun q=>UC (bT q.1 h3)))] fun _=>?_
 replace H:=sI H;subst H
 exact wE [(4,.d)]
noncomputable def Ox:L :=
 lf Tryz.prog Jg [] [] [] [] [(6,9)] [] []
def X7(s2:List Node)(x5:Node)(i5:Nat)(_:Unit)(k5:Unit->Option Bool):Option Bool :=
 (idx s2 (i5:Int)).bind fun e6=>bif (!(x5.leaf==e6.leaf&&(x5.cap.a==e6.cap.a&&(x5.cap.b==e6.cap.b&&(x5.cap.c==e6.cap.c&&true)))))then(some false)else(k5 ())
def Ld(_:Unit):Option Bool :=
 some true
def U4(s1 s2:List Node):Option Bool :=
 bif ((s1.length:Int)!=(s2.length:Int))then(some false)else(rgl (X7 s2) Ld s1 0 ())
theorem Wx{s1 s2:List Node}{r:Bool}(H:U4 s1 s2=some r):Snd Tryz.prog Jg [rV 4 (s1.map V1),rV 4 (s2.map V1)] (.bool r) []:=by
 refine wS Ox [.t 4] ?_
 unfold U4 at H
 refine wG [.u 7 (.ln _ _ fun _=>lm s1 V1),.u 9 (.ln _ _ fun _=>lm s2 V1)] fun q3=>?_
 refine O0 H (fun H=>?_) fun H=>?_
 .obtain rfl:=sI H
  exact wP (wE [(4,.d)])
 .refine wG [.u 12 (.ln _ _ fun _=>lm s1 V1)] fun q4=>?_
  refine wR (fun(i5:Nat) (v5:Unit)=>⟨[(0,rV 4 (s1.map V1)),(1,rV 4 (s2.map V1)),(12,iV (s1.length:Int)),(13,iV (i5:Int))],[],[],[]⟩) H (fun i5 x5 v5 I m k5 hxv5 hiv5 H N27=>?_) (fun v5 I m H=>?_)
  .unfold X7 at H
   refine wP ?_
   refine wt (ltT hiv5) ?_
   obtain⟨e6,h6,H⟩:=bB H
   refine wG [.u 18 (.ix _ _ _ fun _=>V0 V1 (Z1 hxv5)),.u 22 (.ix _ _ _ fun _=>V0 V1 h6)] fun _=>?_
   refine O0 H (fun H=>?_) fun H=>?_
   .obtain rfl:=sI H
    exact wP (wE [(4,.d)])
   .refine wG [.w 25 (wi .i64 rfl hiv5 q3.1)] fun _=>?_
    exact wT (N27 () H)
  .unfold Ld at H
   refine wP ?_
   refine wf (ltF s1.length) ?_
   obtain rfl:=sI H
   exact wP (wE [(4,.d)])
noncomputable def Y0G:L :=
 lf Tryz.prog Q0f [] [] [] [] [] [] []
def Ls(a1 b2:Topo):Option Bool :=
 (U9 a1.parents b2.parents).bind fun b3=>(bif b3 then(U4 a1.nodes b2.nodes)else some default).bind fun b4=>some (b3&&b4)
theorem Q07{a1 b2:Topo}{r:Bool}(H:Ls a1 b2=some r):Snd Tryz.prog Q0f [U5 .rd a1,U5 .rd b2] (.bool r) []:=by
 refine wS Y0G [.t 4] ?_
 unfold Ls at H
 obtain⟨b3,h3,H⟩:=bB H
 obtain⟨b4,h4,H⟩:=bB H
 refine wG [.c 9 (UC h3),.g 15 [(_,true)] (.call _ _ _ _ _ (AEs.refl _) (fun q=>Wx (bT q.1 h4)))] fun _=>?_
 replace H:=sI H;subst H
 exact wE [(4,.d)]
noncomputable def YZ:L :=
 lf Tryz.prog Jy [] [] [] [] [(6,9)] [] []
def Zh(s2:List Bool)(x5:Bool)(i5:Nat)(_:Unit)(k5:Unit->Option Bool):Option Bool :=
 (idx s2 (i5:Int)).bind fun e6=>bif (!(x5==e6))then(some false)else(k5 ())
def Wt(_:Unit):Option Bool :=
 some true
def L9(s1 s2:List Bool):Option Bool :=
 bif ((s1.length:Int)!=(s2.length:Int))then(some false)else(rgl (Zh s2) Wt s1 0 ())
theorem LY{s1 s2:List Bool}{r:Bool}(H:L9 s1 s2=some r):Snd Tryz.prog Jy [rV 1 (s1.map eBo),rV 1 (s2.map eBo)] (.bool r) []:=by
 refine wS YZ [.t 4] ?_
 unfold L9 at H
 refine wG [.u 7 (.ln _ _ fun _=>lm s1 eBo),.u 9 (.ln _ _ fun _=>lm s2 eBo)] fun q3=>?_
 refine O0 H (fun H=>?_) fun H=>?_
 .obtain rfl:=sI H
  exact wP (wE [(4,.d)])
 .refine wG [.u 12 (.ln _ _ fun _=>lm s1 eBo)] fun q4=>?_
  refine wR (fun(i5:Nat) (v5:Unit)=>⟨[(0,rV 1 (s1.map eBo)),(1,rV 1 (s2.map eBo)),(12,iV (s1.length:Int)),(13,iV (i5:Int))],[],[],[]⟩) H (fun i5 x5 v5 I m k5 hxv5 hiv5 H N27=>?_) (fun v5 I m H=>?_)
  .unfold Zh at H
   refine wP ?_
   refine wt (ltT hiv5) ?_
   obtain⟨e6,h6,H⟩:=bB H
   refine wG [.u 18 (.ix _ _ _ fun _=>V0 eBo (Z1 hxv5)),.u 22 (.ix _ _ _ fun _=>V0 eBo h6)] fun _=>?_
   refine O0 H (fun H=>?_) fun H=>?_
   .obtain rfl:=sI H
    exact wP (wE [(4,.d)])
   .refine wG [.w 25 (wi .i64 rfl hiv5 q3.1)] fun _=>?_
    exact wT (N27 () H)
  .unfold Wt at H
   refine wP ?_
   refine wf (ltF s1.length) ?_
   obtain rfl:=sI H
   exact wP (wE [(4,.d)])
noncomputable def ZD:L :=
 lf Tryz.prog Oj [] [] [] [] [(6,9)] [] []
def M8(s2:List Job)(x5:Job)(i5:Nat)(_:Unit)(k5:Unit->Option Bool):Option Bool :=
 (idx s2 (i5:Int)).bind fun e6=>bif (!(x5.id==e6.id&&(x5.prio==e6.prio&&(x5.nodes==e6.nodes&&(x5.need.a==e6.need.a&&(x5.need.b==e6.need.b&&(x5.need.c==e6.need.c&&(x5.lic.a==e6.lic.a&&(x5.lic.b==e6.lic.b&&(x5.lic.c==e6.lic.c&&(x5.wall==e6.wall&&(x5.level==e6.level&&true))))))))))))then(some false)else(k5 ())
def Mg(_:Unit):Option Bool :=
 some true
def Y5(s1 s2:List Job):Option Bool :=
 bif ((s1.length:Int)!=(s2.length:Int))then(some false)else(rgl (M8 s2) Mg s1 0 ())
theorem QC{s1 s2:List Job}{r:Bool}(H:Y5 s1 s2=some r):Snd Tryz.prog Oj [rV 11 (s1.map eJob),rV 11 (s2.map eJob)] (.bool r) []:=by
 refine wS ZD [.t 4] ?_
 unfold Y5 at H
 refine wG [.u 7 (.ln _ _ fun _=>lm s1 eJob),.u 9 (.ln _ _ fun _=>lm s2 eJob)] fun q3=>?_
 refine O0 H (fun H=>?_) fun H=>?_
 .obtain rfl:=sI H
  exact wP (wE [(4,.d)])
 .refine wG [.u 12 (.ln _ _ fun _=>lm s1 eJob)] fun q4=>?_
  refine wR (fun(i5:Nat) (v5:Unit)=>⟨[(0,rV 11 (s1.map eJob)),(1,rV 11 (s2.map eJob)),(12,iV (s1.length:Int)),(13,iV (i5:Int))],[],[],[]⟩) H (fun i5 x5 v5 I m k5 hxv5 hiv5 H N27=>?_) (fun v5 I m H=>?_)
  .unfold M8 at H
   refine wP ?_
   refine wt (ltT hiv5) ?_
   obtain⟨e6,h6,H⟩:=bB H
   refine wG [.u 18 (.ix _ _ _ fun _=>V0 eJob (Z1 hxv5)),.u 22 (.ix _ _ _ fun _=>V0 eJob h6)] fun _=>?_
   refine O0 H (fun H=>?_) fun H=>?_
   .obtain rfl:=sI H
    exact wP (wE [(4,.d)])
   .refine wG [.w 25 (wi .i64 rfl hiv5 q3.1)] fun _=>?_
    exact wT (N27 () H)
  .unfold Mg at H
   refine wP ?_
   refine wf (ltF s1.length) ?_
   obtain rfl:=sI H
   exact wP (wE [(4,.d)])
noncomputable def M7:L :=
 lf Tryz.prog W5 [] [] [] [] [] [] []
def J1(s2:List Run)(x5:Run)(i5:Nat)(_:Unit)(k5:Unit->Option Bool):Option Bool :=
 (idx s2 (i5:Int)).bind fun e6=>(ZL x5 e6).bind fun b7=>bif (!b7)then(some false)else(k5 ())
def W3(_:Unit):Option Bool :=
 some true
def Y1(s1 s2:List Run):Option Bool :=
 bif ((s1.length:Int)!=(s2.length:Int))then(some false)else(rgl (J1 s2) W3 s1 0 ())
theorem O7{s1 s2:List Run}{r:Bool}(H:Y1 s1 s2=some r):Snd Tryz.prog W5 [rV 13 (s1.map (X1 .rd)),rV 13 (s2.map (X1 .rd)),.fn OK []] (.bool r) []:=by
 refine wS M7 [.t 6] ?_
 unfold Y1 at H
 refine wG [.u 11 (.ln _ _ fun _=>lm s1 (X1 .rd)),.u 13 (.ln _ _ fun _=>lm s2 (X1 .rd))] fun q3=>?_
 refine O0 H (fun H=>?_) fun H=>?_
 .obtain rfl:=sI H
  exact wP (wE [(6,.d)])
 .refine wG [.u 16 (.ln _ _ fun _=>lm s1 (X1 .rd))] fun q4=>?_
  refine wR (fun(i5:Nat) (v5:Unit)=>⟨[(1,rV 13 (s2.map (X1 .rd))),(2,.fn OK []),(15,rV 13 (s1.map (X1 .rd))),(16,iV (s1.length:Int)),(17,iV (i5:Int))],[],[],[]⟩) H (fun i5 x5 v5 I m k5 hxv5 hiv5 H N29=>?_) (fun v5 I m H=>?_)
  .unfold J1 at H
   refine wP ?_
   refine wt (ltT hiv5) ?_
   obtain⟨e6,h6,H⟩:=bB H
   obtain⟨b7,h7,H⟩:=bB H
   refine wG [.u 20 (.ix _ _ _ fun _=>V0 (X1 .rd) (Z1 hxv5)),.u 24 (.ix _ _ _ fun _=>V0 (X1 .rd) h6),.u 29 (.clsr _ _ _ _ _ (AEs.refl _) (by kernel_rfl) (fun _=>J0P h7))] fun _=>?_
   refine O0 H (fun H=>?_) fun H=>?_
   .refine wP ?_
    replace H:=sI H;subst H
    exact wE [(6,.d)]
   .refine wG [.w 31 (wi .i64 rfl hiv5 q3.1)] fun _=>?_
    exact wT (N29 () H)
  .unfold W3 at H
   refine wP ?_
   refine wf (ltF s1.length) ?_
   obtain rfl:=sI H
   exact wP (wE [(6,.d)])
noncomputable def YD:L :=
 lf Tryz.prog Mj [] [] [] [] [(6,9)] [] []
def L8(s2:List End)(x5:End)(i5:Nat)(_:Unit)(k5:Unit->Option Bool):Option Bool :=
 (idx s2 (i5:Int)).bind fun e6=>bif (!(x5.id==e6.id&&(x5.t==e6.t&&(x5.why==e6.why&&true))))then(some false)else(k5 ())
def Lg(_:Unit):Option Bool :=
 some true
def X5(s1 s2:List End):Option Bool :=
 bif ((s1.length:Int)!=(s2.length:Int))then(some false)else(rgl (L8 s2) Lg s1 0 ())
theorem WC{s1 s2:List End}{r:Bool}(H:X5 s1 s2=some r):Snd Tryz.prog Mj [rV 3 (s1.map eEnd),rV 3 (s2.map eEnd)] (.bool r) []:=by
 refine wS YD [.t 4] ?_
 unfold X5 at H
 refine wG [.u 7 (.ln _ _ fun _=>lm s1 eEnd),.u 9 (.ln _ _ fun _=>lm s2 eEnd)] fun q3=>?_
 refine O0 H (fun H=>?_) fun H=>?_
 .obtain rfl:=sI H
  exact wP (wE [(4,.d)])
 .refine wG [.u 12 (.ln _ _ fun _=>lm s1 eEnd)] fun q4=>?_
  refine wR (fun(i5:Nat) (v5:Unit)=>⟨[(0,rV 3 (s1.map eEnd)),(1,rV 3 (s2.map eEnd)),(12,iV (s1.length:Int)),(13,iV (i5:Int))],[],[],[]⟩) H (fun i5 x5 v5 I m k5 hxv5 hiv5 H N27=>?_) (fun v5 I m H=>?_)
  .unfold L8 at H
   refine wP ?_
   refine wt (ltT hiv5) ?_
   obtain⟨e6,h6,H⟩:=bB H
   refine wG [.u 18 (.ix _ _ _ fun _=>V0 eEnd (Z1 hxv5)),.u 22 (.ix _ _ _ fun _=>V0 eEnd h6)] fun _=>?_
   refine O0 H (fun H=>?_) fun H=>?_
   .obtain rfl:=sI H
    exact wP (wE [(4,.d)])
   .refine wG [.w 25 (wi .i64 rfl hiv5 q3.1)] fun _=>?_
    exact wT (N27 () H)
  .unfold Lg at H
   refine wP ?_
   refine wf (ltF s1.length) ?_
   obtain rfl:=sI H
   exact wP (wE [(4,.d)])
noncomputable def Q0n:L :=
 lf Tryz.prog OX [] [] [] [] [] [] []
def Jw(a1 b2:State):Option Bool :=
 (Ls a1.topo b2.topo).bind fun b3=>(bif b3 then(L9 a1.up b2.up)else some default).bind fun b4=>(bif ((((b3&&b4)&&(a1.lic.a==b2.lic.a&&(a1.lic.b==b2.lic.b&&(a1.lic.c==b2.lic.c&&true))))&&(a1.depth==b2.depth))&&(a1.now==b2.now))then(Y5 a1.queue b2.queue)else some default).bind fun b5=>(bif (((((b3&&b4)&&(a1.lic.a==b2.lic.a&&(a1.lic.b==b2.lic.b&&(a1.lic.c==b2.lic.c&&true))))&&(a1.depth==b2.depth))&&(a1.now==b2.now))&&b5)then(Y1 a1.runs b2.runs)else some default).bind fun b6=>(bif ((((((b3&&b4)&&(a1.lic.a==b2.lic.a&&(a1.lic.b==b2.lic.b&&(a1.lic.c==b2.lic.c&&true))))&&(a1.depth==b2.depth))&&(a1.now==b2.now))&&b5)&&b6)then(X5 a1.ends b2.ends)else some default).bind fun b7=>some (((((((b3&&b4)&&(a1.lic.a==b2.lic.a&&(a1.lic.b==b2.lic.b&&(a1.lic.c==b2.lic.c&&true))))&&(a1.depth==b2.depth))&&(a1.now==b2.now))&&b5)&&b6)&&b7)
theorem O0n{a1 b2:State}{r:Bool}(H:Jw a1 b2=some r):Snd Tryz.prog OX [Y3 .rd a1,Y3 .rd b2] (.bool r) []:=by
 refine wS Q0n [.t 4] ?_
 unfold Jw at H
 obtain⟨b3,h3,H⟩:=bB H
 obtain⟨b4,h4,H⟩:=bB H
 obtain⟨b5,h5,H⟩:=bB H
 obtain⟨b6,h6,H⟩:=bB H
 obtain⟨b7,h7,H⟩:=bB H
 refine wG [.c 9 (Q07 h3),.g 15 [(_,true)] (.call _ _ _ _ _ (AEs.refl _) (fun q=>LY (bT q.1 h4))),.g 43 [(_,true)] (.call _ _ _ _ _ (AEs.refl _) (fun q=>QC (bT q.1 h5))),.g 50 [(_,true)] (.call _ _ _ _ _ (AEs.refl _) (fun q=>O7 (bT q.1 h6))),.g 57 [(_,true)] (.call _ _ _ _ _ (AEs.refl _) (fun q=>WC (bT q.1 h7)))] fun _=>?_
 replace H:=sI H;subst H
 exact wE [(4,.d)]
noncomputable def Z0x:L :=
 lf Tryz.prog L08 [] [] [] [] [] [] []
def Zv(a1 b2:State):Option Bool :=
 (Ze a1).bind fun b3=>(bif b3 then(Ze b2)else some default).bind fun b4=>(bif (b3&&b4)then(Jw a1 b2)else some default).bind fun b5=>some ((b3&&b4)&&b5)
theorem O0x{a1 b2:State}{r:Bool}(H:Zv a1 b2=some r):Snd Tryz.prog L08 [Y3 .rd a1,Y3 .rd b2] (.bool r) []:=by
 refine wS Z0x [.t 4] ?_
 unfold Zv at H
 obtain⟨b3,h3,H⟩:=bB H
 obtain⟨b4,h4,H⟩:=bB H
 obtain⟨b5,h5,H⟩:=bB H
 refine wG [.c 6 (Ql h3),.g 9 [(_,true)] (.call _ _ _ _ _ (AEs.refl _) (fun q=>Ql (bT q.1 h4))),.g 14 [(_,true)] (.call _ _ _ _ _ (AEs.refl _) (fun q=>O0n (bT q.1 h5)))] fun _=>?_
 replace H:=sI H;subst H
 exact wE [(4,.d)]
def jobW(j:Job):List Str:=[numText j.id,numText j.prio,numText j.nodes,Q4 j.need,Q4 j.lic,numText j.wall,numText j.level]
theorem Z1n{j:Job}(h:U1 j=true):My (jobW j)=some j:=by
 obtain⟨h1,h2,h3,h4,h5,h6,h7⟩:=Qn.1 h
 have t:∀{n:Int},0<=n->n<=1000000000->time n=true:=fun a b=>by simp[time,a,b]
 unfold My
 have i0:idx (jobW j) 0=some (numText j.id):=rfl
 have i1:idx (jobW j) 1=some (numText j.prio):=rfl
 have i2:idx (jobW j) 2=some (numText j.nodes):=rfl
 have i3:idx (jobW j) 3=some (Q4 j.need):=rfl
 have i4:idx (jobW j) 4=some (Q4 j.lic):=rfl
 have i5:idx (jobW j) 5=some (numText j.wall):=rfl
 have i6:idx (jobW j) 6=some (numText j.level):=rfl
 rw[i0,bS,LC (t (by omega) (by omega)),bS,i1,bS,LC (t (by omega) (by omega)),bS,i2,bS,LC (t (by omega) (by omega)),bS,i3,bS,L0I h4,bS,i4,bS,L0I h5,bS,i5,bS,LC (t (by omega) (by omega)),bS,i6,bS,LC (t (by omega) (by omega)),bS]
theorem J0I{v:Vec}:(32:UInt8)∉Q4 v:=L19 no32 (by decide)
theorem M1z(j:Job):O5 32 (numText j.id++[32]++numText j.prio++[32]++numText j.nodes++[32]++Q4 j.need++[32]++Q4 j.lic++[32]++numText j.wall++[32]++numText j.level)=jobW j:=by
 simp only[List.append_assoc,List.cons_append,List.nil_append]
 rw[Vb (Uu no32),Vb (Uu no32),Vb (Uu no32),Vb J0I,Vb J0I,Vb (Uu no32),LQ (Uu no32)]
 rfl
theorem V17(r:Room)(j:Job)(from_ to_:Int)(nodes:List Int):U8 r j from_ to_ nodes=bif diffOk r j nodes then Q0g r j.need j.lic from_ to_ nodes else some Qu:=by
 unfold U8 diffOk
 rw[Z0Y,bS,Q04]
 cases hr:roomOk r with
 |false=>rfl
 |true =>
  have hR:=J00.1 hr
  rw[L0n hR.small.nodes]
  cases U1 j with
  |false=>rfl
  |true =>
   simp only[yL,Bool.or_self,yM,Bool.true_and,bS]
   cases(decide ((nodes.length:Int)=j.nodes)&&U7 r.topo nodes&&decide nodes.Nodup)with
   |false=>rfl
   |true =>
    simp only[yL,Bool.or_self,yM,yN]
    rw[U0H hR.small,bS]
    unfold Q0g Vd Xd
    simp only[fun p f t v=>(Q0o p f t v).1]
    rfl
def idsOk(l:List Job):Bool:=decide (l.map Job.id).Nodup
noncomputable def queueOk(l:List Job):Bool:=decide (l.length<=60)&&l.all U1&&idsOk l
theorem U1n{l:List Job}{i:Nat}{x:Job}(hx:l[i]?=some x):((l.take (i+1)).map Job.id).Nodup↔((l.take i).map Job.id).Nodup/\∀y∈l.take i,y.id≠x.id:=by
 obtain⟨hi,rfl⟩:=yB hx
 rw[List.take_succ_eq_append_getElem hi,List.map_append,List.nodup_append]
 constructor
 .intro h;exact⟨h.1,fun y hy e=>h.2.2 _ (List.mem_map_of_mem hy) _ (List.mem_singleton.2 rfl) e⟩
 .intro h;exact⟨h.1,by simp,fun a ha b hb e=>by
   obtain⟨y,hy,rfl⟩:=yY ha
   rw[show b=l[i].id by simpa using hb]at e
   exact h.2 y hy e⟩
theorem U0Z{γ:Type}{bd:Job->Nat->Unit->(Unit->Option γ)->Option γ}{kk:Unit->Option γ}{r:Option γ}{l:List Job}
  (hb:∀i x k,l[i]?=some x->bd x i () k=bif (!U1 x)||(l.take i).any (fun y=>y.id==x.id)then r else k ()):rgl bd kk l 0 ()=bif l.all U1&&idsOk l then kk ()else r:=by
 refine Mc (fun i (_:Unit)=>(∀y∈l.take i,U1 y=true)/\((l.take i).map Job.id).Nodup) (fun o=>o=bif l.all U1&&idsOk l then kk ()else r) (fun i x b k hx hI hk=>?_) (fun b hI=>?_) (by simp)
 .have hil:=(yB hx).1
  rw[hb i x k hx]
  cases hj:U1 x with
  |false =>
   have:l.all U1=false:=List.all_eq_false.2 ⟨x,yE hx,by rw[hj];simp⟩
   rw[this];rfl
  |true =>
   cases hc:(l.take i).any (fun y=>y.id==x.id)with
   |true =>
    obtain⟨y,hy,he⟩:=List.any_eq_true.1 hc
    have:idsOk l=false:=by
     unfold idsOk
     rw[decide_eq_false_iff_not]
     intro q
     have q2:((l.take (i+1)).map Job.id).Nodup:=q.sublist ((List.take_sublist _ _).map _)
     exact((U1n hx).1 q2).2 y hy (by simpa using he)
    rw[this,Bool.and_false];rfl
   |false =>
    refine hk () ⟨fun y hy=>?_,(U1n hx).2 ⟨hI.2,fun y hy e=>?_⟩⟩
    .obtain⟨hi,rfl⟩:=yB hx
     rw[List.take_succ_eq_append_getElem hi]at hy
     rcases List.mem_append.1 hy with hy|hy
     .exact hI.1 y hy
     .rw[List.mem_singleton.1 hy];exact hj
    .have:=List.any_eq_false.1 hc y hy
     simp[e]at this
 .rw[List.take_of_length_le (yV _)]at hI
  rw[List.all_eq_true.2 hI.1]
  unfold idsOk
  rw[decide_eq_true hI.2];rfl
theorem US(l:List Job):Mp l=some (queueOk l):=by
 unfold Mp queueOk
 by_cases h:60<l.length
 .simp[show(60:Int)<l.length by omega,show ¬ l.length<=60 by omega]
 .rw[show decide ((60:Int)<(l.length:Int))=false by simp;omega,show decide (l.length<=60)=true by simp;omega]
  simp only[yM,Bool.true_and]
  rw[U0Z (r:=some false) (fun i x k hx=>?_)]
  .unfold QM
   cases(l.all U1&&idsOk l)<;>rfl
  .have hil:=(yB hx).1
   unfold WM
   cases U1 x with
   |false=>rfl
   |true =>
    simp only[yL,yM,Bool.false_or]
    have h:=M0m (bd:=Un l i x k) (fun(i:Nat) (_:Unit)=>(i:Int)) (n:=i)
     (B:=fun m _ _ k=>bif (match l[m]? with|some e=>e.id==x.id|none=>false)then some false else k ()) (kk:=fun _=>k ()) (fun m st k hm=>by
      obtain⟨e,he⟩:∃e,l[m]?=some e:=⟨_,yA (by omega)⟩
      have hlt:(m:Int)<(i:Int):=by omega
      simp only[Un,hlt,decide_true,yN,V3,he,bS,W09 (n:=m) (by omega)])
     (fun m st k hm=>by
      have hlt:¬ (m:Int)<(i:Int):=by omega
      simp only[Un,hlt,decide_false,yM]) 9223372036854775807 0 () (by omega)
    refine h.trans ?_
    rw[Xq (r:=some false) (p:=fun(m:Nat)=>match l[m]? with|some e=>e.id==x.id|none=>false) (fun m _ i k=>rfl)]
    have e:(List.range' 0 (i-0)).any (fun(m:Nat)=>match l[m]? with|some e=>e.id==x.id|none=>false)=(l.take i).any (fun y=>y.id==x.id):=by
     rw[Bool.eq_iff_iff,List.any_eq_true,List.any_eq_true]
     constructor
     .rintro⟨m,hm,hq⟩
      obtain⟨j,hj,rfl⟩:=List.mem_range'.1 hm
      have hlt:0+1*j<l.length:=by omega
      rw[yA hlt]at hq
      exact⟨_,List.mem_take_iff_getElem.2 ⟨0+1*j,by omega,rfl⟩,hq⟩
     .rintro⟨y,hy,hq⟩
      obtain⟨m,hm,rfl⟩:=List.mem_take_iff_getElem.1 hy
      exact⟨m,List.mem_range'.2 ⟨m,by omega,by omega⟩,by rw[yA (by omega)];exact hq⟩
    rw[e]
theorem O1i(l:List Job)(c:Job):Q1 l c=some (l.any fun y=>y.id==c.id):=by
 unfold Q1 W2
 have:∃r:Int,rgl (Z2 c) U3 l 0 ()=some r/\decide (0<=r)=l.any fun y=>y.id==c.id:=by
  refine Mc (fun i (_:Unit)=>∀y∈l.take i,(y.id==c.id)=false) (fun o=>∃r:Int,o=some r/\decide (0<=r)=l.any fun y=>y.id==c.id) (fun i x b k hx hI hk=>?_) (fun b hI=>?_) (by simp)
  .unfold Z2 Yv
   cases h:(x.id==c.id)with
   |true=>exact⟨i,rfl,by rw[List.any_eq_true.2 ⟨x,yE hx,h⟩];simp⟩
   |false =>
    refine hk () fun y hy=>?_
    obtain⟨hi,rfl⟩:=yB hx
    rw[List.take_succ_eq_append_getElem hi]at hy
    rcases List.mem_append.1 hy with hy|hy
    .exact hI y hy
    .rw[List.mem_singleton.1 hy];exact h
  .rw[List.take_of_length_le (yV _)]at hI
   exact⟨-1,rfl,by rw[List.any_eq_false.2 fun y hy=>by rw[hI y hy];simp];rfl⟩
 obtain⟨r,h1,h2⟩:=this
 rw[h1,bS,h2]
theorem U0Q(l:List Job):XL l=some (queueOk l):=by
 unfold XL queueOk
 rw[U0Z (r:=some false) (fun i x k hx=>?_)]
 .unfold WN
  have e:decide ((l.length:Int)<=60)=decide (l.length<=60):=by rw[Bool.eq_iff_iff];simp;omega
  rw[e]
  cases l.all U1<;>cases idsOk l<;>cases decide (l.length<=60)<;>rfl
 .have hil:=(yB hx).1
  unfold ON
  rw[Q04,L0J (by omega)]
  cases U1 x with
  |false=>rfl
  |true =>
   simp only[yL,yM,bS,O1i,Bool.false_or]
theorem Q0Q(v:Vec):Um v=Y7 v:=rfl
def UL(t:Topo)(up:List Bool)(lic:Vec):Room:=⟨t,up,t.nodes.map fun x=>(Y7 x.cap).1,(Y7 lic).1⟩
theorem J10{v:Vec}(h:W0 v=true):ProfP (Y7 v).1:=by
 unfold Y7
 rw[h]
 simp only[yL,yM]
 exact⟨by simp,by simp,fun x hx=>by simp at hx;rw[← hx],fun x hx=>by simp at hx;subst hx;exact⟨rfl,h⟩,fun i x y hx hy=>by simp at hy⟩
theorem O0A{t:Topo}(h:TopoP t){up:List Bool}(hu:up.length=t.nodes.length){lic:Vec}(hl:W0 lic=true):RoomP (UL t up lic) :=
  ⟨h,hu,by simp[UL],fun p hp=>by
    obtain⟨x,hx,rfl⟩:=yY hp
    exact J10 (h.node x hx).2.2.2,J10 hl⟩
theorem O17{t:Topo}(h:TopoP t){up:List Bool}(hu:up.length=t.nodes.length)(lic:Vec):W01 t up lic=some (UL t up lic):=by
 have:=h.tree.le;have:=h.nodes
 unfold W01 Qi Wi
 rw[M0 (by simp;omega),bS,bS,M0 (by simp;omega),bS,bS,M0 (by simp;omega),bS]
 rw[V8 (bd:=UZ) (bs:=24) (p:=fun _=>true) (f:=fun x=>(Y7 x.cap).1) (fun x hx i b k=>rfl) (by simp;omega)]
 unfold VZ UL
 simp[List.filter_eq_self.2,Q0Q]
theorem Q06(s:State):Xr s=some (bif topoOk s.topo&&decide (s.up.length=s.topo.nodes.length)&&W0 s.lic then(UL s.topo s.up s.lic,true)else Qu):=by
 unfold Xr
 rw[Qd,bS,X14]
 cases ht:topoOk s.topo with
 |false=>rfl
 |true =>
 cases hu:decide (s.up.length=s.topo.nodes.length)with
 |false=>rfl
 |true =>
 cases hl:W0 s.lic with
 |false=>rfl
 |true =>
  have h:=Lj.1 ht
  have hu:=of_decide_eq_true hu
  have:=h.nodes
  simp only[yL,Bool.or_self,yM,Bool.and_self,yN]
  rw[V8 (bd:=OF) (bs:=24) (p:=fun _=>true) (f:=fun x=>(Y7 x.cap).1) (fun x hx i b k=>rfl) (by simp;omega)]
  unfold WF
  rw[show(s.topo.nodes.filter fun _=>true)=s.topo.nodes from List.filter_eq_self.2 fun _ _=>rfl,List.nil_append]
  have hR:=O0A h hu hl
  unfold UL at hR
  rw[W0a hR.small,bS]
  rfl
def M12(s:State)(x:Run):Bool:=time x.t&&decide (x.t<=s.now)&&decide (s.now<x.t+x.job.wall)&&decide (x.t+x.job.wall<=1000000000)
noncomputable def Z0h(s:State)(x:Run)(v:Room):Option (Room×Bool):=bif diffOk v x.job x.nodes&&M12 s x then Q0g v x.job.need x.job.lic s.now (x.t+x.job.wall) x.nodes else some Qu
theorem W11{s:State}(hs:time s.now=true)(x:Run)(i:Nat)(v:Room)(k:Room->Option (Room×Bool)):JB s x i v k=(Z0h s x v).bind fun y=>bif !y.2 then some Qu else k y.1:=by
 have hn:=Uo.1 hs
 unfold JB Z0h
 rw[U0a,bS,Uk]
 cases hd:diffOk v x.job x.nodes with
 |false=>rfl
 |true =>
  have hj:U1 x.job=true:=by unfold diffOk at hd;simp only[yD]at hd;exact hd.1.1.1.2
  have hj':=Qn.1 hj
  unfold M12
  by_cases ht:time x.t=true/\x.t<=s.now
  .have ht1:=Uo.1 ht.1
   rw[ht.1,J3 (n:=x.t+x.job.wall) (by omega),show decide (s.now<x.t)=false by simp;omega,show decide (x.t<=s.now)=true by simpa using ht.2]
   by_cases h3:s.now<x.t+x.job.wall
   .rw[show decide (x.t+x.job.wall<=s.now)=false by simp;omega,show decide (s.now<x.t+x.job.wall)=true by simpa using h3]
    by_cases h4:x.t+x.job.wall<=1000000000
    .rw[show decide (1000000000<x.t+x.job.wall)=false by simp;omega,show decide (x.t+x.job.wall<=1000000000)=true by simpa using h4]
     simp only[yL,Bool.or_self,yM,Bool.and_self,yN]
     rw[J3 (n:=x.t+x.job.wall-s.now) (by omega),Z0b]
     have e:diffOk v ⟨x.job.id,x.job.prio,x.job.nodes,x.job.need,x.job.lic,x.t+x.job.wall-s.now,x.job.level⟩ x.nodes=true:=by
      have hj2:U1 ⟨x.job.id,x.job.prio,x.job.nodes,x.job.need,x.job.lic,x.t+x.job.wall-s.now,x.job.level⟩=true:=by
       rw[Qn];simp only;refine⟨hj'.1,hj'.2.1,hj'.2.2.1,hj'.2.2.2.1,hj'.2.2.2.2.1,by omega,hj'.2.2.2.2.2.2⟩
      unfold diffOk at hd ⊢
      rw[hj]at hd
      rw[hj2];exact hd
     rw[e,hs]
     simp only[Bool.and_self,yN]
     rw[show s.now+(x.t+x.job.wall-s.now)=x.t+x.job.wall by omega,J3 (by omega)]
     rfl
    .rw[show decide (1000000000<x.t+x.job.wall)=true by simp;omega,show decide (x.t+x.job.wall<=1000000000)=false by simpa using h4]
     simp[Qu]
   .rw[show decide (x.t+x.job.wall<=s.now)=true by simp;omega,show decide (s.now<x.t+x.job.wall)=false by simpa using h3]
    simp[Qu]
  .have:(time x.t&&decide (x.t<=s.now))=false:=by
    rw[Bool.eq_false_iff];intro q;simp only[yD,yO]at q;exact ht q
   rw[this]
   have h2:(!(time x.t)||decide (s.now<x.t))=true:=by
    cases hx:time x.t with
    |false=>rfl
    |true =>
     have:¬ x.t<=s.now:=fun q=>ht ⟨hx,q⟩
     simp;omega
   simp only[yL,Bool.false_or,h2,Bool.true_or,yN,Bool.false_and,Bool.and_false,yM,bS]
   rfl
theorem X17{s:State}(hs:time s.now=true)(x:Run)(i:Nat)(v:Room)(k:Room->Option (Room×Bool)):OE s x i v k=(Z0h s x v).bind fun y=>bif !y.2 then some Qu else k y.1:=by
 have hn:=Uo.1 hs
 unfold OE Z0h
 rw[Q04,V17]
 cases hj:U1 x.job with
 |false =>
  have hd:diffOk v x.job x.nodes=false:=by unfold diffOk;rw[hj];simp
  rw[hd];rfl
 |true =>
  have hj':=Qn.1 hj
  by_cases h1:0<=x.t/\x.t<=s.now
  .rw[J3 (n:=x.t+x.job.wall) (by omega),J3 (n:=s.now+1) (by omega)]
   have e1:Y0 x.t 0 s.now=true:=by simp[Y0];exact h1
   have e2:Y0 (x.t+x.job.wall) (s.now+1) 1000000000=(decide (s.now<x.t+x.job.wall)&&decide (x.t+x.job.wall<=1000000000)):=by
    unfold Y0;congr 1
   have e3:time x.t=true:=by rw[Uo];omega
   unfold M12
   rw[e1,e2,e3,show decide (x.t<=s.now)=true by simpa using h1.2]
   simp only[yL,Bool.false_or,Bool.and_self,Bool.true_and]
   cases(decide (s.now<x.t+x.job.wall)&&decide (x.t+x.job.wall<=1000000000))<;>cases diffOk v x.job x.nodes<;>rfl
  .have e1:Y0 x.t 0 s.now=false:=by
    unfold Y0;rw[Bool.eq_false_iff];intro q;simp only[yD,yO]at q;exact h1 q
   have e2:M12 s x=false:=by
    unfold M12;rw[Bool.eq_false_iff];intro q;simp only[yD,yO,Uo]at q;exact h1 ⟨q.1.1.1.1,q.1.1.2⟩
   rw[e1,e2]
   simp[Qu]
noncomputable def O0p(s:State):Option (Room×Bool):=rgl (fun x _ v k=>(Z0h s x v).bind fun y=>bif !y.2 then some Qu else k y.1) (fun v=>some (v,true)) s.runs 0 (UL s.topo s.up s.lic)
noncomputable def OV(s:State):Bool:=topoOk s.topo&&decide (s.up.length=s.topo.nodes.length)&&W0 s.lic&&time s.now
theorem Q0j(s:State):Xg s=bif OV s then O0p s else some Qu:=by
 unfold Xg OV
 rw[Q06,bS,Uk]
 cases(topoOk s.topo&&decide (s.up.length=s.topo.nodes.length)&&W0 s.lic)with
 |false=>rfl
 |true =>
  cases hs:time s.now with
  |false=>rfl
  |true =>
   simp only[yN,yL,Bool.or_self,yM,Bool.and_self]
   unfold O0p
   exact Q0L (fun i x b k _=>W11 hs x i b k) fun b=>rfl
theorem X0Y(s:State):MU s=Xg s:=by
 rw[Q0j]
 unfold MU OV
 rw[Xo,Qd,bS,X14,Zn,XZ]
 cases ht:topoOk s.topo with
 |false=>rfl
 |true =>
 cases hu:decide (s.up.length=s.topo.nodes.length)with
 |false=>rfl
 |true =>
 cases hl:W0 s.lic with
 |false=>rfl
 |true =>
 cases hs:time s.now with
 |false=>rfl
 |true =>
  simp only[yL,Bool.or_self,yM,Bool.and_self,yN]
  rw[O17 (Lj.1 ht) (of_decide_eq_true hu),bS]
  unfold O0p
  exact Q0L (fun i x b k _=>X17 hs x i b k) fun b=>rfl
structure RunsP(s:State):Prop where
 job:∀x∈s.runs,U1 x.job=true/\(x.nodes.length:Int)=x.job.nodes/\U7 s.topo x.nodes=true/\x.nodes.Nodup/\M12 s x=true
theorem Z13{s:State}(h:OV s=true):∃q,O0p s=some q/\(q.2=true->RoomP q.1/\q.1.topo=s.topo/\q.1.up=s.up/\RunsP s):=by
 unfold OV at h
 simp only[yD,yO,Lj]at h
 unfold O0p
 refine Mc (fun i (v:Room)=>RoomP v/\v.topo=s.topo/\v.up=s.up/\∀x∈s.runs.take i,U1 x.job=true/\(x.nodes.length:Int)=x.job.nodes/\U7 s.topo x.nodes=true/\x.nodes.Nodup/\M12 s x=true) (fun o=>∃q:Room×Bool,o=some q/\(q.2=true->RoomP q.1/\q.1.topo=s.topo/\q.1.up=s.up/\RunsP s)) (fun i x v k hx hI hk=>?_) (fun v hI=>?_) ⟨O0A h.1.1.1 h.1.1.2 h.1.2,rfl,rfl,by simp⟩
 .obtain⟨h1,h2,h3,h4⟩:=hI
  unfold Z0h
  cases hd:(diffOk v x.job x.nodes&&M12 s x)with
  |false=>exact⟨Qu,rfl,fun h=>by cases h⟩
  |true =>
   simp only[yD]at hd
   have hd1:=hd.1
   unfold diffOk at hd1
   simp only[yD,yO]at hd1
   obtain⟨q,q1,q2⟩:=O0o h1 x.job.need x.job.lic s.now (x.t+x.job.wall) hd1.1.2
   simp only[yN]
   rw[q1,bS]
   cases hq:q.2 with
   |false=>exact⟨Qu,rfl,fun h=>by cases h⟩
   |true =>
    obtain⟨a1,a2,a3⟩:=q2 hq
    refine hk q.1 ⟨a1,a2.trans h2,a3.trans h3,fun y hy=>?_⟩
    obtain⟨hi,rfl⟩:=yB hx
    rw[List.take_succ_eq_append_getElem hi]at hy
    rcases List.mem_append.1 hy with hy|hy
    .exact h4 y hy
    .rw[List.mem_singleton.1 hy]
     exact⟨hd1.1.1.1.2,hd1.1.1.2,by rw[← h2];exact hd1.1.2,hd1.2,hd.2⟩
 .obtain⟨h1,h2,h3,h4⟩:=hI
  rw[List.take_of_length_le (yV _)]at h4
  exact⟨_,rfl,fun _=>⟨h1,h2,h3,⟨h4⟩⟩⟩
theorem Mw(s:State):∃q,Xg s=some q/\(q.2=true->OV s=true/\RoomP q.1/\q.1.topo=s.topo/\q.1.up=s.up/\RunsP s):=by
 rw[Q0j]
 cases h:OV s with
 |false=>exact⟨Qu,rfl,fun h=>by cases h⟩
 |true =>
  obtain⟨q,h1,h2⟩:=Z13 h
  exact⟨q,h1,fun h=>⟨rfl,h2 h⟩⟩
def allJobs(s:State):List Job:=s.queue++s.runs.map Run.job
theorem Mz{s:State}(h:s.queue.length+s.runs.length<=1048576):Zm s=some (allJobs s):=by
 unfold Zm
 rw[M0 (by simp;omega),bS,V8 (bd:=ML) (bs:=88) (p:=fun _=>true) (f:=Run.job) (fun x hx i b k=>rfl) (by simp;omega)]
 unfold OL allJobs
 simp[List.filter_eq_self.2]
theorem M01(s:State):Oa s=Zm s:=rfl
def AscP(l:List Int):Prop:=∀(i:Nat) (x y:Int),l[i]?=some x->l[i+1]?=some y->x<y
open Classical in
noncomputable def ascB(l:List Int):Bool:=decide (AscP l)
theorem Z0K{l:List Int}:ascB l=true↔AscP l:=by unfold ascB;simp
theorem J0i{l:List Int}(hl:l.length<=1048576):Vl l=some (ascB l):=by
 unfold Vl
 have h:=M0m (bd:=Yb l) (fun(i:Nat) (_:Unit)=>((i+1:Nat):Int)) (n:=l.length-1)
  (B:=fun x _ _ k=>bif (match l[x]?,l[x+1]? with|some a,some b=>decide (b<=a)|_,_=>true)then some false else k ()) (kk:=fun _=>some true) (fun i st k hi=>by
   obtain⟨a,ha⟩:∃e,l[i]?=some e:=⟨_,yA (by omega)⟩
   obtain⟨b,hb⟩:∃e,l[i+1]?=some e:=⟨_,yA (by omega)⟩
   have hlt:((i+1:Nat):Int)<(l.length:Int):=by omega
   simp only[Yb,hlt,decide_true,yN,M0I (n:=i+1) (by omega) (by omega),Nat.add_sub_cancel,V3,ha,hb,bS,W09 (n:=i+1) (by omega)])
  (fun i st k hi=>by
   have hlt:¬ ((i+1:Nat):Int)<(l.length:Int):=by omega
   simp only[Yb,hlt,decide_false,yM]) 9223372036854775807 0 () (by omega)
 refine h.trans ?_
 rw[Xq (r:=some false) (p:=fun(x:Nat)=>match l[x]?,l[x+1]? with|some a,some b=>decide (b<=a)|_,_=>true) (fun x _ i k=>rfl)]
 cases hany:(List.range' 0 (l.length-1-0)).any (fun(x:Nat)=>match l[x]?,l[x+1]? with|some a,some b=>decide (b<=a)|_,_=>true)with
 |true =>
  obtain⟨x,hx,hq⟩:=List.any_eq_true.1 hany
  obtain⟨j,hj,rfl⟩:=List.mem_range'.1 hx
  obtain⟨a,ha⟩:∃e,l[0+1*j]?=some e:=⟨_,yA (by omega)⟩
  obtain⟨b,hb⟩:∃e,l[0+1*j+1]?=some e:=⟨_,yA (by omega)⟩
  rw[ha,hb]at hq
  have:ascB l=false:=by
   rw[Bool.eq_false_iff]
   intro q
   have:=Z0K.1 q _ a b ha hb
   simp at hq;omega
  rw[this];rfl
 |false =>
  have:ascB l=true:=Z0K.2 fun i x y hx hy=>by
   have hlt:=(yB hy).1
   have:=List.any_eq_false.1 hany i (List.mem_range'.2 ⟨i,by omega,by omega⟩)
   rw[hx,hy]at this
   simpa using this
  rw[this];rfl
noncomputable def lowN(t:Topo)(l:List Int):Nat:=((Qx t l).getD 0).toNat
theorem O1y{t:Topo}{l:List Int}(h:U7 t l=true)(hne:l≠[]):lowN t l<t.parents.length/\Qx t l=some (lowN t l:Int)/\QI t l=some (lowN t l:Int):=by
 obtain⟨s,h1,h2,h3⟩:=X1j h hne
 have:lowN t l=s:=by unfold lowN;rw[h2];simp
 rw[this];exact⟨h1,h2,h3⟩
def isUp(s:State)(n:Int):Bool:=(idx s.up n).getD false
noncomputable def runFit(s:State)(x:Run):Bool:=x.nodes.all (isUp s)&&ascB x.nodes&&decide (lev s.topo (lowN s.topo x.nodes)<=x.job.level)
def endOk(s:State)(e:End):Bool:=(decide (1<=e.id)&&decide (e.id<=999))&&(decide (0<=e.t)&&decide (e.t<=s.now))&&(decide (1<=e.why)&&decide (e.why<=4))
noncomputable def stateOk(s:State):Bool:=((Xg s).getD Qu).2&&(decide (0<=s.depth)&&decide (s.depth<=60))&&queueOk (allJobs s)&&decide (s.ends.length<=300)&&s.runs.all (runFit s)&&s.ends.all (endOk s)
theorem O1c{a b:Int}:decide (b<a) = !decide (a<=b):=by rw[Bool.eq_iff_iff];simp
theorem Y1b{s:State}(_:TopoP s.topo)(hu:s.up.length=s.topo.nodes.length)(hR:RunsP s){x:Run}(hx:x∈s.runs) :
  x.nodes≠[]/\U7 s.topo x.nodes=true/\x.nodes.length<=24/\∀n∈x.nodes,∃b,idx s.up n=some b:=by
 obtain⟨h1,h2,h3,_,_⟩:=hR.job x hx
 have hj:=(Qn.1 h1).2.2.1
 refine⟨fun e=>by rw[e]at h2;simp at h2;omega,h3,by omega,fun n hn=>?_⟩
 have:=(Y8.1 h3).2 n hn
 obtain⟨b,q,_⟩:=Ji (l:=s.up) (i:=n) this.1 (by rw[hu];exact this.2)
 exact⟨b,q⟩
theorem Q11{s:State}(hT:TopoP s.topo)(hu:s.up.length=s.topo.nodes.length)(hR:RunsP s){x:Run}(hx:x∈s.runs)(k:Unit->Option Bool)(i:Nat):Ww s x i () k=bif !runFit s x then some false else k ():=by
 obtain⟨h1,h2,h3,h4⟩:=Y1b hT hu hR hx
 obtain⟨l1,l2,l3⟩:=O1y h2 h1
 unfold Ww
 have hk:Uc s x k ()=bif decide (lev s.topo (lowN s.topo x.nodes)<=x.job.level)then k ()else some false:=by
  unfold Uc
  rw[l2,bS,Yi hT l1,bS,O1c]
  cases decide (lev s.topo (lowN s.topo x.nodes)<=x.job.level)<;>rfl
 have:rgl (Ow s x) (Uc s x k) x.nodes 0 ()=bif x.nodes.all (isUp s)&&ascB x.nodes then Uc s x k ()else some false:=by
  refine Mc (fun i (_:Unit)=>(∀j n,j<i->x.nodes[j]?=some n->isUp s n=true)/\∀j a b,j+1<i->x.nodes[j]?=some a->x.nodes[j+1]?=some b->a<b) (fun o=>o=bif x.nodes.all (isUp s)&&ascB x.nodes then Uc s x k ()else some false) (fun i n b kc hi hI hkc=>?_) (fun b hI=>?_) ⟨fun j n h=>by omega,fun j a b h=>by omega⟩
  .have hil:=(yB hi).1
   obtain⟨u,hu'⟩:=h4 n (yE hi)
   have hup:isUp s n=u:=by unfold isUp;rw[hu'];rfl
   unfold Ow
   rw[hu',bS]
   cases u with
   |false =>
    have:x.nodes.all (isUp s)=false:=List.all_eq_false.2 ⟨n,yE hi,by rw[hup];simp⟩
    rw[this];rfl
   |true =>
    have new:∀j m,j<i+1->x.nodes[j]?=some m->isUp s m=true:=by
     intro j m hj hm
     by_cases e:j=i
     .subst e;rw[hi]at hm;cases hm;exact hup
     .exact hI.1 j m (by omega) hm
    by_cases h0:i=0
    .subst h0
     exact hkc () ⟨new,fun j a b hj=>by omega⟩
    .have hgt:decide ((0:Int)<(i:Int))=true:=by simp;omega
     obtain⟨q,hq⟩:∃q,x.nodes[i-1]?=some q:=⟨_,yA (by omega)⟩
     rw[hgt,M0I (by omega) (by omega)]
     simp only[yL,yM,yN,Bool.false_or,Bool.true_and,V3,hq,bS]
     by_cases h5:n<=q
     .have:ascB x.nodes=false:=by
       rw[Bool.eq_false_iff]
       intro w
       have:=Z0K.1 w (i-1) q n hq (by rw[show i-1+1=i by omega];exact hi)
       omega
      rw[this,Bool.and_false];simp[h5]
     .simp only[h5,decide_false,yM]
      refine hkc () ⟨new,fun j a b hj ha hb=>?_⟩
      by_cases e:j+1=i
      .have:j=i-1:=by omega
       subst this
       rw[hq]at ha;cases ha
       rw[show i-1+1=i by omega,hi]at hb;cases hb
       omega
      .exact hI.2 j a b (by omega) ha hb
  .have e1:x.nodes.all (isUp s)=true:=List.all_eq_true.2 fun n hn=>by
    obtain⟨j,hj⟩:=List.getElem?_of_mem hn
    exact hI.1 j n (yB hj).1 hj
   have e2:ascB x.nodes=true:=Z0K.2 fun j a b ha hb=>hI.2 j a b (yB hb).1 ha hb
   rw[e1,e2];rfl
 rw[this,hk]
 unfold runFit
 cases x.nodes.all (isUp s)<;>cases ascB x.nodes<;>cases decide (lev s.topo (lowN s.topo x.nodes)<=x.job.level)<;>rfl
theorem V1G{s:State}(hT:TopoP s.topo)(hu:s.up.length=s.topo.nodes.length)(hR:RunsP s){x:Run}(hx:x∈s.runs)(k:Unit->Option Bool)(i:Nat):Xx s x i () k=bif !runFit s x then some false else k ():=by
 obtain⟨h1,h2,h3,h4⟩:=Y1b hT hu hR hx
 obtain⟨l1,l2,l3⟩:=O1y h2 h1
 unfold Xx
 rw[Xq (r:=some false) (p:=fun n=>!isUp s n) (fun n hn i k=>by
  obtain⟨u,hu'⟩:=h4 n hn
  unfold QN isUp
  rw[hu',bS];rfl),← List.not_all_eq_any_not]
 unfold UN
 rw[J0i (by omega),bS]
 unfold runFit
 cases x.nodes.all (isUp s)with
 |false=>rfl
 |true =>
 cases ascB x.nodes with
 |false=>rfl
 |true =>
  simp only[yL,yM,l3,bS,VU hT l1,Bool.false_or,Bool.true_and,O1c]
theorem Qh{s:State}(hs:s.queue.length+s.runs.length<=1048576):Q9 s=some (stateOk s)/\Ze s=some (stateOk s):=by
 obtain⟨q,h1,h2⟩:=Mw s
 unfold Q9 Ze stateOk
 rw[X0Y,h1,bS,bS,M01,Mz hs,Option.getD_some]
 have e1:(decide (s.depth<0)||decide (60<s.depth)) = !(decide (0<=s.depth)&&decide (s.depth<=60)):=by rw[Bool.eq_iff_iff];simp
 have e2:Y0 s.depth 0 60=(decide (0<=s.depth)&&decide (s.depth<=60)):=rfl
 have e3:decide ((300:Int)<(s.ends.length:Int)) = !decide (s.ends.length<=300):=by rw[Bool.eq_iff_iff];simp;omega
 rw[Bool.or_assoc,e1,e2,e3]
 cases hq:q.2 with
 |false=>exact⟨rfl,rfl⟩
 |true =>
 obtain⟨a1,a2,a3,a4,a5⟩:=h2 hq
 have hT:TopoP s.topo:=by rw[← a3];exact a2.topo
 have hu:s.up.length=s.topo.nodes.length:=by rw[← a3,← a4];exact a2.up
 cases(decide (0<=s.depth)&&decide (s.depth<=60))with
 |false=>exact⟨rfl,rfl⟩
 |true =>
 simp only[yL,Bool.or_self,yM,bS,US,U0Q,Bool.false_or,Bool.true_and]
 cases queueOk (allJobs s)with
 |false=>exact⟨rfl,rfl⟩
 |true =>
 cases decide (s.ends.length<=300)with
 |false=>exact⟨rfl,rfl⟩
 |true =>
 simp only[yL,Bool.or_self,yM,Bool.true_and]
 rw[Xq (r:=some false) (p:=fun x=>!runFit s x) (fun x hx i k=>Q11 hT hu a5 hx k i),Xq (r:=some false) (p:=fun x=>!runFit s x) (fun x hx i k=>V1G hT hu a5 hx k i),← List.not_all_eq_any_not]
 unfold UM VN
 have f1:∀e:End,((((((decide (e.id<1))||(decide (999<e.id)))||(decide (e.t<0)))||(decide (s.now<e.t)))||(decide (e.why<1)))||(decide (4<e.why))) = !endOk s e:=by
  intro e;unfold endOk;rw[Bool.eq_iff_iff];simp;omega
 have f2:∀e:End,(((!(Y0 e.id 1 999))||(!(Y0 e.t 0 s.now)))||(!(Y0 e.why 1 4))) = !endOk s e:=by
  intro e;unfold endOk Y0
  cases(decide (1<=e.id)&&decide (e.id<=999))<;>cases(decide (0<=e.t)&&decide (e.t<=s.now))<;>cases(decide (1<=e.why)&&decide (e.why<=4))<;>rfl
 rw[Xq (bd:=Qw s) (r:=some false) (p:=fun e=>!endOk s e) (fun e he i k=>by unfold Qw;rw[f1]),Xq (bd:=Yx s) (r:=some false) (p:=fun e=>!endOk s e) (fun e he i k=>by unfold Yx;rw[f2]),← List.not_all_eq_any_not]
 unfold VM XN
 cases s.runs.all (runFit s)<;>cases s.ends.all (endOk s)<;>exact⟨rfl,rfl⟩
structure StateP(s:State):Prop where
 topo:TopoP s.topo
 up:s.up.length=s.topo.nodes.length
 lic:W0 s.lic=true
 now:time s.now=true
 room:∃r,Xg s=some (r,true)/\RoomP r/\r.topo=s.topo/\r.up=s.up
 runs:RunsP s
 depth:0<=s.depth/\s.depth<=60
 queue:queueOk (allJobs s)=true
 ends:s.ends.length<=300
 fit:∀x∈s.runs,runFit s x=true
 fin:∀e∈s.ends,endOk s e=true
theorem Qz{s:State}(h:stateOk s=true):StateP s:=by
 obtain⟨q,h1,h2⟩:=Mw s
 unfold stateOk at h
 rw[h1,Option.getD_some]at h
 simp only[yD,yO,List.all_eq_true]at h
 obtain⟨⟨⟨⟨⟨a1,a2⟩,a3⟩,a4⟩,a5⟩,a6⟩:=h
 obtain⟨b1,b2,b3,b4,b5⟩:=h2 a1
 unfold OV at b1
 simp only[yD,yO,Lj]at b1
 exact⟨b1.1.1.1,b1.1.1.2,b1.1.2,b1.2,⟨q.1,by rw[h1,← a1],b2,b3,b4⟩,b5,a2,a3,a4,a5,a6⟩
noncomputable def X0W:L :=
 lf Tryz.prog X0t [] [] [] [] [] [] []
def Xa(s1 by2:Str):Option Bool :=
 (bif (decide ((by2.length:Int)<=(s1.length:Int)))then(cutL s1 none (some (by2.length:Int)))else some default).bind fun w3=>some ((decide ((by2.length:Int)<=(s1.length:Int)))&&(w3==by2))
theorem Z0k{s1 by2:Str}{r:Bool}(H:Xa s1 by2=some r):Snd Tryz.prog X0t [.str s1,.str by2] (.bool r) []:=by
 refine wS X0W [.t 4] ?_
 unfold Xa at H
 obtain⟨w3,h3,H⟩:=bB H
 refine wG [.g 14 [(_,true)] (.ss _ _ _ _ fun q=>(bT q.1 h3))] fun _=>?_
 replace H:=sI H;subst H
 exact wE [(4,.d)]
noncomputable def X0G:L :=
 lf Tryz.prog W0f [] [] [] [] [] [] []
def XH(x4:Int)(_:Nat)(v4:Str)(k4:Str->Option Str):Option Str :=
 (catS v4 ([32]:Str)).bind fun w5=>(O4 x4).bind fun w6=>(catS w5 w6).bind fun w7=>k4 w7
def Q01(v4:Str):Option Str :=
 some v4
def Z6(word1:Str)(l2:List Int):Option Str :=
 rgl XH Q01 l2 0 word1
theorem W6{word1:Str}{l2:List Int}{r:Str}(H:Z6 word1 l2=some r):Snd Tryz.prog W0f [.str word1,rV 1 (l2.map eI)] (.str r) []:=by
 refine wS X0G [.t 4] ?_
 unfold Z6 at H
 refine wG [.u 8 (.ln _ _ fun _=>lm l2 eI)] fun q3=>?_
 refine wR (fun(i4:Nat) (v4:Str)=>⟨[(0,.str v4),(7,rV 1 (l2.map eI)),(8,iV (l2.length:Int)),(9,iV (i4:Int))],[],[],[]⟩) H (fun i4 x4 v4 I m k4 hxv4 hiv4 H N14=>?_) (fun v4 I m H=>?_)
 .unfold XH at H
  refine wP ?_
  refine wt (ltT hiv4) ?_
  obtain⟨w5,h5,H⟩:=bB H
  obtain⟨w6,h6,H⟩:=bB H
  obtain⟨w7,h7,H⟩:=bB H
  refine wG [.u 11 (.ix _ _ _ fun _=>V0 eI (Z1 hxv4)),.u 14 (.sa _ _ _ fun _=>h5),.c 16 (Y4 h6),.u 17 (.sa _ _ _ fun _=>h7),.w 18 (wi .i64 rfl hiv4 q3.1)] fun _=>?_
  exact wT (N14 _ H)
 .unfold Q01 at H
  refine wP ?_
  refine wf (ltF l2.length) ?_
  obtain rfl:=sI H
  exact wP (wE [(4,.d)])
noncomputable def J0w:L :=
 lf Tryz.prog M08 [] [] [] [] [(3,17),(18,18)] [] []
def VE(x31:End)(_:Nat)(v31:Str)(k31:Str->Option Str):Option Str :=
 (Z6 ([101,110,100]:Str) [x31.id,x31.t,x31.why]).bind fun w32=>(catS v31 w32).bind fun w33=>(catS w33 ([10]:Str)).bind fun w34=>k31 w34
def JD(v31:Str):Option Str :=
 (catS v31 ([111,118,101,114,10]:Str)).bind fun w35=>some w35
def UE(x22:Run)(_:Nat)(v22:Str)(k22:Str->Option Str):Option Str :=
 (lenQ x22.nodes).bind fun _=>(Z6 ([114,117,110]:Str) [x22.t,(x22.nodes.length:Int)]).bind fun w24=>(Z6 w24 x22.nodes).bind fun w25=>(Ly x22.job).bind fun w26=>(Ws [w25,w26]).bind fun w27=>(catS v22 w27).bind fun w28=>(catS w28 ([10]:Str)).bind fun w29=>k22 w29
def ZE(s1:State)(v22:Str):Option Str :=
 rgl VE JD s1.ends 0 v22
def QE(x16:Job)(_:Nat)(v16:Str)(k16:Str->Option Str):Option Str :=
 (Ly x16).bind fun w17=>(Ws [([119,97,105,116]:Str),w17]).bind fun w18=>(catS v16 w18).bind fun w19=>(catS w19 ([10]:Str)).bind fun w20=>k16 w20
def YE(s1:State)(v16:Str):Option Str :=
 rgl UE (ZE s1) s1.runs 0 v16
def WE(x11:Bool)(i11:Nat)(v11:Str)(k11:Str->Option Str):Option Str :=
 bif (!x11)then((Z6 ([100,111,119,110]:Str) [(i11:Int)]).bind fun w12=>(catS v11 w12).bind fun w13=>(catS w13 ([10]:Str)).bind fun w14=>k11 w14)else(k11 v11)
def XE(s1:State)(v11:Str):Option Str :=
 rgl QE (YE s1) s1.queue 0 v11
def Jd(s1:State):Option Str :=
 (Ze s1).bind fun b2=>bif (!b2)then(some ([]:Str))else((Xt s1.topo).bind fun w3=>(Oi s1.lic).bind fun w4=>(O4 s1.depth).bind fun w5=>(O4 s1.now).bind fun w6=>(Ws [([115,116,97,116,101]:Str),w4,w5,w6]).bind fun w7=>(catS w3 w7).bind fun w8=>(catS w8 ([10]:Str)).bind fun w9=>rgl WE (XE s1) s1.up 0 w9)
theorem VI{s1:State}{r:Str}(H:Jd s1=some r):Snd Tryz.prog M08 [Y3 .rd s1] (.str r) []:=by
 refine wS J0w [.t 2] ?_
 unfold Jd at H
 obtain⟨b2,h2,H⟩:=bB H
 refine wG [.c 13 (Ql h2)] fun _=>?_
 refine O0 H (fun H=>?_) fun H=>?_
 .obtain rfl:=sI H
  exact wP (wE [(2,.d)])
 .obtain⟨w3,h3,H⟩:=bB H
  obtain⟨w4,h4,H⟩:=bB H
  obtain⟨w5,h5,H⟩:=bB H
  obtain⟨w6,h6,H⟩:=bB H
  obtain⟨w7,h7,H⟩:=bB H
  obtain⟨w8,h8,H⟩:=bB H
  obtain⟨w9,h9,H⟩:=bB H
  refine wG [.c 17 (J07 h3),.c 20 (Oq h4),.c 23 (Y4 h5),.c 26 (Y4 h6),.c 28 (XD h7),.u 29 (.sa _ _ _ fun _=>h8),.u 30 (.sa _ _ _ fun _=>h9),.u 33 (.ln _ _ fun _=>lm s1.up eBo)] fun q10=>?_
  refine wR (fun(i11:Nat) (v11:Str)=>⟨[(1,.ptr 1 0),(3,.str v11),(32,rV 1 (s1.up.map eBo)),(33,iV (s1.up.length:Int)),(34,iV (i11:Int))],[],[(1,(Y3 .rd s1).cells)],[]⟩) H (fun i11 x11 v11 I m k11 hxv11 hiv11 H N26=>?_) (fun v11 I m H=>?_)
  .unfold WE at H
   refine wP ?_
   refine wt (ltT hiv11) ?_
   refine wG [.u 37 (.ix _ _ _ fun _=>V0 eBo (Z1 hxv11))] fun _=>?_
   refine O0 H (fun H=>?_) fun H=>?_
   .obtain⟨w12,h12,H⟩:=bB H
    obtain⟨w13,h13,H⟩:=bB H
    obtain⟨w14,h14,H⟩:=bB H
    refine wG [.c 44 (W6 h12),.u 45 (.sa _ _ _ fun _=>h13),.u 46 (.sa _ _ _ fun _=>h14),.w 47 (wi .i64 rfl hiv11 q10.1)] fun _=>?_
    exact wT (N26 _ H)
   .refine wG [.w 47 (wi .i64 rfl hiv11 q10.1)] fun _=>?_
    exact wT (N26 _ H)
  .unfold XE at H
   refine wP ?_
   refine wf (ltF s1.up.length) ?_
   refine wG [.u 50 (.ln _ _ fun _=>lm s1.queue eJob)] fun q15=>?_
   refine wR (fun(i16:Nat) (v16:Str)=>⟨[(1,.ptr 1 0),(3,.str v16),(49,rV 11 (s1.queue.map eJob)),(50,iV (s1.queue.length:Int)),(51,iV (i16:Int))],[],[(1,(Y3 .rd s1).cells)],[]⟩) H (fun i16 x16 v16 I m k16 hxv16 hiv16 H N42=>?_) (fun v16 I m H=>?_)
   .unfold QE at H
    refine wP ?_
    refine wt (ltT hiv16) ?_
    obtain⟨w17,h17,H⟩:=bB H
    obtain⟨w18,h18,H⟩:=bB H
    obtain⟨w19,h19,H⟩:=bB H
    obtain⟨w20,h20,H⟩:=bB H
    refine wG [.u 53 (.ix _ _ _ fun _=>V0 eJob (Z1 hxv16)),.c 57 (L0c h17),.c 59 (XD h18),.u 60 (.sa _ _ _ fun _=>h19),.u 61 (.sa _ _ _ fun _=>h20),.w 62 (wi .i64 rfl hiv16 q15.1)] fun _=>?_
    exact wT (N42 _ H)
   .unfold YE at H
    refine wP ?_
    refine wf (ltF s1.queue.length) ?_
    refine wG [.u 65 (.ln _ _ fun _=>lm s1.runs (X1 .rd))] fun q21=>?_
    refine wR (fun(i22:Nat) (v22:Str)=>⟨[(1,.ptr 1 0),(3,.str v22),(64,rV 13 (s1.runs.map (X1 .rd))),(65,iV (s1.runs.length:Int)),(66,iV (i22:Int))],[],[(1,(Y3 .rd s1).cells)],[]⟩) H (fun i22 x22 v22 I m k22 hxv22 hiv22 H N58=>?_) (fun v22 I m H=>?_)
    .unfold UE at H
     refine wP ?_
     refine wt (ltT hiv22) ?_
     obtain⟨u23,h23,H⟩:=bB H
     obtain⟨w24,h24,H⟩:=bB H
     obtain⟨w25,h25,H⟩:=bB H
     obtain⟨w26,h26,H⟩:=bB H
     obtain⟨w27,h27,H⟩:=bB H
     obtain⟨w28,h28,H⟩:=bB H
     obtain⟨w29,h29,H⟩:=bB H
     refine wG [.u 68 (.ix _ _ _ fun _=>V0 (X1 .rd) (Z1 hxv22)),.u 75 (.le _ _ (fun _=>lm x22.nodes eI) (fun _=>OT h23)),.c 77 (W6 h24),.c 80 (W6 h25),.c 83 (L0c h26),.c 85 (XD h27),.u 86 (.sa _ _ _ fun _=>h28),.u 87 (.sa _ _ _ fun _=>h29),.w 88 (wi .i64 rfl hiv22 q21.1)] fun _=>?_
     exact wT (N58 _ H)
    .unfold ZE at H
     refine wP ?_
     refine wf (ltF s1.runs.length) ?_
     refine wG [.u 91 (.ln _ _ fun _=>lm s1.ends eEnd)] fun q30=>?_
     refine wR (fun(i31:Nat) (v31:Str)=>⟨[(3,.str v31),(90,rV 3 (s1.ends.map eEnd)),(91,iV (s1.ends.length:Int)),(92,iV (i31:Int))],[],[],[]⟩) H (fun i31 x31 v31 I m k31 hxv31 hiv31 H N74=>?_) (fun v31 I m H=>?_)
     .unfold VE at H
      refine wP ?_
      refine wt (ltT hiv31) ?_
      obtain⟨w32,h32,H⟩:=bB H
      obtain⟨w33,h33,H⟩:=bB H
      obtain⟨w34,h34,H⟩:=bB H
      refine wG [.u 94 (.ix _ _ _ fun _=>V0 eEnd (Z1 hxv31)),.c 104 (W6 h32),.u 105 (.sa _ _ _ fun _=>h33),.u 106 (.sa _ _ _ fun _=>h34),.w 107 (wi .i64 rfl hiv31 q30.1)] fun _=>?_
      exact wT (N74 _ H)
     .unfold JD at H
      refine wP ?_
      refine wf (ltF s1.ends.length) ?_
      obtain⟨w35,h35,H⟩:=bB H
      refine wG [.u 109 (.sa _ _ _ fun _=>h35)] fun _=>?_
      replace H:=sI H;subst H
      exact wE [(2,.d)]
noncomputable def V0W:L :=
 lf Tryz.prog V0t [8] [] [] [] [] [] []
def VD(x3:Str)(_:Nat)(v3:(List Int))(k3:(List Int)->Option (List Int)):Option (List Int) :=
 (W4 x3).bind fun y4=>(appL 8 v3 [y4.1]).bind fun xs5=>k3 xs5
def ZU(v3:(List Int)):Option (List Int) :=
 some v3
def YU(w1:List Str):Option (List Int) :=
 rgl VD ZU w1 0 []
theorem U0X{w1:List Str}{r:(List Int)}(H:YU w1=some r):Snd Tryz.prog V0t [rV 1 (w1.map eS)] (nV 1 (r.map eI)) []:=by
 refine wS V0W [.t 2] ?_
 unfold YU at H
 refine wG [.u 10 (.ln _ _ fun _=>lm w1 eS)] fun q2=>?_
 refine wR (fun(i3:Nat) (v3:(List Int))=>⟨[(3,.sref 8),(9,rV 1 (w1.map eS)),(10,iV (w1.length:Int)),(11,iV (i3:Int))],[],[],[(8,⟨1,v3.map eI,false⟩)]⟩) H (fun i3 x3 v3 I m k3 hxv3 hiv3 H N17=>?_) (fun v3 I m H=>?_)
 .unfold VD at H
  refine wP ?_
  refine wt (ltT hiv3) ?_
  obtain⟨y4,h4,H⟩:=bB H
  obtain⟨xs5,h5,H⟩:=bB H
  refine wG [.u 13 (.ix _ _ _ fun _=>V0 eS (Z1 hxv3)),.c 17 (U6 h4),.u 23 (.ap _ _ _ _ fun _=>L0 eI h5),.w 24 (wi .i64 rfl hiv3 q2.1)] fun _=>?_
  exact wT (N17 _ H)
 .unfold ZU at H
  refine wP ?_
  refine wf (ltF w1.length) ?_
  refine wP ?_
  replace H:=sI H;subst H
  exact wN [(2,.f)] [] [] [8] [] [⟨_,nw_I v3⟩]
noncomputable def LM:L :=
 lf Tryz.prog Zj [] [] [] [] [(6,21),(7,8)] [(5,[],[],[0,2,4,6,8,10,12,14,16,18],10),(9,[],[],[0,2,4,6,10,12,14,16,9,19],10),(11,[],[],[0,2,4,6,10,12,14,16,18,20,22,24,26,28,30,32,34,36,38,40,42,44,9,47],24),(13,[],[],[0,2,4,6,10,12,14,16,18,20,22,24,26,28,30,9,33],17)] [15]
def MM:List Rv:=[.t 4]
theorem UO:YF Tryz.prog Zj 2 LM MM=true:=by kernel_rfl
def X2(v29:State):Option (Bool×State) :=
 some (true,v29)
def J0(s1:State)(w2:List Str):Option (Bool×State) :=
 (cutL w2 (some 1) none).bind fun xs3=>(YU xs3).bind fun y4=>(idx w2 0).bind fun e5=>bif ((e5==([115,116,97,116,101]:Str))&&((w2.length:Int)==4))then((idx w2 1).bind fun e6=>(Vm e6).bind fun y7=>(idx y4 1).bind fun e8=>(idx y4 2).bind fun e9=>X2 (State.mk s1.topo s1.up y7.1 e8 e9 s1.queue s1.runs s1.ends))else((bif (e5==([100,111,119,110]:Str))then(lenQ w2)else some default).bind fun _=>(bif ((e5==([100,111,119,110]:Str))&&((w2.length:Int)==2))then(idx y4 0)else some default).bind fun e11=>(bif ((e5==([100,111,119,110]:Str))&&((w2.length:Int)==2))then(lenQ s1.up)else some default).bind fun _=>bif (((e5==([100,111,119,110]:Str))&&((w2.length:Int)==2))&&(decide (e11<(s1.up.length:Int))))then((idx y4 0).bind fun e13=>(idx s1.up e13).bind fun _=>X2 (State.mk s1.topo (s1.up.set e13.toNat false) s1.lic s1.depth s1.now s1.queue s1.runs s1.ends))else(bif ((e5==([119,97,105,116]:Str))&&((w2.length:Int)==8))then((cutL w2 (some 1) none).bind fun xs15=>(My xs15).bind fun y16=>(appL 88 s1.queue [y16]).bind fun xs17=>X2 (State.mk s1.topo s1.up s1.lic s1.depth s1.now xs17 s1.runs s1.ends))else((bif ((e5==([114,117,110]:Str))&&(decide (10<(w2.length:Int))))then(idx y4 1)else some default).bind fun e18=>bif (((e5==([114,117,110]:Str))&&(decide (10<(w2.length:Int))))&&((w2.length:Int)==(w64 (10+e18))))then((idx y4 0).bind fun e19=>(idx y4 1).bind fun e20=>(cutL y4 (some 2) (some (w64 (2+e20)))).bind fun xs21=>(cutL w2 (some (w64 (3+e20))) none).bind fun xs22=>(My xs22).bind fun y23=>(appL 120 s1.runs [(Run.mk y23 e19 xs21)]).bind fun xs24=>X2 (State.mk s1.topo s1.up s1.lic s1.depth s1.now s1.queue xs24 s1.ends))else(bif ((e5==([101,110,100]:Str))&&((w2.length:Int)==4))then((idx y4 0).bind fun e25=>(idx y4 1).bind fun e26=>(idx y4 2).bind fun e27=>(appL 24 s1.ends [(End.mk e25 e26 e27)]).bind fun xs28=>X2 (State.mk s1.topo s1.up s1.lic s1.depth s1.now s1.queue s1.runs xs28))else(bif ((e5==([111,118,101,114]:Str))&&((w2.length:Int)==1))then(X2 s1)else(some (false,s1)))))))
set_option maxRecDepth 20000 in
theorem YN{s1:State}{w2:List Str}{r:Bool×State}(H:J0 s1 w2=some r):ConD Tryz.prog Zj [.ptr 0 0,rV 1 (w2.map eS)] [[nV 1 (s1.topo.parents.map eI),nV 4 (s1.topo.nodes.map V1),.sref 0,iV s1.lic.a,iV s1.lic.b,iV s1.lic.c,iV s1.depth,iV s1.now,.sref 1,.sref 2,.sref 3]] [(1,s1.up.map eBo),(11,s1.queue.map eJob),(13,s1.runs.map (X1 .nw)),(3,s1.ends.map eEnd)] (.bool r.1) [[nV 1 (r.2.topo.parents.map eI),nV 4 (r.2.topo.nodes.map V1),.sref 4,iV r.2.lic.a,iV r.2.lic.b,iV r.2.lic.c,iV r.2.depth,iV r.2.now,.sref 5,.sref 6,.sref 7]] [none,none,none,none] [(1,r.2.up.map eBo),(11,r.2.queue.map eJob),(13,r.2.runs.map (X1 .nw)),(3,r.2.ends.map eEnd)]:=by
 refine Z0e [false,false,false,false] UO rfl (by kernel_rfl) ?_
 unfold J0 at H
 obtain⟨xs3,h3,H⟩:=bB H
 obtain⟨y4,h4,H⟩:=bB H
 obtain⟨e5,h5,H⟩:=bB H
 refine wG [.u 7 (.sc _ _ _ _ fun _=>UX eS h3),.c 8 (U0X h4),.u 11 (.ix _ _ _ fun _=>V0 eS h5),.g 16 [((e5==([115,116,97,116,101]:Str)),true)] (.ln _ _ fun _=>lm w2 eS)] fun _=>?_
 refine Q6 (r:=r) X2 0 (fun v29:State=>⟨[],[],[(2000000000,[.sl .nw 1 (v29.topo.parents.map eI),.sl .nw 4 (v29.topo.nodes.map V1),.sref 500000000,.int .i64 v29.lic.a,.int .i64 v29.lic.b,.int .i64 v29.lic.c,.int .i64 v29.depth,.int .i64 v29.now,.sref 500000001,.sref 500000002,.sref 500000003])],[(500000000,⟨1,v29.up.map eBo,false⟩),(500000001,⟨11,v29.queue.map eJob,false⟩),(500000002,⟨13,v29.runs.map (X1 .nw),false⟩),(500000003,⟨3,v29.ends.map eEnd,false⟩)]⟩) (by kernel_rfl) (fun v29 H=>?_) (fun J34=>?_)
 .unfold X2 at H
  refine wP ?_
  replace H:=sI H;subst H
  exact V4 [(4,.d)] [(2000000000,[])] [(500000000,some 500000000,0),(500000001,some 500000001,0),(500000002,some 500000002,0),(500000003,some 500000003,0)] [] [500000000,500000001,500000002,500000003] (by kernel_rfl)
 .refine O0 H (fun H=>?_) fun H=>?_
  .obtain⟨e6,h6,H⟩:=bB H
   obtain⟨y7,h7,H⟩:=bB H
   obtain⟨e8,h8,H⟩:=bB H
   obtain⟨e9,h9,H⟩:=bB H
   refine wG [.u 22 (.ix _ _ _ fun _=>V0 eS h6),.c 24 (LD h7),.u 32 (.ix _ _ _ fun _=>V0 eI h8),.u 35 (.ix _ _ _ fun _=>V0 eI h9)] fun _=>?_
   exact wT (J34 _ H)
  .obtain⟨u10,h10,H⟩:=bB H
   obtain⟨e11,h11,H⟩:=bB H
   obtain⟨u12,h12,H⟩:=bB H
   refine wG [.u 43 (.ix _ _ _ fun _=>V0 eS h5),.g 48 [(_,true)] (.le _ _ (fun q=>lm w2 eS) (fun q=>OT (bT q.1 h10))),.g 53 [(_,true)] (.ix _ _ _ fun q=>V0 eI (bT q.1 h11)),.g 59 [(_,true)] (.le _ _ (fun q=>lm s1.up eBo) (fun q=>OT (bT q.1 h12)))] fun _=>?_
   refine O0 H (fun H=>?_) fun H=>?_
   .obtain⟨e13,h13,H⟩:=bB H
    obtain⟨e14,h14,H⟩:=bB H
    refine wG [.u 67 (.ix _ _ _ fun _=>V0 eI h13),.u 69 (.ix _ _ _ fun _=>V0 eBo h14),.u 1000000 (.sto _ _ _ (eBo false) _ (fun _=>gm eBo (Q7 h14)) (fun _=>YH ..))] fun _=>?_
    exact wT (J34 _ H)
   .refine wG [.u 72 (.ix _ _ _ fun _=>V0 eS h5),.g 77 [((e5==([119,97,105,116]:Str)),true)] (.ln _ _ fun _=>lm w2 eS)] fun _=>?_
    refine O0 H (fun H=>?_) fun H=>?_
    .obtain⟨xs15,h15,H⟩:=bB H
     obtain⟨y16,h16,H⟩:=bB H
     obtain⟨xs17,h17,H⟩:=bB H
     refine wG [.u 86 (.sc _ _ _ _ fun _=>UX eS h15),.c 87 (M0c h16),.u 89 (.ap _ _ _ _ fun _=>L0 eJob h17)] fun _=>?_
     exact wT (J34 _ H)
    .obtain⟨e18,h18,H⟩:=bB H
     refine wG [.u 94 (.ix _ _ _ fun _=>V0 eS h5),.g 99 [((e5==([114,117,110]:Str)),true)] (.ln _ _ fun _=>lm w2 eS),.g 104 [(((e5==([114,117,110]:Str))&&(decide (10<(w2.length:Int)))),true)] (.ln _ _ fun _=>lm w2 eS),.g 106 [(_,true)] (.ix _ _ _ fun q=>V0 eI (bT q.1 h18))] fun _=>?_
     refine O0 H (fun H=>?_) fun H=>?_
     .obtain⟨e19,h19,H⟩:=bB H
      obtain⟨e20,h20,H⟩:=bB H
      obtain⟨xs21,h21,H⟩:=bB H
      obtain⟨xs22,h22,H⟩:=bB H
      obtain⟨y23,h23,H⟩:=bB H
      obtain⟨xs24,h24,H⟩:=bB H
      refine wG [.u 117 (.ix _ _ _ fun _=>V0 eI h19),.u 121 (.ix _ _ _ fun _=>V0 eI h20),.u 124 (.sc _ _ _ _ fun _=>UX eI h21),.u 127 (.ix _ _ _ fun _=>V0 eI h20),.u 130 (.sc _ _ _ _ fun _=>UX eS h22),.c 131 (M0c h23),.u 134 (.ap _ _ _ _ fun _=>L0 (X1 .nw) h24)] fun _=>?_
      exact wT (J34 _ H)
     .refine wG [.u 139 (.ix _ _ _ fun _=>V0 eS h5),.g 144 [((e5==([101,110,100]:Str)),true)] (.ln _ _ fun _=>lm w2 eS)] fun _=>?_
      refine O0 H (fun H=>?_) fun H=>?_
      .obtain⟨e25,h25,H⟩:=bB H
       obtain⟨e26,h26,H⟩:=bB H
       obtain⟨e27,h27,H⟩:=bB H
       obtain⟨xs28,h28,H⟩:=bB H
       refine wG [.u 153 (.ix _ _ _ fun _=>V0 eI h25),.u 156 (.ix _ _ _ fun _=>V0 eI h26),.u 159 (.ix _ _ _ fun _=>V0 eI h27),.u 163 (.ap _ _ _ _ fun _=>L0 eEnd h28)] fun _=>?_
       exact wT (J34 _ H)
      .refine wG [.u 168 (.ix _ _ _ fun _=>V0 eS h5),.g 173 [((e5==([111,118,101,114]:Str)),true)] (.ln _ _ fun _=>lm w2 eS)] fun _=>?_
       refine O0 H (fun H=>?_) fun H=>?_
       .refine wP ?_
        exact wT (J34 _ H)
       .refine wP ?_
        replace H:=sI H;subst H
        exact V4 [(4,.d)] [(2000000000,[])] [(500000000,some 500000000,0),(500000001,some 500000001,0),(500000002,some 500000002,0),(500000003,some 500000003,0)] [] [500000000,500000001,500000002,500000003] (by kernel_rfl)
noncomputable def M0w:L :=
 lf Tryz.prog W08 [] [(83,2)] [] [] [] [] []
def Lb(s1:Str)(y2:(List Str))(v17:State×Int)(k17:(State×Int)->Option (State×Bool)):Option (State×Bool) :=
 bif (decide (v17.2<(w64 ((y2.length:Int)-1))))then((idx y2 v17.2).bind fun e19=>(W8 e19 32).bind fun y20=>(J0 v17.1 y20).bind fun y21=>bif (!y21.1)then(some ((State.mk (Topo.mk [] []) [] (Vec.mk 0 0 0) 0 0 [] [] []),false))else(k17 (y21.2,(w64 (v17.2+1)))))else((bif (s1==([]:Str))then some default else(Jd v17.1)).bind fun w22=>bif ((s1==([]:Str))||(w22 != s1))then(some ((State.mk (Topo.mk [] []) [] (Vec.mk 0 0 0) 0 0 [] [] []),false))else((Yo v17.1).bind fun y23=>some (y23,true)))
def Mo(_:Node)(_:Nat)(v15:(List Bool))(k15:(List Bool)->Option (State×Bool)):Option (State×Bool) :=
 (appL 1 v15 [true]).bind fun xs16=>k15 xs16
def Li(s1:Str)(y2:(List Str))(v3:Int×Str)(y12:Topo×Bool)(v15:(List Bool)):Option (State×Bool) :=
 whl (Lb s1 y2) 9223372036854775807 ((State.mk y12.1 v15 (Vec.mk 0 0 0) 0 0 [] [] []),v3.1)
def Jb(s1:Str)(y2:(List Str))(v3:Int×Str)(k3:(Int×Str)->Option (State×Bool)):Option (State×Bool) :=
 (bif (decide (v3.1<(y2.length:Int)))then(idx y2 v3.1)else some default).bind fun e4=>(bif (decide (v3.1<(y2.length:Int)))then(Xa e4 ([115,119,105,116,99,104,32]:Str))else some default).bind fun b5=>(bif (decide (v3.1<(y2.length:Int)))then(bif b5 then some default else(idx y2 v3.1))else some default).bind fun e6=>(bif (decide (v3.1<(y2.length:Int)))then(bif b5 then some default else(Xa e6 ([110,111,100,101,32]:Str)))else some default).bind fun b7=>bif ((decide (v3.1<(y2.length:Int)))&&(b5||b7))then((idx y2 v3.1).bind fun e9=>(catS v3.2 e9).bind fun w10=>(catS w10 ([10]:Str)).bind fun w11=>k3 ((w64 (v3.1+1)),w11))else((Mi v3.2).bind fun y12=>(bif (!y12.2)then some default else(idx y2 (w64 ((y2.length:Int)-1)))).bind fun e13=>bif ((!y12.2)||(e13 != ([]:Str)))then(some ((State.mk (Topo.mk [] []) [] (Vec.mk 0 0 0) 0 0 [] [] []),false))else(rgl Mo (Li s1 y2 v3 y12) y12.1.nodes 0 []))
def Wj(s1:Str):Option (State×Bool) :=
 (W8 s1 10).bind fun y2=>whl (Jb s1 y2) 9223372036854775807 (0,([]:Str))
theorem W0x{s1:Str}{r:State×Bool}(H:Wj s1=some r):Snd Tryz.prog W08 [.str s1] (.tup [Y3 .nw r.1,.bool r.2]) []:=by
 refine wS M0w [.c 2 11 true,.t 3] ?_
 unfold Wj at H
 obtain⟨y2,h2,H⟩:=bB H
 refine wG [.c 12 (ME h2)] fun _=>?_
 refine wW (fun(v3:Int×Str)=>⟨[(0,.str s1),(2,.ptr 2 0),(4,nV 1 (y2.map eS)),(5,iV v3.1),(6,.str v3.2)],[],[(2,[.nl,.nl,.nl,iV 0,iV 0,iV 0,iV 0,iV 0,.nl,.nl,.nl])],[]⟩) H (fun v3 I m k3 H N14=>?_)
 unfold Jb at H
 obtain⟨e4,h4,H⟩:=bB H
 obtain⟨b5,h5,H⟩:=bB H
 obtain⟨e6,h6,H⟩:=bB H
 obtain⟨b7,h7,H⟩:=bB H
 refine wG [.u 15 (.ln _ _ fun _=>lm y2 eS),.g 20 [(_,true)] (.ix _ _ _ fun q=>V0 eS (bT q.1 h4)),.g 22 [(_,true)] (.call _ _ _ _ _ (AEs.refl _) (fun q=>Z0k (bT q.1 h5))),.g 26 [(_,false),(_,true)] (.ix _ _ _ fun q=>V0 eS (bF q.1 (bT q.2.1 h6))),.g 28 [(_,false),(_,true)] (.call _ _ _ _ _ (AEs.refl _) (fun q=>Z0k (bF q.1 (bT q.2.1 h7))))] fun q8=>?_
 refine O0 H (fun H=>?_) fun H=>?_
 .obtain⟨e9,h9,H⟩:=bB H
  obtain⟨w10,h10,H⟩:=bB H
  obtain⟨w11,h11,H⟩:=bB H
  refine wG [.u 34 (.ix _ _ _ fun _=>V0 eS h9),.u 36 (.sa _ _ _ fun _=>h10),.u 37 (.sa _ _ _ fun _=>h11)] fun _=>?_
  exact wT (N14 _ H)
 .obtain⟨y12,h12,H⟩:=bB H
  obtain⟨e13,h13,H⟩:=bB H
  refine wG [.c 42 (W0H h12),.g 50 [((!y12.2),false)] (.ln _ _ fun _=>lm y2 eS),.g 52 [(_,false)] (.ix _ _ _ fun q=>V0 eS (bF q.1 h13))] fun _=>?_
  refine O0 H (fun H=>?_) fun H=>?_
  .refine wP ?_
   replace H:=sI H;subst H
   exact wN [(2,.d),(3,.d)] [(2,[.n 1,.n 4,.n 1,.d,.d,.d,.d,.d,.n 11,.n 13,.n 3])] [] [] [] [⟨_,nw_I ([]:List Int)⟩,⟨_,O2 ([]:List Node)⟩,⟨_,Qs ([]:List Bool)⟩,⟨_,MC ([]:List Job)⟩,⟨_,OC ([]:List Run)⟩,⟨_,VW ([]:List End)⟩]
  .refine wG [.u 61 (.ln _ _ fun _=>lm y12.1.nodes V1)] fun q14=>?_
   refine X08 (fun(i15:Nat) (v15:(List Bool))=>⟨[(0,.str s1),(2,.ptr 2 0),(4,.sl .nw 1 (y2.map eS)),(5,.int .i64 v3.1),(9,.ptr 9 0),(61,.int .i64 (y12.1.nodes.length:Int)),(62,.int .i64 (i15:Int))],[],[(2,[.nl,.nl,.nl,.int .i64 0,.int .i64 0,.int .i64 0,.int .i64 0,.int .i64 0,.nl,.nl,.nl]),(9,[.sl .nw 1 (y12.1.parents.map eI),.sl .nw 4 (y12.1.nodes.map V1),.sref 490000,.int .i64 0,.int .i64 0,.int .i64 0,.int .i64 0,.int .i64 0,.nl,.nl,.nl])],[(490000,⟨1,v15.map eBo,false⟩)]⟩) [] [(9,[.d,.d,.z 490000,.d,.d,.d,.d,.d,.d,.d,.d])] [(490000,(none,1))] [] (by kernel_rfl) (by kernel_rfl) H (fun i15 x15 v15 I m k15 hxv15 hiv15 H N36=>?_) (fun v15 I m H=>?_)
   .unfold Mo at H
    refine wP ?_
    refine wt (ltT hiv15) ?_
    obtain⟨xs16,h16,H⟩:=bB H
    refine wG [.u 67 (.ap _ _ _ _ fun _=>L0 eBo h16),.w 69 (wi .i64 rfl hiv15 q14.1)] fun _=>?_
    exact wT (N36 _ H)
   .unfold Li at H
    refine wP ?_
    refine wf (ltF y12.1.nodes.length) ?_
    refine wP ?_
    refine O1o (fun(v17:State×Int)=>⟨[(0,.str s1),(2,.ptr 2 0),(4,.sl .nw 1 (y2.map eS)),(9,.ptr 9 0),(10,.int .i64 v17.2)],[],[(2,[.nl,.nl,.nl,.int .i64 0,.int .i64 0,.int .i64 0,.int .i64 0,.int .i64 0,.nl,.nl,.nl]),(9,[.sl .nw 1 (v17.1.topo.parents.map eI),.sl .nw 4 (v17.1.topo.nodes.map V1),.sref 490000,.int .i64 v17.1.lic.a,.int .i64 v17.1.lic.b,.int .i64 v17.1.lic.c,.int .i64 v17.1.depth,.int .i64 v17.1.now,.sref 550001,.sref 184002,.sref 481003])],[(490000,⟨1,v17.1.up.map eBo,false⟩),(550001,⟨11,v17.1.queue.map eJob,false⟩),(184002,⟨13,v17.1.runs.map (X1 .nw),false⟩),(481003,⟨3,v17.1.ends.map eEnd,false⟩)]⟩) [] [(9,[.d,.d,.d,.d,.d,.d,.d,.d,.z 550001,.z 184002,.z 481003])] [(550001,(none,11)),(184002,(none,13)),(481003,(none,3))] [] (by kernel_rfl) (by kernel_rfl) H (fun v17 I m k17 H N56=>?_)
    unfold Lb at H
    refine wG [.u 73 (.ln _ _ fun _=>lm y2 eS)] fun q18=>?_
    refine O0 H (fun H=>?_) fun H=>?_
    .obtain⟨e19,h19,H⟩:=bB H
     obtain⟨y20,h20,H⟩:=bB H
     obtain⟨y21,h21,H⟩:=bB H
     refine wG [.u 80 (.ix _ _ _ fun _=>V0 eS h19),.c 82 (ME h20),.u 83 (.cw Zj [9] [490000,550001,184002,481003] [[nV 1 (v17.1.topo.parents.map eI),nV 4 (v17.1.topo.nodes.map V1),.sref 0,iV v17.1.lic.a,iV v17.1.lic.b,iV v17.1.lic.c,iV v17.1.depth,iV v17.1.now,.sref 1,.sref 2,.sref 3]] [(1,v17.1.up.map eBo),(11,v17.1.queue.map eJob),(13,v17.1.runs.map (X1 .nw)),(3,v17.1.ends.map eEnd)] [.ptr 0 0,nV 1 (y20.map eS)] _ _ _ _ _ (GEs.of [true,false] (by simp)) (by simp) (by simp) (by simp) (fun _=>YN h21))] fun _=>?_
     refine O0 H (fun H=>?_) fun H=>?_
     .refine wP ?_
      replace H:=sI H;subst H
      exact wN [(2,.d),(3,.d)] [(2,[.n 1,.n 4,.n 1,.d,.d,.d,.d,.d,.n 11,.n 13,.n 3])] [] [] [] [⟨_,nw_I ([]:List Int)⟩,⟨_,O2 ([]:List Node)⟩,⟨_,Qs ([]:List Bool)⟩,⟨_,MC ([]:List Job)⟩,⟨_,OC ([]:List Run)⟩,⟨_,VW ([]:List End)⟩]
     .refine wP ?_
      exact U0o (N56 _ H) [] [] [(490000,(some 84000,0)),(550001,(some 84001,0)),(184002,(some 84002,0)),(481003,(some 84003,0))] [] (by kernel_rfl) (by kernel_rfl)
    .obtain⟨w22,h22,H⟩:=bB H
     refine wG [.g 90 [(_,false)] (.call _ _ _ _ _ (AEs.of (xs:=[.agg [rV 1 (v17.1.topo.parents.map eI),rV 4 (v17.1.topo.nodes.map V1),rV 1 (v17.1.up.map eBo),iV v17.1.lic.a,iV v17.1.lic.b,iV v17.1.lic.c,iV v17.1.depth,iV v17.1.now,rV 11 (v17.1.queue.map eJob),rV 13 (v17.1.runs.map (X1 .nw)),rV 3 (v17.1.ends.map eEnd)]]) (by simp)) (fun q=>VI (bF q.1 h22)))] fun _=>?_
     refine O0 H (fun H=>?_) fun H=>?_
     .refine wP ?_
      replace H:=sI H;subst H
      exact wN [(2,.d),(3,.d)] [(2,[.n 1,.n 4,.n 1,.d,.d,.d,.d,.d,.n 11,.n 13,.n 3])] [] [] [] [⟨_,nw_I ([]:List Int)⟩,⟨_,O2 ([]:List Node)⟩,⟨_,Qs ([]:List Bool)⟩,⟨_,MC ([]:List Job)⟩,⟨_,OC ([]:List Run)⟩,⟨_,VW ([]:List End)⟩]
     .obtain⟨y23,h23,H⟩:=bB H
      refine wG [.u 96 (.call _ _ _ _ _ (AEs.of (xs:=[.agg [rV 1 (v17.1.topo.parents.map eI),rV 4 (v17.1.topo.nodes.map V1),rV 1 (v17.1.up.map eBo),iV v17.1.lic.a,iV v17.1.lic.b,iV v17.1.lic.c,iV v17.1.depth,iV v17.1.now,rV 11 (v17.1.queue.map eJob),rV 13 (v17.1.runs.map (X1 .nw)),rV 3 (v17.1.ends.map eEnd)]]) (by simp)) (fun _=>Q0x h23))] fun _=>?_
      replace H:=sI H;subst H
      exact wN [(2,.d),(3,.d)] [(2,[])] [] [] [] [⟨_,nw_I y23.topo.parents⟩,⟨_,O2 y23.topo.nodes⟩,⟨_,Qs y23.up⟩,⟨_,MC y23.queue⟩,⟨_,OC y23.runs⟩,⟨_,VW y23.ends⟩]
noncomputable def V0X:L :=
 lf Tryz.prog Z0u [] [] [] [] [] [] []
def JE(w3:Str)(v4:Int×Int)(k4:(Int×Int)->Option Int):Option Int :=
 bif (decide (v4.2<(w3.length:Int)))then((idx w3 v4.2).bind fun c5=>(remI (w64 ((w64 (131*v4.1))+(IntKind.wrap .i64 (c5.toNat:Int)))) 1000000007).bind fun n6=>k4 (n6,(w64 (v4.2+1))))else(some v4.1)
def Jq(s1:State):Option Int :=
 (Ze s1).bind fun b2=>bif (!b2)then(some (-1))else((Jd s1).bind fun w3=>whl (JE w3) 9223372036854775807 (7,0))
theorem VK{s1:State}{r:Int}(H:Jq s1=some r):Snd Tryz.prog Z0u [Y3 .rd s1] (iV r) []:=by
 refine wS V0X [.t 2] ?_
 unfold Jq at H
 obtain⟨b2,h2,H⟩:=bB H
 refine wG [.c 7 (Ql h2)] fun _=>?_
 refine O0 H (fun H=>?_) fun H=>?_
 .obtain rfl:=sI H
  exact wP (wE [(2,.d)])
 .obtain⟨w3,h3,H⟩:=bB H
  refine wG [.c 10 (VI h3)] fun _=>?_
  refine wW (fun(v4:Int×Int)=>⟨[(3,iV v4.1),(4,.str w3),(5,iV v4.2)],[],[],[]⟩) H (fun v4 I m k4 H N21=>?_)
  unfold JE at H
  refine wP ?_
  refine O0 H (fun H=>?_) fun H=>?_
  .obtain⟨c5,h5,H⟩:=bB H
   obtain⟨n6,h6,H⟩:=bB H
   refine wG [.u 21 (.sx _ _ _ fun _=>h5),.u 24 (.rem _ _ _ fun _=>h6)] fun _=>?_
   exact wT (N21 _ H)
  .obtain rfl:=sI H
   exact wP (wE [(2,.d)])
noncomputable def V0x:L :=
 lf Tryz.prog Mh [] [] [] [] [] [] []
def Ux(j1:Job)(x2:Run):Option Bool :=
 some (j1.id==x2.job.id)
theorem Z0o{j1:Job}{x2:Run}{r:Bool}(H:Ux j1 x2=some r):Snd Tryz.prog Mh [eJob j1,.ept (X1 .rd x2) 0] (.bool r) []:=by
 refine wS V0x [.t 3] ?_
 unfold Ux at H
 obtain rfl:=sI H
 exact wP (wE [(3,.d)])
def Uv(j1:Job)(x2:Run):Bool :=
 (j1.id==x2.job.id)
theorem M0H(j1:Job)(x2:Run):Ux j1 x2=some (Uv j1 x2):=by
 unfold Ux Uv
 first|rfl|simp only[O8]
theorem Y0y(j1:Job)(x2:Run):Snd Tryz.prog Mh [eJob j1,.ept (X1 .rd x2) 0] (.bool (Uv j1 x2)) []:=Z0o (M0H j1 x2)
noncomputable def Jf:L :=
 lf Tryz.prog Q2 [] [] [] [] [] [] []
def Q3(c2:Run)(x4:Job)(i4:Nat)(_:Unit)(k4:Unit->Option Int):Option Int :=
 bif (Uv x4 c2)then(some (i4:Int))else(k4 ())
def J5(_:Unit):Option Int :=
 some (-1)
def O1(s1:List Job)(c2:Run):Option Int :=
 rgl (Q3 c2) J5 s1 0 ()
theorem Mf{s1:List Job}{c2:Run}{r:Int}(H:O1 s1 c2=some r):Snd Tryz.prog Q2 [rV 11 (s1.map eJob),.fn Mh [.ept (X1 .rd c2) 0]] (iV r) []:=by
 refine wS Jf [.t 4] ?_
 unfold O1 at H
 refine wG [.u 7 (.ln _ _ fun _=>lm s1 eJob)] fun q3=>?_
 refine wR (fun(i4:Nat) (v4:Unit)=>⟨[(0,rV 11 (s1.map eJob)),(1,.fn Mh [.ept (X1 .rd c2) 0]),(7,iV (s1.length:Int)),(8,iV (i4:Int))],[],[],[]⟩) H (fun i4 x4 v4 I m k4 hxv4 hiv4 H N20=>?_) (fun v4 I m H=>?_)
 .unfold Q3 at H
  refine wP ?_
  refine wt (ltT hiv4) ?_
  refine wG [.u 14 (.ix _ _ _ fun _=>V0 eJob (Z1 hxv4)),.u 16 (.clsr _ _ _ _ _ (AEs.refl _) (by kernel_rfl) (fun _=>Y0y x4 c2))] fun _=>?_
  refine O0 H (fun H=>?_) fun H=>?_
  .refine wP ?_
   replace H:=sI H;subst H
   exact wE [(4,.d)]
  .refine wG [.w 18 (wi .i64 rfl hiv4 q3.1)] fun _=>?_
   exact wT (N20 () H)
 .unfold J5 at H
  refine wP ?_
  refine wf (ltF s1.length) ?_
  obtain rfl:=sI H
  exact wP (wE [(4,.d)])
noncomputable def Jc:L :=
 lf Tryz.prog X4 [] [] [] [] [] [] []
def W1(s1:List Job)(c2:Run):Option Bool :=
 (O1 s1 c2).bind fun n3=>some (decide (0<=n3))
theorem Oc{s1:List Job}{c2:Run}{r:Bool}(H:W1 s1 c2=some r):Snd Tryz.prog X4 [rV 11 (s1.map eJob),.fn Mh [.ept (X1 .rd c2) 0]] (.bool r) []:=by
 refine wS Jc [.t 4] ?_
 unfold W1 at H
 obtain⟨n3,h3,H⟩:=bB H
 refine wG [.c 7 (Mf h3)] fun _=>?_
 replace H:=sI H;subst H
 exact wE [(4,.d)]
noncomputable def O0P:L :=
 lf Tryz.prog O0m [30] [] [] [] [(19,6),(25,6)] [] [31,63]
def WI(a1:State)(x36:Run)(_:Nat)(v36:(List Str))(k36:(List Str)->Option (List Str)):Option (List Str) :=
 (W1 a1.queue x36).bind fun b37=>bif b37 then((Z6 ([115,116,97,114,116,115]:Str) [x36.job.id]).bind fun w38=>(appL 16 v36 [w38]).bind fun xs39=>k36 xs39)else(k36 v36)
def L01(v36:(List Str)):Option (List Str) :=
 some v36
def YO(b2:State)(x30:Job)(_:Nat)(v30:(List Str))(k30:(List Str)->Option (List Str)):Option (List Str) :=
 (Oa b2).bind fun y31=>(YR y31 x30.id).bind fun n32=>bif (decide (n32<0))then((Z6 ([111,117,116]:Str) [x30.id]).bind fun w33=>(appL 16 v30 [w33]).bind fun xs34=>k30 xs34)else(k30 v30)
def LN(a1 b2:State)(v30:(List Str)):Option (List Str) :=
 rgl (WI a1) L01 b2.runs 0 v30
def XO(a1:State)(x23:Job)(_:Nat)(v23:(List Str))(k23:(List Str)->Option (List Str)):Option (List Str) :=
 (Oa a1).bind fun y24=>(YR y24 x23.id).bind fun n25=>bif (decide (n25<0))then((Z6 ([105,110]:Str) [x23.id]).bind fun w26=>(appL 16 v23 [w26]).bind fun xs27=>k23 xs27)else(k23 v23)
def JN(a1 b2:State)(v23:(List Str)):Option (List Str) :=
 (Oa a1).bind fun y28=>rgl (YO b2) (LN a1 b2) y28 0 v23
def VO(a1:State)(x14:Bool)(i14:Nat)(v14:(List Str))(k14:(List Str)->Option (List Str)):Option (List Str) :=
 (bif x14 then(idx a1.up (i14:Int))else some default).bind fun e15=>bif (x14&&(!e15))then((Z6 ([117,112]:Str) [(i14:Int)]).bind fun w16=>(appL 16 v14 [w16]).bind fun xs17=>k14 xs17)else((bif (!x14)then(idx a1.up (i14:Int))else some default).bind fun e18=>bif ((!x14)&&e18)then((Z6 ([100,111,119,110]:Str) [(i14:Int)]).bind fun w19=>(appL 16 v14 [w19]).bind fun xs20=>k14 xs20)else(k14 v14))
def ZO(a1 b2:State)(v14:(List Str)):Option (List Str) :=
 (Oa b2).bind fun y21=>rgl (XO a1) (JN a1 b2) y21 0 v14
def Ml(a1 b2:State)(v12:(List Str)):Option (List Str) :=
 rgl (VO a1) (ZO a1 b2) b2.up 0 v12
def Ol(a1 b2:State)(v8:(List Str)):Option (List Str) :=
 bif (!(a1.lic.a==b2.lic.a&&(a1.lic.b==b2.lic.b&&(a1.lic.c==b2.lic.c&&true))))then((Oi b2.lic).bind fun w9=>(Ws [([108,105,99]:Str),w9]).bind fun w10=>(appL 16 v8 [w10]).bind fun xs11=>(Ml a1 b2) xs11)else((Ml a1 b2) v8)
def VL(a1 b2:State):Option (List Str) :=
 (Ze a1).bind fun b3=>(bif (!b3)then some default else(Ze b2)).bind fun b4=>(bif ((!b3)||(!b4))then some default else(Ls a1.topo b2.topo)).bind fun b5=>bif (((!b3)||(!b4))||(!b5))then(some [])else(bif (a1.now != b2.now)then((Z6 ([110,111,119]:Str) [b2.now]).bind fun w6=>(appL 16 ([]:List Str) [w6]).bind fun xs7=>(Ol a1 b2) xs7)else((Ol a1 b2) []))
theorem O0Q{a1 b2:State}{r:(List Str)}(H:VL a1 b2=some r):Snd Tryz.prog O0m [Y3 .rd a1,Y3 .rd b2] (.sref 0) [⟨1,r.map eS,false⟩]:=by
 refine wS O0P [.t 4] ?_
 unfold VL at H
 obtain⟨b3,h3,H⟩:=bB H
 obtain⟨b4,h4,H⟩:=bB H
 obtain⟨b5,h5,H⟩:=bB H
 refine wG [.c 15 (Ql h3),.g 19 [(_,false)] (.call _ _ _ _ _ (AEs.refl _) (fun q=>Ql (bF q.1 h4))),.g 27 [(_,false)] (.call _ _ _ _ _ (AEs.refl _) (fun q=>Q07 (bF q.1 h5)))] fun _=>?_
 refine O0 H (fun H=>?_) fun H=>?_
 .refine wP ?_
  replace H:=sI H;subst H
  exact wN [(4,.d)] [] [] [] [none] []
 .refine wP ?_
  refine Q6 (r:=r) (Ol a1 b2) 0 (fun v8:(List Str)=>⟨[(2,.ptr 2 0),(3,.ptr 3 0),(5,.sref 30)],[],[(2,(Y3 .rd a1).cells),(3,(Y3 .rd b2).cells)],[(30,⟨1,v8.map eS,false⟩)]⟩) (by kernel_rfl) (fun v8 H=>?_) (fun J111=>?_)
  .unfold Ol at H
   refine wP ?_
   refine Q6 (r:=r) (Ml a1 b2) 0 (fun v12:(List Str)=>⟨[(2,.ptr 2 0),(3,.ptr 3 0),(5,.sref 30)],[],[(2,(Y3 .rd a1).cells),(3,(Y3 .rd b2).cells)],[(30,⟨1,v12.map eS,false⟩)]⟩) (by kernel_rfl) (fun v12 H=>?_) (fun J110=>?_)
   .unfold Ml at H
    refine wG [.u 58 (.ln _ _ fun _=>lm b2.up eBo)] fun q13=>?_
    refine wR (fun(i14:Nat) (v14:(List Str))=>⟨[(2,.ptr 2 0),(3,.ptr 3 0),(5,.sref 30),(57,rV 1 (b2.up.map eBo)),(58,iV (b2.up.length:Int)),(59,iV (i14:Int))],[],[(2,(Y3 .rd a1).cells),(3,(Y3 .rd b2).cells)],[(30,⟨1,v14.map eS,false⟩)]⟩) H (fun i14 x14 v14 I m k14 hxv14 hiv14 H N41=>?_) (fun v14 I m H=>?_)
    .unfold VO at H
     refine wP ?_
     refine wt (ltT hiv14) ?_
     obtain⟨e15,h15,H⟩:=bB H
     refine wG [.u 62 (.ix _ _ _ fun _=>V0 eBo (Z1 hxv14)),.g 70 [(_,true)] (.ix _ _ _ fun q=>V0 eBo (bT q.1 h15))] fun _=>?_
     refine O0 H (fun H=>?_) fun H=>?_
     .obtain⟨w16,h16,H⟩:=bB H
      obtain⟨xs17,h17,H⟩:=bB H
      refine wG [.c 77 (W6 h16),.u 79 (.ap _ _ _ _ fun _=>L0 eS h17),.w 96 (wi .i64 rfl hiv14 q13.1)] fun _=>?_
      exact wT (N41 _ H)
     .obtain⟨e18,h18,H⟩:=bB H
      refine wG [.g 87 [(_,true)] (.ix _ _ _ fun q=>V0 eBo (bT q.1 h18))] fun _=>?_
      refine O0 H (fun H=>?_) fun H=>?_
      .obtain⟨w19,h19,H⟩:=bB H
       obtain⟨xs20,h20,H⟩:=bB H
       refine wG [.c 93 (W6 h19),.u 95 (.ap _ _ _ _ fun _=>L0 eS h20),.w 96 (wi .i64 rfl hiv14 q13.1)] fun _=>?_
       exact wT (N41 _ H)
      .refine wG [.w 96 (wi .i64 rfl hiv14 q13.1)] fun _=>?_
       exact wT (N41 _ H)
    .unfold ZO at H
     refine wP ?_
     refine wf (ltF b2.up.length) ?_
     obtain⟨y21,h21,H⟩:=bB H
     refine wG [.c 98 (Ul h21),.u 99 (.ln _ _ fun _=>lm y21 eJob)] fun q22=>?_
     refine wR (fun(i23:Nat) (v23:(List Str))=>⟨[(2,.ptr 2 0),(3,.ptr 3 0),(5,.sref 30),(98,nV 11 (y21.map eJob)),(99,iV (y21.length:Int)),(100,iV (i23:Int))],[],[(2,(Y3 .rd a1).cells),(3,(Y3 .rd b2).cells)],[(30,⟨1,v23.map eS,false⟩)]⟩) H (fun i23 x23 v23 I m k23 hxv23 hiv23 H N61=>?_) (fun v23 I m H=>?_)
     .unfold XO at H
      refine wP ?_
      refine wt (ltT hiv23) ?_
      obtain⟨y24,h24,H⟩:=bB H
      obtain⟨n25,h25,H⟩:=bB H
      refine wG [.u 102 (.ix _ _ _ fun _=>V0 eJob (Z1 hxv23)),.c 105 (Ul h24),.c 108 (Z0r h25)] fun _=>?_
      refine O0 H (fun H=>?_) fun H=>?_
      .obtain⟨w26,h26,H⟩:=bB H
       obtain⟨xs27,h27,H⟩:=bB H
       refine wG [.c 114 (W6 h26),.u 116 (.ap _ _ _ _ fun _=>L0 eS h27),.w 117 (wi .i64 rfl hiv23 q22.1)] fun _=>?_
       exact wT (N61 _ H)
      .refine wG [.w 117 (wi .i64 rfl hiv23 q22.1)] fun _=>?_
       exact wT (N61 _ H)
     .unfold JN at H
      refine wP ?_
      refine wf (ltF y21.length) ?_
      obtain⟨y28,h28,H⟩:=bB H
      refine wG [.c 119 (Ul h28),.u 120 (.ln _ _ fun _=>lm y28 eJob)] fun q29=>?_
      refine wR (fun(i30:Nat) (v30:(List Str))=>⟨[(2,.ptr 2 0),(3,.ptr 3 0),(5,.sref 30),(119,nV 11 (y28.map eJob)),(120,iV (y28.length:Int)),(121,iV (i30:Int))],[],[(2,(Y3 .rd a1).cells),(3,(Y3 .rd b2).cells)],[(30,⟨1,v30.map eS,false⟩)]⟩) H (fun i30 x30 v30 I m k30 hxv30 hiv30 H N81=>?_) (fun v30 I m H=>?_)
      .unfold YO at H
       refine wP ?_
       refine wt (ltT hiv30) ?_
       obtain⟨y31,h31,H⟩:=bB H
       obtain⟨n32,h32,H⟩:=bB H
       refine wG [.u 123 (.ix _ _ _ fun _=>V0 eJob (Z1 hxv30)),.c 126 (Ul h31),.c 129 (Z0r h32)] fun _=>?_
       refine O0 H (fun H=>?_) fun H=>?_
       .obtain⟨w33,h33,H⟩:=bB H
        obtain⟨xs34,h34,H⟩:=bB H
        refine wG [.c 135 (W6 h33),.u 137 (.ap _ _ _ _ fun _=>L0 eS h34),.w 138 (wi .i64 rfl hiv30 q29.1)] fun _=>?_
        exact wT (N81 _ H)
       .refine wG [.w 138 (wi .i64 rfl hiv30 q29.1)] fun _=>?_
        exact wT (N81 _ H)
      .unfold LN at H
       refine wP ?_
       refine wf (ltF y28.length) ?_
       refine wG [.u 141 (.ln _ _ fun _=>lm b2.runs (X1 .rd))] fun q35=>?_
       refine wR (fun(i36:Nat) (v36:(List Str))=>⟨[(2,.ptr 2 0),(5,.sref 30),(140,rV 13 (b2.runs.map (X1 .rd))),(141,iV (b2.runs.length:Int)),(142,iV (i36:Int))],[],[(2,(Y3 .rd a1).cells)],[(30,⟨1,v36.map eS,false⟩)]⟩) H (fun i36 x36 v36 I m k36 hxv36 hiv36 H N101=>?_) (fun v36 I m H=>?_)
       .unfold WI at H
        refine wP ?_
        refine wt (ltT hiv36) ?_
        obtain⟨b37,h37,H⟩:=bB H
        refine wG [.u 144 (.ix _ _ _ fun _=>V0 (X1 .rd) (Z1 hxv36)),.c 149 (Oc h37)] fun _=>?_
        refine O0 H (fun H=>?_) fun H=>?_
        .obtain⟨w38,h38,H⟩:=bB H
         obtain⟨xs39,h39,H⟩:=bB H
         refine wG [.c 155 (W6 h38),.u 157 (.ap _ _ _ _ fun _=>L0 eS h39),.w 158 (wi .i64 rfl hiv36 q35.1)] fun _=>?_
         exact wT (N101 _ H)
        .refine wG [.w 158 (wi .i64 rfl hiv36 q35.1)] fun _=>?_
         exact wT (N101 _ H)
       .unfold L01 at H
        refine wP ?_
        refine wf (ltF b2.runs.length) ?_
        refine wP ?_
        replace H:=sI H;subst H
        exact wN [(4,.d)] [] [(30,some 30,0)] [] [some 30] [⟨_,nw_S v36⟩]
   .refine O0 H (fun H=>?_) fun H=>?_
    .obtain⟨w9,h9,H⟩:=bB H
     obtain⟨w10,h10,H⟩:=bB H
     obtain⟨xs11,h11,H⟩:=bB H
     refine wG [.c 51 (Oq h9),.c 53 (XD h10),.u 55 (.ap _ _ _ _ fun _=>L0 eS h11)] fun _=>?_
     exact wT (J110 _ H)
    .refine wP ?_
     exact wT (J110 _ H)
  .refine O0 H (fun H=>?_) fun H=>?_
   .obtain⟨w6,h6,H⟩:=bB H
    obtain⟨xs7,h7,H⟩:=bB H
    refine wG [.c 40 (W6 h6),.u 42 (.ap _ _ _ _ fun _=>L0 eS h7)] fun _=>?_
    exact wT (J111 _ H)
   .refine wP ?_
    exact wT (J111 _ H)
theorem W1k{α γ:Type}{bd:α->Nat->Str->(Str->Option γ)->Option γ}{kk:Str->Option γ}{f:α->Nat->Str}(c:Nat):∀{l:List α} {i:Nat} {s:Str},(∀x i,(f x i).length<=c) ->
  (∀x∈l,∀i s k,s.length+c<=4611686018427387904->bd x i s k=k (s++f x i))->s.length+l.length*c<=4611686018427387904->rgl bd kk l i s=kk (s++(l.zipIdx i).flatMap fun q=>f q.1 q.2)
 |[],_,s,_,_,_=>by simp[rgl]
 |x::l,i,s,h1,h2,h3=>by
  have h0:s.length+c+l.length*c<=4611686018427387904:=by simp only[yT,Nat.add_mul,Nat.one_mul]at h3;omega
  have hx:=h1 x i
  rw[rgl,h2 x (yJ ..) i s _ (by omega),W1k c h1 (fun y hy=>h2 y (yH _ hy)) (by simp;omega)]
  simp[List.zipIdx_cons]
theorem Y1e{α:Type}(f:α->Nat->Str)(c:Nat)(h:∀x i,(f x i).length<=c):∀(l:List α) (i:Nat),((l.zipIdx i).flatMap fun q=>f q.1 q.2).length<=l.length*c
 |[],_=>by simp
 |x::l,i=>by
  have:=Y1e f c h l (i+1)
  have:=h x i
  simp only[List.zipIdx_cons,ya,yU,yT,Nat.add_mul,Nat.one_mul];omega
def JK(l:List Int):Str:=l.flatMap fun n=>32::numText n
theorem LK(l:List Int):(JK l).length<=l.length*11:=VX _ 11 l fun x _=>by have:=U2 x;simp;omega
theorem Lw{w:Str}{l:List Int}(hw:w.length<=1048576)(h:l.length<=1048576):Z6 w l=some (w++JK l):=by
 unfold Z6
 rw[X0h 11 (f:=fun n=>32::numText n) (fun x _=>by have:=U2 x;simp;omega) (fun x hx i s k hs=>by
  have:=U2 x
  unfold XH
  rw[O3 (by simp;omega),bS,Xb,bS,O3 (by simp;omega),bS]
  simp) (by omega)]
 rfl
def X01(j:Job):Str:=numText j.id++[32]++numText j.prio++[32]++numText j.nodes++[32]++Q4 j.need++[32]++Q4 j.lic++[32]++numText j.wall++[32]++numText j.level
theorem L0h(j:Job):(X01 j).length<=140:=by
 have:=U2 j.id;have:=U2 j.prio;have:=U2 j.nodes;have:=U2 j.wall;have:=U2 j.level
 have:=Yj j.need;have:=Yj j.lic
 simp[X01];omega
theorem J0c(j:Job):Ly j=some (X01 j):=by
 have:=U2 j.id;have:=U2 j.prio;have:=U2 j.nodes;have:=U2 j.wall;have:=U2 j.level
 have:=Yj j.need;have:=Yj j.lic
 unfold Ly
 simp only[Xb,UU,bS]
 rw[MP _ (by simp[Xz];omega),bS]
 simp[Xz,X01]
def XQ(b:Bool)(i:Nat):Str:=bif !b then[100,111,119,110]++JK [(i:Int)]++[10]else[]
def ZP(j:Job):Str:=[119,97,105,116,32]++X01 j++[10]
def J02(x:Run):Str:=[114,117,110]++JK ([x.t,(x.nodes.length:Int)]++x.nodes)++[32]++X01 x.job++[10]
def M04(e:End):Str:=[101,110,100]++JK [e.id,e.t,e.why]++[10]
def Z0i(s:State):Str:=[115,116,97,116,101,32]++Q4 s.lic++JK [s.depth,s.now]++[10]
noncomputable def M9(s:State):Str:=if stateOk s=true then Qm s.topo++Z0i s++((s.up.zipIdx 0).flatMap fun q=>XQ q.1 q.2)++s.queue.flatMap ZP++s.runs.flatMap J02++s.ends.flatMap M04++[111,118,101,114,10]else[]
theorem M0A(b:Bool)(i:Nat):(XQ b i).length<=1000:=by have:=LK [(i:Int)];cases b<;>simp[XQ]at this ⊢;omega
theorem O0z(j:Job):(ZP j).length<=1000:=by have:=L0h j;simp[ZP];omega
theorem U0R(e:End):(M04 e).length<=1000:=by have:=LK [e.id,e.t,e.why];simp[M04]at this ⊢;omega
theorem L1d(s:State):(Z0i s).length<=1000:=by
 have h1:=LK [s.depth,s.now]
 have h2:=Yj s.lic
 simp only[yT,List.length_nil]at h1
 simp only[Z0i,yU,yT,List.length_nil];omega
theorem Y0L{x:Run}(h:x.nodes.length<=24):(J02 x).length<=1000:=by
 have:=L0h x.job
 have:=LK ([x.t,(x.nodes.length:Int)]++x.nodes)
 simp[J02]at this ⊢;omega
theorem StateP.run_len{s:State}(h:StateP s){x:Run}(hx:x∈s.runs):x.nodes.length<=24/\U1 x.job=true:=by
 obtain⟨h1,h2,_⟩:=h.runs.job x hx
 have:=(Qn.1 h1).2.2.1
 exact⟨by omega,h1⟩
theorem StateP.jobs{s:State}(h:StateP s):s.queue.length+s.runs.length<=60/\(∀j∈s.queue,U1 j=true):=by
 have:=h.queue
 unfold queueOk allJobs at this
 simp only[yD,yO,List.all_eq_true,yU,List.length_map]at this
 exact⟨this.1.1,fun j hj=>this.1.2 j (List.mem_append.2 (.inl hj))⟩
theorem L0z{s:State}(h:StateP s):(Qm s.topo++Z0i s:Str).length<=6000/\((s.up.zipIdx 0).flatMap fun q=>XQ q.1 q.2).length<=24000/\(s.queue.flatMap ZP).length<=60000/\(s.runs.flatMap J02).length<=60000/\(s.ends.flatMap M04).length<=300000/\s.up.length<=24/\s.queue.length<=60/\s.runs.length<=60/\s.ends.length<=300:=by
 have h1:=QV s.topo
 have h2:=L1d s
 have h3:=Y1e XQ 1000 M0A s.up 0
 have h4:=VX ZP 1000 s.queue fun x _=>O0z x
 have h5:=VX J02 1000 s.runs fun x hx=>Y0L (h.run_len hx).1
 have h6:=VX M04 1000 s.ends fun x _=>U0R x
 have:=h.up;have:=h.topo.nodes;have:=h.jobs.1;have:=h.ends
 rw[yU]
 refine⟨by omega,by omega,by omega,by omega,by omega,by omega,by omega,by omega,by omega⟩
theorem UI{s:State}(hs:s.queue.length+s.runs.length<=1048576):Jd s=some (M9 s):=by
 unfold Jd M9
 rw[(Qh hs).2,bS]
 cases ho:stateOk s with
 |false=>rfl
 |true =>
  have h:=Qz ho
  obtain⟨b1,b2,b3,b4,b5,c1,c2,c3,c4⟩:=L0z h
  have d1:=QV s.topo
  have d2:=Yj s.lic
  have d3:=U2 s.depth
  have d4:=U2 s.now
  rw[yd rfl]
  simp only[yL,yM,ZN,UU,Xb,bS]
  rw[MP _ (by simp[Xz];omega),bS,O3 (by simp[Xz];omega),bS,O3 (by simp[Xz];omega),bS]
  rw[show(Qm s.topo++Xz [[115,116,97,116,101],Q4 s.lic,numText s.depth,numText s.now]++[10]:Str)=Qm s.topo++Z0i s by simp[Z0i,Xz,JK]]
  rw[W1k 1000 (f:=XQ) M0A (fun x hx i w k hw=>by
   unfold WE XQ
   cases x with
   |true=>simp
   |false =>
    have:=LK [(i:Int)]
    simp only[yT,List.length_nil]at this
    simp only[Bool.not_false,yN]
    rw[Lw (by simp) (by simp),bS,O3 (by simp;omega),bS,O3 (by simp;omega),bS]
    simp) (by omega)]
  unfold XE
  rw[X0h 1000 (f:=ZP) (fun x _=>O0z x) (fun x hx i w k hw=>by
   have:=L0h x
   unfold QE ZP
   rw[J0c,bS,MP _ (by simp[Xz];omega),bS,O3 (by simp[Xz];omega),bS,O3 (by simp[Xz];omega),bS]
   simp[Xz]) (by rw[yU];omega)]
  unfold YE
  rw[X0h 1000 (f:=J02) (fun x hx=>Y0L (h.run_len hx).1) (fun x hx i w k hw=>by
   have:=L0h x.job
   have hn:=h.run_len hx
   have i1:=LK [x.t,(x.nodes.length:Int)]
   have i2:=LK x.nodes
   simp only[yT,List.length_nil]at i1
   unfold UE J02
   rw[show lenQ x.nodes=some () by unfold lenQ;rw[yd (by omega)],bS,Lw (by simp) (by simp),bS,Lw (by simp only[yU,yT,List.length_nil];omega) (by omega),bS,J0c,bS,
    MP _ (by simp only[Xz,yU,yT,List.length_nil];omega),bS,O3 (by simp only[Xz,yU,yT,List.length_nil];omega),bS,O3 (by simp only[Xz,yU,yT,List.length_nil];omega),bS]
   simp[Xz,JK]) (by rw[yU,yU];omega)]
  unfold ZE
  rw[X0h 1000 (f:=M04) (fun x _=>U0R x) (fun x hx i w k hw=>by
   have:=LK [x.id,x.t,x.why]
   simp only[yT,List.length_nil]at this
   unfold VE M04
   rw[Lw (by simp) (by simp),bS,O3 (by simp;omega),bS,O3 (by simp;omega),bS]
   simp) (by rw[yU,yU,yU];omega)]
  unfold JD
  rw[O3 (by simp only[yU,yT,List.length_nil]at b1 ⊢;omega),bS]
theorem M0o{s:State}:(M9 s==([]:Str)) = !stateOk s:=by
 unfold M9
 cases stateOk s with
 |false=>rfl
 |true=>rw[yd rfl];simp
theorem L0o(s:State):(M9 s).length<=1000000:=by
 unfold M9
 split
 .rename_i ho
  obtain⟨b1,b2,b3,b4,b5,_⟩:=L0z (Qz ho)
  simp only[yU,yT,List.length_nil]at b1 ⊢;omega
 .simp
end Go.Proofs.YtpgaganbacipnaaGreat
namespace Go.Proofs.YtpgaganbacipnaaGreat
open Go Go.RowKit Eng Go.Sort
def J1u(l:List Run):Prop:=(l.map (·.job.id)).Nodup/\l.length<4611686018427387904
instance(l:List Run):Decidable (J1u l):=by unfold J1u;infer_instance
end Go.Proofs.YtpgaganbacipnaaGreat
namespace Go.Proofs.YtpgaganbacipnaaGreat
open Go Go.RowKit Eng
def V0c(h b:Int):Int:=bAnd .i64 (w64 (w64 (w64 (h*151)+w64 b)+7)) 1073741823
def newH(bs:List Int):Int:=(bs.take 4000).foldl V0c (w64 (958001+bs.length))
def Q0M(bs:List Int):Option l01Cur:=if bs.length<=1048576 then some ⟨bs,0,newH bs⟩else none
def J0j:L :=
 .seq (
 .reg [.mv 2 (.c (.bad))]) (
 .seq (
 .reg [.mv 5 (.t 0),.ln 6 (.t 5),.bi 7 .add (.c (.int .i64 958001)) (.t 6),.mv 3 (.t 7)]) (
 .seq (
 .seq (
 .reg [.mv 4 (.c (.int .i64 0))]) (
 .blk 0 (
  .loop (
   .seq (
   .seq (
   .reg [.mv 8 (.t 4),.mv 9 (.t 0),.ln 10 (.t 9),.bi 11 .lss (.t 8) (.t 10),.mv 12 (.t 11),.g 12 true (.mv 13 (.t 4)),.g 12 true (.bi 14 .lss (.t 13) (.c (.int .i64 4000))),.pk 15 (.t 12) (.t 14) (.c (.bool false))]) (
   .cond (.t 15) (
    .skip) (
    .exit 0))) (
   .seq (
   .blk 1 (
    .reg [.mv 18 (.t 3),.bi 19 .mul (.t 18) (.c (.int .i64 151)),.mv 20 (.t 0),.mv 21 (.t 4),.ia 22 (.t 20) (.t 21) 1,.ld 23 (.t 22) 1 false,.cv 24 .i64 (.t 23),.bi 25 .add (.t 19) (.t 24),.bi 26 .add (.t 25) (.c (.int .i64 7)),.bi 27 .and (.t 26) (.c (.int .i64 1073741823)),.mv 3 (.t 27)])) (
   .reg [.mv 16 (.t 4),.bi 17 .add (.t 16) (.c (.int .i64 1)),.mv 4 (.t 17)])))))) (
 .seq (
 .reg [.mv 28 (.t 0),.mv 29 (.t 3),.bd 30 [.nl,.int .i64 0,.int .i64 0] [(0,1,(.t 28)),(2,1,(.t 29))],.bx 31 (.t 30),.mv 2 (.t 31)]) (
 .ret))))
def J0T:List Rv:=[.t 2]
theorem Q0Y:YF Tryz.prog V05 1 J0j J0T=true:=by kernel_rfl
set_option maxRecDepth 20000 in
theorem M1q{bs:List Int}{c:l01Cur}(H:Q0M bs=some c):SndB Tryz.prog V05 [.sl .rd 1 (bs.map eB)] (fun cs=>cs=(Q0 .rd c).cells):=by
 unfold Q0M at H
 split at H
 rotate_left
 .cases H
 rename_i hl
 cases H
 refine Q1N Q0Y rfl (by simp) (J1R ?_)
 unfold J0j
 simp
 intro _
 refine O22 bs.length (fun i s=>i<=4000/\s.e 0=.sl .rd 1 (bs.map eB)/\s.e 3=.int .i64 ((bs.take i).foldl V0c (w64 (958001+bs.length)))/\s.e 4=.int .i64 (i:Nat)) (fun s=>s.e 0=.sl .rd 1 (bs.map eB)/\s.e 3=.int .i64 (newH bs)) ?_ ?_ ?_
 .simp[w64]
 .rintro i s hi ⟨h4000,e0,e3,e4⟩
  by_cases hlt:i<bs.length
  .by_cases h4:(i:Int)<4000
   .simp[e0,e3,e4,hlt,h4]
    intro _
    refine L1E hlt ⟨by omega,?_⟩
    have et:(bs.take (i+1)).foldl V0c (w64 (958001+bs.length))=V0c ((bs.take i).foldl V0c (w64 (958001+bs.length))) bs[i]:=by
     rw[List.take_succ_eq_append_getElem hlt,List.foldl_append];rfl
    rw[et]
    generalize (bs.take i).foldl V0c (w64 (958001+bs.length))=h
    simp[e0,O19 hlt (by omega:bs.length<=9223372036854775807)]
    rfl
   .simp[e0,e3,e4,hlt,h4]
    intro _
    refine V1L ?_
    have h40:i=4000:=by omega
    have e:newH bs=(bs.take i).foldl V0c (w64 (958001+bs.length)):=by unfold newH;rw[h40]
    simp[e0,e3,e]
  .simp[e0,e3,e4,hlt]
   intro _
   refine V1L ?_
   have e:newH bs=(bs.take i).foldl V0c (w64 (958001+bs.length)):=by
    unfold newH;rw[List.take_of_length_le (by omega),List.take_of_length_le (by omega)]
   simp[e0,e3,e]
 rintro s ⟨e0,e3⟩
 simp[e0,e3]
end Go.Proofs.YtpgaganbacipnaaGreat
