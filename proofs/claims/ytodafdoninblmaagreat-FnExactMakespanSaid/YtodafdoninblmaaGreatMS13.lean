/-
  Lemmas, part 13: the engine that steps through the code, the walks of functions, and the laws of what they compute.
-/
import Derived.Test.YtodafdoninblmaaGreatMS12
namespace Go.Proofs.YtodafdoninblmaaGreat
open Go Go.RowKit Eng
def Zvi:L :=
.seq (rE 4 (cB false))
 (.seq (sR [mV 7 0,.ln 8 (.t 7),.mv 9 (kI 0)]
 (.blk 0 (.loop (.gw (sR [bI 10 .lss 9 8]
 (.seq (.cond (.t 10) .skip
 (.exit 0))
 (.seq (.blk 1 (sR [iA 11 7 9 3,lD 12 11 3 true,.al 6 [.int .i64 0,.int .i64 0,.int .i64 0],.st (.t 6) (.t 12) 3]
 (sR [fA 13 6 0,lD 14 13 1 false,mV 15 1,bI 16 .eql 14 15]
 (.cond (.t 16) (.seq (rE 4 (cB true))
 gR)
 .skip))))
 (.reg [.bi 17 .add (.t 9) (kI 1),mV 9 17]))))))))
 (.seq (rE 4 (cB false))
 gR))
def Z9b(id2:Int)(x4:Seen)(_:Nat)(_:Unit)(k4:Unit->Option Bool):Option Bool :=
 bif (x4.id==id2)then(some true)else(k4 ())
def ZX6(_:Unit):Option Bool :=
 some false
def Zz4(l1:List Seen)(id2:Int):Option Bool :=
 rgl (Z9b id2) ZX6 l1 0 ()
theorem ZBb{l1:List Seen}{id2:Int}{r:Bool}(H:Zz4 l1 id2=some r):Snd Tryz.prog ZK9 [.sl .rd 3 (l1.map ZJ3),.int .i64 id2] (.bool r) []:=by
 refine wS Zvi [.t 4] ?_
 unfold Zz4 at H
 refine wG [.u 8 (.ln _ _ fun _=>lm l1 ZJ3)] fun q3=>?_
 refine wR (fun(i4:Nat) (v4:Unit)=>⟨[(1,.int .i64 id2),(7,.sl .rd 3 (l1.map ZJ3)),(8,.int .i64 (l1.length:Int)),(9,.int .i64 (i4:Int))],[],[],[]⟩) H (fun i4 x4 v4 I m k4 hxv4 hiv4 H N20=>?_) (fun v4 I m H=>?_)
 .unfold Z9b at H
  refine wP ?_
  refine wt (ltT hiv4) ?_
  refine wG [.u 11 (.ix _ _ _ fun _=>Z1 ZJ3 (Z5 hxv4))] fun _=>?_
  refine Z3 H (fun H=>?_) fun H=>?_
  .refine wP ?_
   replace H:=sI H;subst H
   exact wE [(4,.d)]
  .refine wG [.w 17 (wi .i64 rfl hiv4 q3.1)] fun _=>?_
   exact wT (N20 () H)
 .unfold ZX6 at H
  refine wP ?_
  refine wf (ltF l1.length) ?_
  refine wP ?_
  replace H:=sI H;subst H
  exact wE [(4,.d)]
def ZBf:L :=
sR [.bx 3 (.t 1),.mv 4 (.c (.nl))]
 (.seq (sR [fA 7 3 9,lD 8 7 1 false,.ln 9 (.t 8),.mv 10 (kI 0)]
 (.blk 0 (.loop (.gw (sR [bI 11 .lss 10 9]
 (.seq (.cond (.t 11) .skip
 (.exit 0))
 (.seq (.blk 1 (sR [iA 12 8 10 13,lD 13 12 13 true,.al 6 [.int .i64 0,.int .i64 0,.int .i64 0,.int .i64 0,.int .i64 0,.int .i64 0,.int .i64 0,.int .i64 0,.int .i64 0,.int .i64 0,.int .i64 0,.int .i64 0,.nl],.st (.t 6) (.t 13) 13]
 (sR [mV 14 0,fA 15 6 0,fA 16 15 0,lD 17 16 1 false,cQ 18 ZK9 [14,17],.un 19 (.t 18)]
 (.cond (.t 19) (.reg [mV 20 0,fA 21 6 0,fA 22 21 0,lD 23 22 1 false,fA 24 6 11,lD 25 24 1 false,fA 26 6 11,lD 27 26 1 false,fA 28 6 0,fA 29 28 9,lD 30 29 1 false,bI 31 .add 27 30,.bd 32 [.int .i64 0,.int .i64 0,.int .i64 0] [(0,1,(.t 23)),(1,1,(.t 25)),(2,1,(.t 31))],.bs 33 3 [(.t 32)] false,.ap 34 (.t 20) (.t 33) 3 24,mV 0 34])
 .skip))))
 (.reg [.bi 35 .add (.t 10) (kI 1),mV 10 35]))))))))
 (sR [mV 36 0,mV 4 36]
 gR))
def Zmf:List Rv:=[.t 4]
theorem ZWf:ZPe Tryz.prog ZM1 2 ZBf Zmf=true:=by kernel_rfl
def ZT8(x4:Run)(_:Nat)(v4:(List Seen))(k4:(List Seen)->Option (List Seen)):Option (List Seen) :=
 (Zz4 v4 x4.job.id).bind fun b5=>bif (!b5)then((appL 24 v4 [(Seen.mk x4.job.id x4.t (w64 (x4.t+x4.job.wall)))]).bind fun xs6=>k4 xs6)else(k4 v4)
def ZW4(v4:(List Seen)):Option (List Seen) :=
 some v4
def ZO3(_:List Seen)(s2:State):Option (List Seen) :=
 rgl ZT8 ZW4 s2.runs 0 []
set_option maxRecDepth 20000 in
theorem Zcf{l1:List Seen}{s2:State}{r:(List Seen)}(H:ZO3 l1 s2=some r):ConD Tryz.prog ZM1 [.nl,Zn .rd s2] [] [] (.sref 0) [] [] [(3,r.map ZJ3)]:=by
 refine Zuq [] ZWf rfl (by kernel_rfl) ?_
 unfold ZO3 at H
 refine wG [.u 9 (.ln _ _ fun _=>lm s2.runs (Za .rd))] fun q3=>?_
 refine Zpc (fun(i4:Nat) (v4:(List Seen))=>⟨[(0,.sref 208000),(8,.sl .rd 13 (s2.runs.map (Za .rd))),(9,.int .i64 (s2.runs.length:Int)),(10,.int .i64 (i4:Int))],[],[],[(208000,⟨3,v4.map ZJ3,false⟩)]⟩) [(0,.z 208000)] [] [(208000,(none,3))] [] (by kernel_rfl) (by kernel_rfl) H (fun i4 x4 v4 I m k4 hxv4 hiv4 H N18=>?_) (fun v4 I m H=>?_)
 .unfold ZT8 at H
  refine wP ?_
  refine wt (ltT hiv4) ?_
  obtain⟨b5,h5,H⟩:=bB H
  refine wG [.u 12 (.ix _ _ _ fun _=>Z1 (Za .rd) (Z5 hxv4)),.c 18 (ZBb h5)] fun _=>?_
  refine Z3 H (fun H=>?_) fun H=>?_
  .obtain⟨xs6,h6,H⟩:=bB H
   refine wG [.u 34 (.ap _ _ _ _ fun _=>Z6 ZJ3 h6),.w 35 (wi .i64 rfl hiv4 q3.1)] fun _=>?_
   exact wT (N18 _ H)
  .refine wG [.w 35 (wi .i64 rfl hiv4 q3.1)] fun _=>?_
   exact wT (N18 _ H)
 .unfold ZW4 at H
  refine wP ?_
  refine wf (ltF s2.runs.length) ?_
  refine wP ?_
  replace H:=sI H;subst H
  exact Zrc [(4,.d)] [] [(208000,some 208000,0)] [] [208000] (by kernel_rfl)
def ZCf:L :=
sR [.bx 3 (.t 1),.mv 4 (.c (.nl))]
 (.seq (sR [fA 7 3 9,lD 8 7 1 false,.ln 9 (.t 8),.mv 10 (kI 0)]
 (.blk 0 (.loop (.gw (sR [bI 11 .lss 10 9]
 (.seq (.cond (.t 11) .skip
 (.exit 0))
 (.seq (.blk 1 (sR [iA 12 8 10 13,lD 13 12 13 true,.al 6 [.int .i64 0,.int .i64 0,.int .i64 0,.int .i64 0,.int .i64 0,.int .i64 0,.int .i64 0,.int .i64 0,.int .i64 0,.int .i64 0,.int .i64 0,.int .i64 0,.nl],.st (.t 6) (.t 13) 13]
 (sR [mV 14 0,fA 15 6 0,fA 16 15 0,lD 17 16 1 false,cQ 18 ZK9 [14,17],.un 19 (.t 18)]
 (.cond (.t 19) (.reg [mV 20 0,fA 21 6 0,fA 22 21 0,lD 23 22 1 false,fA 24 6 11,lD 25 24 1 false,fA 26 6 11,lD 27 26 1 false,fA 28 6 0,fA 29 28 9,lD 30 29 1 false,bI 31 .add 27 30,.bd 32 [.int .i64 0,.int .i64 0,.int .i64 0] [(0,1,(.t 23)),(1,1,(.t 25)),(2,1,(.t 31))],.bs 33 3 [(.t 32)] false,.ap 34 (.t 20) (.t 33) 3 24,mV 0 34])
 .skip))))
 (.reg [.bi 35 .add (.t 10) (kI 1),mV 10 35]))))))))
 (sR [mV 36 0,mV 4 36]
 gR))
def Znf:List Rv:=[.t 4]
theorem ZXf:ZPe Tryz.prog ZM1 2 ZCf Znf=true:=by kernel_rfl
def Zs1(x4:Run)(_:Nat)(v4:(List Seen))(k4:(List Seen)->Option (List Seen)):Option (List Seen) :=
 (Zz4 v4 x4.job.id).bind fun b5=>bif (!b5)then((appL 24 v4 [(Seen.mk x4.job.id x4.t (w64 (x4.t+x4.job.wall)))]).bind fun xs6=>k4 xs6)else(k4 v4)
def ZU8(v4:(List Seen)):Option (List Seen) :=
 some v4
def ZP3(l1:List Seen)(s2:State):Option (List Seen) :=
 rgl Zs1 ZU8 s2.runs 0 l1
set_option maxRecDepth 20000 in
theorem Zdf{l1:List Seen}{s2:State}{r:(List Seen)}(H:ZP3 l1 s2=some r):ConD Tryz.prog ZM1 [.sref 0,Zn .rd s2] [] [(3,l1.map ZJ3)] (.sref 1) [] [none] [(3,r.map ZJ3)]:=by
 refine Zuq [false] ZXf rfl (by kernel_rfl) ?_
 unfold ZP3 at H
 refine wG [.u 9 (.ln _ _ fun _=>lm s2.runs (Za .rd))] fun q3=>?_
 refine wR (fun(i4:Nat) (v4:(List Seen))=>⟨[(0,.sref 500000000),(8,.sl .rd 13 (s2.runs.map (Za .rd))),(9,.int .i64 (s2.runs.length:Int)),(10,.int .i64 (i4:Int))],[],[],[(500000000,⟨3,v4.map ZJ3,false⟩)]⟩) H (fun i4 x4 v4 I m k4 hxv4 hiv4 H N18=>?_) (fun v4 I m H=>?_)
 .unfold Zs1 at H
  refine wP ?_
  refine wt (ltT hiv4) ?_
  obtain⟨b5,h5,H⟩:=bB H
  refine wG [.u 12 (.ix _ _ _ fun _=>Z1 (Za .rd) (Z5 hxv4)),.c 18 (ZBb h5)] fun _=>?_
  refine Z3 H (fun H=>?_) fun H=>?_
  .obtain⟨xs6,h6,H⟩:=bB H
   refine wG [.u 34 (.ap _ _ _ _ fun _=>Z6 ZJ3 h6),.w 35 (wi .i64 rfl hiv4 q3.1)] fun _=>?_
   exact wT (N18 _ H)
  .refine wG [.w 35 (wi .i64 rfl hiv4 q3.1)] fun _=>?_
   exact wT (N18 _ H)
 .unfold ZU8 at H
  refine wP ?_
  refine wf (ltF s2.runs.length) ?_
  refine wP ?_
  replace H:=sI H;subst H
  exact Zrc [(4,.d)] [] [(500000000,some 500000000,0)] [] [500000000] (by kernel_rfl)
def Zvm:L :=
sR [.bx 1 (.t 0),.mv 2 (.c (.nl)),.al 3 [.nl,.nl,.nl,.int .i64 0,.int .i64 0,.int .i64 0,.int .i64 0,.int .i64 0,.nl,.nl,.nl],.mv 4 (cB false)]
 (.seq (sR [lD 8 1 11 true,cQ 9 ZQ9 [8],.un 10 (.t 9)]
 (.cond (.t 10) (sR [.bd 11 [.nl,.nl,.nl,.int .i64 0,.int .i64 0,.int .i64 0,.int .i64 0,.int .i64 0,.nl,.nl,.nl] [],.mv 2 (.c (.nl)),.st (.t 3) (.t 11) 11,.mv 4 (cB false)]
 gR)
 .skip))
 (sR [lD 12 1 11 true,cQ 13 ZL9 [12],.st (.t 1) (.t 13) 11]
 (sR [lD 14 1 11 true,.cm 15 ZM1 [(.c (.nl)),(.t 14)],mV 5 15]
 (.seq (.blk 0 (.loop (.gw (.seq (sR [lD 16 1 11 true,cQ 17 Z64 [16],.bi 18 .geq (.t 17) (kI 0)]
 (.cond (.t 18) .skip
 (.exit 0)))
 (.blk 1 (.seq (.rz [(7,6,[.nl,.nl,.nl,.int .i64 0,.int .i64 0,.int .i64 0,.int .i64 0,.int .i64 0,.nl,.nl,.nl])] [(0,false,lD 20 1 11 true),
 (1,false,lD 21 1 11 true),
 (2,false,cQ 22 Z64 [21]),
 (3,false,cQ 23 Zkg [20,22]),
 (4,false,mV 19 23),
 (5,false,eX 24 19 0),
 (6,false,eX 25 19 1)]
 [.st (.t 6) (.t 24) 11,mV 7 25])
 (.seq (sR [mV 26 7,.un 27 (.t 26)]
 (.cond (.t 27) (sR [.bd 28 [.nl,.nl,.nl,.int .i64 0,.int .i64 0,.int .i64 0,.int .i64 0,.int .i64 0,.nl,.nl,.nl] [],.mv 2 (.c (.nl)),.st (.t 3) (.t 28) 11,.mv 4 (cB false)]
 gR)
 .skip))
 (sR [lD 29 6 11 true,.st (.t 1) (.t 29) 11]
 (.reg [mV 30 5,lD 31 1 11 true,.cm 32 ZM1 [(.t 30),(.t 31)],mV 5 32])))))))))
 (.seq (.rq 3 [mV 33 5,lD 34 1 11 true,mV 2 33,.st (.t 3) (.t 34) 11,.mv 4 (cB true)])
 gR)))))
def ZQ3(v5:State×(List Seen))(k5:(State×(List Seen))->Option ((List Seen)×State×Bool)):Option ((List Seen)×State×Bool) :=
 (ZA2 v5.1).bind fun n6=>bif (decide (0<=n6))then((ZA2 v5.1).bind fun n7=>(ZN5 v5.1 n7).bind fun y8=>bif (!y8.2)then(some ([],(State.mk (Topo.mk [] []) [] (Vec.mk 0 0 0) 0 0 [] [] []),false))else((ZP3 v5.2 y8.1).bind fun y9=>k5 (y8.1,y9)))else(some (v5.2,v5.1,true))
def ZY9(s1:State):Option ((List Seen)×State×Bool) :=
 (ZI4 s1).bind fun b2=>bif (!b2)then(some ([],(State.mk (Topo.mk [] []) [] (Vec.mk 0 0 0) 0 0 [] [] []),false))else((ZC4 s1).bind fun y3=>(ZO3 [] y3).bind fun y4=>whl ZQ3 9223372036854775807 (y3,y4))
theorem ZGl{s1:State}{r:(List Seen)×State×Bool}(H:ZY9 s1=some r):Snd Tryz.prog Zjg [Zn .rd s1] (.tup [.sl .nw 3 (r.1.map ZJ3),Zn .nw r.2.1,.bool r.2.2]) []:=by
 refine wS Zvm [.t 2,.c 3 11 true,.t 4] ?_
 unfold ZY9 at H
 obtain⟨b2,h2,H⟩:=bB H
 refine wG [.c 9 (ZLb h2)] fun _=>?_
 refine Z3 H (fun H=>?_) fun H=>?_
 .refine wP ?_
  replace H:=sI H;subst H
  exact wN [(2,.n 3),(3,.d),(4,.d)] [(3,[.n 1,.n 4,.n 1,.d,.d,.d,.d,.d,.n 11,.n 13,.n 3])] [] [] [] [⟨_,ZXh ([]:List Seen)⟩,⟨_,nw_I ([]:List Int)⟩,⟨_,Zx ([]:List Node)⟩,⟨_,ZI2 ([]:List Bool)⟩,⟨_,Zc3 ([]:List Job)⟩,⟨_,Zb3 ([]:List Run)⟩,⟨_,ZK6 ([]:List End)⟩]
 .obtain⟨y3,h3,H⟩:=bB H
  obtain⟨y4,h4,H⟩:=bB H
  refine wG [.c 13 (ZCb h3),.u 15 (.cw ZM1 [] [] [] [] [.nl,Zn .nw y3] _ _ _ _ _ (GEs.of [true,false] (by simp)) (by simp) (by simp) (by simp) (fun _=>Zcf h4))] fun _=>?_
  refine wW (fun(v5:State×(List Seen))=>⟨[(1,.ptr 1 0),(3,.ptr 3 0),(5,.sref 16000)],[],[(1,(Zn .nw v5.1).cells),(3,[.nl,.nl,.nl,.int .i64 0,.int .i64 0,.int .i64 0,.int .i64 0,.int .i64 0,.nl,.nl,.nl])],[(16000,⟨3,v5.2.map ZJ3,false⟩)]⟩) H (fun v5 I m k5 H N30=>?_)
  unfold ZQ3 at H
  obtain⟨n6,h6,H⟩:=bB H
  refine wG [.u 17 (.call _ _ _ _ _ (AEs.of (xs:=[.agg [.sl .rd 1 (v5.1.topo.parents.map eI),.sl .rd 4 (v5.1.topo.nodes.map Zf),.sl .rd 1 (v5.1.up.map eBo),.int .i64 v5.1.lic.a,.int .i64 v5.1.lic.b,.int .i64 v5.1.lic.c,.int .i64 v5.1.depth,.int .i64 v5.1.now,.sl .rd 11 (v5.1.queue.map eJob),.sl .rd 13 (v5.1.runs.map (Za .nw)),.sl .rd 3 (v5.1.ends.map eEnd)]]) (by simp)) (fun _=>ZX4 h6))] fun _=>?_
  refine Z3 H (fun H=>?_) fun H=>?_
  .obtain⟨n7,h7,H⟩:=bB H
   obtain⟨y8,h8,H⟩:=bB H
   refine wG [.u 22 (.call _ _ _ _ _ (AEs.of (xs:=[.agg [.sl .rd 1 (v5.1.topo.parents.map eI),.sl .rd 4 (v5.1.topo.nodes.map Zf),.sl .rd 1 (v5.1.up.map eBo),.int .i64 v5.1.lic.a,.int .i64 v5.1.lic.b,.int .i64 v5.1.lic.c,.int .i64 v5.1.depth,.int .i64 v5.1.now,.sl .rd 11 (v5.1.queue.map eJob),.sl .rd 13 (v5.1.runs.map (Za .nw)),.sl .rd 3 (v5.1.ends.map eEnd)]]) (by simp)) (fun _=>ZX4 h7)),.u 23 (.call _ _ _ _ _ (AEs.of (xs:=[.agg [.sl .rd 1 (v5.1.topo.parents.map eI),.sl .rd 4 (v5.1.topo.nodes.map Zf),.sl .rd 1 (v5.1.up.map eBo),.int .i64 v5.1.lic.a,.int .i64 v5.1.lic.b,.int .i64 v5.1.lic.c,.int .i64 v5.1.depth,.int .i64 v5.1.now,.sl .rd 11 (v5.1.queue.map eJob),.sl .rd 13 (v5.1.runs.map (Za .nw)),.sl .rd 3 (v5.1.ends.map eEnd)],.int .i64 n7]) (by simp)) (fun _=>ZNl h8))] fun _=>?_
   refine Z3 H (fun H=>?_) fun H=>?_
   .refine wP ?_
    replace H:=sI H;subst H
    exact wN [(2,.n 3),(3,.d),(4,.d)] [(3,[.n 1,.n 4,.n 1,.d,.d,.d,.d,.d,.n 11,.n 13,.n 3])] [] [] [] [⟨_,ZXh ([]:List Seen)⟩,⟨_,nw_I ([]:List Int)⟩,⟨_,Zx ([]:List Node)⟩,⟨_,ZI2 ([]:List Bool)⟩,⟨_,Zc3 ([]:List Job)⟩,⟨_,Zb3 ([]:List Run)⟩,⟨_,ZK6 ([]:List End)⟩]
   .obtain⟨y9,h9,H⟩:=bB H
    refine wG [.u 32 (.cw ZM1 [] [16000] [] [(3,v5.2.map ZJ3)] [.sref 0,Zn .nw y8.1] _ _ _ _ _ (GEs.of [true,false] (by simp)) (by simp) (by simp) (by simp) (fun _=>Zdf h9))] fun _=>?_
    exact Zsn (N30 _ H) [] [] [(16000,(some 33000,0))] [] (by kernel_rfl) (by kernel_rfl)
  .refine wP ?_
   replace H:=sI H;subst H
   exact wN [(2,.f),(3,.d),(4,.d)] [(3,[])] [] [16000] [] [⟨_,ZXh v5.2⟩,⟨_,nw_I v5.1.topo.parents⟩,⟨_,Zx v5.1.topo.nodes⟩,⟨_,ZI2 v5.1.up⟩,⟨_,Zc3 v5.1.queue⟩,⟨_,Zb3 v5.1.runs⟩,⟨_,ZK6 v5.1.ends⟩]
def ZDm:L :=
sR [.bx 1 (.t 0),.mv 2 (.c (.nl)),.mv 3 (cB false)]
 (sR [lD 8 1 11 true,cQ 9 Zjg [8],mV 7 9,eX 10 7 0,eX 11 7 1,eX 12 7 2,.al 5 [.nl,.nl,.nl,.int .i64 0,.int .i64 0,.int .i64 0,.int .i64 0,.int .i64 0,.nl,.nl,.nl],mV 4 10,.st (.t 5) (.t 11) 11,mV 6 12]
 (sR [mV 13 4,mV 14 6,mV 2 13,mV 3 14]
 gR))
def ZLc(s1:State):Option ((List Seen)×Bool) :=
 (ZY9 s1).bind fun y2=>some (y2.1,y2.2.2)
theorem ZPl{s1:State}{r:(List Seen)×Bool}(H:ZLc s1=some r):Snd Tryz.prog Zmg [Zn .rd s1] (.tup [.sl .nw 3 (r.1.map ZJ3),.bool r.2]) []:=by
 refine wS ZDm [.t 2,.t 3] ?_
 unfold ZLc at H
 obtain⟨y2,h2,H⟩:=bB H
 refine wG [.c 9 (ZGl h2)] fun _=>?_
 replace H:=sI H;subst H
 exact wN [(2,.d),(3,.d)] [] [] [] [] [⟨_,ZXh y2.1⟩]
def Z1h:L :=
sR [.bx 1 (.t 0),.mv 2 (kI 0)]
 (sR [lD 9 1 11 true,cQ 10 Zmg [9],mV 8 10,eX 11 8 0,eX 12 8 1,mV 3 11,mV 4 12]
 (.seq (sR [mV 13 4,.un 14 (.t 13)]
 (.cond (.t 14) (.seq (rE 2 (kI (-1)))
 gR)
 .skip))
 (sR [fA 15 1 7,lD 16 15 1 false,mV 5 16]
 (.seq (sR [mV 17 3,.ln 18 (.t 17),.mv 19 (kI 0)]
 (.blk 0 (.loop (.gw (sR [bI 20 .lss 19 18]
 (.seq (.cond (.t 20) .skip
 (.exit 0))
 (.seq (.blk 1 (sR [iA 21 17 19 3,lD 22 21 3 true,.al 7 [.int .i64 0,.int .i64 0,.int .i64 0],.st (.t 7) (.t 22) 3]
 (sR [fA 23 7 2,lD 24 23 1 false,mV 25 5,bI 26 .gtr 24 25]
 (.cond (.t 26) (.reg [fA 27 7 2,lD 28 27 1 false,mV 5 28])
 .skip))))
 (.reg [.bi 29 .add (.t 19) (kI 1),mV 19 29]))))))))
 (sR [mV 30 5,mV 2 30]
 gR)))))
def ZO5(x4:Seen)(_:Nat)(v4:Int)(k4:Int->Option Int):Option Int :=
 bif (decide (v4<x4.fin))then(k4 x4.fin)else(k4 v4)
def Z2a(v4:Int):Option Int :=
 some v4
def Z75(s1:State):Option Int :=
 (ZLc s1).bind fun y2=>bif (!y2.2)then(some (-1))else(rgl ZO5 Z2a y2.1 0 s1.now)
theorem ZGg{s1:State}{r:Int}(H:Z75 s1=some r):Snd Tryz.prog Zxc [Zn .rd s1] (.int .i64 r) []:=by
 refine wS Z1h [.t 2] ?_
 unfold Z75 at H
 obtain⟨y2,h2,H⟩:=bB H
 refine wG [.c 10 (ZPl h2)] fun _=>?_
 refine Z3 H (fun H=>?_) fun H=>?_
 .refine wP ?_
  replace H:=sI H;subst H
  exact wE [(2,.d)]
 .refine wG [.u 18 (.ln _ _ fun _=>lm y2.1 ZJ3)] fun q3=>?_
  refine wR (fun(i4:Nat) (v4:Int)=>⟨[(5,.int .i64 v4),(17,.sl .nw 3 (y2.1.map ZJ3)),(18,.int .i64 (y2.1.length:Int)),(19,.int .i64 (i4:Int))],[],[],[]⟩) H (fun i4 x4 v4 I m k4 hxv4 hiv4 H N27=>?_) (fun v4 I m H=>?_)
  .unfold ZO5 at H
   refine wP ?_
   refine wt (ltT hiv4) ?_
   refine wG [.u 21 (.ix _ _ _ fun _=>Z1 ZJ3 (Z5 hxv4))] fun _=>?_
   refine Z3 H (fun H=>?_) fun H=>?_
   .refine wG [.w 29 (wi .i64 rfl hiv4 q3.1)] fun _=>?_
    exact wT (N27 _ H)
   .refine wG [.w 29 (wi .i64 rfl hiv4 q3.1)] fun _=>?_
    exact wT (N27 _ H)
  .unfold Z2a at H
   refine wP ?_
   refine wf (ltF y2.1.length) ?_
   refine wP ?_
   replace H:=sI H;subst H
   exact wE [(2,.d)]
def Z8o:L :=
sR [.bx 1 (.t 0),.al 2 [.int .i64 0,.int .i64 0,.int .i64 0]]
 (sR [fA 3 1 0,fA 4 3 0,lD 5 4 1 false,fA 6 1 11,lD 7 6 1 false,fA 8 1 11,lD 9 8 1 false,fA 10 1 0,fA 11 10 9,lD 12 11 1 false,bI 13 .add 9 12,.bd 14 [.int .i64 0,.int .i64 0,.int .i64 0] [(0,1,(.t 5)),(1,1,(.t 7)),(2,1,(.t 13))],.st (.t 2) (.t 14) 3]
 gR)
def ZEa(x1:Run):Option Seen :=
 some (Seen.mk x1.job.id x1.t (w64 (x1.t+x1.job.wall)))
theorem ZRk{x1:Run}{r:Seen}(H:ZEa x1=some r):Snd Tryz.prog Z2b [Za .rd x1] (ZJ3 r) []:=by
 refine wS Z8o [.c 2 3 true] ?_
 unfold ZEa at H
 refine wP ?_
 replace H:=sI H;subst H
 exact wN [(2,.d)] [(2,[])] [] [] [] []
def Z4c(x1:Run):Seen :=
 (Seen.mk x1.job.id x1.t (w64 (x1.t+x1.job.wall)))
theorem ZTo(x1:Run):ZEa x1=some (Z4c x1):=by
 unfold ZEa Z4c
 first|rfl|simp only[Zl]
theorem Zbg(x1:Run):Snd Tryz.prog Z2b [Za .rd x1] (ZJ3 (Z4c x1)) []:=ZRk (ZTo x1)
def ZUm:L :=
sR [.bx 1 (.t 0),.mv 2 (.c (.nl)),.al 3 [.nl,.nl,.nl,.int .i64 0,.int .i64 0,.int .i64 0,.int .i64 0,.int .i64 0,.nl,.nl,.nl],.mv 4 (cB false)]
 (.seq (sR [lD 13 1 11 true,cQ 14 ZW9 [13],.un 15 (.t 14)]
 (.cond (.t 15) (sR [.bd 16 [.nl,.nl,.nl,.int .i64 0,.int .i64 0,.int .i64 0,.int .i64 0,.int .i64 0,.nl,.nl,.nl] [],.mv 2 (.c (.nl)),.st (.t 3) (.t 16) 11,.mv 4 (cB false)]
 gR)
 .skip))
 (sR [.bs 17 3 [] true,mV 5 17]
 (.seq (sR [fA 18 1 9,lD 19 18 1 false,.ln 20 (.t 19),.mv 21 (kI 0)]
 (.blk 0 (.loop (.gw (sR [bI 22 .lss 21 20]
 (.seq (.cond (.t 22) .skip
 (.exit 0))
 (.seq (.blk 1 (sR [iA 23 19 21 13,lD 24 23 13 true,.al 7 [.int .i64 0,.int .i64 0,.int .i64 0,.int .i64 0,.int .i64 0,.int .i64 0,.int .i64 0,.int .i64 0,.int .i64 0,.int .i64 0,.int .i64 0,.int .i64 0,.nl],.st (.t 7) (.t 24) 13]
 (.reg [mV 25 5,lD 26 7 13 true,cQ 27 Z2b [26],.bs 28 3 [(.t 27)] false,.ap 29 (.t 25) (.t 28) 3 24,mV 5 29])))
 (.reg [.bi 30 .add (.t 21) (kI 1),mV 21 30]))))))))
 (sR [lD 31 1 11 true,cQ 32 Zq4 [31],.st (.t 1) (.t 32) 11]
 (.blk 2 (.loop (.gw (.blk 3 (sR [lD 33 1 11 true,cQ 34 ZV9 [33],mV 8 34]
 (.seq (sR [mV 35 8,.bi 36 .lss (.t 35) (kI 0)]
 (.cond (.t 36) (.seq (.rq 3 [mV 37 5,lD 38 1 11 true,mV 2 37,.st (.t 3) (.t 38) 11,.mv 4 (cB true)])
 gR)
 .skip))
 (sR [lD 40 1 11 true,mV 41 8,cQ 42 Ztg [40,41],mV 39 42,eX 43 39 0,eX 44 39 1,.al 9 [.nl,.nl,.nl,.int .i64 0,.int .i64 0,.int .i64 0,.int .i64 0,.int .i64 0,.nl,.nl,.nl],.st (.t 9) (.t 43) 11,mV 10 44]
 (.seq (sR [mV 45 10,.un 46 (.t 45)]
 (.cond (.t 46) (sR [.bd 47 [.nl,.nl,.nl,.int .i64 0,.int .i64 0,.int .i64 0,.int .i64 0,.int .i64 0,.nl,.nl,.nl] [],.mv 2 (.c (.nl)),.st (.t 3) (.t 47) 11,.mv 4 (cB false)]
 gR)
 .skip))
 (sR [lD 48 9 11 true,.st (.t 1) (.t 48) 11]
 (sR [fA 49 1 9,lD 50 49 1 false,.ln 51 (.t 50),.mv 52 (kI 0)]
 (.blk 4 (.loop (.gw (sR [bI 53 .lss 52 51]
 (.seq (.cond (.t 53) .skip
 (.exit 4))
 (.seq (.blk 5 (sR [iA 54 50 52 13,lD 55 54 13 true,.al 12 [.int .i64 0,.int .i64 0,.int .i64 0,.int .i64 0,.int .i64 0,.int .i64 0,.int .i64 0,.int .i64 0,.int .i64 0,.int .i64 0,.int .i64 0,.int .i64 0,.nl],.st (.t 12) (.t 55) 13]
 (sR [fA 56 12 11,lD 57 56 1 false,mV 58 8,bI 59 .eql 57 58]
 (.cond (.t 59) (.reg [mV 60 5,lD 61 12 13 true,cQ 62 Z2b [61],.bs 63 3 [(.t 62)] false,.ap 64 (.t 60) (.t 63) 3 24,mV 5 64])
 .skip))))
 (.reg [.bi 65 .add (.t 52) (kI 1),mV 52 65])))))))))))))))))))))
def Zu6(n8:Int)(x11:Run)(_:Nat)(v11:(List Seen))(k11:(List Seen)->Option ((List Seen)×State×Bool)):Option ((List Seen)×State×Bool) :=
 bif (x11.t==n8)then((appL 24 v11 [(Z4c x11)]).bind fun xs12=>k11 xs12)else(k11 v11)
def Zld(k7:(State×(List Seen))->Option ((List Seen)×State×Bool))(y9:State×Bool)(v11:(List Seen)):Option ((List Seen)×State×Bool) :=
 k7 (y9.1,v11)
def Z14(v7:State×(List Seen))(k7:(State×(List Seen))->Option ((List Seen)×State×Bool)):Option ((List Seen)×State×Bool) :=
 (ZN4 v7.1).bind fun n8=>bif (decide (n8<0))then(some (v7.2,v7.1,true))else((Z28 v7.1 n8).bind fun y9=>bif (!y9.2)then(some ([],(State.mk (Topo.mk [] []) [] (Vec.mk 0 0 0) 0 0 [] [] []),false))else(rgl (Zu6 n8) (Zld k7 y9) y9.1.runs 0 v7.2))
def ZD9(x4:Run)(_:Nat)(v4:(List Seen))(k4:(List Seen)->Option ((List Seen)×State×Bool)):Option ((List Seen)×State×Bool) :=
 (appL 24 v4 [(Z4c x4)]).bind fun xs5=>k4 xs5
def ZC9(s1:State)(v4:(List Seen)):Option ((List Seen)×State×Bool) :=
 (Zf2 s1).bind fun y6=>whl Z14 9223372036854775807 (y6,v4)
def Zfa(s1:State):Option ((List Seen)×State×Bool) :=
 (ZQ4 s1).bind fun b2=>bif (!b2)then(some ([],(State.mk (Topo.mk [] []) [] (Vec.mk 0 0 0) 0 0 [] [] []),false))else(rgl ZD9 (ZC9 s1) s1.runs 0 [])
theorem Zan{s1:State}{r:(List Seen)×State×Bool}(H:Zfa s1=some r):Snd Tryz.prog Zsg [Zn .rd s1] (.tup [.sref 0,Zn .nw r.2.1,.bool r.2.2]) [⟨3,r.1.map ZJ3,false⟩]:=by
 refine wS ZUm [.t 2,.c 3 11 true,.t 4] ?_
 unfold Zfa at H
 obtain⟨b2,h2,H⟩:=bB H
 refine wG [.c 14 (Zbc h2)] fun _=>?_
 refine Z3 H (fun H=>?_) fun H=>?_
 .refine wP ?_
  replace H:=sI H;subst H
  exact wN [(2,.d),(3,.d),(4,.d)] [(3,[.n 1,.n 4,.n 1,.d,.d,.d,.d,.d,.n 11,.n 13,.n 3])] [] [] [none] [⟨_,nw_I ([]:List Int)⟩,⟨_,Zx ([]:List Node)⟩,⟨_,ZI2 ([]:List Bool)⟩,⟨_,Zc3 ([]:List Job)⟩,⟨_,Zb3 ([]:List Run)⟩,⟨_,ZK6 ([]:List End)⟩]
 .refine wG [.u 20 (.ln _ _ fun _=>lm s1.runs (Za .rd))] fun q3=>?_
  refine wR (fun(i4:Nat) (v4:(List Seen))=>⟨[(1,.ptr 1 0),(3,.ptr 3 0),(5,.sref 17),(19,.sl .rd 13 (s1.runs.map (Za .rd))),(20,.int .i64 (s1.runs.length:Int)),(21,.int .i64 (i4:Int))],[],[(1,(Zn .rd s1).cells),(3,[.nl,.nl,.nl,.int .i64 0,.int .i64 0,.int .i64 0,.int .i64 0,.int .i64 0,.nl,.nl,.nl])],[(17,⟨3,v4.map ZJ3,false⟩)]⟩) H (fun i4 x4 v4 I m k4 hxv4 hiv4 H N22=>?_) (fun v4 I m H=>?_)
  .unfold ZD9 at H
   refine wP ?_
   refine wt (ltT hiv4) ?_
   obtain⟨xs5,h5,H⟩:=bB H
   refine wG [.u 23 (.ix _ _ _ fun _=>Z1 (Za .rd) (Z5 hxv4)),.c 27 (Zbg x4),.u 29 (.ap _ _ _ _ fun _=>Z6 ZJ3 h5),.w 30 (wi .i64 rfl hiv4 q3.1)] fun _=>?_
   exact wT (N22 _ H)
  .unfold ZC9 at H
   refine wP ?_
   refine wf (ltF s1.runs.length) ?_
   obtain⟨y6,h6,H⟩:=bB H
   refine wG [.c 32 (Z46 h6)] fun _=>?_
   refine wW (fun(v7:State×(List Seen))=>⟨[(1,.ptr 1 0),(3,.ptr 3 0),(5,.sref 17)],[],[(1,(Zn .nw v7.1).cells),(3,[.nl,.nl,.nl,.int .i64 0,.int .i64 0,.int .i64 0,.int .i64 0,.int .i64 0,.nl,.nl,.nl])],[(17,⟨3,v7.2.map ZJ3,false⟩)]⟩) H (fun v7 I m k7 H N69=>?_)
   unfold Z14 at H
   obtain⟨n8,h8,H⟩:=bB H
   refine wG [.u 34 (.call _ _ _ _ _ (AEs.of (xs:=[.agg [.sl .rd 1 (v7.1.topo.parents.map eI),.sl .rd 4 (v7.1.topo.nodes.map Zf),.sl .rd 1 (v7.1.up.map eBo),.int .i64 v7.1.lic.a,.int .i64 v7.1.lic.b,.int .i64 v7.1.lic.c,.int .i64 v7.1.depth,.int .i64 v7.1.now,.sl .rd 11 (v7.1.queue.map eJob),.sl .rd 13 (v7.1.runs.map (Za .nw)),.sl .rd 3 (v7.1.ends.map eEnd)]]) (by simp)) (fun _=>Z6c h8))] fun _=>?_
   refine Z3 H (fun H=>?_) fun H=>?_
   .refine wP ?_
    replace H:=sI H;subst H
    exact wN [(2,.d),(3,.d),(4,.d)] [(3,[])] [(17,some 17,0)] [] [some 17] [⟨_,nw_I v7.1.topo.parents⟩,⟨_,Zx v7.1.topo.nodes⟩,⟨_,ZI2 v7.1.up⟩,⟨_,Zc3 v7.1.queue⟩,⟨_,Zb3 v7.1.runs⟩,⟨_,ZK6 v7.1.ends⟩,⟨_,ZXh v7.2⟩]
   .obtain⟨y9,h9,H⟩:=bB H
    refine wG [.u 42 (.call _ _ _ _ _ (AEs.of (xs:=[.agg [.sl .rd 1 (v7.1.topo.parents.map eI),.sl .rd 4 (v7.1.topo.nodes.map Zf),.sl .rd 1 (v7.1.up.map eBo),.int .i64 v7.1.lic.a,.int .i64 v7.1.lic.b,.int .i64 v7.1.lic.c,.int .i64 v7.1.depth,.int .i64 v7.1.now,.sl .rd 11 (v7.1.queue.map eJob),.sl .rd 13 (v7.1.runs.map (Za .nw)),.sl .rd 3 (v7.1.ends.map eEnd)],.int .i64 n8]) (by simp)) (fun _=>Zdn h9))] fun _=>?_
    refine Z3 H (fun H=>?_) fun H=>?_
    .refine wP ?_
     replace H:=sI H;subst H
     exact wN [(2,.d),(3,.d),(4,.d)] [(3,[.n 1,.n 4,.n 1,.d,.d,.d,.d,.d,.n 11,.n 13,.n 3])] [] [] [none] [⟨_,nw_I ([]:List Int)⟩,⟨_,Zx ([]:List Node)⟩,⟨_,ZI2 ([]:List Bool)⟩,⟨_,Zc3 ([]:List Job)⟩,⟨_,Zb3 ([]:List Run)⟩,⟨_,ZK6 ([]:List End)⟩]
    .refine wG [.u 51 (.ln _ _ fun _=>lm y9.1.runs (Za .nw))] fun q10=>?_
     refine wR (fun(i11:Nat) (v11:(List Seen))=>⟨[(1,.ptr 1 0),(3,.ptr 3 0),(5,.sref 17),(8,.int .i64 n8),(50,.sl .nw 13 (y9.1.runs.map (Za .nw))),(51,.int .i64 (y9.1.runs.length:Int)),(52,.int .i64 (i11:Int))],[],[(1,(Zn .nw y9.1).cells),(3,[.nl,.nl,.nl,.int .i64 0,.int .i64 0,.int .i64 0,.int .i64 0,.int .i64 0,.nl,.nl,.nl])],[(17,⟨3,v11.map ZJ3,false⟩)]⟩) H (fun i11 x11 v11 I m k11 hxv11 hiv11 H N60=>?_) (fun v11 I m H=>?_)
     .unfold Zu6 at H
      refine wP ?_
      refine wt (ltT hiv11) ?_
      refine wG [.u 54 (.ix _ _ _ fun _=>Z1 (Za .nw) (Z5 hxv11))] fun _=>?_
      refine Z3 H (fun H=>?_) fun H=>?_
      .obtain⟨xs12,h12,H⟩:=bB H
       refine wG [.c 62 (Zbg x11),.u 64 (.ap _ _ _ _ fun _=>Z6 ZJ3 h12),.w 65 (wi .i64 rfl hiv11 q10.1)] fun _=>?_
       exact wT (N60 _ H)
      .refine wG [.w 65 (wi .i64 rfl hiv11 q10.1)] fun _=>?_
       exact wT (N60 _ H)
     .unfold Zld at H
      refine wP ?_
      refine wf (ltF y9.1.runs.length) ?_
      refine wP ?_
      exact wT (N69 _ H)
def Zbh:L :=
sR [.bx 1 (.t 0),.mv 2 (kI 0)]
 (sR [lD 10 1 11 true,cQ 11 Zsg [10],mV 9 11,eX 12 9 0,eX 13 9 1,eX 14 9 2,.al 4 [.nl,.nl,.nl,.int .i64 0,.int .i64 0,.int .i64 0,.int .i64 0,.int .i64 0,.nl,.nl,.nl],mV 3 12,.st (.t 4) (.t 13) 11,mV 5 14]
 (.seq (sR [mV 15 5,.un 16 (.t 15)]
 (.cond (.t 16) (.seq (rE 2 (kI (-1)))
 gR)
 .skip))
 (sR [fA 17 1 7,lD 18 17 1 false,mV 6 18]
 (.seq (sR [mV 19 3,.ln 20 (.t 19),.mv 21 (kI 0)]
 (.blk 0 (.loop (.gw (sR [bI 22 .lss 21 20]
 (.seq (.cond (.t 22) .skip
 (.exit 0))
 (.seq (.blk 1 (sR [iA 23 19 21 3,lD 24 23 3 true,.al 8 [.int .i64 0,.int .i64 0,.int .i64 0],.st (.t 8) (.t 24) 3]
 (.reg [mV 25 6,fA 26 8 2,lD 27 26 1 false,.mm 28 true (.t 25) (.t 27),mV 6 28])))
 (.reg [.bi 29 .add (.t 21) (kI 1),mV 21 29]))))))))
 (sR [mV 30 6,mV 2 30]
 gR)))))
def Zb6(x4:Seen)(_:Nat)(v4:Int)(k4:Int->Option Int):Option Int :=
 k4 (max v4 x4.fin)
def Zia(v4:Int):Option Int :=
 some v4
def Zs5(s1:State):Option Int :=
 (Zfa s1).bind fun y2=>bif (!y2.2.2)then(some (-1))else(rgl Zb6 Zia y2.1 0 s1.now)
theorem Znh{s1:State}{r:Int}(H:Zs5 s1=some r):Snd Tryz.prog ZIc [Zn .rd s1] (.int .i64 r) []:=by
 refine wS Zbh [.t 2] ?_
 unfold Zs5 at H
 obtain⟨y2,h2,H⟩:=bB H
 refine wG [.c 11 (Zan h2)] fun _=>?_
 refine Z3 H (fun H=>?_) fun H=>?_
 .refine wP ?_
  replace H:=sI H;subst H
  exact wE [(2,.d)]
 .refine wG [.u 20 (.ln _ _ fun _=>lm y2.1 ZJ3)] fun q3=>?_
  refine wR (fun(i4:Nat) (v4:Int)=>⟨[(6,.int .i64 v4),(19,.sl .nw 3 (y2.1.map ZJ3)),(20,.int .i64 (y2.1.length:Int)),(21,.int .i64 (i4:Int))],[],[],[]⟩) H (fun i4 x4 v4 I m k4 hxv4 hiv4 H N23=>?_) (fun v4 I m H=>?_)
  .unfold Zb6 at H
   refine wP ?_
   refine wt (ltT hiv4) ?_
   refine wG [.u 23 (.ix _ _ _ fun _=>Z1 ZJ3 (Z5 hxv4)),.w 29 (wi .i64 rfl hiv4 q3.1)] fun _=>?_
   exact wT (N23 _ H)
  .unfold Zia at H
   refine wP ?_
   refine wf (ltF y2.1.length) ?_
   refine wP ?_
   replace H:=sI H;subst H
   exact wE [(2,.d)]
theorem Z9l{α β γ:Type}{bd:α->Nat->β->(β->Option γ)->Option γ}{kk:β->Option γ}:∀(xs ys:List α) (i:Nat) (v:β),rgl bd kk (xs++ys) i v=rgl bd (fun v'=>rgl bd kk ys (i+xs.length) v') xs i v
 |[],ys,i,v=>by simp[rgl]
 |x::xs,ys,i,v=>by
  rw[List.cons_append,rgl,rgl]
  congr 1
  funext v'
  rw[Z9l xs ys (i+1) v',yT,show i+1+xs.length=i+(xs.length+1) by omega]
def ZJj(x:Run):Seen:=Seen.mk x.job.id x.t (endOf x)
def Z99(l:List Seen)(id:Int):Bool:=l.any fun x=>x.id==id
theorem Zil(l:List Seen)(id:Int):Zz4 l id=some (Z99 l id):=by
 unfold Zz4 Z99
 rw[ZU2 (r:=some true) (p:=fun x=>x.id==id) (fun x _ i k=>rfl)]
 unfold ZX6
 cases l.any fun x=>x.id==id<;>rfl
theorem Zks(k:List Seen->Option (List Seen))(l:List Seen)(xs:List Run):∀(i:Nat),(∀x∈xs,Z99 l x.job.id=true)->rgl Zs1 k xs i l=k l:=by
 induction xs with
 |nil=>intro i _;rfl
 |cons x xs ih =>
  intro i h
  rw[rgl,Zs1,Zil,bS,h x (yJ ..)]
  exact ih (i+1) fun y hy=>h y (yH _ hy)
theorem ZDa(l m:List Seen)(id:Int):Z99 (l++m) id=(Z99 l id||Z99 m id):=by simp[Z99]
theorem Zfp(k:List Seen->Option (List Seen))(xs:List Run):∀(i:Nat) (l:List Seen),(xs.map fun x=>x.job.id).Nodup->(∀x∈xs,Z99 l x.job.id=false)->l.length+xs.length<=4194304->rgl Zs1 k xs i l=k (l++xs.map ZJj):=by
 induction xs with
 |nil=>intro i l _ _ _;simp[rgl]
 |cons x xs ih =>
  intro i l hn h hl
  simp only[yT]at hl
  rw[List.map_cons,List.nodup_cons]at hn
  rw[rgl,Zs1,Zil,bS,h x (yJ ..)]
  simp only[Bool.not_false,yN]
  rw[Z4 (by simp;omega),bS,ih (i+1) _ hn.2 (fun y hy=>?_) (by simp;omega)]
  .simp[ZJj,endOf]
  .rw[ZDa,h y (yH _ hy)]
   have:y.job.id≠x.job.id:=fun e=>hn.1 (by rw[← e];exact List.mem_map_of_mem (f:=fun x:Run=>x.job.id) hy)
   simp[Z99]
   exact fun e=>this e.symm
theorem Z4q{s:State}(hs:SmallS s)(hn:0<=nextF s):∃r,ZN5 s (nextF s)=some r/\Z28 s (nextF s)=some r/\(r.2=true->StateP s/\∃new,StartP (endF s (nextF s)) r.1 new):=by
 obtain⟨r,h1,h2⟩:=ZTs hs (nextF s)
 refine⟨r,h1,h2,fun hr=>?_⟩
 unfold ZN5 at h1
 rw[(Z2g hs.jobs).1,bS]at h1
 cases hS:ZAb s with
 |false =>
  rw[hS]at h1
  cases h1
  cases hr
 |true =>
  have hP:=ZHh hS
  refine⟨hP,?_⟩
  rw[hS]at h1
  simp only[yL,Bool.false_or]at h1
  cases hc:((!Zo (nextF s))||decide (nextF s<s.now))with
  |true =>
   rw[hc]at h1
   cases h1
   cases hr
  |false =>
   rw[hc,yM,ZKb hs,bS,ZI6,bS]at h1
   rw[show(9223372036854775807:Nat)=9223372036854775805+1+1 from rfl,whl,ZKc _ hs]at h1
   simp only[hn,Int.le_refl,decide_true,Bool.and_self,yN]at h1
   by_cases h3:300<((endF s (nextF s)).ends.length:Int)
   .rw[decide_eq_true h3,yN]at h1
    cases h1
    cases hr
   .rw[decide_eq_false h3,yM]at h1
    have hsm:=ZVf hs (nextF s) (by omega)
    obtain⟨s',new,e1,_,hT⟩:=Zcp hsm
    rw[e1,bS,whl,ZKc _ (hT.small hsm)]at h1
    have hlt:¬ (0<=nextF s'/\nextF s'<=nextF s):=by
     rintro⟨q1,q2⟩
     obtain⟨x,hx,he⟩:=Z6a q1
     rw[hT.runs]at hx
     rcases List.mem_append.1 hx with hx|hx
     .have hx2:=List.mem_filter.1 hx
      have hmin:=(Zcr s.runs (-1) (fun y hy=>by
       obtain⟨_,_,_,_,hy5⟩:=hP.runs.job y hy
       unfold ZLj at hy5
       simp only[yD,yO]at hy5
       have:=ZE1.1 hy5.1.1.1
       unfold endOf;rw[ZV1 (by omega)]
       have:=ZE1.1 hP.now
       omega)).2 x hx2.1
      have hne:endOf x≠nextF s:=by simpa using hx2.2
      unfold nextF at *
      omega
     .have hq:x.job∈s.queue:=hT.perm.mem_iff.1 (List.mem_append_right _ (List.mem_map_of_mem hx))
      have hj:=ZO2.1 ((Z52 hP.queue).2.1 x.job (List.mem_append_left _ hq))
      have ht:x.t=nextF s:=(hT.fresh x hx).1
      have htime:time (nextF s)=true:=by
       simp only[Bool.or_eq_false_iff,Bool.not_eq_false']at hc
       exact hc.1
      have:=ZE1.1 htime
      unfold endOf at he
      rw[ZV1 (by omega)]at he
      omega
    have hcc:(decide (0<=nextF s')&&decide (nextF s'<=nextF s))=false:=by
     rw[Bool.and_eq_false_iff,decide_eq_false_iff_not,decide_eq_false_iff_not]
     omega
    rw[hcc,yM]at h1
    cases h1
    refine⟨new,?_⟩
    have:atT s' (nextF s)=s':=by
     have:=hT.now
     show State.mk s'.topo s'.up s'.lic s'.depth (nextF s) s'.queue s'.runs s'.ends=s'
     rw[show nextF s=s'.now from this.symm]
    rw[this]
    exact hT
structure AheadP(s:State)(l:List Seen):Prop where
 small:SmallS s
 sees:∀x∈s.runs,Z99 l x.job.id=true
 free:∀j∈s.queue,Z99 l j.id=false
 uniq:(s.queue.map Job.id).Nodup
 len:l.length+s.queue.length<=2097152
theorem ZWc(xs:List Run)(id:Int):Z99 (xs.map ZJj) id=true↔id∈xs.map fun x=>x.job.id:=by
 simp[Z99,ZJj]
theorem ZZo{s:State}{l:List Seen}(h:AheadP s l){s':State}{new:List Run}(hP:StateP s)(hn:0<=nextF s)(hT:StartP (endF s (nextF s)) s' new) :
  ZP3 l s'=some (l++new.map ZJj)/\(∀k,rgl (Zu6 (nextF s)) k s'.runs 0 l=k (l++new.map ZJj))/\AheadP s' (l++new.map ZJj):=by
 have hp:=hT.perm
 have hq:(s.queue.map Job.id).Nodup:=h.uniq
 have hall:((s'.queue++new.map Run.job).map Job.id).Nodup:=(hp.map _).nodup_iff.2 hq
 rw[List.map_append,List.map_map,List.nodup_append]at hall
 have hlen:=hp.length_eq
 simp only[yU,List.length_map,endF]at hlen
 have hh:=h.len
 have hj:=h.small.jobs
 have kl:(keepF (nextF s) s.runs).length<=s.runs.length:=List.length_filter_le ..
 have hin:∀x∈new,x.job∈s.queue:=fun x hx=>hp.mem_iff.1 (List.mem_append_right _ (List.mem_map_of_mem hx))
 have hqin:∀j∈s'.queue,j∈s.queue:=fun j hj=>hp.mem_iff.1 (List.mem_append_left _ hj)
 have hkeep:∀x∈keepF (nextF s) s.runs,Z99 l x.job.id=true:=fun x hx=>h.sees x (List.mem_filter.1 hx).1
 have hsm:SmallS s':=by
  refine hT.small (ZVf h.small _ ?_)
  have e1:(doneF (nextF s) s.runs).length<=s.runs.length:=by unfold doneF;rw[List.length_map];exact List.length_filter_le ..
  have e2:=hP.ends
  have e3:=(Z52 hP.queue).1
  unfold allJobs at e3
  simp only[yU,List.length_map]at e3
  simp only[endF,yU]
  omega
 refine⟨?_,fun k=>?_,hsm,fun x hx=>?_,fun j hj=>?_,hall.1,by simp;omega⟩
 .unfold ZP3
  rw[hT.runs,Z9l,show(endF s (nextF s)).runs=keepF (nextF s) s.runs from rfl,Zks _ l _ 0 hkeep,Zfp _ new _ l hall.2.1 (fun x hx=>h.free _ (hin x hx)) (by omega)]
  rfl
 .rw[Z71 (bd:=Zu6 (nextF s)) (bs:=24) (p:=fun x=>x.t==nextF s) (f:=ZJj) (fun x _ i b k=>rfl) (by rw[hT.runs,yU,show(endF s (nextF s)).runs=keepF (nextF s) s.runs from rfl];omega)]
  rw[hT.runs,List.filter_append]
  have f1:((endF s (nextF s)).runs.filter fun x=>x.t==nextF s)=[]:=by
   refine List.filter_eq_nil_iff.2 fun x hx=>?_
   have hx1:x∈s.runs:=(List.mem_filter.1 hx).1
   obtain⟨y,hy,he⟩:=Z6a hn
   obtain⟨_,_,_,_,hx5⟩:=hP.runs.job x hx1
   obtain⟨_,_,_,_,hy5⟩:=hP.runs.job y hy
   unfold ZLj at hx5 hy5
   simp only[yD,yO]at hx5 hy5
   have b1:=ZE1.1 hx5.1.1.1
   have b2:=ZE1.1 hy5.1.1.1
   have b3:=ZE1.1 hP.now
   unfold endOf at he
   rw[ZV1 (by omega)]at he
   simp
   omega
  have f2:(new.filter fun x=>x.t==nextF s)=new:=List.filter_eq_self.2 fun x hx=>by
   have:x.t=nextF s:=(hT.fresh x hx).1
   simpa using this
  rw[f1,f2,List.nil_append]
 .rw[hT.runs]at hx
  rw[ZDa]
  rcases List.mem_append.1 hx with hx|hx
  .rw[hkeep x hx];rfl
  .rw[(ZWc new x.job.id).2 (List.mem_map_of_mem (f:=fun x:Run=>x.job.id) hx),Bool.or_true]
 .rw[ZDa,h.free j (hqin j hj),Bool.false_or]
  rw[← Bool.not_eq_true]
  intro e
  rw[ZWc]at e
  exact hall.2.2 j.id (List.mem_map_of_mem hj) j.id e rfl
theorem Z0p:∀(m:Nat) (s:State) (l:List Seen) (f1 f2:Nat),AheadP s l->s.queue.length+s.runs.length<=m->m<f1->m<f2->∃r,whl ZQ3 f1 (s,l)=some r/\whl Z14 f2 (s,l)=some r:=by
 intro m
 induction m with
 |zero =>
  intro s l f1 f2 h hm h1 h2
  obtain⟨f1,rfl⟩:∃f,f1=f+1:=⟨f1-1,by omega⟩
  obtain⟨f2,rfl⟩:∃f,f2=f+1:=⟨f2-1,by omega⟩
  rw[whl,whl,ZQ3,Z14]
  simp only[ZI6,Z5c,bS]
  by_cases hn:0<=nextF s
  .obtain⟨x,hx,_⟩:=Z6a hn
   have:=List.length_pos_of_mem hx
   omega
  .rw[decide_eq_false hn,decide_eq_true (show nextF s<0 by omega)]
   exact⟨_,rfl,rfl⟩
 |succ m ih =>
  intro s l f1 f2 h hm h1 h2
  obtain⟨f1,rfl⟩:∃f,f1=f+1:=⟨f1-1,by omega⟩
  obtain⟨f2,rfl⟩:∃f,f2=f+1:=⟨f2-1,by omega⟩
  rw[whl,whl,ZQ3,Z14]
  simp only[ZI6,Z5c,bS]
  by_cases hn:0<=nextF s
  .rw[decide_eq_true hn,decide_eq_false (show ¬ nextF s<0 by omega)]
   obtain⟨r,e1,e2,e3⟩:=Z4q h.small hn
   simp only[e1,e2,bS,yN,yM]
   cases hr:r.2 with
   |false=>exact⟨_,rfl,rfl⟩
   |true =>
    obtain⟨hP,new,hT⟩:=e3 hr
    obtain⟨a1,a2,a3⟩:=ZZo h hP hn hT
    simp only[yL,yM,a1,a2,bS]
    have hl:=hT.len
    obtain⟨x,hx,he⟩:=Z6a hn
    have hk:=ZHp hx he
    have:(endF s (nextF s)).queue.length+(endF s (nextF s)).runs.length=s.queue.length+(keepF (nextF s) s.runs).length:=rfl
    exact ih r.1 _ f1 f2 a3 (by omega) (by omega) (by omega)
  .rw[decide_eq_false hn,decide_eq_true (show nextF s<0 by omega)]
   exact⟨_,rfl,rfl⟩
theorem ZSs{s:State}(hj:s.queue.length+s.runs.length<=1048576):∃r,ZY9 s=some r/\Zfa s=some r:=by
 obtain⟨h1,h2⟩:=Z2g hj
 unfold ZY9 Zfa
 rw[h1,h2,bS,bS]
 cases hS:ZAb s with
 |false=>exact⟨_,rfl,rfl⟩
 |true =>
  have hP:=ZHh hS
  have hs:=hP.small
  obtain⟨q1,q2,q3⟩:=Z52 hP.queue
  unfold allJobs at q1 q3
  rw[List.map_append,List.map_map,List.nodup_append]at q3
  simp only[yU,List.length_map]at q1
  simp only[yL,yM,ZKb hs,bS]
  have e1:ZO3 [] s=some (s.runs.map ZJj):=by
   unfold ZO3
   have:=Zfp ZW4 s.runs 0 [] q3.2.1 (fun x _=>rfl) (by simp;omega)
   exact this
  rw[e1,bS]
  rw[Z71 (bd:=ZD9) (bs:=24) (p:=fun _=>true) (f:=ZJj) (fun x _ i b k=>rfl) (by simp;omega)]
  unfold ZC9
  rw[Z7c hs,bS]
  have e2:s.runs.filter (fun _=>true)=s.runs:=List.filter_eq_self.2 fun _ _=>rfl
  rw[e2,List.nil_append]
  refine Z0p (s.queue.length+s.runs.length) s _ _ _ ⟨hs,fun x hx=>?_,fun j hj=>?_,q3.1,by simp;omega⟩ (yV _) (by omega) (by omega)
  .exact(ZWc s.runs x.job.id).2 (List.mem_map_of_mem (f:=fun x:Run=>x.job.id) hx)
  .rw[← Bool.not_eq_true]
   intro e
   rw[ZWc]at e
   exact q3.2.2 j.id (List.mem_map_of_mem hj) j.id e rfl
theorem Z1p{s:State}(hj:s.queue.length+s.runs.length<=1048576):∃r,Z75 s=some r/\Zs5 s=some r:=by
 obtain⟨r,h1,h2⟩:=ZSs hj
 unfold Z75 Zs5 ZLc
 rw[h1,h2,bS,bS,bS]
 cases r.2.2 with
 |false=>exact⟨_,rfl,rfl⟩
 |true =>
  simp only[yL,yM]
  refine⟨r.1.foldl (fun v x=>max v x.fin) s.now,?_,?_⟩
  .rw[Za3 (f:=fun v x=>max v x.fin) (fun x _ i b k=>by
    unfold ZO5
    by_cases h:b<x.fin
    .rw[decide_eq_true h,yN,Int.max_eq_right (by omega)]
    .rw[decide_eq_false h,yM,Int.max_eq_left (by omega)])]
   rfl
  .rw[Za3 (bd:=Zb6) (f:=fun(v:Int) (x:Seen)=>max v x.fin) (fun x _ i b k=>rfl)]
   rfl
def ZEm:L :=
sR [.bx 1 (.t 0),.al 2 [.int .i64 0,.int .i64 0,.int .i64 0]]
 (sR [.al 3 [.int .i64 0,.int .i64 0,.int .i64 0]]
 (sR [fA 4 1 0,lD 5 4 1 false,fA 6 3 0,.st (.t 6) (.t 5) 1]
 (sR [fA 7 1 1,lD 8 7 1 false,fA 9 3 1,.st (.t 9) (.t 8) 1]
 (sR [fA 10 1 2,lD 11 10 1 false,fA 12 3 2,.st (.t 12) (.t 11) 1]
 (sR [lD 13 3 3 true,.st (.t 2) (.t 13) 3]
 gR)))))
def Z19(a1:Vec):Option Vec :=
 some a1
theorem Z7i{a1:Vec}{r:Vec}(H:Z19 a1=some r):Snd Tryz.prog ZS4 [eVec a1] (eVec r) []:=by
 refine wS ZEm [.c 2 3 true] ?_
 unfold Z19 at H
 refine wP ?_
 replace H:=sI H;subst H
 exact wN [(2,.d)] [(2,[])] [] [] [] []
def ZS2(a1:Vec):Vec :=
 a1
theorem ZZn(a1:Vec):Z19 a1=some (ZS2 a1):=by
 unfold Z19 ZS2
 first|rfl|simp only[Zl]
theorem Zz7(a1:Vec):Snd Tryz.prog ZS4 [eVec a1] (eVec (ZS2 a1)) []:=Z7i (ZZn a1)
def ZJm:L :=
sR [.bx 2 (.t 0),.bx 3 (.t 1),.mv 4 (cB false)]
 (.seq (sR [fA 5 2 0,lD 6 5 1 false,fA 7 3 0,lD 8 7 1 false,bI 9 .neq 6 8]
 (.cond (.t 9) (.seq (rE 4 (cB false))
 gR)
 .skip))
 (.seq (sR [fA 10 2 1,lD 11 10 1 false,fA 12 3 1,lD 13 12 1 false,bI 14 .neq 11 13]
 (.cond (.t 14) (.seq (rE 4 (cB false))
 gR)
 .skip))
 (.seq (sR [fA 15 2 2,lD 16 15 1 false,fA 17 3 2,lD 18 17 1 false,bI 19 .neq 16 18]
 (.cond (.t 19) (.seq (rE 4 (cB false))
 gR)
 .skip))
 (.seq (rE 4 (cB true))
 gR))))
def Z59(a1:Vec)(b2:Vec):Option Bool :=
 bif (a1.a != b2.a)then(some false)else(bif (a1.b != b2.b)then(some false)else(bif (a1.c != b2.c)then(some false)else(some true)))
theorem Zki{a1:Vec}{b2:Vec}{r:Bool}(H:Z59 a1 b2=some r):Snd Tryz.prog ZT4 [eVec a1,eVec b2] (.bool r) []:=by
 refine wS ZJm [.t 4] ?_
 unfold Z59 at H
 refine wP ?_
 refine Z3 H (fun H=>?_) fun H=>?_
 .refine wP ?_
  replace H:=sI H;subst H
  exact wE [(4,.d)]
 .refine wP ?_
  refine Z3 H (fun H=>?_) fun H=>?_
  .refine wP ?_
   replace H:=sI H;subst H
   exact wE [(4,.d)]
  .refine wP ?_
   refine Z3 H (fun H=>?_) fun H=>?_
   .refine wP ?_
    replace H:=sI H;subst H
    exact wE [(4,.d)]
   .refine wP ?_
    replace H:=sI H;subst H
    exact wE [(4,.d)]
def ZZ1(a1:Vec)(b2:Vec):Bool :=
 bif (a1.a != b2.a)then(false)else(bif (a1.b != b2.b)then(false)else(bif (a1.c != b2.c)then(false)else(true)))
theorem Z3o(a1:Vec)(b2:Vec):Z59 a1 b2=some (ZZ1 a1 b2):=by
 unfold Z59 ZZ1
 first|rfl|simp only[Zl]
theorem ZF7(a1:Vec)(b2:Vec):Snd Tryz.prog ZT4 [eVec a1,eVec b2] (.bool (ZZ1 a1 b2)) []:=Zki (Z3o a1 b2)
def Zrk:L :=
sR [.mv 2 (.c (.nl))]
 (sR [mV 5 0,.ln 6 (.t 5),.ms 7 1 8 [.int .i64 0] (.t 6),mV 3 7]
 (.seq (.seq (rE 4 (kI 0))
 (.blk 0 (.loop (.gw (.seq (sR [mV 8 4,mV 9 0,.ln 10 (.t 9),bI 11 .lss 8 10]
 (.cond (.t 11) .skip
 (.exit 0)))
 (.seq (.blk 1 (.reg [mV 14 3,mV 15 4,mV 16 0,mV 17 4,iA 18 16 17 1,lD 19 18 1 false,iA 20 14 15 1,.st (.t 20) (.t 19) 1]))
 (.reg [mV 12 4,.bi 13 .add (.t 12) (kI 1),mV 4 13])))))))
 (sR [mV 21 3,mV 2 21]
 gR)))
def Ze5(a1:List Int)(v4:Int×(List Int))(k4:(Int×(List Int))->Option (List Int)):Option (List Int) :=
 bif (decide (v4.1<(a1.length:Int)))then((idx a1 v4.1).bind fun e6=>(idx v4.2 v4.1).bind fun _=>k4 ((w64 (v4.1+1)),(v4.2.set v4.1.toNat e6)))else(some v4.2)
def ZS5(a1:List Int):Option (List Int) :=
 (mkL 8 (a1.length:Int) 0).bind fun xs2=>whl (Ze5 a1) 9223372036854775807 (0,xs2)
theorem Zed{a1:List Int}{r:(List Int)}(H:ZS5 a1=some r):Snd Tryz.prog ZWa [.sl .rd 1 (a1.map eI)] (.sl .nw 1 (r.map eI)) []:=by
 refine wS Zrk [.t 2] ?_
 unfold ZS5 at H
 obtain⟨xs2,h2,H⟩:=bB H
 refine wG [.u 6 (.ln _ _ fun _=>lm a1 eI),.u 7 (.ms _ _ _ _ fun _=>ZKd eI h2)] fun q3=>?_
 refine wW (fun(v4:Int×(List Int))=>⟨[(0,.sl .rd 1 (a1.map eI)),(3,.sref 7),(4,.int .i64 v4.1)],[],[],[(7,⟨1,v4.2.map eI,false⟩)]⟩) H (fun v4 I m k4 H N13=>?_)
 unfold Ze5 at H
 refine wG [.u 10 (.ln _ _ fun _=>lm a1 eI)] fun q5=>?_
 refine Z3 H (fun H=>?_) fun H=>?_
 .obtain⟨e6,h6,H⟩:=bB H
  obtain⟨e7,h7,H⟩:=bB H
  refine wG [.u 18 (.ix _ _ _ fun _=>Z1 eI h6),.u 20 (.ix _ _ _ fun _=>Z1 eI h7),.u 1000000 (.sto _ _ _ (eI e6) _ (fun _=>gm eI (Zk1 h7)) (fun _=>Zra ..))] fun _=>?_
  exact wT (N13 _ H)
 .refine wP ?_
  replace H:=sI H;subst H
  exact wN [(2,.f)] [] [] [7] [] [⟨_,nw_I v4.2⟩]
def Zpk:L :=
sR [.bx 1 (.t 0),.al 2 [.int .i64 0,.int .i64 0,.int .i64 0,.int .i64 0]]
 (sR [.al 3 [.int .i64 0,.int .i64 0,.int .i64 0,.int .i64 0]]
 (sR [fA 4 1 0,lD 5 4 1 false,fA 6 3 0,.st (.t 6) (.t 5) 1]
 (sR [fA 7 1 1,lD 8 7 3 true,cQ 9 ZS4 [8],fA 10 3 1,.st (.t 10) (.t 9) 3]
 (sR [lD 11 3 4 true,.st (.t 2) (.t 11) 4]
 gR))))
def ZA7(a1:Node):Option Node :=
 some (Node.mk a1.leaf (ZS2 a1.cap))
theorem ZKg{a1:Node}{r:Node}(H:ZA7 a1=some r):Snd Tryz.prog ZVa [Zf a1] (Zf r) []:=by
 refine wS Zpk [.c 2 4 true] ?_
 unfold ZA7 at H
 refine wG [.c 9 (Zz7 a1.cap)] fun _=>?_
 replace H:=sI H;subst H
 exact wN [(2,.d)] [(2,[])] [] [] [] []
def Zt4(a1:Node):Node :=
 (Node.mk a1.leaf (ZS2 a1.cap))
theorem Zim(a1:Node):ZA7 a1=some (Zt4 a1):=by
 unfold ZA7 Zt4
 first|rfl|simp only[Zl]
theorem ZRj(a1:Node):Snd Tryz.prog ZVa [Zf a1] (Zf (Zt4 a1)) []:=ZKg (Zim a1)
def ZOi:L :=
sR [.mv 2 (.c (.nl))]
 (sR [mV 5 0,.ln 6 (.t 5),.ms 7 4 32 [.int .i64 0,.int .i64 0,.int .i64 0,.int .i64 0] (.t 6),mV 3 7]
 (.seq (.seq (rE 4 (kI 0))
 (.blk 0 (.loop (.gw (.seq (sR [mV 8 4,mV 9 0,.ln 10 (.t 9),bI 11 .lss 8 10]
 (.cond (.t 11) .skip
 (.exit 0)))
 (.seq (.blk 1 (.reg [mV 14 3,mV 15 4,mV 16 0,mV 17 4,iA 18 16 17 4,lD 19 18 4 true,cQ 20 ZVa [19],iA 21 14 15 4,.st (.t 21) (.t 20) 4]))
 (.reg [mV 12 4,.bi 13 .add (.t 12) (kI 1),mV 4 13])))))))
 (sR [mV 22 3,mV 2 22]
 gR)))
def Zi4(a1:List Node)(v4:Int×(List Node))(k4:(Int×(List Node))->Option (List Node)):Option (List Node) :=
 bif (decide (v4.1<(a1.length:Int)))then((idx a1 v4.1).bind fun e6=>(idx v4.2 v4.1).bind fun _=>k4 ((w64 (v4.1+1)),(v4.2.set v4.1.toNat (Node.mk ((Zt4 e6).leaf) ((Zt4 e6).cap)))))else(some v4.2)
def ZM6(a1:List Node):Option (List Node) :=
 (mkL 32 (a1.length:Int) (Node.mk 0 (Vec.mk 0 0 0))).bind fun xs2=>whl (Zi4 a1) 9223372036854775807 (0,xs2)
theorem Z9i{a1:List Node}{r:(List Node)}(H:ZM6 a1=some r):Snd Tryz.prog Ztd [.sl .rd 4 (a1.map Zf)] (.sl .nw 4 (r.map Zf)) []:=by
 refine wS ZOi [.t 2] ?_
 unfold ZM6 at H
 obtain⟨xs2,h2,H⟩:=bB H
 refine wG [.u 6 (.ln _ _ fun _=>lm a1 Zf),.u 7 (.ms _ _ _ _ fun _=>ZKd Zf h2)] fun q3=>?_
 refine wW (fun(v4:Int×(List Node))=>⟨[(0,.sl .rd 4 (a1.map Zf)),(3,.sref 7),(4,.int .i64 v4.1)],[],[],[(7,⟨4,v4.2.map Zf,false⟩)]⟩) H (fun v4 I m k4 H N13=>?_)
 unfold Zi4 at H
 refine wG [.u 10 (.ln _ _ fun _=>lm a1 Zf)] fun q5=>?_
 refine Z3 H (fun H=>?_) fun H=>?_
 .obtain⟨e6,h6,H⟩:=bB H
  obtain⟨e7,h7,H⟩:=bB H
  refine wG [.u 18 (.ix _ _ _ fun _=>Z1 Zf h6),.c 20 (ZRj e6),.u 21 (.ix _ _ _ fun _=>Z1 Zf h7),.u 1000000 (.sto _ _ _ (Zf (Node.mk ((Zt4 e6).leaf) ((Zt4 e6).cap))) _ (fun _=>gm Zf (Zk1 h7)) (fun _=>Zra ..))] fun _=>?_
  exact wT (N13 _ H)
 .refine wP ?_
  replace H:=sI H;subst H
  exact wN [(2,.f)] [] [] [7] [] [⟨_,Zx v4.2⟩]
def Znk:L :=
sR [.bx 1 (.t 0),.al 2 [.nl,.nl]]
 (sR [.al 3 [.nl,.nl]]
 (sR [fA 4 1 0,lD 5 4 1 false,cQ 6 ZWa [5],fA 7 3 0,.st (.t 7) (.t 6) 1]
 (sR [fA 8 1 1,lD 9 8 1 false,cQ 10 Ztd [9],fA 11 3 1,.st (.t 11) (.t 10) 1]
 (sR [lD 12 3 2 true,.st (.t 2) (.t 12) 2]
 gR))))
def Zl8(a1:Topo):Option Topo :=
 (ZS5 a1.parents).bind fun y2=>(ZM6 a1.nodes).bind fun y3=>some (Topo.mk y2 y3)
theorem ZNj{a1:Topo}{r:Topo}(H:Zl8 a1=some r):Snd Tryz.prog ZXe [Zy .rd a1] (Zy .nw r) []:=by
 refine wS Znk [.c 2 2 true] ?_
 unfold Zl8 at H
 obtain⟨y2,h2,H⟩:=bB H
 obtain⟨y3,h3,H⟩:=bB H
 refine wG [.c 6 (Zed h2),.c 10 (Z9i h3)] fun _=>?_
 replace H:=sI H;subst H
 exact wN [(2,.d)] [(2,[])] [] [] [] [⟨_,nw_I y2⟩,⟨_,Zx y3⟩]
def Zwk:L :=
.seq (rE 4 (kI 0))
 (sR [mV 5 1,mV 6 0,.ln 7 (.t 6),bI 8 .sub 5 7,mV 1 8]
 (.seq (sR [mV 9 1,.bi 10 .lss (.t 9) (kI 0)]
 (.cond (.t 10) (.seq (rE 4 (kI (-1)))
 gR)
 .skip))
 (sR [mV 11 1,mV 4 11]
 gR)))
def ZD7(a1:List Int)(left2:Int):Option Int :=
 bif (decide ((w64 (left2-(a1.length:Int)))<0))then(some (-1))else(some (w64 (left2-(a1.length:Int))))
theorem ZNg{a1:List Int}{left2:Int}{r:Int}(H:ZD7 a1 left2=some r):Snd Tryz.prog ZR7 [.sl .rd 1 (a1.map eI),.int .i64 left2] (.int .i64 r) []:=by
 refine wS Zwk [.t 4] ?_
 unfold ZD7 at H
 refine wG [.u 7 (.ln _ _ fun _=>lm a1 eI)] fun q3=>?_
 refine Z3 H (fun H=>?_) fun H=>?_
 .refine wP ?_
  replace H:=sI H;subst H
  exact wE [(4,.d)]
 .refine wP ?_
  replace H:=sI H;subst H
  exact wE [(4,.d)]
def ZU(a1:List Int)(left2:Int):Int :=
 bif (decide ((w64 (left2-(a1.length:Int)))<0))then((-1))else((w64 (left2-(a1.length:Int))))
theorem Znm(a1:List Int)(left2:Int):ZD7 a1 left2=some (ZU a1 left2):=by
 unfold ZD7 ZU
 first|rfl|simp only[Zl]
theorem Zgd(a1:List Int)(left2:Int):Snd Tryz.prog ZR7 [.sl .rd 1 (a1.map eI),.int .i64 left2] (.int .i64 (ZU a1 left2)) []:=ZNg (Znm a1 left2)
def ZRi:L :=
.seq (rE 4 (kI 0))
 (sR [mV 5 1,mV 6 0,.ln 7 (.t 6),bI 8 .sub 5 7,mV 1 8]
 (.seq (sR [mV 9 1,.bi 10 .lss (.t 9) (kI 0)]
 (.cond (.t 10) (.seq (rE 4 (kI (-1)))
 gR)
 .skip))
 (sR [mV 11 1,mV 4 11]
 gR)))
def Zr6(a1:List Node)(left2:Int):Option Int :=
 bif (decide ((w64 (left2-(a1.length:Int)))<0))then(some (-1))else(some (w64 (left2-(a1.length:Int))))
theorem Zuf{a1:List Node}{left2:Int}{r:Int}(H:Zr6 a1 left2=some r):Snd Tryz.prog ZS9 [.sl .rd 4 (a1.map Zf),.int .i64 left2] (.int .i64 r) []:=by
 refine wS ZRi [.t 4] ?_
 unfold Zr6 at H
 refine wG [.u 7 (.ln _ _ fun _=>lm a1 Zf)] fun q3=>?_
 refine Z3 H (fun H=>?_) fun H=>?_
 .refine wP ?_
  replace H:=sI H;subst H
  exact wE [(4,.d)]
 .refine wP ?_
  replace H:=sI H;subst H
  exact wE [(4,.d)]
def ZC2(a1:List Node)(left2:Int):Int :=
 bif (decide ((w64 (left2-(a1.length:Int)))<0))then((-1))else((w64 (left2-(a1.length:Int))))
theorem ZZj(a1:List Node)(left2:Int):Zr6 a1 left2=some (ZC2 a1 left2):=by
 unfold Zr6 ZC2
 first|rfl|simp only[Zl]
theorem Zii(a1:List Node)(left2:Int):Snd Tryz.prog ZS9 [.sl .rd 4 (a1.map Zf),.int .i64 left2] (.int .i64 (ZC2 a1 left2)) []:=Zuf (ZZj a1 left2)
def Ztk:L :=
sR [.bx 2 (.t 0),.mv 4 (kI 0)]
 (sR [fA 5 2 0,lD 6 5 1 false,mV 7 1,cQ 8 ZR7 [6,7],mV 1 8]
 (.seq (sR [mV 9 1,.bi 10 .lss (.t 9) (kI 0)]
 (.cond (.t 10) (.seq (rE 4 (kI (-1)))
 gR)
 .skip))
 (sR [fA 11 2 1,lD 12 11 1 false,mV 13 1,cQ 14 ZS9 [12,13],mV 1 14]
 (.seq (sR [mV 15 1,.bi 16 .lss (.t 15) (kI 0)]
 (.cond (.t 16) (.seq (rE 4 (kI (-1)))
 gR)
 .skip))
 (sR [mV 17 1,mV 4 17]
 gR)))))
def ZB7(a1:Topo)(left2:Int):Option Int :=
 bif (decide ((ZU a1.parents left2)<0))then(some (-1))else(bif (decide ((ZC2 a1.nodes (ZU a1.parents left2))<0))then(some (-1))else(some (ZC2 a1.nodes (ZU a1.parents left2))))
theorem ZLg{a1:Topo}{left2:Int}{r:Int}(H:ZB7 a1 left2=some r):Snd Tryz.prog ZXa [Zy .rd a1,.int .i64 left2] (.int .i64 r) []:=by
 refine wS Ztk [.t 4] ?_
 unfold ZB7 at H
 refine wG [.c 8 (Zgd a1.parents left2)] fun _=>?_
 refine Z3 H (fun H=>?_) fun H=>?_
 .refine wP ?_
  replace H:=sI H;subst H
  exact wE [(4,.d)]
 .refine wG [.u 14 (.call _ _ _ _ _ (AEs.refl _) (fun _=>Zii a1.nodes (ZU a1.parents left2)))] fun _=>?_
  refine Z3 H (fun H=>?_) fun H=>?_
  .refine wP ?_
   replace H:=sI H;subst H
   exact wE [(4,.d)]
  .refine wP ?_
   replace H:=sI H;subst H
   exact wE [(4,.d)]
def Zc1(a1:Topo)(left2:Int):Int :=
 bif (decide ((ZU a1.parents left2)<0))then((-1))else(bif (decide ((ZC2 a1.nodes (ZU a1.parents left2))<0))then((-1))else((ZC2 a1.nodes (ZU a1.parents left2))))
theorem Zkm(a1:Topo)(left2:Int):ZB7 a1 left2=some (Zc1 a1 left2):=by
 unfold ZB7 Zc1
 first|rfl|simp only[Zl]
theorem ZWj(a1:Topo)(left2:Int):Snd Tryz.prog ZXa [Zy .rd a1,.int .i64 left2] (.int .i64 (Zc1 a1 left2)) []:=ZLg (Zkm a1 left2)
def ZCk:L :=
.seq (rE 4 (cB false))
 (.seq (sR [mV 6 0,.ln 7 (.t 6),mV 8 1,.ln 9 (.t 8),bI 10 .neq 7 9]
 (.cond (.t 10) (.seq (rE 4 (cB false))
 gR)
 .skip))
 (.seq (.seq (rE 5 (kI 0))
 (.blk 0 (.loop (.gw (.seq (sR [mV 11 5,mV 12 0,.ln 13 (.t 12),bI 14 .lss 11 13]
 (.cond (.t 14) .skip
 (.exit 0)))
 (.seq (.blk 1 (.seq (.rq 9 [mV 17 0,mV 18 5,iA 19 17 18 1,lD 20 19 1 false,mV 21 1,mV 22 5,iA 23 21 22 1,lD 24 23 1 false,bI 25 .neq 20 24])
 (.cond (.t 25) (.seq (rE 4 (cB false))
 gR)
 .skip)))
 (.reg [mV 15 5,.bi 16 .add (.t 15) (kI 1),mV 5 16])))))))
 (.seq (rE 4 (cB true))
 gR)))
def Zi5(a1:List Int)(b2:List Int)(v4:Int)(k4:Int->Option Bool):Option Bool :=
 bif (decide (v4<(a1.length:Int)))then((idx a1 v4).bind fun e6=>(idx b2 v4).bind fun e7=>bif (e6 != e7)then(some false)else(k4 (w64 (v4+1))))else(some true)
def ZY5(a1:List Int)(b2:List Int):Option Bool :=
 bif ((a1.length:Int)!=(b2.length:Int))then(some false)else(whl (Zi5 a1 b2) 9223372036854775807 0)
theorem Zhd{a1:List Int}{b2:List Int}{r:Bool}(H:ZY5 a1 b2=some r):Snd Tryz.prog Z1b [.sl .rd 1 (a1.map eI),.sl .rd 1 (b2.map eI)] (.bool r) []:=by
 refine wS ZCk [.t 4] ?_
 unfold ZY5 at H
 refine wG [.u 7 (.ln _ _ fun _=>lm a1 eI),.u 9 (.ln _ _ fun _=>lm b2 eI)] fun q3=>?_
 refine Z3 H (fun H=>?_) fun H=>?_
 .refine wP ?_
  replace H:=sI H;subst H
  exact wE [(4,.d)]
 .refine wP ?_
  refine wW (fun(v4:Int)=>⟨[(0,.sl .rd 1 (a1.map eI)),(1,.sl .rd 1 (b2.map eI)),(5,.int .i64 v4)],[],[],[]⟩) H (fun v4 I m k4 H N25=>?_)
  unfold Zi5 at H
  refine wG [.u 13 (.ln _ _ fun _=>lm a1 eI)] fun q5=>?_
  refine Z3 H (fun H=>?_) fun H=>?_
  .obtain⟨e6,h6,H⟩:=bB H
   obtain⟨e7,h7,H⟩:=bB H
   refine wG [.u 19 (.ix _ _ _ fun _=>Z1 eI h6),.u 23 (.ix _ _ _ fun _=>Z1 eI h7)] fun _=>?_
   refine Z3 H (fun H=>?_) fun H=>?_
   .refine wP ?_
    replace H:=sI H;subst H
    exact wE [(4,.d)]
   .refine wP ?_
    exact wT (N25 _ H)
  .refine wP ?_
   replace H:=sI H;subst H
   exact wE [(4,.d)]
def ZAk:L :=
sR [.bx 2 (.t 0),.bx 3 (.t 1),.mv 4 (cB false)]
 (.seq (sR [fA 5 2 0,lD 6 5 1 false,fA 7 3 0,lD 8 7 1 false,bI 9 .neq 6 8]
 (.cond (.t 9) (.seq (rE 4 (cB false))
 gR)
 .skip))
 (.seq (sR [fA 10 2 1,lD 11 10 3 true,fA 12 3 1,lD 13 12 3 true,cQ 14 ZT4 [11,13],.un 15 (.t 14)]
 (.cond (.t 15) (.seq (rE 4 (cB false))
 gR)
 .skip))
 (.seq (rE 4 (cB true))
 gR)))
def ZG7(a1:Node)(b2:Node):Option Bool :=
 bif (a1.leaf != b2.leaf)then(some false)else(bif (!(ZZ1 a1.cap b2.cap))then(some false)else(some true))
theorem ZSg{a1:Node}{b2:Node}{r:Bool}(H:ZG7 a1 b2=some r):Snd Tryz.prog Z0b [Zf a1,Zf b2] (.bool r) []:=by
 refine wS ZAk [.t 4] ?_
 unfold ZG7 at H
 refine wP ?_
 refine Z3 H (fun H=>?_) fun H=>?_
 .refine wP ?_
  replace H:=sI H;subst H
  exact wE [(4,.d)]
 .refine wG [.c 14 (ZF7 a1.cap b2.cap)] fun _=>?_
  refine Z3 H (fun H=>?_) fun H=>?_
  .refine wP ?_
   replace H:=sI H;subst H
   exact wE [(4,.d)]
  .refine wP ?_
   replace H:=sI H;subst H
   exact wE [(4,.d)]
def ZW5(a1:Node)(b2:Node):Bool :=
 bif (a1.leaf != b2.leaf)then(false)else(bif (!(ZZ1 a1.cap b2.cap))then(false)else(true))
theorem Zqm(a1:Node)(b2:Node):ZG7 a1 b2=some (ZW5 a1 b2):=by
 unfold ZG7 ZW5
 first|rfl|simp only[Zl]
theorem Z5k(a1:Node)(b2:Node):Snd Tryz.prog Z0b [Zf a1,Zf b2] (.bool (ZW5 a1 b2)) []:=ZSg (Zqm a1 b2)
def ZUi:L :=
.seq (rE 4 (cB false))
 (.seq (sR [mV 6 0,.ln 7 (.t 6),mV 8 1,.ln 9 (.t 8),bI 10 .neq 7 9]
 (.cond (.t 10) (.seq (rE 4 (cB false))
 gR)
 .skip))
 (.seq (.seq (rE 5 (kI 0))
 (.blk 0 (.loop (.gw (.seq (sR [mV 11 5,mV 12 0,.ln 13 (.t 12),bI 14 .lss 11 13]
 (.cond (.t 14) .skip
 (.exit 0)))
 (.seq (.blk 1 (.seq (.rq 10 [mV 17 0,mV 18 5,iA 19 17 18 4,lD 20 19 4 true,mV 21 1,mV 22 5,iA 23 21 22 4,lD 24 23 4 true,cQ 25 Z0b [20,24],.un 26 (.t 25)])
 (.cond (.t 26) (.seq (rE 4 (cB false))
 gR)
 .skip)))
 (.reg [mV 15 5,.bi 16 .add (.t 15) (kI 1),mV 5 16])))))))
 (.seq (rE 4 (cB true))
 gR)))
def Zk4(a1:List Node)(b2:List Node)(v4:Int)(k4:Int->Option Bool):Option Bool :=
 bif (decide (v4<(a1.length:Int)))then((idx a1 v4).bind fun e6=>(idx b2 v4).bind fun e7=>bif (!(ZW5 e6 e7))then(some false)else(k4 (w64 (v4+1))))else(some true)
def ZP6(a1:List Node)(b2:List Node):Option Bool :=
 bif ((a1.length:Int)!=(b2.length:Int))then(some false)else(whl (Zk4 a1 b2) 9223372036854775807 0)
theorem Zni{a1:List Node}{b2:List Node}{r:Bool}(H:ZP6 a1 b2=some r):Snd Tryz.prog Zxd [.sl .rd 4 (a1.map Zf),.sl .rd 4 (b2.map Zf)] (.bool r) []:=by
 refine wS ZUi [.t 4] ?_
 unfold ZP6 at H
 refine wG [.u 7 (.ln _ _ fun _=>lm a1 Zf),.u 9 (.ln _ _ fun _=>lm b2 Zf)] fun q3=>?_
 refine Z3 H (fun H=>?_) fun H=>?_
 .refine wP ?_
  replace H:=sI H;subst H
  exact wE [(4,.d)]
 .refine wP ?_
  refine wW (fun(v4:Int)=>⟨[(0,.sl .rd 4 (a1.map Zf)),(1,.sl .rd 4 (b2.map Zf)),(5,.int .i64 v4)],[],[],[]⟩) H (fun v4 I m k4 H N25=>?_)
  unfold Zk4 at H
  refine wG [.u 13 (.ln _ _ fun _=>lm a1 Zf)] fun q5=>?_
  refine Z3 H (fun H=>?_) fun H=>?_
  .obtain⟨e6,h6,H⟩:=bB H
   obtain⟨e7,h7,H⟩:=bB H
   refine wG [.u 19 (.ix _ _ _ fun _=>Z1 Zf h6),.u 23 (.ix _ _ _ fun _=>Z1 Zf h7),.c 25 (Z5k e6 e7)] fun _=>?_
   refine Z3 H (fun H=>?_) fun H=>?_
   .refine wP ?_
    replace H:=sI H;subst H
    exact wE [(4,.d)]
   .refine wP ?_
    exact wT (N25 _ H)
  .refine wP ?_
   replace H:=sI H;subst H
   exact wE [(4,.d)]
def Zyk:L :=
sR [.bx 2 (.t 0),.bx 3 (.t 1),.mv 4 (cB false)]
 (.seq (sR [fA 5 2 0,lD 6 5 1 false,fA 7 3 0,lD 8 7 1 false,cQ 9 Z1b [6,8],.un 10 (.t 9)]
 (.cond (.t 10) (.seq (rE 4 (cB false))
 gR)
 .skip))
 (.seq (sR [fA 11 2 1,lD 12 11 1 false,fA 13 3 1,lD 14 13 1 false,cQ 15 Zxd [12,14],.un 16 (.t 15)]
 (.cond (.t 16) (.seq (rE 4 (cB false))
 gR)
 .skip))
 (.seq (rE 4 (cB true))
 gR)))
def Zt8(a1:Topo)(b2:Topo):Option Bool :=
 (ZY5 a1.parents b2.parents).bind fun b3=>bif (!b3)then(some false)else((ZP6 a1.nodes b2.nodes).bind fun b4=>bif (!b4)then(some false)else(some true))
theorem Z3k{a1:Topo}{b2:Topo}{r:Bool}(H:Zt8 a1 b2=some r):Snd Tryz.prog Z2f [Zy .rd a1,Zy .rd b2] (.bool r) []:=by
 refine wS Zyk [.t 4] ?_
 unfold Zt8 at H
 obtain⟨b3,h3,H⟩:=bB H
 refine wG [.c 9 (Zhd h3)] fun _=>?_
 refine Z3 H (fun H=>?_) fun H=>?_
 .refine wP ?_
  replace H:=sI H;subst H
  exact wE [(4,.d)]
 .obtain⟨b4,h4,H⟩:=bB H
  refine wG [.c 15 (Zni h4)] fun _=>?_
  refine Z3 H (fun H=>?_) fun H=>?_
  .refine wP ?_
   replace H:=sI H;subst H
   exact wE [(4,.d)]
  .refine wP ?_
   replace H:=sI H;subst H
   exact wE [(4,.d)]
def ZGm:L :=
sR [.bx 1 (.t 0),.al 2 [.int .i64 0,.int .i64 0,.int .i64 0,.int .i64 0,.int .i64 0,.int .i64 0,.int .i64 0,.int .i64 0,.int .i64 0,.int .i64 0,.int .i64 0]]
 (sR [.al 3 [.int .i64 0,.int .i64 0,.int .i64 0,.int .i64 0,.int .i64 0,.int .i64 0,.int .i64 0,.int .i64 0,.int .i64 0,.int .i64 0,.int .i64 0]]
 (sR [fA 4 1 0,lD 5 4 1 false,fA 6 3 0,.st (.t 6) (.t 5) 1]
 (sR [fA 7 1 1,lD 8 7 1 false,fA 9 3 1,.st (.t 9) (.t 8) 1]
 (sR [fA 10 1 2,lD 11 10 1 false,fA 12 3 2,.st (.t 12) (.t 11) 1]
 (sR [fA 13 1 3,lD 14 13 3 true,cQ 15 ZS4 [14],fA 16 3 3,.st (.t 16) (.t 15) 3]
 (sR [fA 17 1 6,lD 18 17 3 true,cQ 19 ZS4 [18],fA 20 3 6,.st (.t 20) (.t 19) 3]
 (sR [fA 21 1 9,lD 22 21 1 false,fA 23 3 9,.st (.t 23) (.t 22) 1]
 (sR [fA 24 1 10,lD 25 24 1 false,fA 26 3 10,.st (.t 26) (.t 25) 1]
 (sR [lD 27 3 11 true,.st (.t 2) (.t 27) 11]
 gR)))))))))
def Z29(a1:Job):Option Job :=
 some (Job.mk a1.id a1.prio a1.nodes (ZS2 a1.need) (ZS2 a1.lic) a1.wall a1.level)
theorem Zbi{a1:Job}{r:Job}(H:Z29 a1=some r):Snd Tryz.prog Zj9 [eJob a1] (eJob r) []:=by
 refine wS ZGm [.c 2 11 true] ?_
 unfold Z29 at H
 refine wG [.c 15 (Zz7 a1.need),.c 19 (Zz7 a1.lic)] fun _=>?_
 replace H:=sI H;subst H
 exact wN [(2,.d)] [(2,[])] [] [] [] []
def Zw(a1:Job):Job :=
 (Job.mk a1.id a1.prio a1.nodes (ZS2 a1.need) (ZS2 a1.lic) a1.wall a1.level)
theorem Z0o(a1:Job):Z29 a1=some (Zw a1):=by
 unfold Z29 Zw
 first|rfl|simp only[Zl]
theorem Zle(a1:Job):Snd Tryz.prog Zj9 [eJob a1] (eJob (Zw a1)) []:=Zbi (Z0o a1)
def ZPi:L :=
sR [.mv 2 (.c (.nl))]
 (sR [mV 5 0,.ln 6 (.t 5),.ms 7 1 1 [.bool false] (.t 6),mV 3 7]
 (.seq (.seq (rE 4 (kI 0))
 (.blk 0 (.loop (.gw (.seq (sR [mV 8 4,mV 9 0,.ln 10 (.t 9),bI 11 .lss 8 10]
 (.cond (.t 11) .skip
 (.exit 0)))
 (.seq (.blk 1 (.reg [mV 14 3,mV 15 4,mV 16 0,mV 17 4,iA 18 16 17 1,lD 19 18 1 false,iA 20 14 15 1,.st (.t 20) (.t 19) 1]))
 (.reg [mV 12 4,.bi 13 .add (.t 12) (kI 1),mV 4 13])))))))
 (sR [mV 21 3,mV 2 21]
 gR)))
def Zj4(a1:List Bool)(v4:Int×(List Bool))(k4:(Int×(List Bool))->Option (List Bool)):Option (List Bool) :=
 bif (decide (v4.1<(a1.length:Int)))then((idx a1 v4.1).bind fun e6=>(idx v4.2 v4.1).bind fun _=>k4 ((w64 (v4.1+1)),(v4.2.set v4.1.toNat e6)))else(some v4.2)
def ZN6(a1:List Bool):Option (List Bool) :=
 (mkL 1 (a1.length:Int) false).bind fun xs2=>whl (Zj4 a1) 9223372036854775807 (0,xs2)
theorem Zdi{a1:List Bool}{r:(List Bool)}(H:ZN6 a1=some r):Snd Tryz.prog Zud [.sl .rd 1 (a1.map eBo)] (.sl .nw 1 (r.map eBo)) []:=by
 refine wS ZPi [.t 2] ?_
 unfold ZN6 at H
 obtain⟨xs2,h2,H⟩:=bB H
 refine wG [.u 6 (.ln _ _ fun _=>lm a1 eBo),.u 7 (.ms _ _ _ _ fun _=>ZKd eBo h2)] fun q3=>?_
 refine wW (fun(v4:Int×(List Bool))=>⟨[(0,.sl .rd 1 (a1.map eBo)),(3,.sref 7),(4,.int .i64 v4.1)],[],[],[(7,⟨1,v4.2.map eBo,false⟩)]⟩) H (fun v4 I m k4 H N13=>?_)
 unfold Zj4 at H
 refine wG [.u 10 (.ln _ _ fun _=>lm a1 eBo)] fun q5=>?_
 refine Z3 H (fun H=>?_) fun H=>?_
 .obtain⟨e6,h6,H⟩:=bB H
  obtain⟨e7,h7,H⟩:=bB H
  refine wG [.u 18 (.ix _ _ _ fun _=>Z1 eBo h6),.u 20 (.ix _ _ _ fun _=>Z1 eBo h7),.u 1000000 (.sto _ _ _ (eBo e6) _ (fun _=>gm eBo (Zk1 h7)) (fun _=>Zra ..))] fun _=>?_
  exact wT (N13 _ H)
 .refine wP ?_
  replace H:=sI H;subst H
  exact wN [(2,.f)] [] [] [7] [] [⟨_,ZI2 v4.2⟩]
def ZSi:L :=
.seq (rE 4 (kI 0))
 (sR [mV 5 1,mV 6 0,.ln 7 (.t 6),bI 8 .sub 5 7,mV 1 8]
 (.seq (sR [mV 9 1,.bi 10 .lss (.t 9) (kI 0)]
 (.cond (.t 10) (.seq (rE 4 (kI (-1)))
 gR)
 .skip))
 (sR [mV 11 1,mV 4 11]
 gR)))
def Zs6(a1:List Bool)(left2:Int):Option Int :=
 bif (decide ((w64 (left2-(a1.length:Int)))<0))then(some (-1))else(some (w64 (left2-(a1.length:Int))))
theorem Zvf{a1:List Bool}{left2:Int}{r:Int}(H:Zs6 a1 left2=some r):Snd Tryz.prog ZT9 [.sl .rd 1 (a1.map eBo),.int .i64 left2] (.int .i64 r) []:=by
 refine wS ZSi [.t 4] ?_
 unfold Zs6 at H
 refine wG [.u 7 (.ln _ _ fun _=>lm a1 eBo)] fun q3=>?_
 refine Z3 H (fun H=>?_) fun H=>?_
 .refine wP ?_
  replace H:=sI H;subst H
  exact wE [(4,.d)]
 .refine wP ?_
  replace H:=sI H;subst H
  exact wE [(4,.d)]
def ZD2(a1:List Bool)(left2:Int):Int :=
 bif (decide ((w64 (left2-(a1.length:Int)))<0))then((-1))else((w64 (left2-(a1.length:Int))))
theorem Z2k(a1:List Bool)(left2:Int):Zs6 a1 left2=some (ZD2 a1 left2):=by
 unfold Zs6 ZD2
 first|rfl|simp only[Zl]
theorem Zji(a1:List Bool)(left2:Int):Snd Tryz.prog ZT9 [.sl .rd 1 (a1.map eBo),.int .i64 left2] (.int .i64 (ZD2 a1 left2)) []:=Zvf (Z2k a1 left2)
def ZVi:L :=
.seq (rE 4 (cB false))
 (.seq (sR [mV 6 0,.ln 7 (.t 6),mV 8 1,.ln 9 (.t 8),bI 10 .neq 7 9]
 (.cond (.t 10) (.seq (rE 4 (cB false))
 gR)
 .skip))
 (.seq (.seq (rE 5 (kI 0))
 (.blk 0 (.loop (.gw (.seq (sR [mV 11 5,mV 12 0,.ln 13 (.t 12),bI 14 .lss 11 13]
 (.cond (.t 14) .skip
 (.exit 0)))
 (.seq (.blk 1 (.seq (.rq 9 [mV 17 0,mV 18 5,iA 19 17 18 1,lD 20 19 1 false,mV 21 1,mV 22 5,iA 23 21 22 1,lD 24 23 1 false,.eb 25 true (.t 20) (.t 24)])
 (.cond (.t 25) (.seq (rE 4 (cB false))
 gR)
 .skip)))
 (.reg [mV 15 5,.bi 16 .add (.t 15) (kI 1),mV 5 16])))))))
 (.seq (rE 4 (cB true))
 gR)))
def Zl4(a1:List Bool)(b2:List Bool)(v4:Int)(k4:Int->Option Bool):Option Bool :=
 bif (decide (v4<(a1.length:Int)))then((idx a1 v4).bind fun e6=>(idx b2 v4).bind fun e7=>bif (!(e6==e7))then(some false)else(k4 (w64 (v4+1))))else(some true)
def ZQ6(a1:List Bool)(b2:List Bool):Option Bool :=
 bif ((a1.length:Int)!=(b2.length:Int))then(some false)else(whl (Zl4 a1 b2) 9223372036854775807 0)
theorem Zri{a1:List Bool}{b2:List Bool}{r:Bool}(H:ZQ6 a1 b2=some r):Snd Tryz.prog Zyd [.sl .rd 1 (a1.map eBo),.sl .rd 1 (b2.map eBo)] (.bool r) []:=by
 refine wS ZVi [.t 4] ?_
 unfold ZQ6 at H
 refine wG [.u 7 (.ln _ _ fun _=>lm a1 eBo),.u 9 (.ln _ _ fun _=>lm b2 eBo)] fun q3=>?_
 refine Z3 H (fun H=>?_) fun H=>?_
 .refine wP ?_
  replace H:=sI H;subst H
  exact wE [(4,.d)]
 .refine wP ?_
  refine wW (fun(v4:Int)=>⟨[(0,.sl .rd 1 (a1.map eBo)),(1,.sl .rd 1 (b2.map eBo)),(5,.int .i64 v4)],[],[],[]⟩) H (fun v4 I m k4 H N25=>?_)
  unfold Zl4 at H
  refine wG [.u 13 (.ln _ _ fun _=>lm a1 eBo)] fun q5=>?_
  refine Z3 H (fun H=>?_) fun H=>?_
  .obtain⟨e6,h6,H⟩:=bB H
   obtain⟨e7,h7,H⟩:=bB H
   refine wG [.u 19 (.ix _ _ _ fun _=>Z1 eBo h6),.u 23 (.ix _ _ _ fun _=>Z1 eBo h7)] fun _=>?_
   refine Z3 H (fun H=>?_) fun H=>?_
   .refine wP ?_
    replace H:=sI H;subst H
    exact wE [(4,.d)]
   .refine wP ?_
    exact wT (N25 _ H)
  .refine wP ?_
   replace H:=sI H;subst H
   exact wE [(4,.d)]
def Zqk:L :=
sR [.mv 2 (.c (.nl))]
 (sR [mV 5 0,.ln 6 (.t 5),.ms 7 11 88 [.int .i64 0,.int .i64 0,.int .i64 0,.int .i64 0,.int .i64 0,.int .i64 0,.int .i64 0,.int .i64 0,.int .i64 0,.int .i64 0,.int .i64 0] (.t 6),mV 3 7]
 (.seq (.seq (rE 4 (kI 0))
 (.blk 0 (.loop (.gw (.seq (sR [mV 8 4,mV 9 0,.ln 10 (.t 9),bI 11 .lss 8 10]
 (.cond (.t 11) .skip
 (.exit 0)))
 (.seq (.blk 1 (.reg [mV 14 3,mV 15 4,mV 16 0,mV 17 4,iA 18 16 17 11,lD 19 18 11 true,cQ 20 Zj9 [19],iA 21 14 15 11,.st (.t 21) (.t 20) 11]))
 (.reg [mV 12 4,.bi 13 .add (.t 12) (kI 1),mV 4 13])))))))
 (sR [mV 22 3,mV 2 22]
 gR)))
def Zd5(a1:List Job)(v4:Int×(List Job))(k4:(Int×(List Job))->Option (List Job)):Option (List Job) :=
 bif (decide (v4.1<(a1.length:Int)))then((idx a1 v4.1).bind fun e6=>(idx v4.2 v4.1).bind fun _=>k4 ((w64 (v4.1+1)),(v4.2.set v4.1.toNat (Job.mk ((Zw e6).id) ((Zw e6).prio) ((Zw e6).nodes) ((Zw e6).need) ((Zw e6).lic) ((Zw e6).wall) ((Zw e6).level)))))else(some v4.2)
def Zo8(a1:List Job):Option (List Job) :=
 (mkL 88 (a1.length:Int) (Job.mk 0 0 0 (Vec.mk 0 0 0) (Vec.mk 0 0 0) 0 0)).bind fun xs2=>whl (Zd5 a1) 9223372036854775807 (0,xs2)
theorem ZSj{a1:List Job}{r:(List Job)}(H:Zo8 a1=some r):Snd Tryz.prog ZZe [.sl .rd 11 (a1.map eJob)] (.sl .nw 11 (r.map eJob)) []:=by
 refine wS Zqk [.t 2] ?_
 unfold Zo8 at H
 obtain⟨xs2,h2,H⟩:=bB H
 refine wG [.u 6 (.ln _ _ fun _=>lm a1 eJob),.u 7 (.ms _ _ _ _ fun _=>ZKd eJob h2)] fun q3=>?_
 refine wW (fun(v4:Int×(List Job))=>⟨[(0,.sl .rd 11 (a1.map eJob)),(3,.sref 7),(4,.int .i64 v4.1)],[],[],[(7,⟨11,v4.2.map eJob,false⟩)]⟩) H (fun v4 I m k4 H N13=>?_)
 unfold Zd5 at H
 refine wG [.u 10 (.ln _ _ fun _=>lm a1 eJob)] fun q5=>?_
 refine Z3 H (fun H=>?_) fun H=>?_
 .obtain⟨e6,h6,H⟩:=bB H
  obtain⟨e7,h7,H⟩:=bB H
  refine wG [.u 18 (.ix _ _ _ fun _=>Z1 eJob h6),.c 20 (Zle e6),.u 21 (.ix _ _ _ fun _=>Z1 eJob h7),.u 1000000 (.sto _ _ _ (eJob (Job.mk ((Zw e6).id) ((Zw e6).prio) ((Zw e6).nodes) ((Zw e6).need) ((Zw e6).lic) ((Zw e6).wall) ((Zw e6).level))) _ (fun _=>gm eJob (Zk1 h7)) (fun _=>Zra ..))] fun _=>?_
  exact wT (N13 _ H)
 .refine wP ?_
  replace H:=sI H;subst H
  exact wN [(2,.f)] [] [] [7] [] [⟨_,Zc3 v4.2⟩]
def Zvk:L :=
.seq (rE 4 (kI 0))
 (sR [mV 5 1,mV 6 0,.ln 7 (.t 6),bI 8 .sub 5 7,mV 1 8]
 (.seq (sR [mV 9 1,.bi 10 .lss (.t 9) (kI 0)]
 (.cond (.t 10) (.seq (rE 4 (kI (-1)))
 gR)
 .skip))
 (sR [mV 11 1,mV 4 11]
 gR)))
def ZC7(a1:List Job)(left2:Int):Option Int :=
 bif (decide ((w64 (left2-(a1.length:Int)))<0))then(some (-1))else(some (w64 (left2-(a1.length:Int))))
theorem ZMg{a1:List Job}{left2:Int}{r:Int}(H:ZC7 a1 left2=some r):Snd Tryz.prog ZYa [.sl .rd 11 (a1.map eJob),.int .i64 left2] (.int .i64 r) []:=by
 refine wS Zvk [.t 4] ?_
 unfold ZC7 at H
 refine wG [.u 7 (.ln _ _ fun _=>lm a1 eJob)] fun q3=>?_
 refine Z3 H (fun H=>?_) fun H=>?_
 .refine wP ?_
  replace H:=sI H;subst H
  exact wE [(4,.d)]
 .refine wP ?_
  replace H:=sI H;subst H
  exact wE [(4,.d)]
def ZU5(a1:List Job)(left2:Int):Int :=
 bif (decide ((w64 (left2-(a1.length:Int)))<0))then((-1))else((w64 (left2-(a1.length:Int))))
theorem Zmm(a1:List Job)(left2:Int):ZC7 a1 left2=some (ZU5 a1 left2):=by
 unfold ZC7 ZU5
 first|rfl|simp only[Zl]
theorem Z0k(a1:List Job)(left2:Int):Snd Tryz.prog ZYa [.sl .rd 11 (a1.map eJob),.int .i64 left2] (.int .i64 (ZU5 a1 left2)) []:=ZMg (Zmm a1 left2)
def ZLm:L :=
sR [.bx 2 (.t 0),.bx 3 (.t 1),.mv 4 (cB false)]
 (.seq (sR [fA 5 2 0,lD 6 5 1 false,fA 7 3 0,lD 8 7 1 false,bI 9 .neq 6 8]
 (.cond (.t 9) (.seq (rE 4 (cB false))
 gR)
 .skip))
 (.seq (sR [fA 10 2 1,lD 11 10 1 false,fA 12 3 1,lD 13 12 1 false,bI 14 .neq 11 13]
 (.cond (.t 14) (.seq (rE 4 (cB false))
 gR)
 .skip))
 (.seq (sR [fA 15 2 2,lD 16 15 1 false,fA 17 3 2,lD 18 17 1 false,bI 19 .neq 16 18]
 (.cond (.t 19) (.seq (rE 4 (cB false))
 gR)
 .skip))
 (.seq (sR [fA 20 2 3,lD 21 20 3 true,fA 22 3 3,lD 23 22 3 true,cQ 24 ZT4 [21,23],.un 25 (.t 24)]
 (.cond (.t 25) (.seq (rE 4 (cB false))
 gR)
 .skip))
 (.seq (sR [fA 26 2 6,lD 27 26 3 true,fA 28 3 6,lD 29 28 3 true,cQ 30 ZT4 [27,29],.un 31 (.t 30)]
 (.cond (.t 31) (.seq (rE 4 (cB false))
 gR)
 .skip))
 (.seq (sR [fA 32 2 9,lD 33 32 1 false,fA 34 3 9,lD 35 34 1 false,bI 36 .neq 33 35]
 (.cond (.t 36) (.seq (rE 4 (cB false))
 gR)
 .skip))
 (.seq (sR [fA 37 2 10,lD 38 37 1 false,fA 39 3 10,lD 40 39 1 false,bI 41 .neq 38 40]
 (.cond (.t 41) (.seq (rE 4 (cB false))
 gR)
 .skip))
 (.seq (rE 4 (cB true))
 gR))))))))
def Z69(a1:Job)(b2:Job):Option Bool :=
 bif (a1.id != b2.id)then(some false)else(bif (a1.prio != b2.prio)then(some false)else(bif (a1.nodes != b2.nodes)then(some false)else(bif (!(ZZ1 a1.need b2.need))then(some false)else(bif (!(ZZ1 a1.lic b2.lic))then(some false)else(bif (a1.wall != b2.wall)then(some false)else(bif (a1.level != b2.level)then(some false)else(some true)))))))
theorem Zoi{a1:Job}{b2:Job}{r:Bool}(H:Z69 a1 b2=some r):Snd Tryz.prog Zk9 [eJob a1,eJob b2] (.bool r) []:=by
 refine wS ZLm [.t 4] ?_
 unfold Z69 at H
 refine wP ?_
 refine Z3 H (fun H=>?_) fun H=>?_
 .refine wP ?_
  replace H:=sI H;subst H
  exact wE [(4,.d)]
 .refine wP ?_
  refine Z3 H (fun H=>?_) fun H=>?_
  .refine wP ?_
   replace H:=sI H;subst H
   exact wE [(4,.d)]
  .refine wP ?_
   refine Z3 H (fun H=>?_) fun H=>?_
   .refine wP ?_
    replace H:=sI H;subst H
    exact wE [(4,.d)]
   .refine wG [.c 24 (ZF7 a1.need b2.need)] fun _=>?_
    refine Z3 H (fun H=>?_) fun H=>?_
    .refine wP ?_
     replace H:=sI H;subst H
     exact wE [(4,.d)]
    .refine wG [.c 30 (ZF7 a1.lic b2.lic)] fun _=>?_
     refine Z3 H (fun H=>?_) fun H=>?_
     .refine wP ?_
      replace H:=sI H;subst H
      exact wE [(4,.d)]
     .refine wP ?_
      refine Z3 H (fun H=>?_) fun H=>?_
      .refine wP ?_
       replace H:=sI H;subst H
       exact wE [(4,.d)]
      .refine wP ?_
       refine Z3 H (fun H=>?_) fun H=>?_
       .refine wP ?_
        replace H:=sI H;subst H
        exact wE [(4,.d)]
       .refine wP ?_
        replace H:=sI H;subst H
        exact wE [(4,.d)]
def ZX5(a1:Job)(b2:Job):Bool :=
 bif (a1.id != b2.id)then(false)else(bif (a1.prio != b2.prio)then(false)else(bif (a1.nodes != b2.nodes)then(false)else(bif (!(ZZ1 a1.need b2.need))then(false)else(bif (!(ZZ1 a1.lic b2.lic))then(false)else(bif (a1.wall != b2.wall)then(false)else(bif (a1.level != b2.level)then(false)else(true)))))))
theorem Z4o(a1:Job)(b2:Job):Z69 a1 b2=some (ZX5 a1 b2):=by
 unfold Z69 ZX5
 first|rfl|simp only[Zl]
theorem Zme(a1:Job)(b2:Job):Snd Tryz.prog Zk9 [eJob a1,eJob b2] (.bool (ZX5 a1 b2)) []:=Zoi (Z4o a1 b2)
def ZBk:L :=
.seq (rE 4 (cB false))
 (.seq (sR [mV 6 0,.ln 7 (.t 6),mV 8 1,.ln 9 (.t 8),bI 10 .neq 7 9]
 (.cond (.t 10) (.seq (rE 4 (cB false))
 gR)
 .skip))
 (.seq (.seq (rE 5 (kI 0))
 (.blk 0 (.loop (.gw (.seq (sR [mV 11 5,mV 12 0,.ln 13 (.t 12),bI 14 .lss 11 13]
 (.cond (.t 14) .skip
 (.exit 0)))
 (.seq (.blk 1 (.seq (.rq 10 [mV 17 0,mV 18 5,iA 19 17 18 11,lD 20 19 11 true,mV 21 1,mV 22 5,iA 23 21 22 11,lD 24 23 11 true,cQ 25 Zk9 [20,24],.un 26 (.t 25)])
 (.cond (.t 26) (.seq (rE 4 (cB false))
 gR)
 .skip)))
 (.reg [mV 15 5,.bi 16 .add (.t 15) (kI 1),mV 5 16])))))))
 (.seq (rE 4 (cB true))
 gR)))
def Zh5(a1:List Job)(b2:List Job)(v4:Int)(k4:Int->Option Bool):Option Bool :=
 bif (decide (v4<(a1.length:Int)))then((idx a1 v4).bind fun e6=>(idx b2 v4).bind fun e7=>bif (!(ZX5 e6 e7))then(some false)else(k4 (w64 (v4+1))))else(some true)
def Zv8(a1:List Job)(b2:List Job):Option Bool :=
 bif ((a1.length:Int)!=(b2.length:Int))then(some false)else(whl (Zh5 a1 b2) 9223372036854775807 0)
theorem Z6k{a1:List Job}{b2:List Job}{r:Bool}(H:Zv8 a1 b2=some r):Snd Tryz.prog Z4f [.sl .rd 11 (a1.map eJob),.sl .rd 11 (b2.map eJob)] (.bool r) []:=by
 refine wS ZBk [.t 4] ?_
 unfold Zv8 at H
 refine wG [.u 7 (.ln _ _ fun _=>lm a1 eJob),.u 9 (.ln _ _ fun _=>lm b2 eJob)] fun q3=>?_
 refine Z3 H (fun H=>?_) fun H=>?_
 .refine wP ?_
  replace H:=sI H;subst H
  exact wE [(4,.d)]
 .refine wP ?_
  refine wW (fun(v4:Int)=>⟨[(0,.sl .rd 11 (a1.map eJob)),(1,.sl .rd 11 (b2.map eJob)),(5,.int .i64 v4)],[],[],[]⟩) H (fun v4 I m k4 H N25=>?_)
  unfold Zh5 at H
  refine wG [.u 13 (.ln _ _ fun _=>lm a1 eJob)] fun q5=>?_
  refine Z3 H (fun H=>?_) fun H=>?_
  .obtain⟨e6,h6,H⟩:=bB H
   obtain⟨e7,h7,H⟩:=bB H
   refine wG [.u 19 (.ix _ _ _ fun _=>Z1 eJob h6),.u 23 (.ix _ _ _ fun _=>Z1 eJob h7),.c 25 (Zme e6 e7)] fun _=>?_
   refine Z3 H (fun H=>?_) fun H=>?_
   .refine wP ?_
    replace H:=sI H;subst H
    exact wE [(4,.d)]
   .refine wP ?_
    exact wT (N25 _ H)
  .refine wP ?_
   replace H:=sI H;subst H
   exact wE [(4,.d)]
def ZFm:L :=
sR [.bx 1 (.t 0),.al 2 [.int .i64 0,.int .i64 0,.int .i64 0,.int .i64 0,.int .i64 0,.int .i64 0,.int .i64 0,.int .i64 0,.int .i64 0,.int .i64 0,.int .i64 0,.int .i64 0,.nl]]
 (sR [.al 3 [.int .i64 0,.int .i64 0,.int .i64 0,.int .i64 0,.int .i64 0,.int .i64 0,.int .i64 0,.int .i64 0,.int .i64 0,.int .i64 0,.int .i64 0,.int .i64 0,.nl]]
 (sR [fA 4 1 0,lD 5 4 11 true,cQ 6 Zj9 [5],fA 7 3 0,.st (.t 7) (.t 6) 11]
 (sR [fA 8 1 11,lD 9 8 1 false,fA 10 3 11,.st (.t 10) (.t 9) 1]
 (sR [fA 11 1 12,lD 12 11 1 false,cQ 13 ZWa [12],fA 14 3 12,.st (.t 14) (.t 13) 1]
 (sR [lD 15 3 13 true,.st (.t 2) (.t 15) 13]
 gR)))))
def Z8a(a1:Run):Option Run :=
 (ZS5 a1.nodes).bind fun y2=>some (Run.mk (Job.mk ((Zw a1.job).id) ((Zw a1.job).prio) ((Zw a1.job).nodes) ((Zw a1.job).need) ((Zw a1.job).lic) ((Zw a1.job).wall) ((Zw a1.job).level)) a1.t y2)
theorem Zgm{a1:Run}{r:Run}(H:Z8a a1=some r):Snd Tryz.prog Zng [Za .rd a1] (Za .nw r) []:=by
 refine wS ZFm [.c 2 13 true] ?_
 unfold Z8a at H
 obtain⟨y2,h2,H⟩:=bB H
 refine wG [.c 6 (Zle a1.job),.c 13 (Zed h2)] fun _=>?_
 replace H:=sI H;subst H
 exact wN [(2,.d)] [(2,[])] [] [] [] [⟨_,nw_I y2⟩]
def Zok:L :=
sR [.mv 2 (.c (.nl))]
 (sR [mV 5 0,.ln 6 (.t 5),.ms 7 13 120 [.int .i64 0,.int .i64 0,.int .i64 0,.int .i64 0,.int .i64 0,.int .i64 0,.int .i64 0,.int .i64 0,.int .i64 0,.int .i64 0,.int .i64 0,.int .i64 0,.sl .nw 1 []] (.t 6),mV 3 7]
 (.seq (.seq (rE 4 (kI 0))
 (.blk 0 (.loop (.gw (.seq (sR [mV 8 4,mV 9 0,.ln 10 (.t 9),bI 11 .lss 8 10]
 (.cond (.t 11) .skip
 (.exit 0)))
 (.seq (.blk 1 (.reg [mV 14 3,mV 15 4,mV 16 0,mV 17 4,iA 18 16 17 13,lD 19 18 13 true,cQ 20 Zng [19],iA 21 14 15 13,.st (.t 21) (.t 20) 13]))
 (.reg [mV 12 4,.bi 13 .add (.t 12) (kI 1),mV 4 13])))))))
 (sR [mV 22 3,mV 2 22]
 gR)))
def Zc5(a1:List Run)(v4:Int×(List Run))(k4:(Int×(List Run))->Option (List Run)):Option (List Run) :=
 bif (decide (v4.1<(a1.length:Int)))then((idx a1 v4.1).bind fun e6=>(Z8a e6).bind fun y7=>(idx v4.2 v4.1).bind fun _=>k4 ((w64 (v4.1+1)),(v4.2.set v4.1.toNat y7)))else(some v4.2)
def Zn8(a1:List Run):Option (List Run) :=
 (mkL 120 (a1.length:Int) (Run.mk (Job.mk 0 0 0 (Vec.mk 0 0 0) (Vec.mk 0 0 0) 0 0) 0 [])).bind fun xs2=>whl (Zc5 a1) 9223372036854775807 (0,xs2)
theorem ZPj{a1:List Run}{r:(List Run)}(H:Zn8 a1=some r):Snd Tryz.prog ZYe [.sl .rd 13 (a1.map (Za .rd))] (.sl .nw 13 (r.map (Za .nw))) []:=by
 refine wS Zok [.t 2] ?_
 unfold Zn8 at H
 obtain⟨xs2,h2,H⟩:=bB H
 refine wG [.u 6 (.ln _ _ fun _=>lm a1 (Za .rd)),.u 7 (.ms _ _ _ _ fun _=>ZKd (Za .nw) h2)] fun q3=>?_
 refine wW (fun(v4:Int×(List Run))=>⟨[(0,.sl .rd 13 (a1.map (Za .rd))),(3,.sref 7),(4,.int .i64 v4.1)],[],[],[(7,⟨13,v4.2.map (Za .nw),false⟩)]⟩) H (fun v4 I m k4 H N13=>?_)
 unfold Zc5 at H
 refine wG [.u 10 (.ln _ _ fun _=>lm a1 (Za .rd))] fun q5=>?_
 refine Z3 H (fun H=>?_) fun H=>?_
 .obtain⟨e6,h6,H⟩:=bB H
  obtain⟨y7,h7,H⟩:=bB H
  obtain⟨e8,h8,H⟩:=bB H
  refine wG [.u 18 (.ix _ _ _ fun _=>Z1 (Za .rd) h6),.c 20 (Zgm h7),.u 21 (.ix _ _ _ fun _=>Z1 (Za .nw) h8),.u 1000000 (.sto _ _ _ (Za .nw y7) _ (fun _=>gm (Za .nw) (Zk1 h8)) (fun _=>Zra ..))] fun _=>?_
  exact wT (N13 _ H)
 .refine wP ?_
  replace H:=sI H;subst H
  exact wN [(2,.f)] [] [] [7] [] [⟨_,Zb3 v4.2⟩]
def ZHm:L :=
sR [.bx 1 (.t 0),.al 2 [.int .i64 0,.int .i64 0,.int .i64 0]]
 (sR [.al 3 [.int .i64 0,.int .i64 0,.int .i64 0]]
 (sR [fA 4 1 0,lD 5 4 1 false,fA 6 3 0,.st (.t 6) (.t 5) 1]
 (sR [fA 7 1 1,lD 8 7 1 false,fA 9 3 1,.st (.t 9) (.t 8) 1]
 (sR [fA 10 1 2,lD 11 10 1 false,fA 12 3 2,.st (.t 12) (.t 11) 1]
 (sR [lD 13 3 3 true,.st (.t 2) (.t 13) 3]
 gR)))))
def Z39(a1:End):Option End :=
 some a1
theorem Zci{a1:End}{r:End}(H:Z39 a1=some r):Snd Tryz.prog ZAc [eEnd a1] (eEnd r) []:=by
 refine wS ZHm [.c 2 3 true] ?_
 unfold Z39 at H
 refine wP ?_
 replace H:=sI H;subst H
 exact wN [(2,.d)] [(2,[])] [] [] [] []
def Z9a(a1:End):End :=
 a1
theorem Z1o(a1:End):Z39 a1=some (Z9a a1):=by
 unfold Z39 Z9a
 first|rfl|simp only[Zl]
theorem Zjm(a1:End):Snd Tryz.prog ZAc [eEnd a1] (eEnd (Z9a a1)) []:=Zci (Z1o a1)
def Zsk:L :=
sR [.mv 2 (.c (.nl))]
 (sR [mV 5 0,.ln 6 (.t 5),.ms 7 3 24 [.int .i64 0,.int .i64 0,.int .i64 0] (.t 6),mV 3 7]
 (.seq (.seq (rE 4 (kI 0))
 (.blk 0 (.loop (.gw (.seq (sR [mV 8 4,mV 9 0,.ln 10 (.t 9),bI 11 .lss 8 10]
 (.cond (.t 11) .skip
 (.exit 0)))
 (.seq (.blk 1 (.reg [mV 14 3,mV 15 4,mV 16 0,mV 17 4,iA 18 16 17 3,lD 19 18 3 true,cQ 20 ZAc [19],iA 21 14 15 3,.st (.t 21) (.t 20) 3]))
 (.reg [mV 12 4,.bi 13 .add (.t 12) (kI 1),mV 4 13])))))))
 (sR [mV 22 3,mV 2 22]
 gR)))
def Zf5(a1:List End)(v4:Int×(List End))(k4:(Int×(List End))->Option (List End)):Option (List End) :=
 bif (decide (v4.1<(a1.length:Int)))then((idx a1 v4.1).bind fun e6=>(idx v4.2 v4.1).bind fun _=>k4 ((w64 (v4.1+1)),(v4.2.set v4.1.toNat (Z9a e6))))else(some v4.2)
def Zp8(a1:List End):Option (List End) :=
 (mkL 24 (a1.length:Int) (End.mk 0 0 0)).bind fun xs2=>whl (Zf5 a1) 9223372036854775807 (0,xs2)
theorem ZUj{a1:List End}{r:(List End)}(H:Zp8 a1=some r):Snd Tryz.prog Z0f [.sl .rd 3 (a1.map eEnd)] (.sl .nw 3 (r.map eEnd)) []:=by
 refine wS Zsk [.t 2] ?_
 unfold Zp8 at H
 obtain⟨xs2,h2,H⟩:=bB H
 refine wG [.u 6 (.ln _ _ fun _=>lm a1 eEnd),.u 7 (.ms _ _ _ _ fun _=>ZKd eEnd h2)] fun q3=>?_
 refine wW (fun(v4:Int×(List End))=>⟨[(0,.sl .rd 3 (a1.map eEnd)),(3,.sref 7),(4,.int .i64 v4.1)],[],[],[(7,⟨3,v4.2.map eEnd,false⟩)]⟩) H (fun v4 I m k4 H N13=>?_)
 unfold Zf5 at H
 refine wG [.u 10 (.ln _ _ fun _=>lm a1 eEnd)] fun q5=>?_
 refine Z3 H (fun H=>?_) fun H=>?_
 .obtain⟨e6,h6,H⟩:=bB H
  obtain⟨e7,h7,H⟩:=bB H
  refine wG [.u 18 (.ix _ _ _ fun _=>Z1 eEnd h6),.c 20 (Zjm e6),.u 21 (.ix _ _ _ fun _=>Z1 eEnd h7),.u 1000000 (.sto _ _ _ (eEnd (Z9a e6)) _ (fun _=>gm eEnd (Zk1 h7)) (fun _=>Zra ..))] fun _=>?_
  exact wT (N13 _ H)
 .refine wP ?_
  replace H:=sI H;subst H
  exact wN [(2,.f)] [] [] [7] [] [⟨_,ZK6 v4.2⟩]
def ZNi:L :=
sR [.bx 1 (.t 0),.al 2 [.nl,.nl,.nl,.int .i64 0,.int .i64 0,.int .i64 0,.int .i64 0,.int .i64 0,.nl,.nl,.nl]]
 (sR [.al 3 [.nl,.nl,.nl,.int .i64 0,.int .i64 0,.int .i64 0,.int .i64 0,.int .i64 0,.nl,.nl,.nl]]
 (sR [fA 4 1 0,lD 5 4 2 true,cQ 6 ZXe [5],fA 7 3 0,.st (.t 7) (.t 6) 2]
 (sR [fA 8 1 2,lD 9 8 1 false,cQ 10 Zud [9],fA 11 3 2,.st (.t 11) (.t 10) 1]
 (sR [fA 12 1 3,lD 13 12 3 true,cQ 14 ZS4 [13],fA 15 3 3,.st (.t 15) (.t 14) 3]
 (sR [fA 16 1 6,lD 17 16 1 false,fA 18 3 6,.st (.t 18) (.t 17) 1]
 (sR [fA 19 1 7,lD 20 19 1 false,fA 21 3 7,.st (.t 21) (.t 20) 1]
 (sR [fA 22 1 8,lD 23 22 1 false,cQ 24 ZZe [23],fA 25 3 8,.st (.t 25) (.t 24) 1]
 (sR [fA 26 1 9,lD 27 26 1 false,cQ 28 ZYe [27],fA 29 3 9,.st (.t 29) (.t 28) 1]
 (sR [fA 30 1 10,lD 31 30 1 false,cQ 32 Z0f [31],fA 33 3 10,.st (.t 33) (.t 32) 1]
 (sR [lD 34 3 11 true,.st (.t 2) (.t 34) 11]
 gR))))))))))
def Zd3(a1:State):Option State :=
 (Zl8 a1.topo).bind fun y2=>(ZN6 a1.up).bind fun y3=>(Zo8 a1.queue).bind fun y4=>(Zn8 a1.runs).bind fun y5=>(Zp8 a1.ends).bind fun y6=>some (State.mk y2 y3 (ZS2 a1.lic) a1.depth a1.now y4 y5 y6)
theorem Zm8{a1:State}{r:State}(H:Zd3 a1=some r):Snd Tryz.prog ZF6 [Zn .rd a1] (Zn .nw r) []:=by
 refine wS ZNi [.c 2 11 true] ?_
 unfold Zd3 at H
 obtain⟨y2,h2,H⟩:=bB H
 obtain⟨y3,h3,H⟩:=bB H
 obtain⟨y4,h4,H⟩:=bB H
 obtain⟨y5,h5,H⟩:=bB H
 obtain⟨y6,h6,H⟩:=bB H
 refine wG [.c 6 (ZNj h2),.c 10 (Zdi h3),.c 14 (Zz7 a1.lic),.c 24 (ZSj h4),.c 28 (ZPj h5),.c 32 (ZUj h6)] fun _=>?_
 replace H:=sI H;subst H
 exact wN [(2,.d)] [(2,[])] [] [] [] [⟨_,nw_I y2.parents⟩,⟨_,Zx y2.nodes⟩,⟨_,ZI2 y3⟩,⟨_,Zc3 y4⟩,⟨_,Zb3 y5⟩,⟨_,ZK6 y6⟩]
def ZIm:L :=
sR [.bx 2 (.t 0),.mv 4 (kI 0)]
 (sR [fA 5 2 12,lD 6 5 1 false,mV 7 1,cQ 8 ZR7 [6,7],mV 1 8]
 (.seq (sR [mV 9 1,.bi 10 .lss (.t 9) (kI 0)]
 (.cond (.t 10) (.seq (rE 4 (kI (-1)))
 gR)
 .skip))
 (sR [mV 11 1,mV 4 11]
 gR)))
def Z49(a1:Run)(left2:Int):Option Int :=
 bif (decide ((ZU a1.nodes left2)<0))then(some (-1))else(some (ZU a1.nodes left2))
theorem Zhi{a1:Run}{left2:Int}{r:Int}(H:Z49 a1 left2=some r):Snd Tryz.prog ZBc [Za .rd a1,.int .i64 left2] (.int .i64 r) []:=by
 refine wS ZIm [.t 4] ?_
 unfold Z49 at H
 refine wG [.c 8 (Zgd a1.nodes left2)] fun _=>?_
 refine Z3 H (fun H=>?_) fun H=>?_
 .refine wP ?_
  replace H:=sI H;subst H
  exact wE [(4,.d)]
 .refine wP ?_
  replace H:=sI H;subst H
  exact wE [(4,.d)]
def ZT5(a1:Run)(left2:Int):Int :=
 bif (decide ((ZU a1.nodes left2)<0))then((-1))else((ZU a1.nodes left2))
theorem Z2o(a1:Run)(left2:Int):Z49 a1 left2=some (ZT5 a1 left2):=by
 unfold Z49 ZT5
 first|rfl|simp only[Zl]
theorem Zlm(a1:Run)(left2:Int):Snd Tryz.prog ZBc [Za .rd a1,.int .i64 left2] (.int .i64 (ZT5 a1 left2)) []:=Zhi (Z2o a1 left2)
def Zuk:L :=
.seq (rE 4 (kI 0))
 (sR [mV 6 1,mV 7 0,.ln 8 (.t 7),bI 9 .sub 6 8,mV 1 9]
 (.seq (sR [mV 10 1,.bi 11 .lss (.t 10) (kI 0)]
 (.cond (.t 11) (.seq (rE 4 (kI (-1)))
 gR)
 .skip))
 (.seq (.seq (rE 5 (kI 0))
 (.blk 0 (.loop (.gw (.seq (sR [mV 12 5,mV 13 0,.ln 14 (.t 13),bI 15 .lss 12 14]
 (.cond (.t 15) .skip
 (.exit 0)))
 (.seq (.blk 1 (sR [mV 18 0,mV 19 5,iA 20 18 19 13,lD 21 20 13 true,mV 22 1,cQ 23 ZBc [21,22],mV 1 23]
 (sR [mV 24 1,.bi 25 .lss (.t 24) (kI 0)]
 (.cond (.t 25) (.seq (rE 4 (kI (-1)))
 gR)
 .skip))))
 (.reg [mV 16 5,.bi 17 .add (.t 16) (kI 1),mV 5 17])))))))
 (sR [mV 26 1,mV 4 26]
 gR))))
def Zq8(a1:List Run)(v4:Int×Int)(k4:(Int×Int)->Option Int):Option Int :=
 bif (decide (v4.2<(a1.length:Int)))then((idx a1 v4.2).bind fun e6=>bif (decide ((ZT5 e6 v4.1)<0))then(some (-1))else(k4 ((ZT5 e6 v4.1),(w64 (v4.2+1)))))else(some v4.1)
def Zr8(a1:List Run)(left2:Int):Option Int :=
 bif (decide ((w64 (left2-(a1.length:Int)))<0))then(some (-1))else(whl (Zq8 a1) 9223372036854775807 ((w64 (left2-(a1.length:Int))),0))
theorem ZYj{a1:List Run}{left2:Int}{r:Int}(H:Zr8 a1 left2=some r):Snd Tryz.prog Z1f [.sl .rd 13 (a1.map (Za .rd)),.int .i64 left2] (.int .i64 r) []:=by
 refine wS Zuk [.t 4] ?_
 unfold Zr8 at H
 refine wG [.u 8 (.ln _ _ fun _=>lm a1 (Za .rd))] fun q3=>?_
 refine Z3 H (fun H=>?_) fun H=>?_
 .refine wP ?_
  replace H:=sI H;subst H
  exact wE [(4,.d)]
 .refine wP ?_
  refine wW (fun(v4:Int×Int)=>⟨[(0,.sl .rd 13 (a1.map (Za .rd))),(1,.int .i64 v4.1),(5,.int .i64 v4.2)],[],[],[]⟩) H (fun v4 I m k4 H N28=>?_)
  unfold Zq8 at H
  refine wG [.u 14 (.ln _ _ fun _=>lm a1 (Za .rd))] fun q5=>?_
  refine Z3 H (fun H=>?_) fun H=>?_
  .obtain⟨e6,h6,H⟩:=bB H
   refine wG [.u 20 (.ix _ _ _ fun _=>Z1 (Za .rd) h6),.c 23 (Zlm e6 v4.1)] fun _=>?_
   refine Z3 H (fun H=>?_) fun H=>?_
   .refine wP ?_
    replace H:=sI H;subst H
    exact wE [(4,.d)]
   .refine wP ?_
    exact wT (N28 _ H)
  .refine wP ?_
   replace H:=sI H;subst H
   exact wE [(4,.d)]
def Zxk:L :=
.seq (rE 4 (kI 0))
 (sR [mV 5 1,mV 6 0,.ln 7 (.t 6),bI 8 .sub 5 7,mV 1 8]
 (.seq (sR [mV 9 1,.bi 10 .lss (.t 9) (kI 0)]
 (.cond (.t 10) (.seq (rE 4 (kI (-1)))
 gR)
 .skip))
 (sR [mV 11 1,mV 4 11]
 gR)))
def ZE7(a1:List End)(left2:Int):Option Int :=
 bif (decide ((w64 (left2-(a1.length:Int)))<0))then(some (-1))else(some (w64 (left2-(a1.length:Int))))
theorem ZOg{a1:List End}{left2:Int}{r:Int}(H:ZE7 a1 left2=some r):Snd Tryz.prog ZZa [.sl .rd 3 (a1.map eEnd),.int .i64 left2] (.int .i64 r) []:=by
 refine wS Zxk [.t 4] ?_
 unfold ZE7 at H
 refine wG [.u 7 (.ln _ _ fun _=>lm a1 eEnd)] fun q3=>?_
 refine Z3 H (fun H=>?_) fun H=>?_
 .refine wP ?_
  replace H:=sI H;subst H
  exact wE [(4,.d)]
 .refine wP ?_
  replace H:=sI H;subst H
  exact wE [(4,.d)]
def ZV5(a1:List End)(left2:Int):Int :=
 bif (decide ((w64 (left2-(a1.length:Int)))<0))then((-1))else((w64 (left2-(a1.length:Int))))
theorem Zom(a1:List End)(left2:Int):ZE7 a1 left2=some (ZV5 a1 left2):=by
 unfold ZE7 ZV5
 first|rfl|simp only[Zl]
theorem Z1k(a1:List End)(left2:Int):Snd Tryz.prog ZZa [.sl .rd 3 (a1.map eEnd),.int .i64 left2] (.int .i64 (ZV5 a1 left2)) []:=ZOg (Zom a1 left2)
def ZQi:L :=
sR [.bx 2 (.t 0),.mv 4 (kI 0)]
 (sR [fA 5 2 0,lD 6 5 2 true,mV 7 1,cQ 8 ZXa [6,7],mV 1 8]
 (.seq (sR [mV 9 1,.bi 10 .lss (.t 9) (kI 0)]
 (.cond (.t 10) (.seq (rE 4 (kI (-1)))
 gR)
 .skip))
 (sR [fA 11 2 2,lD 12 11 1 false,mV 13 1,cQ 14 ZT9 [12,13],mV 1 14]
 (.seq (sR [mV 15 1,.bi 16 .lss (.t 15) (kI 0)]
 (.cond (.t 16) (.seq (rE 4 (kI (-1)))
 gR)
 .skip))
 (sR [fA 17 2 8,lD 18 17 1 false,mV 19 1,cQ 20 ZYa [18,19],mV 1 20]
 (.seq (sR [mV 21 1,.bi 22 .lss (.t 21) (kI 0)]
 (.cond (.t 22) (.seq (rE 4 (kI (-1)))
 gR)
 .skip))
 (sR [fA 23 2 9,lD 24 23 1 false,mV 25 1,cQ 26 Z1f [24,25],mV 1 26]
 (.seq (sR [mV 27 1,.bi 28 .lss (.t 27) (kI 0)]
 (.cond (.t 28) (.seq (rE 4 (kI (-1)))
 gR)
 .skip))
 (sR [fA 29 2 10,lD 30 29 1 false,mV 31 1,cQ 32 ZZa [30,31],mV 1 32]
 (.seq (sR [mV 33 1,.bi 34 .lss (.t 33) (kI 0)]
 (.cond (.t 34) (.seq (rE 4 (kI (-1)))
 gR)
 .skip))
 (sR [mV 35 1,mV 4 35]
 gR)))))))))))
def ZL4(a1:State)(left2:Int):Option Int :=
 bif (decide ((Zc1 a1.topo left2)<0))then(some (-1))else(bif (decide ((ZD2 a1.up (Zc1 a1.topo left2))<0))then(some (-1))else(bif (decide ((ZU5 a1.queue (ZD2 a1.up (Zc1 a1.topo left2)))<0))then(some (-1))else((Zr8 a1.runs (ZU5 a1.queue (ZD2 a1.up (Zc1 a1.topo left2)))).bind fun n3=>bif (decide (n3<0))then(some (-1))else(bif (decide ((ZV5 a1.ends n3)<0))then(some (-1))else(some (ZV5 a1.ends n3))))))
theorem Zfi{a1:State}{left2:Int}{r:Int}(H:ZL4 a1 left2=some r):Snd Tryz.prog Zvd [Zn .rd a1,.int .i64 left2] (.int .i64 r) []:=by
 refine wS ZQi [.t 4] ?_
 unfold ZL4 at H
 refine wG [.c 8 (ZWj a1.topo left2)] fun _=>?_
 refine Z3 H (fun H=>?_) fun H=>?_
 .refine wP ?_
  replace H:=sI H;subst H
  exact wE [(4,.d)]
 .refine wG [.u 14 (.call _ _ _ _ _ (AEs.refl _) (fun _=>Zji a1.up (Zc1 a1.topo left2)))] fun _=>?_
  refine Z3 H (fun H=>?_) fun H=>?_
  .refine wP ?_
   replace H:=sI H;subst H
   exact wE [(4,.d)]
  .refine wG [.u 20 (.call _ _ _ _ _ (AEs.refl _) (fun _=>Z0k a1.queue (ZD2 a1.up (Zc1 a1.topo left2))))] fun _=>?_
   refine Z3 H (fun H=>?_) fun H=>?_
   .refine wP ?_
    replace H:=sI H;subst H
    exact wE [(4,.d)]
   .obtain⟨n3,h3,H⟩:=bB H
    refine wG [.c 26 (ZYj h3)] fun _=>?_
    refine Z3 H (fun H=>?_) fun H=>?_
    .refine wP ?_
     replace H:=sI H;subst H
     exact wE [(4,.d)]
    .refine wG [.c 32 (Z1k a1.ends n3)] fun _=>?_
     refine Z3 H (fun H=>?_) fun H=>?_
     .refine wP ?_
      replace H:=sI H;subst H
      exact wE [(4,.d)]
     .refine wP ?_
      replace H:=sI H;subst H
      exact wE [(4,.d)]
def ZKm:L :=
sR [.bx 2 (.t 0),.bx 3 (.t 1),.mv 4 (cB false)]
 (.seq (sR [fA 5 2 0,lD 6 5 11 true,fA 7 3 0,lD 8 7 11 true,cQ 9 Zk9 [6,8],.un 10 (.t 9)]
 (.cond (.t 10) (.seq (rE 4 (cB false))
 gR)
 .skip))
 (.seq (sR [fA 11 2 11,lD 12 11 1 false,fA 13 3 11,lD 14 13 1 false,bI 15 .neq 12 14]
 (.cond (.t 15) (.seq (rE 4 (cB false))
 gR)
 .skip))
 (.seq (sR [fA 16 2 12,lD 17 16 1 false,fA 18 3 12,lD 19 18 1 false,cQ 20 Z1b [17,19],.un 21 (.t 20)]
 (.cond (.t 21) (.seq (rE 4 (cB false))
 gR)
 .skip))
 (.seq (rE 4 (cB true))
 gR))))
def Zaa(a1:Run)(b2:Run):Option Bool :=
 bif (!(ZX5 a1.job b2.job))then(some false)else(bif (a1.t != b2.t)then(some false)else((ZY5 a1.nodes b2.nodes).bind fun b3=>bif (!b3)then(some false)else(some true)))
theorem Zpm{a1:Run}{b2:Run}{r:Bool}(H:Zaa a1 b2=some r):Snd Tryz.prog Zog [Za .rd a1,Za .rd b2] (.bool r) []:=by
 refine wS ZKm [.t 4] ?_
 unfold Zaa at H
 refine wG [.c 9 (Zme a1.job b2.job)] fun _=>?_
 refine Z3 H (fun H=>?_) fun H=>?_
 .refine wP ?_
  replace H:=sI H;subst H
  exact wE [(4,.d)]
 .refine wP ?_
  refine Z3 H (fun H=>?_) fun H=>?_
  .refine wP ?_
   replace H:=sI H;subst H
   exact wE [(4,.d)]
  .obtain⟨b3,h3,H⟩:=bB H
   refine wG [.c 20 (Zhd h3)] fun _=>?_
   refine Z3 H (fun H=>?_) fun H=>?_
   .refine wP ?_
    replace H:=sI H;subst H
    exact wE [(4,.d)]
   .refine wP ?_
    replace H:=sI H;subst H
    exact wE [(4,.d)]
def Zzk:L :=
.seq (rE 4 (cB false))
 (.seq (sR [mV 6 0,.ln 7 (.t 6),mV 8 1,.ln 9 (.t 8),bI 10 .neq 7 9]
 (.cond (.t 10) (.seq (rE 4 (cB false))
 gR)
 .skip))
 (.seq (.seq (rE 5 (kI 0))
 (.blk 0 (.loop (.gw (.seq (sR [mV 11 5,mV 12 0,.ln 13 (.t 12),bI 14 .lss 11 13]
 (.cond (.t 14) .skip
 (.exit 0)))
 (.seq (.blk 1 (.seq (.rq 10 [mV 17 0,mV 18 5,iA 19 17 18 13,lD 20 19 13 true,mV 21 1,mV 22 5,iA 23 21 22 13,lD 24 23 13 true,cQ 25 Zog [20,24],.un 26 (.t 25)])
 (.cond (.t 26) (.seq (rE 4 (cB false))
 gR)
 .skip)))
 (.reg [mV 15 5,.bi 16 .add (.t 15) (kI 1),mV 5 16])))))))
 (.seq (rE 4 (cB true))
 gR)))
def Zg5(a1:List Run)(b2:List Run)(v4:Int)(k4:Int->Option Bool):Option Bool :=
 bif (decide (v4<(a1.length:Int)))then((idx a1 v4).bind fun e6=>(idx b2 v4).bind fun e7=>(Zaa e6 e7).bind fun b8=>bif (!b8)then(some false)else(k4 (w64 (v4+1))))else(some true)
def Zu8(a1:List Run)(b2:List Run):Option Bool :=
 bif ((a1.length:Int)!=(b2.length:Int))then(some false)else(whl (Zg5 a1 b2) 9223372036854775807 0)
theorem Z4k{a1:List Run}{b2:List Run}{r:Bool}(H:Zu8 a1 b2=some r):Snd Tryz.prog Z3f [.sl .rd 13 (a1.map (Za .rd)),.sl .rd 13 (b2.map (Za .rd))] (.bool r) []:=by
 refine wS Zzk [.t 4] ?_
 unfold Zu8 at H
 refine wG [.u 7 (.ln _ _ fun _=>lm a1 (Za .rd)),.u 9 (.ln _ _ fun _=>lm b2 (Za .rd))] fun q3=>?_
 refine Z3 H (fun H=>?_) fun H=>?_
 .refine wP ?_
  replace H:=sI H;subst H
  exact wE [(4,.d)]
 .refine wP ?_
  refine wW (fun(v4:Int)=>⟨[(0,.sl .rd 13 (a1.map (Za .rd))),(1,.sl .rd 13 (b2.map (Za .rd))),(5,.int .i64 v4)],[],[],[]⟩) H (fun v4 I m k4 H N25=>?_)
  unfold Zg5 at H
  refine wG [.u 13 (.ln _ _ fun _=>lm a1 (Za .rd))] fun q5=>?_
  refine Z3 H (fun H=>?_) fun H=>?_
  .obtain⟨e6,h6,H⟩:=bB H
   obtain⟨e7,h7,H⟩:=bB H
   obtain⟨b8,h8,H⟩:=bB H
   refine wG [.u 19 (.ix _ _ _ fun _=>Z1 (Za .rd) h6),.u 23 (.ix _ _ _ fun _=>Z1 (Za .rd) h7),.c 25 (Zpm h8)] fun _=>?_
   refine Z3 H (fun H=>?_) fun H=>?_
   .refine wP ?_
    replace H:=sI H;subst H
    exact wE [(4,.d)]
   .refine wP ?_
    exact wT (N25 _ H)
  .refine wP ?_
   replace H:=sI H;subst H
   exact wE [(4,.d)]
def ZMm:L :=
sR [.bx 2 (.t 0),.bx 3 (.t 1),.mv 4 (cB false)]
 (.seq (sR [fA 5 2 0,lD 6 5 1 false,fA 7 3 0,lD 8 7 1 false,bI 9 .neq 6 8]
 (.cond (.t 9) (.seq (rE 4 (cB false))
 gR)
 .skip))
 (.seq (sR [fA 10 2 1,lD 11 10 1 false,fA 12 3 1,lD 13 12 1 false,bI 14 .neq 11 13]
 (.cond (.t 14) (.seq (rE 4 (cB false))
 gR)
 .skip))
 (.seq (sR [fA 15 2 2,lD 16 15 1 false,fA 17 3 2,lD 18 17 1 false,bI 19 .neq 16 18]
 (.cond (.t 19) (.seq (rE 4 (cB false))
 gR)
 .skip))
 (.seq (rE 4 (cB true))
 gR))))
def Z79(a1:End)(b2:End):Option Bool :=
 bif (a1.id != b2.id)then(some false)else(bif (a1.t != b2.t)then(some false)else(bif (a1.why != b2.why)then(some false)else(some true)))
theorem Zqi{a1:End}{b2:End}{r:Bool}(H:Z79 a1 b2=some r):Snd Tryz.prog ZCc [eEnd a1,eEnd b2] (.bool r) []:=by
 refine wS ZMm [.t 4] ?_
 unfold Z79 at H
 refine wP ?_
 refine Z3 H (fun H=>?_) fun H=>?_
 .refine wP ?_
  replace H:=sI H;subst H
  exact wE [(4,.d)]
 .refine wP ?_
  refine Z3 H (fun H=>?_) fun H=>?_
  .refine wP ?_
   replace H:=sI H;subst H
   exact wE [(4,.d)]
  .refine wP ?_
   refine Z3 H (fun H=>?_) fun H=>?_
   .refine wP ?_
    replace H:=sI H;subst H
    exact wE [(4,.d)]
   .refine wP ?_
    replace H:=sI H;subst H
    exact wE [(4,.d)]
def Z18(a1:End)(b2:End):Bool :=
 bif (a1.id != b2.id)then(false)else(bif (a1.t != b2.t)then(false)else(bif (a1.why != b2.why)then(false)else(true)))
theorem Z5o(a1:End)(b2:End):Z79 a1 b2=some (Z18 a1 b2):=by
 unfold Z79 Z18
 first|rfl|simp only[Zl]
theorem Zrm(a1:End)(b2:End):Snd Tryz.prog ZCc [eEnd a1,eEnd b2] (.bool (Z18 a1 b2)) []:=Zqi (Z5o a1 b2)
def ZDk:L :=
.seq (rE 4 (cB false))
 (.seq (sR [mV 6 0,.ln 7 (.t 6),mV 8 1,.ln 9 (.t 8),bI 10 .neq 7 9]
 (.cond (.t 10) (.seq (rE 4 (cB false))
 gR)
 .skip))
 (.seq (.seq (rE 5 (kI 0))
 (.blk 0 (.loop (.gw (.seq (sR [mV 11 5,mV 12 0,.ln 13 (.t 12),bI 14 .lss 11 13]
 (.cond (.t 14) .skip
 (.exit 0)))
 (.seq (.blk 1 (.seq (.rq 10 [mV 17 0,mV 18 5,iA 19 17 18 3,lD 20 19 3 true,mV 21 1,mV 22 5,iA 23 21 22 3,lD 24 23 3 true,cQ 25 ZCc [20,24],.un 26 (.t 25)])
 (.cond (.t 26) (.seq (rE 4 (cB false))
 gR)
 .skip)))
 (.reg [mV 15 5,.bi 16 .add (.t 15) (kI 1),mV 5 16])))))))
 (.seq (rE 4 (cB true))
 gR)))
def Zj5(a1:List End)(b2:List End)(v4:Int)(k4:Int->Option Bool):Option Bool :=
 bif (decide (v4<(a1.length:Int)))then((idx a1 v4).bind fun e6=>(idx b2 v4).bind fun e7=>bif (!(Z18 e6 e7))then(some false)else(k4 (w64 (v4+1))))else(some true)
def Zw8(a1:List End)(b2:List End):Option Bool :=
 bif ((a1.length:Int)!=(b2.length:Int))then(some false)else(whl (Zj5 a1 b2) 9223372036854775807 0)
theorem Z7k{a1:List End}{b2:List End}{r:Bool}(H:Zw8 a1 b2=some r):Snd Tryz.prog Z5f [.sl .rd 3 (a1.map eEnd),.sl .rd 3 (b2.map eEnd)] (.bool r) []:=by
 refine wS ZDk [.t 4] ?_
 unfold Zw8 at H
 refine wG [.u 7 (.ln _ _ fun _=>lm a1 eEnd),.u 9 (.ln _ _ fun _=>lm b2 eEnd)] fun q3=>?_
 refine Z3 H (fun H=>?_) fun H=>?_
 .refine wP ?_
  replace H:=sI H;subst H
  exact wE [(4,.d)]
 .refine wP ?_
  refine wW (fun(v4:Int)=>⟨[(0,.sl .rd 3 (a1.map eEnd)),(1,.sl .rd 3 (b2.map eEnd)),(5,.int .i64 v4)],[],[],[]⟩) H (fun v4 I m k4 H N25=>?_)
  unfold Zj5 at H
  refine wG [.u 13 (.ln _ _ fun _=>lm a1 eEnd)] fun q5=>?_
  refine Z3 H (fun H=>?_) fun H=>?_
  .obtain⟨e6,h6,H⟩:=bB H
   obtain⟨e7,h7,H⟩:=bB H
   refine wG [.u 19 (.ix _ _ _ fun _=>Z1 eEnd h6),.u 23 (.ix _ _ _ fun _=>Z1 eEnd h7),.c 25 (Zrm e6 e7)] fun _=>?_
   refine Z3 H (fun H=>?_) fun H=>?_
   .refine wP ?_
    replace H:=sI H;subst H
    exact wE [(4,.d)]
   .refine wP ?_
    exact wT (N25 _ H)
  .refine wP ?_
   replace H:=sI H;subst H
   exact wE [(4,.d)]
def ZTi:L :=
sR [.bx 2 (.t 0),.bx 3 (.t 1),.mv 4 (cB false)]
 (.seq (sR [fA 5 2 0,lD 6 5 2 true,fA 7 3 0,lD 8 7 2 true,cQ 9 Z2f [6,8],.un 10 (.t 9)]
 (.cond (.t 10) (.seq (rE 4 (cB false))
 gR)
 .skip))
 (.seq (sR [fA 11 2 2,lD 12 11 1 false,fA 13 3 2,lD 14 13 1 false,cQ 15 Zyd [12,14],.un 16 (.t 15)]
 (.cond (.t 16) (.seq (rE 4 (cB false))
 gR)
 .skip))
 (.seq (sR [fA 17 2 3,lD 18 17 3 true,fA 19 3 3,lD 20 19 3 true,cQ 21 ZT4 [18,20],.un 22 (.t 21)]
 (.cond (.t 22) (.seq (rE 4 (cB false))
 gR)
 .skip))
 (.seq (sR [fA 23 2 6,lD 24 23 1 false,fA 25 3 6,lD 26 25 1 false,bI 27 .neq 24 26]
 (.cond (.t 27) (.seq (rE 4 (cB false))
 gR)
 .skip))
 (.seq (sR [fA 28 2 7,lD 29 28 1 false,fA 30 3 7,lD 31 30 1 false,bI 32 .neq 29 31]
 (.cond (.t 32) (.seq (rE 4 (cB false))
 gR)
 .skip))
 (.seq (sR [fA 33 2 8,lD 34 33 1 false,fA 35 3 8,lD 36 35 1 false,cQ 37 Z4f [34,36],.un 38 (.t 37)]
 (.cond (.t 38) (.seq (rE 4 (cB false))
 gR)
 .skip))
 (.seq (sR [fA 39 2 9,lD 40 39 1 false,fA 41 3 9,lD 42 41 1 false,cQ 43 Z3f [40,42],.un 44 (.t 43)]
 (.cond (.t 44) (.seq (rE 4 (cB false))
 gR)
 .skip))
 (.seq (sR [fA 45 2 10,lD 46 45 1 false,fA 47 3 10,lD 48 47 1 false,cQ 49 Z5f [46,48],.un 50 (.t 49)]
 (.cond (.t 50) (.seq (rE 4 (cB false))
 gR)
 .skip))
 (.seq (rE 4 (cB true))
 gR)))))))))
def ZO6(a1:State)(b2:State):Option Bool :=
 (Zt8 a1.topo b2.topo).bind fun b3=>bif (!b3)then(some false)else((ZQ6 a1.up b2.up).bind fun b4=>bif (!b4)then(some false)else(bif (!(ZZ1 a1.lic b2.lic))then(some false)else(bif (a1.depth != b2.depth)then(some false)else(bif (a1.now != b2.now)then(some false)else((Zv8 a1.queue b2.queue).bind fun b5=>bif (!b5)then(some false)else((Zu8 a1.runs b2.runs).bind fun b6=>bif (!b6)then(some false)else((Zw8 a1.ends b2.ends).bind fun b7=>bif (!b7)then(some false)else(some true))))))))
theorem Zli{a1:State}{b2:State}{r:Bool}(H:ZO6 a1 b2=some r):Snd Tryz.prog Zwd [Zn .rd a1,Zn .rd b2] (.bool r) []:=by
 refine wS ZTi [.t 4] ?_
 unfold ZO6 at H
 obtain⟨b3,h3,H⟩:=bB H
 refine wG [.c 9 (Z3k h3)] fun _=>?_
 refine Z3 H (fun H=>?_) fun H=>?_
 .refine wP ?_
  replace H:=sI H;subst H
  exact wE [(4,.d)]
 .obtain⟨b4,h4,H⟩:=bB H
  refine wG [.c 15 (Zri h4)] fun _=>?_
  refine Z3 H (fun H=>?_) fun H=>?_
  .refine wP ?_
   replace H:=sI H;subst H
   exact wE [(4,.d)]
  .refine wG [.c 21 (ZF7 a1.lic b2.lic)] fun _=>?_
   refine Z3 H (fun H=>?_) fun H=>?_
   .refine wP ?_
    replace H:=sI H;subst H
    exact wE [(4,.d)]
   .refine wP ?_
    refine Z3 H (fun H=>?_) fun H=>?_
    .refine wP ?_
     replace H:=sI H;subst H
     exact wE [(4,.d)]
    .refine wP ?_
     refine Z3 H (fun H=>?_) fun H=>?_
     .refine wP ?_
      replace H:=sI H;subst H
      exact wE [(4,.d)]
     .obtain⟨b5,h5,H⟩:=bB H
      refine wG [.c 37 (Z6k h5)] fun _=>?_
      refine Z3 H (fun H=>?_) fun H=>?_
      .refine wP ?_
       replace H:=sI H;subst H
       exact wE [(4,.d)]
      .obtain⟨b6,h6,H⟩:=bB H
       refine wG [.c 43 (Z4k h6)] fun _=>?_
       refine Z3 H (fun H=>?_) fun H=>?_
       .refine wP ?_
        replace H:=sI H;subst H
        exact wE [(4,.d)]
       .obtain⟨b7,h7,H⟩:=bB H
        refine wG [.c 49 (Z7k h7)] fun _=>?_
        refine Z3 H (fun H=>?_) fun H=>?_
        .refine wP ?_
         replace H:=sI H;subst H
         exact wE [(4,.d)]
        .refine wP ?_
         replace H:=sI H;subst H
         exact wE [(4,.d)]
end Go.Proofs.YtodafdoninblmaaGreat
namespace Go.Proofs.YtodafdoninblmaaGreat.Eng
open Go Go.RowKit
section
def CE(a b:AV):Prop:=AE a b/\(a.one=true->b.one=true)
def CEs(l m:List AV):Prop:=l.length=m.length/\∀(i:Nat) (a b:AV),l[i]?=some a->m[i]?=some b->CE a b
theorem CE.refl(a:AV):CE a a:=⟨AE.refl a,id⟩
theorem CEs.refl(l:List AV):CEs l l:=⟨rfl,fun i a b h h'=>by rw[h]at h';cases h';exact .refl a⟩
theorem CEs.one{a b:AV}(h:CE a b):CEs [a] [b]:=⟨rfl,fun i x y hx hy=>by
 cases i with
 |zero=>simp at hx hy;subst hx;subst hy;exact h
 |succ i=>simp at hx⟩
theorem CEs.append{l1 l2 m1 m2:List AV}(h1:CEs l1 m1)(h2:CEs l2 m2):CEs (l1++l2) (m1++m2):=by
 refine⟨by rw[yU,yU,h1.1,h2.1],fun i a b ha hb=>?_⟩
 by_cases hi:i<l1.length
 .rw[yK hi]at ha
  rw[yK (by rw[← h1.1];exact hi)]at hb
  exact h1.2 i a b ha hb
 .rw[yS (by omega)]at ha
  rw[yS (by rw[← h1.1];omega),← h1.1]at hb
  exact h2.2 _ a b ha hb
theorem CEs.flat{α:Type}{E:α->AV}:∀{es:List AV} {ys:List α},es.length=ys.length->(∀(i:Nat) (x:AV) (y:α),es[i]?=some x->ys[i]?=some y->CEs x.cells (E y).cells)->CEs (Eng.flat es) (Eng.flat (ys.map E))
 |[],[],_,_=>CEs.refl []
 |x::es,y::ys,hl,h=>by
  have h0:=h 0 x y rfl rfl
  have h1:=CEs.flat (es:=es) (ys:=ys) (by simpa using hl) fun i x y hx hy=>h (i+1) x y (by simpa using hx) (by simpa using hy)
  simpa[Eng.flat]using h0.append h1
 |[],_::_,hl,_=>by simp at hl
 |_::_,[],hl,_=>by simp at hl
theorem AE.agg{cs ds:List AV}(h:CEs cs ds):AE (.agg cs) (.agg ds):=by
 intro w S v hr
 cases hr with
 |agg _ vs hl h1 h2 =>
  refine .agg ds vs (by rw[← h.1,hl]) (fun b hb=>?_) fun i b u hb hu=>?_
  .obtain⟨i,hi⟩:=List.getElem?_of_mem hb
   have hlt:i<cs.length:=by rw[h.1];exact(yB hi).1
   exact(h.2 i cs[i] b (yA hlt) hi).2 (h1 _ (List.getElem_mem hlt))
  .have hlt:i<cs.length:=by rw[h.1];exact(yB hb).1
   exact(h.2 i cs[i] b (yA hlt) hb).1 w S u (h2 i _ u (yA hlt) hu)
theorem AE.nl{sz:Nat}:AE .nl (.sl .rd sz []):=by
 intro w S v hr
 cases hr
 exact .sl0 _ _ _ _ fun _ _=>trivial
theorem AE.sl{g:Tag}{sz:Nat}{es ds:List AV}(hl:es.length=ds.length)(hs:∀e∈ds,e.cells.length=sz)(h:CEs (Eng.flat es) (Eng.flat ds)):AE (.sl g sz es) (.sl g sz ds):=by
 intro w S v hr
 cases hr with
 |sl0 _ _ a c ho =>
  cases ds with
  |nil=>exact .sl0 _ _ _ _ ho
  |cons _ _=>simp at hl
 |sl _ _ _ b o c cv hc hm _ hw ho h2 =>
  rw[hl]
  have hx:∀(j:Nat) (d:AV),(Eng.flat ds)[j]?=some d->∃e,(Eng.flat es)[j]?=some e/\CE e d:=fun j d hj=>by
   have hlt:j<(Eng.flat es).length:=by rw[h.1];exact(yB hj).1
   exact⟨_,yA hlt,h.2 j _ d (yA hlt) hj⟩
  refine .sl g sz ds b o c cv (by rw[← hl];exact hc) hm hs (fun j d hj=>?_) ho fun j d hj=>?_
  .obtain⟨e,he,hce⟩:=hx j d hj
   obtain⟨q1,q2,q3,_⟩:=hw j e he
   exact⟨q1,q2,hce.2 q3,trivial⟩
  .obtain⟨e,he,hce⟩:=hx j d hj
   exact hce.1 w S _ (h2 j e he)
theorem Snd.wkS{P:Program}{f:FuncId}{xs1 xs2:List AV}{res:AV}{rows:List Row}(h:Snd P f xs2 res rows)(hae:AEs xs1 xs2):Snd P f xs1 res rows:=by
 intro w S N vs hS hl hr
 have hal:=hae.1
 refine h w S TT vs hS (by omega) fun i b v hb hv=>?_
 have hi:i<xs1.length:=by have:=(yB hb).1;omega
 exact hae.2 w S i _ b v (yA hi) hb ((hr i _ v (yA hi) hv).mono (fun _ _ h=>h) ⟨fun _ _ _ _ _ _ _ _=>trivial,fun _ _ _ _=>trivial⟩ fun _ _ _=>rfl)
def Z92{α:Type}(τ:Ty)(e:α->List AV)(W:α->Prop):Prop:=∀l,τ.ok l->∃y,CEs l (e y)/\W y
def ZN{α:Type}(τs:List Ty)(e:α->List AV)(W:α->Prop):Prop:=∀l,okL τs l->∃y,CEs l (e y)/\W y
def FitL{α:Type}(W:α->Prop)(l:List α):Prop:=l.length<=maxLen/\∀x∈l,W x
def FitT{α:Type}(_:α):Prop:=True
section
variable{α β:Type}
theorem Z92.int(k:IntKind):Z92 (.int k) (fun n:Int=>[.int k n]) FitT:=by
 intro l h
 obtain⟨n,rfl,_⟩:=h
 exact⟨n,.refl _,trivial⟩
theorem Z92.bool:Z92 .bool (fun n:Bool=>[.bool n]) FitT:=by
 intro l h
 obtain⟨n,rfl⟩:=h
 exact⟨n,.refl _,trivial⟩
theorem ZN.nil:ZN [] (fun _:Unit=>[]) FitT:=by
 intro l h
 simp only[okL]at h
 subst h
 exact⟨(),.refl _,trivial⟩
theorem ZN.cons{f:Ty}{fs:List Ty}{e1:α->List AV}{e2:β->List AV}{W1:α->Prop}{W2:β->Prop}(h1:Z92 f e1 W1)(h2:ZN fs e2 W2):ZN (f::fs) (fun p:α×β=>e1 p.1++e2 p.2) (fun p=>W1 p.1/\W2 p.2):=by
 intro l h
 simp only[okL]at h
 obtain⟨l1,l2,rfl,q1,q2⟩:=h
 obtain⟨y1,c1,w1⟩:=h1 l1 q1
 obtain⟨y2,c2,w2⟩:=h2 l2 q2
 exact⟨(y1,y2),c1.append c2,w1,w2⟩
theorem ZN.st{fs:List Ty}{e:α->List AV}{W:α->Prop}(h:ZN fs e W)(g:α->β){e':β->List AV}{W':β->Prop}(he:∀x,e x=e' (g x))(hW:∀x,W x->W' (g x)):Z92 (.st fs) e' W':=by
 intro l hl
 simp only[Ty.ok]at hl
 obtain⟨y,c,w⟩:=h l hl
 exact⟨g y,he y ▸ c,hW y w⟩
theorem exL{R:AV->α->Prop}:∀{es:List AV},(∀x∈es,∃y,R x y)->∃ys:List α,es.length=ys.length/\∀(i:Nat) (x:AV) (y:α),es[i]?=some x->ys[i]?=some y->R x y
 |[],_=>⟨[],rfl,fun i x y h=>by simp at h⟩
 |x::es,h=>by
  obtain⟨y,hy⟩:=h x (yJ ..)
  obtain⟨ys,hl,hys⟩:=exL (es:=es) fun z hz=>h z (yH _ hz)
  refine⟨y::ys,by simp[hl],fun i a b ha hb=>?_⟩
  cases i with
  |zero=>simp at ha hb;subst ha;subst hb;exact hy
  |succ i=>exact hys i a b (by simpa using ha) (by simpa using hb)
theorem Z92.sl{τ:Ty}{e:α->List AV}{W:α->Prop}(h:Z92 τ e W)(E:α->AV)(hE:∀y,(E y).cells=e y){n:Nat}(hn:τ.size=n):Z92 (.sl τ) (fun l:List α=>[.sl .rd n (l.map E)]) (FitL W):=by
 intro l hl
 simp only[Ty.ok]at hl
 rcases hl with rfl|⟨es,rfl,hm,h2⟩
 .exact⟨[],.one ⟨AE.nl,fun _=>rfl⟩,Nat.zero_le _,fun x hx=>by simp at hx⟩
 .obtain⟨ys,hys,hR⟩:=exL (α:=α) (R:=fun x y=>CEs x.cells (E y).cells/\W y/\x.cells.length=τ.size) (es:=es) fun x hx=>by
   obtain⟨a1,_,a3⟩:=h2 x hx
   obtain⟨y,c,w⟩:=h _ a3
   exact⟨y,(hE y).symm ▸ c,w,a1⟩
  have get:∀y∈ys,∃(i:Nat) (x:AV),es[i]?=some x/\ys[i]?=some y:=fun y hy=>by
   obtain⟨i,hi⟩:=List.getElem?_of_mem hy
   exact⟨i,_,yA (by rw[hys];exact(yB hi).1),hi⟩
  refine⟨ys,.one ⟨?_,fun _=>rfl⟩,by rw[← hys];exact hm,fun y hy=>?_⟩
  .rw[hn]
   refine AE.sl (by simpa using hys) (fun d hd=>?_) (CEs.flat hys fun i x y hx hy=>(hR i x y hx hy).1)
   obtain⟨y,hy,rfl⟩:=yY hd
   obtain⟨i,x,hx,hy'⟩:=get y hy
   have:=hR i x y hx hy'
   rw[← this.1.1,this.2.2,hn]
  .obtain⟨i,x,hx,hy'⟩:=get y hy
   exact(hR i x y hx hy').2.1
theorem Z92.okV_st{fs:List Ty}{e:α->List AV}{W:α->Prop}(h:Z92 (.st fs) e W){a:AV}(ha:(Ty.st fs).okV a):∃y,AE a (.agg (e y))/\W y:=by
 obtain⟨cs,rfl,hc⟩:=ha
 obtain⟨y,c,w⟩:=h cs (by simpa only[Ty.ok]using hc)
 exact⟨y,.agg c,w⟩
end
end
end Go.Proofs.YtodafdoninblmaaGreat.Eng
namespace Go.Proofs.YtodafdoninblmaaGreat
open Go Go.RowKit Eng
section
def ZGq:Ty:=.st [.int .i64,.int .i64,.int .i64]
def Zho(x:Vec):Prop:=FitT x.a/\FitT x.b/\FitT x.c/\True
theorem Zrs:Z92 ZGq (fun x:Vec=>(eVec x).cells) Zho:=ZN.st (ZN.cons (Z92.int .i64) (ZN.cons (Z92.int .i64) (ZN.cons (Z92.int .i64) ZN.nil))) (fun p=>⟨p.1,p.2.1,p.2.2.1⟩) (fun _=>by rfl) (fun _ h=>by exact h)
def Z1t:Ty:=.st [.int .i64,ZGq]
def ZLr(x:Node):Prop:=FitT x.leaf/\Zho x.cap/\True
theorem Zvv:Z92 Z1t (fun x:Node=>(Zf x).cells) ZLr:=ZN.st (ZN.cons (Z92.int .i64) (ZN.cons Zrs ZN.nil)) (fun p=>⟨p.1,p.2.1⟩) (fun _=>by rfl) (fun _ h=>by exact h)
def Z0t:Ty:=.st [.sl (.int .i64),.sl Z1t]
def ZJr(x:Topo):Prop:=(FitL FitT) x.parents/\(FitL ZLr) x.nodes/\True
theorem Zuv:Z92 Z0t (fun x:Topo=>(Zy .rd x).cells) ZJr:=ZN.st (ZN.cons (Z92.sl (Z92.int .i64) eI (fun _=>rfl) rfl) (ZN.cons (Z92.sl Zvv Zf (fun _=>rfl) rfl) ZN.nil)) (fun p=>⟨p.1,p.2.1⟩) (fun _=>by rfl) (fun _ h=>by exact h)
def ZGt:Ty:=.st [.int .i64,.int .i64,.int .i64,ZGq,ZGq,.int .i64,.int .i64]
def ZMr(x:Job):Prop:=FitT x.id/\FitT x.prio/\FitT x.nodes/\Zho x.need/\Zho x.lic/\FitT x.wall/\FitT x.level/\True
theorem Zwv:Z92 ZGt (fun x:Job=>(eJob x).cells) ZMr:=ZN.st (ZN.cons (Z92.int .i64) (ZN.cons (Z92.int .i64) (ZN.cons (Z92.int .i64) (ZN.cons Zrs (ZN.cons Zrs (ZN.cons (Z92.int .i64) (ZN.cons (Z92.int .i64) ZN.nil))))))) (fun p=>⟨p.1,p.2.1,p.2.2.1,p.2.2.2.1,p.2.2.2.2.1,p.2.2.2.2.2.1,p.2.2.2.2.2.2.1⟩) (fun _=>by rfl) (fun _ h=>by exact h)
def ZFu:Ty:=.st [ZGt,.int .i64,.sl (.int .i64)]
def ZKr(x:Run):Prop:=ZMr x.job/\FitT x.t/\(FitL FitT) x.nodes/\True
theorem ofRun:Z92 ZFu (fun x:Run=>(Za .rd x).cells) ZKr:=ZN.st (ZN.cons Zwv (ZN.cons (Z92.int .i64) (ZN.cons (Z92.sl (Z92.int .i64) eI (fun _=>rfl) rfl) ZN.nil))) (fun p=>⟨p.1,p.2.1,p.2.2.1⟩) (fun _=>by rfl) (fun _ h=>by exact h)
def ZGu:Ty:=.st [.int .i64,.int .i64,.int .i64]
def Zpt(x:End):Prop:=FitT x.id/\FitT x.t/\FitT x.why/\True
theorem ofEnd:Z92 ZGu (fun x:End=>(eEnd x).cells) Zpt:=ZN.st (ZN.cons (Z92.int .i64) (ZN.cons (Z92.int .i64) (ZN.cons (Z92.int .i64) ZN.nil))) (fun p=>⟨p.1,p.2.1,p.2.2.1⟩) (fun _=>by rfl) (fun _ h=>by exact h)
def ZCl:Ty:=.st [Z0t,.sl .bool,ZGq,.int .i64,.int .i64,.sl ZGt,.sl ZFu,.sl ZGu]
def ZHe(x:State):Prop:=ZJr x.topo/\(FitL FitT) x.up/\Zho x.lic/\FitT x.depth/\FitT x.now/\(FitL ZMr) x.queue/\(FitL ZKr) x.runs/\(FitL Zpt) x.ends/\True
theorem Z5u:Z92 ZCl (fun x:State=>(Zn .rd x).cells) ZHe:=ZN.st (ZN.cons Zuv (ZN.cons (Z92.sl Z92.bool eBo (fun _=>rfl) rfl) (ZN.cons Zrs (ZN.cons (Z92.int .i64) (ZN.cons (Z92.int .i64) (ZN.cons (Z92.sl Zwv eJob (fun _=>rfl) rfl) (ZN.cons (Z92.sl ofRun (Za .rd) (fun _=>rfl) rfl) (ZN.cons (Z92.sl ofEnd eEnd (fun _=>rfl) rfl) ZN.nil)))))))) (fun p=>⟨p.1,p.2.1,p.2.2.1,p.2.2.2.1,p.2.2.2.2.1,p.2.2.2.2.2.1,p.2.2.2.2.2.2.1,p.2.2.2.2.2.2.2.1⟩) (fun _=>by rfl) (fun _ h=>by exact h)
section
variable{α:Type}
theorem Zis{a ys:List α}{i:Nat}{x:α}(hx:a[i]?=some x)(hl:ys.length=a.length)(h:ys.take i=a.take i):(ys.set i x).take (i+1)=a.take (i+1):=by
 have hi:=(yB hx).1
 apply List.ext_getElem?
 intro j
 by_cases hj:j<i+1
 .rw[List.getElem?_take_of_lt hj,List.getElem?_take_of_lt hj,List.getElem?_set]
  by_cases e:i=j
  .subst e;rw[yd rfl,yd (by omega),hx]
  .rw[ye e]
   have:=congrArg (fun l:List α=>l[j]?) h
   rwa [List.getElem?_take_of_lt (by omega),List.getElem?_take_of_lt (by omega)]at this
 .rw[List.getElem?_eq_none (by simp;omega),List.getElem?_eq_none (by simp;omega)]
theorem Z0d{bd:Int×List α->(Int×List α->Option (List α))->Option (List α)}{a:List α}(hm:a.length<9223372036854775807)
  (h1:∀(i:Nat) ys k x,a[i]?=some x->ys.length=a.length->bd ((i:Int),ys) k=k (((i+1:Nat):Int),ys.set i x)) (h2:∀ys k,bd ((a.length:Int),ys) k=some ys) {ys:List α} (hy:ys.length=a.length):whl bd 9223372036854775807 (0,ys)=some a:=by
 refine ZDd (fun _ o=>o=some a) (fun b=>a.length-b.1.toNat) (fun b=>∃i:Nat,b.1=(i:Int)/\i<=a.length/\b.2.length=a.length/\b.2.take i=a.take i) ?_ 9223372036854775807 (0,ys) ⟨0,rfl,Nat.zero_le _,hy,rfl⟩ (by simp only;omega)
 rintro⟨n,zs⟩ k ⟨i,hi,hle,hz,ht⟩ hk
 simp only at hi hz ht hk
 subst hi
 by_cases h:i<a.length
 .rw[h1 i zs k a[i] (yA h) hz]
  exact hk _ ⟨i+1,rfl,h,by simp[hz],Zis (yA h) hz ht⟩ (by simp only;omega)
 .have:i=a.length:=by omega
  subst this
  rw[h2]
  rw[List.take_length,← hz,List.take_length]at ht
  rw[ht]
theorem Ztf{bs:Nat}{n:Nat}{z:α}(h:bs*n<=140737488355328)(h':n<=9223372036854775807):mkL bs (n:Int) z=some (List.replicate n z):=by
 unfold mkL
 have e:(bs:Int)*(n:Int)=((bs*n:Nat):Int):=by rw[Int.natCast_mul]
 rw[yd ⟨by omega,by omega,by omega⟩]
 simp
theorem Zsl{bd:Int->(Int->Option Bool)->Option Bool}{n:Nat}(hm:n<9223372036854775807)(h1:∀(i:Nat) k,i<n->bd (i:Int) k=k ((i+1:Nat):Int))(h2:∀k,bd (n:Int) k=some true):whl bd 9223372036854775807 0=some true:=by
 refine ZDd (fun _ o=>o=some true) (fun b=>n-b.toNat) (fun b=>∃i:Nat,b=(i:Int)/\i<=n) ?_ 9223372036854775807 0 ⟨0,rfl,Nat.zero_le _⟩ (by omega)
 rintro _ k ⟨i,rfl,hle⟩ hk
 by_cases h:i<n
 .rw[h1 i k h]
  exact hk _ ⟨i+1,rfl,h⟩ (by omega)
 .have:i=n:=by omega
  subst this
  exact h2 k
theorem Zla{n:Nat}:¬ ((n:Int)<(n:Int)):=by omega
end
theorem Zfd{l:List Int}(h:l.length<=1048576):ZS5 l=some l:=by
 unfold ZS5
 rw[Ztf (by omega) (by omega),bS]
 refine Z0d (by omega) (fun i ys k x hx hl=>?_) (fun ys k=>?_) (by simp)
 .have hi:=(yB hx).1
  have hlt:(i:Int)<(l.length:Int):=by omega
  obtain⟨y,hy⟩:∃y,ys[i]?=some y:=⟨_,yA (by omega)⟩
  simp only[Ze5,hlt,decide_true,yN,Zq,hx,hy,bS,Zj2 (n:=i) (by omega),yZ]
 .simp only[Ze5,Zla,decide_false,yM]
theorem Zai{l:List Node}(h:l.length<=1048576):ZM6 l=some l:=by
 unfold ZM6
 rw[Ztf (by omega) (by omega),bS]
 refine Z0d (by omega) (fun i ys k x hx hl=>?_) (fun ys k=>?_) (by simp)
 .have hi:=(yB hx).1
  have hlt:(i:Int)<(l.length:Int):=by omega
  obtain⟨y,hy⟩:∃y,ys[i]?=some y:=⟨_,yA (by omega)⟩
  simp only[Zi4,hlt,decide_true,yN,Zq,hx,hy,bS,Zj2 (n:=i) (by omega),yZ]
  rfl
 .simp only[Zi4,Zla,decide_false,yM]
theorem Zei{l:List Bool}(h:l.length<=1048576):ZN6 l=some l:=by
 unfold ZN6
 rw[Ztf (by omega) (by omega),bS]
 refine Z0d (by omega) (fun i ys k x hx hl=>?_) (fun ys k=>?_) (by simp)
 .have hi:=(yB hx).1
  have hlt:(i:Int)<(l.length:Int):=by omega
  obtain⟨y,hy⟩:∃y,ys[i]?=some y:=⟨_,yA (by omega)⟩
  simp only[Zj4,hlt,decide_true,yN,Zq,hx,hy,bS,Zj2 (n:=i) (by omega),yZ]
 .simp only[Zj4,Zla,decide_false,yM]
theorem ZTj{l:List Job}(h:l.length<=1048576):Zo8 l=some l:=by
 unfold Zo8
 rw[Ztf (by omega) (by omega),bS]
 refine Z0d (by omega) (fun i ys k x hx hl=>?_) (fun ys k=>?_) (by simp)
 .have hi:=(yB hx).1
  have hlt:(i:Int)<(l.length:Int):=by omega
  obtain⟨y,hy⟩:∃y,ys[i]?=some y:=⟨_,yA (by omega)⟩
  simp only[Zd5,hlt,decide_true,yN,Zq,hx,hy,bS,Zj2 (n:=i) (by omega),yZ]
  rfl
 .simp only[Zd5,Zla,decide_false,yM]
theorem ZVj{l:List End}(h:l.length<=1048576):Zp8 l=some l:=by
 unfold Zp8
 rw[Ztf (by omega) (by omega),bS]
 refine Z0d (by omega) (fun i ys k x hx hl=>?_) (fun ys k=>?_) (by simp)
 .have hi:=(yB hx).1
  have hlt:(i:Int)<(l.length:Int):=by omega
  obtain⟨y,hy⟩:∃y,ys[i]?=some y:=⟨_,yA (by omega)⟩
  simp only[Zf5,hlt,decide_true,yN,Zq,hx,hy,bS,Zj2 (n:=i) (by omega),yZ]
  rfl
 .simp only[Zf5,Zla,decide_false,yM]
theorem ZOj{t:Topo}(h1:t.parents.length<=1048576)(h2:t.nodes.length<=1048576):Zl8 t=some t:=by
 unfold Zl8
 rw[Zfd h1,bS,Zai h2,bS]
theorem Zhm{x:Run}(h:x.nodes.length<=1048576):Z8a x=some x:=by
 unfold Z8a
 rw[Zfd h,bS]
 rfl
theorem ZQj{l:List Run}(h:l.length<=1048576)(hn:∀x∈l,x.nodes.length<=1048576):Zn8 l=some l:=by
 unfold Zn8
 rw[Ztf (by omega) (by omega),bS]
 refine Z0d (by omega) (fun i ys k x hx hl=>?_) (fun ys k=>?_) (by simp)
 .have hi:=(yB hx).1
  have hlt:(i:Int)<(l.length:Int):=by omega
  obtain⟨y,hy⟩:∃y,ys[i]?=some y:=⟨_,yA (by omega)⟩
  simp only[Zc5,hlt,decide_true,yN,Zq,hx,hy,bS,Zj2 (n:=i) (by omega),yZ,Zhm (hn x (yE hx))]
 .simp only[Zc5,Zla,decide_false,yM]
structure SizedS(s:State):Prop where
 parents:s.topo.parents.length<=1048576
 nodes:s.topo.nodes.length<=1048576
 up:s.up.length<=1048576
 jobs:s.queue.length+s.runs.length<=1048576
 run:∀x∈s.runs,x.nodes.length<=1048576
 ends:s.ends.length<=1048576
theorem Z8i{s:State}(h:SizedS s):Zd3 s=some s:=by
 have:=h.jobs
 unfold Zd3
 rw[ZOj h.parents h.nodes,bS,Zei h.up,bS,ZTj (by omega),bS,ZQj (by omega) h.run,bS,ZVj h.ends,bS]
 rfl
theorem ZA6{α:Type}[BEq α][LawfulBEq α](a:α):(a != a)=false:=by simp
theorem Zs8(v:Vec):ZZ1 v v=true:=by simp[ZZ1]
theorem ZRg(v:Node):ZW5 v v=true:=by simp[ZW5,Zs8]
theorem Z2c(v:Job):ZX5 v v=true:=by simp[ZX5,Zs8]
theorem Zpi(v:End):Z18 v v=true:=by simp[Z18]
theorem Zlb{l:List Int}(h:l.length<=1048576):ZY5 l l=some true:=by
 unfold ZY5
 rw[ZA6,yM]
 refine Zsl (n:=l.length) (by omega) (fun i k hi=>?_) (fun k=>?_)
 .have hlt:(i:Int)<(l.length:Int):=by omega
  obtain⟨x,hx⟩:∃x,l[i]?=some x:=⟨_,yA hi⟩
  simp only[Zi5,hlt,decide_true,yN,Zq,hx,bS,Zj2 (n:=i) (by omega),ZA6,yM]
 .simp only[Zi5,Zla,decide_false,yM]
theorem Zxf{l:List Node}(h:l.length<=1048576):ZP6 l l=some true:=by
 unfold ZP6
 rw[ZA6,yM]
 refine Zsl (n:=l.length) (by omega) (fun i k hi=>?_) (fun k=>?_)
 .have hlt:(i:Int)<(l.length:Int):=by omega
  obtain⟨x,hx⟩:∃x,l[i]?=some x:=⟨_,yA hi⟩
  simp only[Zk4,hlt,decide_true,yN,Zq,hx,bS,Zj2 (n:=i) (by omega),ZRg,yL,yM]
 .simp only[Zk4,Zla,decide_false,yM]
theorem Zyf{l:List Bool}(h:l.length<=1048576):ZQ6 l l=some true:=by
 unfold ZQ6
 rw[ZA6,yM]
 refine Zsl (n:=l.length) (by omega) (fun i k hi=>?_) (fun k=>?_)
 .have hlt:(i:Int)<(l.length:Int):=by omega
  obtain⟨x,hx⟩:∃x,l[i]?=some x:=⟨_,yA hi⟩
  simp only[Zl4,hlt,decide_true,yN,Zq,hx,bS,Zj2 (n:=i) (by omega),beq_self_eq_true,yL,yM]
 .simp only[Zl4,Zla,decide_false,yM]
theorem ZTg{l:List Job}(h:l.length<=1048576):Zv8 l l=some true:=by
 unfold Zv8
 rw[ZA6,yM]
 refine Zsl (n:=l.length) (by omega) (fun i k hi=>?_) (fun k=>?_)
 .have hlt:(i:Int)<(l.length:Int):=by omega
  obtain⟨x,hx⟩:∃x,l[i]?=some x:=⟨_,yA hi⟩
  simp only[Zh5,hlt,decide_true,yN,Zq,hx,bS,Zj2 (n:=i) (by omega),Z2c,yL,yM]
 .simp only[Zh5,Zla,decide_false,yM]
theorem ZUg{l:List End}(h:l.length<=1048576):Zw8 l l=some true:=by
 unfold Zw8
 rw[ZA6,yM]
 refine Zsl (n:=l.length) (by omega) (fun i k hi=>?_) (fun k=>?_)
 .have hlt:(i:Int)<(l.length:Int):=by omega
  obtain⟨x,hx⟩:∃x,l[i]?=some x:=⟨_,yA hi⟩
  simp only[Zj5,hlt,decide_true,yN,Zq,hx,bS,Zj2 (n:=i) (by omega),Zpi,yL,yM]
 .simp only[Zj5,Zla,decide_false,yM]
theorem ZPg{t:Topo}(h1:t.parents.length<=1048576)(h2:t.nodes.length<=1048576):Zt8 t t=some true:=by
 unfold Zt8
 rw[Zlb h1,bS,Zxf h2]
 rfl
theorem Zmi{x:Run}(h:x.nodes.length<=1048576):Zaa x x=some true:=by
 unfold Zaa
 rw[Z2c,Zlb h,ZA6]
 rfl
theorem ZQg{l:List Run}(h:l.length<=1048576)(hn:∀x∈l,x.nodes.length<=1048576):Zu8 l l=some true:=by
 unfold Zu8
 rw[ZA6,yM]
 refine Zsl (n:=l.length) (by omega) (fun i k hi=>?_) (fun k=>?_)
 .have hlt:(i:Int)<(l.length:Int):=by omega
  obtain⟨x,hx⟩:∃x,l[i]?=some x:=⟨_,yA hi⟩
  simp only[Zg5,hlt,decide_true,yN,Zq,hx,bS,Zj2 (n:=i) (by omega),Zmi (hn x (yE hx)),yL,yM]
 .simp only[Zg5,Zla,decide_false,yM]
theorem Zwf{s:State}(h:SizedS s):ZO6 s s=some true:=by
 have:=h.jobs
 unfold ZO6
 rw[ZPg h.parents h.nodes,Zyf h.up,Zs8,ZA6,ZA6,ZTg (by omega),ZQg (by omega) h.run,ZUg h.ends]
 rfl
theorem Z6q{n:Int}{c:Nat}(h0:0<=n)(h:n<=1048576)(hc:c<=maxLen):(bif decide (w64 (n-(c:Int))<0)then(-1:Int)else w64 (n-(c:Int)))=szr n c:=by
 have hm:maxLen=9223372036854775807:=rfl
 rw[ZV1 (by omega)]
 unfold szr
 by_cases q:n<c
 .rw[yd q,show decide (n-(c:Int)<0)=true by rw[yO];omega];rfl
 .rw[ye q,show decide (n-(c:Int)<0)=false by rw[decide_eq_false_iff_not];omega];rfl
theorem ZEd{n:Int}{c:Nat}:(szr n c<0)\/(0<=szr n c/\(c:Int)<=n/\szr n c=n-c):=by
 unfold szr;split
 .exact .inl (by omega)
 .exact .inr (by omega)
theorem Zfs{x:Run}{n:Int}(h0:0<=n)(h:n<=1048576)(hc:x.nodes.length<=maxLen):ZT5 x n=szr n x.nodes.length:=by
 unfold ZT5 ZU
 rw[Z6q h0 h hc]
 rcases ZEd (n:=n) (c:=x.nodes.length)with q|q
 .have:szr n x.nodes.length = -1:=by unfold szr at q ⊢;split<;>omega
  rw[this];rfl
 .have:decide (szr n x.nodes.length<0)=false:=by simp;omega
  rw[this];rfl
theorem ZMq{l:List Run}{n:Int}(h0:0<=n)(h:n<=1048576)(hc:FitL ZKr l):∃r,Zr8 l n=some r/\r<=n/\(0<=r->(l.length:Int)+r<=n/\∀x∈l,x.nodes.length<=1048576):=by
 have hm:maxLen=9223372036854775807:=rfl
 obtain⟨c1,c2⟩:=hc
 unfold Zr8
 rw[ZV1 (by omega)]
 by_cases q:n-(l.length:Int)<0
 .exact⟨-1,by simp[q],by omega,fun h=>by omega⟩
 .simp only[q,decide_false,yM]
  refine ZDd (fun _ o=>∃r,o=some r/\r<=n/\(0<=r->(l.length:Int)+r<=n/\∀x∈l,x.nodes.length<=1048576)) (fun b=>l.length-b.2.toNat) (fun b=>∃i:Nat,b.2=(i:Int)/\i<=l.length/\0<=b.1/\(l.length:Int)+b.1<=n/\∀j x,j<i->l[j]?=some x->x.nodes.length<=1048576) ?_ 9223372036854775807 (n-(l.length:Int),0) ⟨0,rfl,Nat.zero_le _,by simp only;omega,by simp only;omega,fun j x hj=>by omega⟩ (by simp only;omega)
  rintro⟨m,_⟩ k ⟨i,rfl,hi,hm0,hmn,hall⟩ hk
  simp only at hm0 hmn hk
  unfold Zq8
  by_cases hlt:i<l.length
  .have hlt':(i:Int)<(l.length:Int):=by omega
   have hx:l[i]?=some l[i]:=yA hlt
   simp only[hlt',decide_true,yN,Zq,hx,bS,Zj2 (n:=i) (by omega)]
   rw[Zfs hm0 (by omega) (c2 _ (List.getElem_mem hlt)).2.2.1.1]
   rcases ZEd (n:=m) (c:=l[i].nodes.length)with q|q
   .simp only[q,decide_true,yN]
    exact⟨-1,rfl,by omega,fun h=>by omega⟩
   .have:¬ szr m l[i].nodes.length<0:=by omega
    simp only[this,decide_false,yM]
    refine hk _ ⟨i+1,rfl,hlt,q.1,by simp only;omega,fun j x hj hx'=>?_⟩ (by simp only;omega)
    by_cases e:j=i
    .subst e;rw[hx]at hx';cases hx';omega
    .exact hall j x (by omega) hx'
  .have:i=l.length:=by omega
   subst this
   simp only[Zla,decide_false,yM]
   exact⟨m,rfl,by omega,fun _=>⟨hmn,fun x hx=>by
    obtain⟨j,hj⟩:=List.getElem?_of_mem hx
    exact hall j x (yB hj).1 hj⟩⟩
theorem ZXj{s:State}(hf:ZHe s){n:Int}(hn0:0<=n)(hn:n<=1048576):∃r,ZL4 s n=some r/\(r<0\/(SizedS s/\r<=n)):=by
 obtain⟨⟨p1,p2,_⟩,p3,_,_,_,p4,p5,p6,_⟩:=hf
 have no:∀{c:Prop} [Decidable c],c->(decide c)=true:=fun h=>by simp[h]
 have nn:∀{c:Prop} [Decidable c],¬ c->(decide c)=false:=fun h=>by simp[h]
 have bad:∃r,(some (-1):Option Int)=some r/\(r<0\/(SizedS s/\r<=n)):=⟨-1,rfl,.inl (by omega)⟩
 unfold ZL4
 have e1:ZU s.topo.parents n=szr n s.topo.parents.length:=Z6q hn0 hn p1.1
 have et:Zc1 s.topo n<0\/(s.topo.parents.length<=1048576/\s.topo.nodes.length<=1048576/\0<=Zc1 s.topo n/\Zc1 s.topo n<=n):=by
  unfold Zc1
  rw[e1]
  rcases ZEd (n:=n) (c:=s.topo.parents.length)with q|q
  .rw[no q,yN];exact .inl (by omega)
  .rw[nn (by omega),yM]
   have e2:ZC2 s.topo.nodes (szr n s.topo.parents.length)=szr (szr n s.topo.parents.length) s.topo.nodes.length:=Z6q q.1 (by omega) p2.1
   rw[e2]
   rcases ZEd (n:=szr n s.topo.parents.length) (c:=s.topo.nodes.length)with q'|q'
   .rw[no q',yN];exact .inl (by omega)
   .rw[nn (by omega),yM]
    exact .inr (by omega)
 generalize Zc1 s.topo n=m0 at et ⊢
 rcases et with q|q
 .rw[no q,yN];exact bad
 rw[nn (by omega),yM]
 have e3:ZD2 s.up m0=szr m0 s.up.length:=Z6q (by omega) (by omega) p3.1
 rw[e3]
 rcases ZEd (n:=m0) (c:=s.up.length)with r|r
 .rw[no r,yN];exact bad
 rw[nn (by omega),yM]
 generalize szr m0 s.up.length=m1 at r ⊢
 have e4:ZU5 s.queue m1=szr m1 s.queue.length:=Z6q (by omega) (by omega) p4.1
 rw[e4]
 rcases ZEd (n:=m1) (c:=s.queue.length)with t|t
 .rw[no t,yN];exact bad
 rw[nn (by omega),yM]
 generalize szr m1 s.queue.length=m2 at t ⊢
 obtain⟨m3,e5,u1,u2⟩:=ZMq (n:=m2) (by omega) (by omega) p5
 rw[e5,bS]
 by_cases u:m3<0
 .rw[no u,yN];exact bad
 rw[nn u,yM]
 have u':=u2 (by omega)
 have e6:ZV5 s.ends m3=szr m3 s.ends.length:=Z6q (by omega) (by omega) p6.1
 rw[e6]
 rcases ZEd (n:=m3) (c:=s.ends.length)with v|v
 .rw[no v,yN];exact bad
 rw[nn (by omega),yM]
 exact⟨_,rfl,.inr ⟨⟨q.1,q.2.1,by omega,by omega,u'.2,by omega⟩,by omega⟩⟩
theorem Zgi{s:State}(hf:ZHe s):∃r,ZL4 s 1048576=some r/\(r<0\/SizedS s):=by
 obtain⟨r,h1,h2⟩:=ZXj hf (n:=1048576) (by omega) (by omega)
 exact⟨r,h1,h2.imp id And.left⟩
end
def ZCa:L :=
sR [.bx 1 (.t 0),.mv 2 (cB false)]
 (.seq (rE 3 (kI 1048576))
 (sR [lD 7 1 11 true,mV 8 3,cQ 9 Zvd [7,8],mV 3 9]
 (.seq (sR [mV 10 3,.bi 11 .lss (.t 10) (kI 0)]
 (.cond (.t 11) (.seq (rE 2 (cB true))
 gR)
 .skip))
 (sR [lD 12 1 11 true,cQ 13 ZF6 [12],cQ 14 Zxc [13],mV 4 14]
 (sR [lD 15 1 11 true,cQ 16 ZF6 [15],.al 5 [.nl,.nl,.nl,.int .i64 0,.int .i64 0,.int .i64 0,.int .i64 0,.int .i64 0,.nl,.nl,.nl],.st (.t 5) (.t 16) 11]
 (sR [lD 17 5 11 true,cQ 18 ZIc [17],mV 6 18]
 (.seq (sR [mV 19 6,mV 20 4,bI 21 .neq 19 20]
 (.cond (.t 21) (.seq (rE 2 (cB false))
 gR)
 .skip))
 (.seq (.seq (.rq 5 [lD 22 5 11 true,lD 23 1 11 true,cQ 24 ZF6 [23],cQ 25 Zwd [22,24],.un 26 (.t 25)])
 (.cond (.t 26) (.seq (rE 2 (cB false))
 gR)
 .skip))
 (.seq (rE 2 (cB true))
 gR)))))))))
def Zi2(aS1:State):Option Bool :=
 (ZL4 aS1 1048576).bind fun n2=>bif (decide (n2<0))then(some true)else((Zd3 aS1).bind fun y3=>(Z75 y3).bind fun n4=>(Zd3 aS1).bind fun y5=>(Zs5 y5).bind fun n6=>bif (n6 != n4)then(some false)else((Zd3 aS1).bind fun y7=>(ZO6 y5 y7).bind fun b8=>bif (!b8)then(some false)else(some true)))
theorem Zwa{aS1:State}{r:Bool}(H:Zi2 aS1=some r):Snd Tryz.prog ZV2 [Zn .rd aS1] (.bool r) []:=by
 refine wS ZCa [.t 2] ?_
 unfold Zi2 at H
 obtain⟨n2,h2,H⟩:=bB H
 refine wG [.c 9 (Zfi h2)] fun _=>?_
 refine Z3 H (fun H=>?_) fun H=>?_
 .refine wP ?_
  replace H:=sI H;subst H
  exact wE [(2,.d)]
 .obtain⟨y3,h3,H⟩:=bB H
  obtain⟨n4,h4,H⟩:=bB H
  obtain⟨y5,h5,H⟩:=bB H
  obtain⟨n6,h6,H⟩:=bB H
  refine wG [.c 13 (Zm8 h3),.u 14 (.call _ _ _ _ _ (AEs.of (xs:=[.agg [.sl .rd 1 (y3.topo.parents.map eI),.sl .rd 4 (y3.topo.nodes.map Zf),.sl .rd 1 (y3.up.map eBo),.int .i64 y3.lic.a,.int .i64 y3.lic.b,.int .i64 y3.lic.c,.int .i64 y3.depth,.int .i64 y3.now,.sl .rd 11 (y3.queue.map eJob),.sl .rd 13 (y3.runs.map (Za .nw)),.sl .rd 3 (y3.ends.map eEnd)]]) (by simp)) (fun _=>ZGg h4)),.c 16 (Zm8 h5),.u 18 (.call _ _ _ _ _ (AEs.of (xs:=[.agg [.sl .rd 1 (y5.topo.parents.map eI),.sl .rd 4 (y5.topo.nodes.map Zf),.sl .rd 1 (y5.up.map eBo),.int .i64 y5.lic.a,.int .i64 y5.lic.b,.int .i64 y5.lic.c,.int .i64 y5.depth,.int .i64 y5.now,.sl .rd 11 (y5.queue.map eJob),.sl .rd 13 (y5.runs.map (Za .nw)),.sl .rd 3 (y5.ends.map eEnd)]]) (by simp)) (fun _=>Znh h6))] fun _=>?_
  refine Z3 H (fun H=>?_) fun H=>?_
  .refine wP ?_
   replace H:=sI H;subst H
   exact wE [(2,.d)]
  .obtain⟨y7,h7,H⟩:=bB H
   obtain⟨b8,h8,H⟩:=bB H
   refine wG [.c 24 (Zm8 h7),.u 25 (.call _ _ _ _ _ (AEs.of (xs:=[.agg [.sl .rd 1 (y5.topo.parents.map eI),.sl .rd 4 (y5.topo.nodes.map Zf),.sl .rd 1 (y5.up.map eBo),.int .i64 y5.lic.a,.int .i64 y5.lic.b,.int .i64 y5.lic.c,.int .i64 y5.depth,.int .i64 y5.now,.sl .rd 11 (y5.queue.map eJob),.sl .rd 13 (y5.runs.map (Za .nw)),.sl .rd 3 (y5.ends.map eEnd)],.agg [.sl .rd 1 (y7.topo.parents.map eI),.sl .rd 4 (y7.topo.nodes.map Zf),.sl .rd 1 (y7.up.map eBo),.int .i64 y7.lic.a,.int .i64 y7.lic.b,.int .i64 y7.lic.c,.int .i64 y7.depth,.int .i64 y7.now,.sl .rd 11 (y7.queue.map eJob),.sl .rd 13 (y7.runs.map (Za .nw)),.sl .rd 3 (y7.ends.map eEnd)]]) (by simp)) (fun _=>Zli h8))] fun _=>?_
   refine Z3 H (fun H=>?_) fun H=>?_
   .refine wP ?_
    replace H:=sI H;subst H
    exact wE [(2,.d)]
   .refine wP ?_
    replace H:=sI H;subst H
    exact wE [(2,.d)]
theorem Zbs{a:AV}(h:ZCl.okV a):∃s,AE a (Zn .rd s)/\ZHe s:=Z92.okV_st Z5u h
theorem Z3g{s:State}(hf:ZHe s):Zi2 s=some true:=by
 unfold Zi2
 obtain⟨r,h1,h2⟩:=Zgi hf
 rw[h1,bS]
 by_cases hr:r<0
 .simp[hr]
 have hS:SizedS s:=h2.resolve_left hr
 obtain⟨n,q1,q2⟩:=Z1p hS.jobs
 simp only[hr,decide_false,yM,Z8i hS,bS,q1,q2,bne_self_eq_false,Zwf hS,yL]
theorem ZSe(xs:List AV)(h:okVs [ZCl] xs):Snd Tryz.prog ZV2 xs (.bool true) []:=by
 obtain⟨a,_,rfl,ha,rfl⟩:=h
 obtain⟨s,ha,hf⟩:=Zbs ha
 exact(Zwa (Z3g hf)).wkS (.cons ha .nil)
end Go.Proofs.YtodafdoninblmaaGreat
