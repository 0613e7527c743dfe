/-
  Lemmas, part 13.
-/
import Derived.Test.YtehomnafaoplgaaGreatZ12
namespace Go.Proofs.YtehomnafaoplgaaGreat
open Go Go.RowKit Eng
section
def MR(s1:Str)(v2:Int)(k2:Int->Option Bool):Option Bool :=
 bif decide (v2<(s1.length:Int))then((idx s1 v2).bind λc3=>bif (c3.toNat:Int)==10 then(some false)else(k2 (w64 (v2+1))))else(some (decide (1<=(s1.length:Int))&&decide ((s1.length:Int)<=200)))
def VM(s1:Str):Option Bool :=
 whl (MR s1) 9223372036854775807 0
theorem Q14{s1:Str}{r:Bool}(H:VM s1=some r):SQ O0y [.str s1] (.bool r):=by
 refine wa [.t 2] (wP (wW (λ(v2:Int)=>⟨[(0,.str s1),(3,iV v2)],[],[],[]⟩) H (λv2 I m k2 H N18=>?_)))
 refine wP (X0 H (λH=>?_) λH=>sI H▸wV)
 exact bC H λc3 h3 H=>wH [.u 12 (.sx _ _ _ λ_=>h3)] (X0 H (λH=>sI H▸wV) λH=>wP (wT (N18 _ H)))
def YD(n1:Int)(s2:Str):Option Str :=
 (Y6 n1).bind λw3=>(catS w3 ([32]:Str)).bind λw4=>(catS w4 s2).bind λw5=>(catS w5 ([10]:Str)).bind λw6=>some w6
theorem X0U{n1:Int}{s2 r:Str}(H:YD n1 s2=some r):SQ X0o [iV n1,.str s2] (.str r):=by
 exact wa [.t 4] (bC3 H λw3 h3 w4 h4 w5 h5 H=>bC H λw6 h6 H=>wH [.c 6 (W5 h3),.u 7 (.sa _ _ _ λ_=>h4),.u 9 (.sa _ _ _ λ_=>h5),.u 10 (.sa _ _ _ λ_=>h6)] (sI H▸wD))
def Of(b1:tI)(v3:Int)(k3:Int->Option Int):Option Int :=
 bif decide (v3<(b1.length:Int))then((idx b1 v3).bind λe5=>bif e5==10 then(some (w64 (v3+1)))else(k3 (w64 (v3+1))))else(some (-1))
def L09(b1:tI)(at2:Int):Option Int :=
 whl (Of b1) 9223372036854775807 at2
theorem W1b{b1:tI}{at2 r:Int}(H:L09 b1 at2=some r):SQ M0E [zrc b1,iV at2] (iV r):=by
 refine wa [.t 4] (wP (wW (λ(v3:Int)=>⟨[(0,zrc b1),(5,iV v3)],[],[],[]⟩) H (λv3 I m k3 H N18=>?_)))
 refine wG [.l 9 b1 eB] λq4=>X0 H (λH=>?_) λH=>sI H▸wV
 exact bC H λe5 h5 H=>wH [.x 15 eB h5] (X0 H (λH=>sI H▸wV) λH=>wP (wT (N18 _ H)))
noncomputable def O0J:L :=
 lf Tryz.prog M0b [9] [] [] [] [(8,15)] [] []
def Yo(b1:tI)(v2:Int×tT)(k2:(Int×tT)->Option (tT×Int)):Option (tT×Int) :=
 (L09 b1 v2.1).bind λn3=>(Y6 (v2.2.length:Int)).bind λw4=>bif decide (n3<0)||decide ((w64 ((w64 (n3-1))-v2.1))<(w64 ((w4.length:Int)+1)))then(some (v2.2,v2.1))else((cutL b1 (some (w64 (v2.1+(w64 ((w4.length:Int)+1))))) (some (w64 (n3-1)))).bind λxs6=>(b2sQ xs6).bind λw7=>(VM w7).bind λb8=>(bif !b8 then some default else(YD (v2.2.length:Int) w7)).bind λw9=>(bif !b8 then some default else(cutL b1 (some v2.1) (some n3))).bind λxs10=>(bif !b8 then some default else(b2sQ xs10)).bind λw11=>bif (!b8)||(w9 != w11)then(some (v2.2,v2.1))else((appL 16 v2.2 [w7]).bind λxs12=>k2 (n3,xs12)))
def Mt(b1:tI):Option (tT×Int) :=
 whl (Yo b1) 9223372036854775807 (0,[])
theorem O05{b1:tI}{r:tT×Int}(H:Mt b1=some r):SQ M0b [zrc b1] (.tup [zfb r.1,iV r.2]):=by
 refine wS O0J [.t 2,.t 3] ?_
 refine wP ?_
 refine wW (λ(v2:Int×tT)=>⟨[(0,zrc b1),(4,.sref 9),(5,iV v2.1)],[],[],[(9,zwb v2.2)]⟩) H (λv2 I m k2 H N29=>?_)
 obtain⟨n3,h3,w4,h4,H⟩:=bB2 H
 refine wG [.c 12 (W1b h3),.l 14 v2.2 eS,.c 15 (W5 h4)] λq5=>?_
 refine X0 H (λH=>sI H▸wP (wN [(2,.f),(3,.d)] [] [] [9] [] [znb v2.2])) λH=>?_
 obtain⟨xs6,h6,w7,h7,b8,h8,H⟩:=bB3 H
 obtain⟨w9,h9,xs10,h10,w11,h11,H⟩:=bB3 H
 refine wH [.u 36 (.sc _ _ _ _ λ_=>Ut eB h6),.u 37 (.b2s _ _ λ_=>W0b h7),.c 39 (Q14 h8),.g 43 [((!b8),false)] (.le _ _ (λ_=>lm v2.2 eS) (λ_=>q5.1)),.d 45 [(_,false)] λq=>X0U (bF q.1 h9),.g 49 [(_,false)] (.sc _ _ _ _ λq=>Ut eB (bF q.1 h10)),.g 50 [(_,false)] (.b2s _ _ λq=>W0b (bF q.1 h11))] ?_
 refine X0 H (λH=>sI H▸wP (wN [(2,.f),(3,.d)] [] [] [9] [] [znb v2.2])) λH=>?_
 obtain⟨xs12,h12,H⟩:=bB H
 exact wH [.p 58 eS h12] (wT (N29 _ H))
def MD(j1:Journal):Option Bool :=
 bif (decide (40000<(j1.bytes.length:Int))||decide (j1.synced<0))||decide ((j1.bytes.length:Int)<j1.synced)then(some false)else((Mt j1.bytes).bind λy3=>some ((y3.2==(j1.bytes.length:Int))&&((y3.1.length:Int)==j1.count)))
theorem V0V{j1:Journal}{r:Bool}(H:MD j1=some r):SQ M0o [MP .rd j1] (.bool r):=by
 exact wa [.t 2] (wG [.l 7 j1.bytes eB,.g 19 [((decide (40000<(j1.bytes.length:Int))||decide (j1.synced<0)),false)] (.ln _ _ λ_=>lm j1.bytes eB)] λq2=>X0 H (λH=>sI H▸wV) λH=>bC H λy3 h3 H=>wG [.c 25 (O05 h3),.l 31 j1.bytes eB,.g 35 [((y3.2==(j1.bytes.length:Int)),true)] (.ln _ _ λ_=>lm y3.1 eS)] λq4=>sI H▸wD)
noncomputable def M2K:L :=
 lf Tryz.prog O2I [16] [] [] [] [] [(3,[],[],[2,4,8,10,12,1,7],7)] []
def U2H(j1:Journal)(s2:Str):Option (Journal×Int) :=
 (MD j1).bind λb3=>(bif !b3 then some default else(VM s2)).bind λb4=>bif (!b3)||(!b4)then(some ((Journal.mk [] 0 0),1))else((appL 1 ([]:tI) j1.bytes).bind λxs5=>(YD j1.count s2).bind λw6=>(s2bQ w6).bind λbs7=>(appL 1 xs5 bs7).bind λxs8=>bif decide (40000<(xs8.length:Int))then(some ((Journal.mk [] 0 0),2))else(some ((Journal.mk xs8 j1.synced (w64 (j1.count+1))),0)))
theorem O2K{j1:Journal}{s2:Str}{r:Journal×Int}(H:U2H j1 s2=some r):SQ O2I [MP .rd j1,.str s2] (.tup [MP .nw r.1,iV r.2]):=by
 refine wS M2K [.c 4 3 true,.t 5] ?_
 obtain⟨b3,h3,b4,h4,H⟩:=bB2 H
 refine wH [.c 8 (V0V h3),.d 12 [(_,false)] λq=>Q14 (bF q.1 h4)] ?_
 refine X0 H (λH=>sI H▸wQ [(4,[.n 1,.d,.d])] [znc []]) λH=>?_
 obtain⟨xs5,h5,w6,h6,bs7,h7,H⟩:=bB3 H
 obtain⟨xs8,h8,H⟩:=bB H
 refine wG [.p 19 eB h5,.c 23 (X0U h6),.u 24 (.s2b _ _ (λ_=>Y2O h7) (λ_=>Q2N h7)),.p 25 eB h8,.l 27 xs8 eB] λq9=>?_
 refine X0 H (λH=>sI H▸wQ [(4,[.n 1,.d,.d])] [znc []]) λH=>?_
 exact sI H▸wY [(4,[.f,.d,.d])] [] [16] [] [znc xs8]
noncomputable def X2K:L :=
 lf Tryz.prog V2I [7] [] [] [] [] [(3,[],[],[2,4,8,10,12,14,16,1,7],9)] []
def Y2H(j1:Journal):Option Journal :=
 (MD j1).bind λb2=>bif !b2 then(some (Journal.mk [] 0 0))else((lenQ j1.bytes).bind λ_=>(appL 1 ([]:tI) j1.bytes).bind λxs4=>some (Journal.mk xs4 (j1.bytes.length:Int) j1.count))
theorem Y2K{j1 r:Journal}(H:Y2H j1=some r):SQ V2I [MP .rd j1] (MP .nw r):=by
 exact wS X2K [.c 2 3 true] (bC H λb2 h2 H=>wH [.c 4 (V0V h2)] (X0 H (λH=>sI H▸wQ [(2,[.n 1,.d,.d])] [znc []]) λH=>bC2 H λu3 h3 xs4 h4 H=>wH [.u 13 (.le _ _ (λ_=>lm j1.bytes eB) (λ_=>J0V h3)),.p 10 eB h4] (sI H▸wO [(2,[.f,.d,.d])] [] [7] [] [znc xs4])))
def V2H(b1:tI):Option tI :=
 (appL 1 ([]:tI) b1).bind λxs2=>some xs2
theorem W2I{b1:tI}{r:tI}(H:V2H b1=some r):SP V2J [zrc b1] (.sref 0) [zwc r]:=by
 exact wa [.t 2] (bC H λxs2 h2 H=>wH [.p 4 eB h2] (sI H▸wO [] [(4,some 4,0)] [] [some 4] [znc xs2]))
def M2H(j1:Journal):Option Journal :=
 (V2H j1.bytes).bind λy2=>some (Journal.mk y2 j1.synced j1.count)
theorem Q2K{j1 r:Journal}(H:M2H j1=some r):SP U2I [MP .rd j1] (.agg [.sref 0,iV r.synced,iV r.count]) [zwc r.bytes]:=by
 exact wd [(5,1)] [.c 2 3 true] (bC H λy2 h2 H=>wH [.c 5 (W2I h2)] (sI H▸wO [(2,[])] [(6000,some 6000,0)] [] [some 6000] [znc y2]))
def ZC(s1:Str):Option Bool :=
 (bif Z0 (s1.length:Int) 1 200 then(Z3 s1 10)else some default).bind λy2=>some ((Z0 (s1.length:Int) 1 200)&&((y2.length:Int)==1))
theorem Q18{s1:Str}{r:Bool}(H:ZC s1=some r):SQ V0A [.str s1] (.bool r):=by
 exact wa [.t 2] (bC H λy2 h2 H=>wH [.u 5 (.call _ _ _ _ _ (AEs.refl _) (λ_=>V1 (s1.length:Int) 1 200)),.d 8 [(_,true)] λq=>Vt (bT q.1 h2),.g 9 [((Z0 (s1.length:Int) 1 200),true)] (.ln _ _ λ_=>lm y2 eS)] (sI H▸wD))
noncomputable def Z0K:L :=
 lf Tryz.prog Z0c [10] [] [] [] [] [] [31]
def U8(v16:Int×tT):Option (tT×Int) :=
 some (v16.2,v16.1)
def Q6(b1:tI)(v2:Int×Int×tT)(k2:(Int×Int×tT)->Option (tT×Int))(v4:Int)(k4:Int->Option (tT×Int)):Option (tT×Int) :=
 (bif decide (v4<(b1.length:Int))then(idx b1 v4)else some default).bind λe5=>bif decide (v4<(b1.length:Int))&&(e5 != 10)then(k4 (w64 (v4+1)))else((V5 (v2.2.2.length:Int)).bind λw7=>(catS w7 ([32]:Str)).bind λw8=>(bif (v4==(b1.length:Int))||decide ((w64 (v4-v2.2.1))<(w8.length:Int))then some default else(cutL b1 (some v2.2.1) (some (w64 (v2.2.1+(w8.length:Int)))))).bind λxs9=>(bif (v4==(b1.length:Int))||decide ((w64 (v4-v2.2.1))<(w8.length:Int))then some default else(b2sQ xs9)).bind λw10=>bif ((v4==(b1.length:Int))||decide ((w64 (v4-v2.2.1))<(w8.length:Int)))||(w10 != w8)then(U8 (v2.1,v2.2.2))else((cutL b1 (some (w64 (v2.2.1+(w8.length:Int)))) (some v4)).bind λxs12=>(b2sQ xs12).bind λw13=>(ZC w13).bind λb14=>bif !b14 then(U8 (v2.1,v2.2.2))else((appL 16 v2.2.2 [w13]).bind λxs15=>k2 ((w64 (v4+1)),(w64 (v4+1)),xs15))))
def U6(b1:tI)(v2:Int×Int×tT)(k2:(Int×Int×tT)->Option (tT×Int)):Option (tT×Int) :=
 bif decide (v2.2.1<(b1.length:Int))then(whl (Q6 b1 v2 k2) 9223372036854775807 v2.2.1)else(U8 (v2.1,v2.2.2))
def Xu(b1:tI):Option (tT×Int) :=
 whl (U6 b1) 9223372036854775807 (0,0,[])
theorem Q08{b1:tI}{r:tT×Int}(H:Xu b1=some r):SQ Z0c [zrc b1] (.tup [zfb r.1,iV r.2]):=by
 refine wS Z0K [.t 2,.t 3] (wP (Xi (r:=r) U8 0 (λv16:Int×tT=>⟨[(4,.sref 10),(5,.int .i64 v16.1)],[],[],[(10,zwb v16.2)]⟩) (by kernel_rfl) (λv16 H=>?_) (λJ50=>?_)))
 .exact sI H▸wP (wN [(2,.f),(3,.d)] [] [] [10] [] [znb v16.2])
 .refine wW (λ(v2:Int×Int×tT)=>⟨[(0,zrc b1),(4,.sref 10),(5,iV v2.1),(6,iV v2.2.1)],[],[],[(10,zwb v2.2.2)]⟩) H (λv2 I m k2 H N45=>?_)
  refine wG [.l 13 b1 eB] λq3=>?_
  refine X0 H ?_ ?_<;>intro H
  .refine wP (wW (λ(v4:Int)=>⟨[(0,zrc b1),(4,.sref 10),(5,iV v2.1),(6,iV v2.2.1),(7,iV v4)],[],[],[(10,zwb v2.2.2)]⟩) H (λv4 I m k4 H N18=>?_))
   refine bC H λe5 h5 H=>wG [.l 18 b1 eB,.g 23 [(_,true)] (.ix _ _ _ λq=>Y0 eB (bT q.1 h5))] λq6=>?_
   refine X0 H ?_ ?_<;>intro H
   .exact wP (wT (N18 _ H))
   .refine bC3 H λw7 h7 w8 h8 xs9 h9 H=>bC H λw10 h10 H=>wG [.l 30 v2.2.2 eS,.c 31 (O4 h7),.u 32 (.sa _ _ _ λ_=>h8),.l 35 b1 eB,.g 52 [(_,false)] (.sc _ _ _ _ λq=>Ut eB (bF q.1 h9)),.g 53 [(_,false)] (.b2s _ _ λq=>W0b (bF q.1 h10))] λq11=>?_
    refine X0 H ?_ ?_<;>intro H
    .exact wP (wT (J50 _ H))
    .refine bC3 H λxs12 h12 w13 h13 b14 h14 H=>wH [.u 63 (.sc _ _ _ _ λ_=>Ut eB h12),.u 64 (.b2s _ _ λ_=>W0b h13),.c 66 (Q18 h14)] ?_
     refine X0 H ?_ ?_<;>intro H
     .exact wP (wT (J50 _ H))
     .exact bC H λxs15 h15 H=>wH [.p 71 eS h15] (wT (N45 _ H))
  .exact wP (wT (J50 _ H))
def ZF(j1:Journal):Option Bool :=
 bif decide (40000<(j1.bytes.length:Int))||(!(Z0 j1.synced 0 (j1.bytes.length:Int)))then(some false)else((Xu j1.bytes).bind λy3=>some ((y3.2==(j1.bytes.length:Int))&&((y3.1.length:Int)==j1.count)))
theorem U0Z{j1:Journal}{r:Bool}(H:ZF j1=some r):SQ O0p [MP .rd j1] (.bool r):=by
 exact wa [.t 2] (wG [.l 7 j1.bytes eB,.g 14 [((decide (40000<(j1.bytes.length:Int))),false)] (.ln _ _ λ_=>lm j1.bytes eB),.d 15 [((decide (40000<(j1.bytes.length:Int))),false)] λ_=>V1 j1.synced 0 (j1.bytes.length:Int)] λq2=>X0 H (λH=>sI H▸wV) λH=>bC H λy3 h3 H=>wG [.c 21 (Q08 h3),.l 27 j1.bytes eB,.g 31 [((y3.2==(j1.bytes.length:Int)),true)] (.ln _ _ λ_=>lm y3.1 eS)] λq4=>sI H▸wD)
def Z2K(j1:Journal)(s2:Str):Option (Journal×Int) :=
 (V5 j1.count).bind λw3=>(catS w3 ([32]:Str)).bind λw4=>(catS w4 s2).bind λw5=>(catS w5 ([10]:Str)).bind λw6=>(ZC s2).bind λb7=>bif !b7 then(some ((Journal.mk [] 0 0),1))else(bif decide (40000<(w64 ((j1.bytes.length:Int)+(w6.length:Int))))then(some ((Journal.mk [] 0 0),2))else((V2H j1.bytes).bind λy9=>(appL 1 y9 (strB w6)).bind λxs10=>some ((Journal.mk xs10 j1.synced (w64 (j1.count+1))),0)))
theorem O2M{j1:Journal}{s2:Str}{r:Journal×Int}(H:Z2K j1 s2=some r):SQ U2L [MP .rd j1,.str s2] (.tup [MP .nw r.1,iV r.2]):=by
 refine wd [(30,1)] [.c 4 3 true,.t 5] ?_
 obtain⟨w3,h3,w4,h4,w5,h5,H⟩:=bB3 H
 obtain⟨w6,h6,b7,h7,H⟩:=bB2 H
 refine wH [.c 9 (O4 h3),.u 10 (.sa _ _ _ λ_=>h4),.u 12 (.sa _ _ _ λ_=>h5),.u 13 (.sa _ _ _ λ_=>h6),.c 16 (Q18 h7)] ?_
 refine X0 H (λH=>sI H▸wQ [(4,[.n 1,.d,.d])] [znc []]) λH=>?_
 refine wG [.l 22 j1.bytes eB] λq8=>?_
 refine X0 H (λH=>sI H▸wQ [(4,[.n 1,.d,.d])] [znc []]) λH=>?_
 obtain⟨y9,h9,xs10,h10,H⟩:=bB2 H
 refine wH [.c 30 (W2I h9),.u 32 (.ap _ _ _ _ λ_=>O2N h10)] ?_
 exact sI H▸wO [(4,[.f,.d,.d])] [] [31000] [] [znc xs10]
def Q2H(j1:Journal)(s2:Str):Option (Journal×Int) :=
 (ZF j1).bind λb3=>bif !b3 then(some ((Journal.mk [] 0 0),1))else((Z2K j1 s2).bind λy4=>some (y4.1,y4.2))
theorem J2K{j1:Journal}{s2:Str}{r:Journal×Int}(H:Q2H j1 s2=some r):SQ M2I [MP .rd j1,.str s2] (.tup [MP .nw r.1,iV r.2]):=by
 exact wa [.c 4 3 true,.t 5] (bC H λb3 h3 H=>wH [.c 7 (U0Z h3)] (X0 H (λH=>sI H▸wQ [(4,[.n 1,.d,.d])] [znc []]) λH=>bC H λy4 h4 H=>wH [.c 12 (O2M h4)] (sI H▸wM [(4,[])] [znc y4.1.bytes])))
def X2H(j1:Journal):Option Journal :=
 (ZF j1).bind λb2=>bif !b2 then(some (Journal.mk [] 0 0))else((M2H j1).bind λy3=>some (Journal.mk y3.bytes (y3.bytes.length:Int) y3.count))
theorem W2K{j1 r:Journal}(H:X2H j1=some r):SP Q2I [MP .rd j1] (.agg [.sref 0,iV r.synced,iV r.count]) [zwc r.bytes]:=by
 exact wd [(8,1)] [.c 2 3 true] (bC H λb2 h2 H=>wH [.c 4 (U0Z h2)] (X0 H (λH=>sI H▸wY [(2,[])] [] [] [none] []) λH=>bC H λy3 h3 H=>wG [.c 8 (Q2K h3),.l 11 y3.bytes eB] λq4=>sI H▸wO [(2,[])] [(9000,some 9000,0)] [] [some 9000] [znc y3.bytes]))
noncomputable def X1F:L :=
 lf Tryz.prog J11 [] [] [] [] [] [] [983,3935]
def Yj(c1:Cmd)(v3:Bool):Option Bool :=
 bif v3 then(some ((((c1.job.id==0&&(c1.job.prio==0&&(c1.job.nodes==0&&(c1.job.need.a==0&&(c1.job.need.b==0&&(c1.job.need.c==0&&(c1.job.lic.a==0&&(c1.job.lic.b==0&&(c1.job.lic.c==0&&(c1.job.wall==0&&(c1.job.level==0&&true)))))))))))&&(c1.lic.a==0&&(c1.lic.b==0&&(c1.lic.c==0&&true))))&&decide (0<=c1.n))&&decide (c1.n<24)))else(bif c1.kind==6 then(some (((c1.job.id==0&&(c1.job.prio==0&&(c1.job.nodes==0&&(c1.job.need.a==0&&(c1.job.need.b==0&&(c1.job.need.c==0&&(c1.job.lic.a==0&&(c1.job.lic.b==0&&(c1.job.lic.c==0&&(c1.job.wall==0&&(c1.job.level==0&&true)))))))))))&&(c1.n==0))&&(U0 c1.lic)))else(bif c1.kind==7 then(some (((c1.job.id==0&&(c1.job.prio==0&&(c1.job.nodes==0&&(c1.job.need.a==0&&(c1.job.need.b==0&&(c1.job.need.c==0&&(c1.job.lic.a==0&&(c1.job.lic.b==0&&(c1.job.lic.c==0&&(c1.job.wall==0&&(c1.job.level==0&&true)))))))))))&&(c1.lic.a==0&&(c1.lic.b==0&&(c1.lic.c==0&&true))))&&(Q3 c1.n)))else(some false)))
def Zj(c1:Cmd)(v2:Bool):Option Bool :=
 bif v2 then(some ((((c1.job.id==0&&(c1.job.prio==0&&(c1.job.nodes==0&&(c1.job.need.a==0&&(c1.job.need.b==0&&(c1.job.need.c==0&&(c1.job.lic.a==0&&(c1.job.lic.b==0&&(c1.job.lic.c==0&&(c1.job.wall==0&&(c1.job.level==0&&true)))))))))))&&(c1.lic.a==0&&(c1.lic.b==0&&(c1.lic.c==0&&true))))&&decide (1<=c1.n))&&decide (c1.n<=999)))else(bif c1.kind==4 then((Yj c1) (c1.kind==4))else((Yj c1) (c1.kind==5)))
def Wl(c1:Cmd):Option Bool :=
 bif c1.kind==1 then(some (((Y1 c1.job)&&(c1.n==0))&&(c1.lic.a==0&&(c1.lic.b==0&&(c1.lic.c==0&&true)))))else(bif c1.kind==2 then((Zj c1) (c1.kind==2))else((Zj c1) (c1.kind==3)))
theorem X0M{c1:Cmd}{r:Bool}(H:Wl c1=some r):SQ J11 [eCmd c1] (.bool r):=by
 refine wS X1F [.t 2] (wP ?_)
 refine X0 H ?_ ?_<;>intro H
 .exact wH [.c 19 (OM c1.job)] (sI H▸wD)
 .refine wP (Xi (r:=r) (Zj c1) 0 (λv2:Bool=>⟨[pB 1,(3,.bool (c1.job.id==0&&(c1.job.prio==0&&(c1.job.nodes==0&&(c1.job.need.a==0&&(c1.job.need.b==0&&(c1.job.need.c==0&&(c1.job.lic.a==0&&(c1.job.lic.b==0&&(c1.job.lic.c==0&&(c1.job.wall==0&&(c1.job.level==0&&true)))))))))))),(4,.bool (c1.lic.a==0&&(c1.lic.b==0&&(c1.lic.c==0&&true)))),(14,.int .i64 c1.kind),(28,.bool v2)],[],[(1,(eCmd c1).cells)],[]⟩) (by kernel_rfl) (λv2 H=>?_) (λJ39=>?_))
  .refine wP (X0 H (λH=>sI H▸wV) λH=>wP (Xi (r:=r) (Yj c1) 0 (λv3:Bool=>⟨[pB 1,(3,.bool (c1.job.id==0&&(c1.job.prio==0&&(c1.job.nodes==0&&(c1.job.need.a==0&&(c1.job.need.b==0&&(c1.job.need.c==0&&(c1.job.lic.a==0&&(c1.job.lic.b==0&&(c1.job.lic.c==0&&(c1.job.wall==0&&(c1.job.level==0&&true)))))))))))),(4,.bool (c1.lic.a==0&&(c1.lic.b==0&&(c1.lic.c==0&&true)))),(14,.int .i64 c1.kind),(45,.bool v3)],[],[(1,(eCmd c1).cells)],[]⟩) (by kernel_rfl) (λv3 H=>?_) (λJ37=>?_)))
   .refine wP (X0 H (λH=>sI H▸wV) λH=>wP ?_)
    refine X0 H ?_ ?_<;>intro H
    .exact wH [.d 73 [(((c1.job.id==0&&(c1.job.prio==0&&(c1.job.nodes==0&&(c1.job.need.a==0&&(c1.job.need.b==0&&(c1.job.need.c==0&&(c1.job.lic.a==0&&(c1.job.lic.b==0&&(c1.job.lic.c==0&&(c1.job.wall==0&&(c1.job.level==0&&true)))))))))))&&(c1.n==0)),true)] λ_=>X6 c1.lic] (sI H▸wD)
    .refine wP (X0 H (λH=>?_) λH=>sI H▸wV)
     exact wH [.d 84 [(((c1.job.id==0&&(c1.job.prio==0&&(c1.job.nodes==0&&(c1.job.need.a==0&&(c1.job.need.b==0&&(c1.job.need.c==0&&(c1.job.lic.a==0&&(c1.job.lic.b==0&&(c1.job.lic.c==0&&(c1.job.wall==0&&(c1.job.level==0&&true)))))))))))&&(c1.lic.a==0&&(c1.lic.b==0&&(c1.lic.c==0&&true)))),true)] λ_=>X9 c1.n] (sI H▸wD)
   .refine X0 H ?_ ?_<;>intro H
    .exact wP (wT (J37 _ H))
    .exact wP (wT (J37 _ H))
  .refine X0 H ?_ ?_<;>intro H
   .exact wP (wT (J39 _ H))
   .exact wP (wT (J39 _ H))
def WK :Option tT :=
 some [([]:Str),([115,117,98,109,105,116]:Str),([99,97,110,99,101,108]:Str),([100,111,110,101]:Str),([102,97,105,108]:Str),([114,101,115,117,109,101]:Str),([108,105,99]:Str),([103,111]:Str)]
theorem O0L{r:tT}(H:WK=some r):SQ Y09 [] (zfb r):=by
 exact wb [1] [.t 0] (sI H▸wP (wN [(0,.f)] [] [] [1] [] [⟨_,nw_S [([]:Str),([115,117,98,109,105,116]:Str),([99,97,110,99,101,108]:Str),([100,111,110,101]:Str),([102,97,105,108]:Str),([114,101,115,117,109,101]:Str),([108,105,99]:Str),([103,111]:Str)]⟩]))
def M7 :tT :=
 [([]:Str),([115,117,98,109,105,116]:Str),([99,97,110,99,101,108]:Str),([100,111,110,101]:Str),([102,97,105,108]:Str),([114,101,115,117,109,101]:Str),([108,105,99]:Str),([103,111]:Str)]
theorem Q1b :WK=some (M7):=by
 unfold WK M7
 first|rfl|simp only[U4]
theorem L0l :Snd Tryz.prog Y09 [] (nV 1 ((M7).map eS)) []:=O0L (Q1b )
def Ux(c1:Cmd):Option Str :=
 (Wl c1).bind λb2=>bif !b2 then(some ([]:Str))else((idx (M7) c1.kind).bind λe3=>bif c1.kind==1 then((catS e3 ([32]:Str)).bind λw4=>(Y6 c1.job.id).bind λw5=>(catS w4 w5).bind λw6=>(catS w6 ([32]:Str)).bind λw7=>(Y6 c1.job.prio).bind λw8=>(catS w7 w8).bind λw9=>(catS w9 ([32]:Str)).bind λw10=>(Y6 c1.job.nodes).bind λw11=>(catS w10 w11).bind λw12=>(catS w12 ([32]:Str)).bind λw13=>(Wi c1.job.need).bind λw14=>(catS w13 w14).bind λw15=>(catS w15 ([32]:Str)).bind λw16=>(Wi c1.job.lic).bind λw17=>(catS w16 w17).bind λw18=>(catS w18 ([32]:Str)).bind λw19=>(Y6 c1.job.wall).bind λw20=>(catS w19 w20).bind λw21=>(catS w21 ([32]:Str)).bind λw22=>(Y6 c1.job.level).bind λw23=>(catS w22 w23).bind λw24=>some w24)else(bif c1.kind==6 then((catS e3 ([32]:Str)).bind λw25=>(Wi c1.lic).bind λw26=>(catS w25 w26).bind λw27=>some w27)else((catS e3 ([32]:Str)).bind λw28=>(Y6 c1.n).bind λw29=>(catS w28 w29).bind λw30=>some w30)))
theorem M0t{c1:Cmd}{r:Str}(H:Ux c1=some r):SQ M0G [eCmd c1] (.str r):=by
 refine wc [(3,6),(6,37)] [.t 2] (bC H λb2 h2 H=>wH [.c 6 (X0M h2)] (X0 H (λH=>sI H▸wV) λH=>bC H λe3 h3 H=>wH [.u 8 (.call _ _ _ _ _ (AEs.refl _) (λ_=>L0l )),.x 11 eS h3] ?_))
 refine X0 H ?_ ?_<;>intro H
 .exact bC3 H λw4 h4 w5 h5 w6 h6 H=>bC3 H λw7 h7 w8 h8 w9 h9 H=>bC3 H λw10 h10 w11 h11 w12 h12 H=>bC3 H λw13 h13 w14 h14 w15 h15 H=>bC3 H λw16 h16 w17 h17 w18 h18 H=>bC3 H λw19 h19 w20 h20 w21 h21 H=>bC3 H λw22 h22 w23 h23 w24 h24 H=>wH [.u 19 (.sa _ _ _ λ_=>h4),.c 22 (W5 h5),.u 23 (.sa _ _ _ λ_=>h6),.u 24 (.sa _ _ _ λ_=>h7),.c 27 (W5 h8),.u 28 (.sa _ _ _ λ_=>h9),.u 29 (.sa _ _ _ λ_=>h10),.c 32 (W5 h11),.u 33 (.sa _ _ _ λ_=>h12),.u 34 (.sa _ _ _ λ_=>h13),.c 37 (Lo h14),.u 38 (.sa _ _ _ λ_=>h15),.u 39 (.sa _ _ _ λ_=>h16),.c 42 (Lo h17),.u 43 (.sa _ _ _ λ_=>h18),.u 44 (.sa _ _ _ λ_=>h19),.c 47 (W5 h20),.u 48 (.sa _ _ _ λ_=>h21),.u 49 (.sa _ _ _ λ_=>h22),.c 52 (W5 h23),.u 53 (.sa _ _ _ λ_=>h24)] (sI H▸wD)
 .refine wP ?_
  refine X0 H ?_ ?_<;>intro H
  .exact bC3 H λw25 h25 w26 h26 w27 h27 H=>wH [.u 58 (.sa _ _ _ λ_=>h25),.c 61 (Lo h26),.u 62 (.sa _ _ _ λ_=>h27)] (sI H▸wD)
  .exact bC3 H λw28 h28 w29 h29 w30 h30 H=>wH [.u 64 (.sa _ _ _ λ_=>h28),.c 67 (W5 h29),.u 68 (.sa _ _ _ λ_=>h30)] (sI H▸wD)
noncomputable def J1g:L :=
 lf Tryz.prog Y0G [] [] [] [] [] [] [63]
def Mc(s1:Str)(v25:Cmd):Option (Cmd×Bool) :=
 (bif s1==([]:Str)then some default else(Ux v25)).bind λw26=>bif (s1==([]:Str))||(w26 != s1)then(some ((Cmd.mk 0 (Job.mk 0 0 0 (Vec.mk 0 0 0) (Vec.mk 0 0 0) 0 0) 0 (Vec.mk 0 0 0)),false))else(some (v25,true))
def Jf(y2:tT)(x4:Str)(i4:Nat)(v4:Int)(k4:Int->Option (Cmd×Bool)):Option (Cmd×Bool) :=
 (bif decide (0<(i4:Int))then(idx y2 0)else some default).bind λe5=>bif decide (0<(i4:Int))&&(x4==e5)then(k4 (i4:Int))else(k4 v4)
def Ot(s1:Str)(y2:tT)(v4:Int):Option (Cmd×Bool) :=
 bif (v4==1)&&((y2.length:Int)==8)then((idx y2 1).bind λe6=>(Ya e6).bind λy7=>(idx y2 2).bind λe8=>(Ya e8).bind λy9=>(idx y2 3).bind λe10=>(Ya e10).bind λy11=>(idx y2 4).bind λe12=>(Xm e12).bind λy13=>(idx y2 5).bind λe14=>(Xm e14).bind λy15=>(idx y2 6).bind λe16=>(Ya e16).bind λy17=>(idx y2 7).bind λe18=>(Ya e18).bind λy19=>(Mc s1) (Cmd.mk v4 (Job.mk y7.1 y9.1 y11.1 y13.1 y15.1 y17.1 y19.1) 0 (Vec.mk 0 0 0)))else(bif (v4==6)&&((y2.length:Int)==2)then((idx y2 1).bind λe20=>(Xm e20).bind λy21=>(Mc s1) (Cmd.mk v4 (Job.mk 0 0 0 (Vec.mk 0 0 0) (Vec.mk 0 0 0) 0 0) 0 y21.1))else(bif (y2.length:Int)==2 then((idx y2 1).bind λe23=>(Ya e23).bind λy24=>(Mc s1) (Cmd.mk v4 (Job.mk 0 0 0 (Vec.mk 0 0 0) (Vec.mk 0 0 0) 0 0) y24.1 (Vec.mk 0 0 0)))else((Mc s1) (Cmd.mk v4 (Job.mk 0 0 0 (Vec.mk 0 0 0) (Vec.mk 0 0 0) 0 0) 0 (Vec.mk 0 0 0)))))
def XJ(s1:Str):Option (Cmd×Bool) :=
 (JA s1 32).bind λy2=>rgl (Jf y2) (Ot s1 y2) (M7) 0 0
theorem L0s{s1:Str}{r:Cmd×Bool}(H:XJ s1=some r):SQ Y0G [.str s1] (.tup [eCmd r.1,.bool r.2]):=by
 refine wS J1g [.c 2 16 true,.t 3] (bC H λy2 h2 H=>wG [.c 9 (MA h2),.u 11 (.call _ _ _ _ _ (AEs.refl _) (λ_=>L0l )),.l 12 (M7) eS] λq3=>wL (λ(i4:Nat) (v4:Int)=>⟨[(0,.str s1),pB 2,(4,zfb y2),pB 5,(11,zfb (M7)),(12,iV ((M7).length:Int)),(13,iV (i4:Int))],[],[(2,(eCmd (Cmd.mk 0 (Job.mk 0 0 0 (Vec.mk 0 0 0) (Vec.mk 0 0 0) 0 0) 0 (Vec.mk 0 0 0))).cells),(5,(eCmd (Cmd.mk v4 (Job.mk 0 0 0 (Vec.mk 0 0 0) (Vec.mk 0 0 0) 0 0) 0 (Vec.mk 0 0 0))).cells)],[]⟩) H (λi4 x4 v4 I m k4 A4 B4 H N20=>?_) (λv4 I m H=>?_))
 .exact bC H λe5 h5 H=>wH [.y 16 eS A4,.g 23 [(_,true)] (.ix _ _ _ λq=>Y0 eS (bT q.1 h5))] (X0 H (λH=>wH [.i 29 B4 q3.1] (wT (N20 _ H))) λH=>wH [.i 29 B4 q3.1] (wT (N20 _ H)))
 .refine wH [.g 35 [((v4==1),true)] (.ln _ _ λ_=>lm y2 eS)] (Xi (r:=r) (Mc s1) 0 (λv25:Cmd=>⟨[(0,.str s1),pB 2,pB 5],[],[(2,(eCmd (Cmd.mk 0 (Job.mk 0 0 0 (Vec.mk 0 0 0) (Vec.mk 0 0 0) 0 0) 0 (Vec.mk 0 0 0))).cells),(5,(eCmd v25).cells)],[]⟩) (by kernel_rfl) (λv25 H=>?_) (λJ58=>?_))
  .exact bC H λw26 h26 H=>wH [.d 132 [(_,false)] λq=>M0t (bF q.1 h26)] (X0 H (λH=>sI H▸wQ [(2,[])] []) λH=>sI H▸wQ [(2,[])] [])
  .refine X0 H ?_ ?_<;>intro H
   .exact bC3 H λe6 h6 y7 h7 e8 h8 H=>bC3 H λy9 h9 e10 h10 y11 h11 H=>bC3 H λe12 h12 y13 h13 e14 h14 H=>bC3 H λy15 h15 e16 h16 y17 h17 H=>bC2 H λe18 h18 y19 h19 H=>wH [.x 40 eS h6,.c 42 (Va h7),.x 49 eS h8,.c 51 (Va h9),.x 58 eS h10,.c 60 (Va h11),.x 67 eS h12,.c 69 (Jw h13),.x 76 eS h14,.c 78 (Jw h15),.x 85 eS h16,.c 87 (Va h17),.x 94 eS h18,.c 96 (Va h19)] (wT (J58 _ H))
   .refine wH [.g 106 [((v4==6),true)] (.ln _ _ λ_=>lm y2 eS)] ?_
    refine X0 H ?_ ?_<;>intro H
    .exact bC2 H λe20 h20 y21 h21 H=>wH [.x 111 eS h20,.c 113 (Jw h21)] (wT (J58 _ H))
    .refine wG [.l 118 y2 eS] λq22=>?_
     refine X0 H ?_ ?_<;>intro H
     .exact bC2 H λe23 h23 y24 h24 H=>wH [.x 122 eS h23,.c 124 (Va h24)] (wT (J58 _ H))
     .exact wP (wT (J58 _ H))
def J0f(s1:State)(c2:Cmd):Option (State×Int) :=
 (Wl c2).bind λb3=>(bif !b3 then some default else(Lc s1)).bind λb4=>bif (!b3)||(!b4)then(some ((State.mk (Topo.mk [] []) [] (Vec.mk 0 0 0) 0 0 [] [] []),1))else(bif c2.kind==1 then((X05 s1 c2.job).bind λy5=>some (y5.1,y5.2))else(bif c2.kind==2 then((LR s1 c2.n 3).bind λy6=>some (y6.1,y6.2))else(bif c2.kind==3 then((LR s1 c2.n 2).bind λy7=>some (y7.1,y7.2))else(bif c2.kind==4 then((O0t s1 c2.n).bind λy8=>some (y8.1,y8.2))else(bif c2.kind==5 then((U05 s1 c2.n).bind λy9=>some (y9.1,y9.2))else(bif c2.kind==6 then((Q05 s1 c2.lic).bind λy10=>some (y10.1,y10.2))else((Q0f s1 c2.n).bind λy11=>bif !y11.2 then(some ((State.mk (Topo.mk [] []) [] (Vec.mk 0 0 0) 0 0 [] [] []),10))else(some (y11.1,0)))))))))
theorem M1A{s1:State}{c2:Cmd}{r:State×Int}(H:J0f s1 c2=some r):SQ Z12 [J1 .rd s1,eCmd c2] (.tup [J1 .nw r.1,iV r.2]):=by
 refine wa [.c 4 11 true,.t 5] (bC2 H λb3 h3 b4 h4 H=>wH [.c 9 (X0M h3),.d 13 [(_,false)] λq=>Xe (bF q.1 h4)] (X0 H (λH=>sI H▸wQ [(4,z0)] z1) λH=>wP ?_))
 refine X0 H ?_ ?_<;>intro H
 .exact bC H λy5 h5 H=>wH [.c 24 (Z1o h5)] (sI H▸wM [(4,[])] [zna y5.1.topo.parents,zne y5.1.topo.nodes,znd y5.1.up,znf y5.1.queue,zng y5.1.runs,znh y5.1.ends])
 .refine wP ?_
  refine X0 H ?_ ?_<;>intro H
  .exact bC H λy6 h6 H=>wH [.c 32 (X0D h6)] (sI H▸wM [(4,[])] [zna y6.1.topo.parents,zne y6.1.topo.nodes,znd y6.1.up,znf y6.1.queue,zng y6.1.runs,znh y6.1.ends])
  .refine wP ?_
   refine X0 H ?_ ?_<;>intro H
   .exact bC H λy7 h7 H=>wH [.c 40 (X0D h7)] (sI H▸wM [(4,[])] [zna y7.1.topo.parents,zne y7.1.topo.nodes,znd y7.1.up,znf y7.1.queue,zng y7.1.runs,znh y7.1.ends])
   .refine wP ?_
    refine X0 H ?_ ?_<;>intro H
    .exact bC H λy8 h8 H=>wH [.c 48 (O1K h8)] (sI H▸wM [(4,[])] [zna y8.1.topo.parents,zne y8.1.topo.nodes,znd y8.1.up,znf y8.1.queue,zng y8.1.runs,znh y8.1.ends])
    .refine wP ?_
     refine X0 H ?_ ?_<;>intro H
     .exact bC H λy9 h9 H=>wH [.c 56 (Y1o h9)] (sI H▸wM [(4,[])] [zna y9.1.topo.parents,zne y9.1.topo.nodes,znd y9.1.up,znf y9.1.queue,zng y9.1.runs,znh y9.1.ends])
     .refine wP ?_
      refine X0 H ?_ ?_<;>intro H
      .exact bC H λy10 h10 H=>wH [.c 64 (X1o h10)] (sI H▸wM [(4,[])] [zna y10.1.topo.parents,zne y10.1.topo.nodes,znd y10.1.up,znf y10.1.queue,zng y10.1.runs,znh y10.1.ends])
      .exact bC H λy11 h11 H=>wH [.c 71 (W1A h11)] (X0 H (λH=>sI H▸wQ [(4,z0)] z1) λH=>sI H▸wQ [(4,[])] [zna y11.1.topo.parents,zne y11.1.topo.nodes,znd y11.1.up,znf y11.1.queue,zng y11.1.runs,znh y11.1.ends])
noncomputable def W1G:L :=
 lf Tryz.prog Y13 [] [] [] [] [] [] [215,863]
def Zv(c1:Cmd)(v3:Bool):Option Bool :=
 bif v3 then(some ((Z0 c1.n 0 23)&&(c1.kind==c1.kind&&(c1.job.id==0&&(c1.job.prio==0&&(c1.job.nodes==0&&(c1.job.need.a==0&&(c1.job.need.b==0&&(c1.job.need.c==0&&(c1.job.lic.a==0&&(c1.job.lic.b==0&&(c1.job.lic.c==0&&(c1.job.wall==0&&(c1.job.level==0&&(c1.n==c1.n&&(c1.lic.a==0&&(c1.lic.b==0&&(c1.lic.c==0&&true))))))))))))))))))else(bif c1.kind==6 then(some ((Z2 c1.lic)&&(c1.kind==c1.kind&&(c1.job.id==0&&(c1.job.prio==0&&(c1.job.nodes==0&&(c1.job.need.a==0&&(c1.job.need.b==0&&(c1.job.need.c==0&&(c1.job.lic.a==0&&(c1.job.lic.b==0&&(c1.job.lic.c==0&&(c1.job.wall==0&&(c1.job.level==0&&(c1.n==0&&(c1.lic.a==c1.lic.a&&(c1.lic.b==c1.lic.b&&(c1.lic.c==c1.lic.c&&true))))))))))))))))))else(bif c1.kind==7 then(some ((J6 c1.n)&&(c1.kind==c1.kind&&(c1.job.id==0&&(c1.job.prio==0&&(c1.job.nodes==0&&(c1.job.need.a==0&&(c1.job.need.b==0&&(c1.job.need.c==0&&(c1.job.lic.a==0&&(c1.job.lic.b==0&&(c1.job.lic.c==0&&(c1.job.wall==0&&(c1.job.level==0&&(c1.n==c1.n&&(c1.lic.a==0&&(c1.lic.b==0&&(c1.lic.c==0&&true))))))))))))))))))else(some false)))
def Ju(c1:Cmd)(v2:Bool):Option Bool :=
 bif v2 then(some ((Z0 c1.n 1 999)&&(c1.kind==c1.kind&&(c1.job.id==0&&(c1.job.prio==0&&(c1.job.nodes==0&&(c1.job.need.a==0&&(c1.job.need.b==0&&(c1.job.need.c==0&&(c1.job.lic.a==0&&(c1.job.lic.b==0&&(c1.job.lic.c==0&&(c1.job.wall==0&&(c1.job.level==0&&(c1.n==c1.n&&(c1.lic.a==0&&(c1.lic.b==0&&(c1.lic.c==0&&true))))))))))))))))))else(bif c1.kind==4 then((Zv c1) (c1.kind==4))else((Zv c1) (c1.kind==5)))
def XU(c1:Cmd):Option Bool :=
 bif c1.kind==1 then(some ((Yb c1.job)&&(c1.kind==c1.kind&&(c1.job.id==c1.job.id&&(c1.job.prio==c1.job.prio&&(c1.job.nodes==c1.job.nodes&&(c1.job.need.a==c1.job.need.a&&(c1.job.need.b==c1.job.need.b&&(c1.job.need.c==c1.job.need.c&&(c1.job.lic.a==c1.job.lic.a&&(c1.job.lic.b==c1.job.lic.b&&(c1.job.lic.c==c1.job.lic.c&&(c1.job.wall==c1.job.wall&&(c1.job.level==c1.job.level&&(c1.n==0&&(c1.lic.a==0&&(c1.lic.b==0&&(c1.lic.c==0&&true))))))))))))))))))else(bif c1.kind==2 then((Ju c1) (c1.kind==2))else((Ju c1) (c1.kind==3)))
theorem W0P{c1:Cmd}{r:Bool}(H:XU c1=some r):SQ Y13 [eCmd c1] (.bool r):=by
 refine wS W1G [.t 2] (wP ?_)
 refine X0 H ?_ ?_<;>intro H
 .exact wH [.c 9 (VC c1.job)] (sI H▸wD)
 .refine wP (Xi (r:=r) (Ju c1) 0 (λv2:Bool=>⟨[pB 1,(4,.int .i64 c1.kind),(19,.bool v2)],[],[(1,(eCmd c1).cells)],[]⟩) (by kernel_rfl) (λv2 H=>?_) (λJ37=>?_))
  .refine wP ?_
   refine X0 H ?_ ?_<;>intro H
   .exact wH [.c 24 (V1 c1.n 1 999)] (sI H▸wD)
   .refine wP (Xi (r:=r) (Zv c1) 0 (λv3:Bool=>⟨[pB 1,(4,.int .i64 c1.kind),(34,.bool v3)],[],[(1,(eCmd c1).cells)],[]⟩) (by kernel_rfl) (λv3 H=>?_) (λJ35=>?_))
    .refine wP ?_
     refine X0 H ?_ ?_<;>intro H
     .exact wH [.c 39 (V1 c1.n 0 23)] (sI H▸wD)
     .refine wP ?_
      refine X0 H ?_ ?_<;>intro H
      .exact wH [.c 53 (V6 c1.lic)] (sI H▸wD)
      .refine wP (X0 H (λH=>?_) λH=>sI H▸wV)
       exact wH [.c 67 (Ze c1.n)] (sI H▸wD)
    .refine X0 H ?_ ?_<;>intro H
     .exact wP (wT (J35 _ H))
     .exact wP (wT (J35 _ H))
  .refine X0 H ?_ ?_<;>intro H
   .exact wP (wT (J37 _ H))
   .exact wP (wT (J37 _ H))
def Uy(j1:Job):Option Str :=
 (V5 j1.id).bind λw2=>(V5 j1.prio).bind λw3=>(V5 j1.nodes).bind λw4=>(Jm j1.need).bind λw5=>(Jm j1.lic).bind λw6=>(V5 j1.wall).bind λw7=>(V5 j1.level).bind λw8=>(Mp [w2,w3,w4,w5,w6,w7,w8]).bind λw9=>some w9
theorem Q07{j1:Job}{r:Str}(H:Uy j1=some r):SQ U0H [eJob j1] (.str r):=by
 exact wc [(1,24)] [.t 2] (bC3 H λw2 h2 w3 h3 w4 h4 H=>bC3 H λw5 h5 w6 h6 w7 h7 H=>bC2 H λw8 h8 w9 h9 H=>wH [.c 5 (O4 h2),.c 8 (O4 h3),.c 11 (O4 h4),.c 14 (Oy h5),.c 17 (Oy h6),.c 20 (O4 h7),.c 23 (O4 h8),.c 25 (Xt h9)] (sI H▸wD))
def Ve(w1:tT):Option Job :=
 (idx w1 0).bind λe2=>(U2 e2).bind λy3=>(idx w1 1).bind λe4=>(U2 e4).bind λy5=>(idx w1 2).bind λe6=>(U2 e6).bind λy7=>(idx w1 3).bind λe8=>(U9 e8).bind λy9=>(idx w1 4).bind λe10=>(U9 e10).bind λy11=>(idx w1 5).bind λe12=>(U2 e12).bind λy13=>(idx w1 6).bind λe14=>(U2 e14).bind λy15=>some (Job.mk y3.1 y5.1 y7.1 y9.1 y11.1 y13.1 y15.1)
theorem X07{w1:tT}{r:Job}(H:Ve w1=some r):SQ Z0H [zrb w1] (eJob r):=by
 exact wa [.c 2 11 true] (bC3 H λe2 h2 y3 h3 e4 h4 H=>bC3 H λy5 h5 e6 h6 y7 h7 H=>bC3 H λe8 h8 y9 h9 e10 h10 H=>bC3 H λy11 h11 e12 h12 y13 h13 H=>bC2 H λe14 h14 y15 h15 H=>wH [.x 7 eS h2,.c 9 (Z8 h3),.x 15 eS h4,.c 17 (Z8 h5),.x 23 eS h6,.c 25 (Z8 h7),.x 31 eS h8,.c 33 (Ly h9),.x 39 eS h10,.c 41 (Ly h11),.x 47 eS h12,.c 49 (Z8 h13),.x 55 eS h14,.c 57 (Z8 h15)] (sI H▸wM [(2,[])] []))
def WJ(kind1:Int):Option Str :=
 bif !(Z0 kind1 1 7)then(some ([]:Str))else((idx [([115,117,98,109,105,116]:Str),([99,97,110,99,101,108]:Str),([100,111,110,101]:Str),([102,97,105,108]:Str),([114,101,115,117,109,101]:Str),([108,105,99]:Str),([103,111]:Str)] (w64 (kind1-1))).bind λe2=>some e2)
theorem Q0v{kind1:Int}{r:Str}(H:WJ kind1=some r):SQ Q0H [iV kind1] (.str r):=by
 exact wa [.t 2] (wH [.c 4 (V1 kind1 1 7)] (X0 H (λH=>sI H▸wV) λH=>bC H λe2 h2 H=>wH [.x 9 eS h2] (sI H▸wD)))
def JJ(c1:Cmd):Option Str :=
 (XU c1).bind λb2=>bif !b2 then(some ([]:Str))else(bif c1.kind==1 then((Uy c1.job).bind λw3=>(Mp [([115,117,98,109,105,116]:Str),w3]).bind λw4=>some w4)else(bif c1.kind==6 then((Jm c1.lic).bind λw5=>(Mp [([108,105,99]:Str),w5]).bind λw6=>some w6)else((WJ c1.kind).bind λw7=>(V5 c1.n).bind λw8=>(Mp [w7,w8]).bind λw9=>some w9)))
theorem Z1l{c1:Cmd}{r:Str}(H:JJ c1=some r):SQ U0I [eCmd c1] (.str r):=by
 refine wc [(8,9)] [.t 2] (bC H λb2 h2 H=>wH [.c 4 (W0P h2)] (X0 H (λH=>sI H▸wV) λH=>wP ?_))
 refine X0 H ?_ ?_<;>intro H
 .exact bC2 H λw3 h3 w4 h4 H=>wH [.c 12 (Q07 h3),.c 14 (Xt h4)] (sI H▸wD)
 .refine wP ?_
  refine X0 H ?_ ?_<;>intro H
  .exact bC2 H λw5 h5 w6 h6 H=>wH [.c 19 (Oy h5),.c 21 (Xt h6)] (sI H▸wD)
  .exact bC3 H λw7 h7 w8 h8 w9 h9 H=>wH [.c 24 (Q0v h7),.c 27 (O4 h8),.c 29 (Xt h9)] (sI H▸wD)
noncomputable def Y1j:L :=
 lf Tryz.prog L0H [] [] [] [] [(6,6)] [] [63]
def J5(s1:Str)(v13:Cmd):Option (Cmd×Bool) :=
 (bif s1==([]:Str)then some default else(JJ v13)).bind λw14=>bif (s1==([]:Str))||(w14 != s1)then(some ((Cmd.mk 0 (Job.mk 0 0 0 (Vec.mk 0 0 0) (Vec.mk 0 0 0) 0 0) 0 (Vec.mk 0 0 0)),false))else(some (v13,true))
def Ml(s1:Str)(y2:tT)(v3:Int×Int)(k3:(Int×Int)->Option (Cmd×Bool)):Option (Cmd×Bool) :=
 bif decide (v3.2<=7)then((WJ v3.2).bind λw4=>(idx y2 0).bind λe5=>bif w4==e5 then(k3 (v3.2,(w64 (v3.2+1))))else(k3 (v3.1,(w64 (v3.2+1)))))else(bif (v3.1==1)&&((y2.length:Int)==8)then((cutL y2 (some 1) none).bind λxs6=>(Ve xs6).bind λy7=>(J5 s1) (Cmd.mk v3.1 y7 0 (Vec.mk 0 0 0)))else(bif (v3.1==6)&&((y2.length:Int)==2)then((idx y2 1).bind λe8=>(U9 e8).bind λy9=>(J5 s1) (Cmd.mk v3.1 (Job.mk 0 0 0 (Vec.mk 0 0 0) (Vec.mk 0 0 0) 0 0) 0 y9.1))else(bif (y2.length:Int)==2 then((idx y2 1).bind λe11=>(U2 e11).bind λy12=>(J5 s1) (Cmd.mk v3.1 (Job.mk 0 0 0 (Vec.mk 0 0 0) (Vec.mk 0 0 0) 0 0) y12.1 (Vec.mk 0 0 0)))else((J5 s1) (Cmd.mk v3.1 (Job.mk 0 0 0 (Vec.mk 0 0 0) (Vec.mk 0 0 0) 0 0) 0 (Vec.mk 0 0 0))))))
def Jy(s1:Str):Option (Cmd×Bool) :=
 (Z3 s1 32).bind λy2=>whl (Ml s1 y2) 9223372036854775807 (0,1)
theorem Q1k{s1:Str}{r:Cmd×Bool}(H:Jy s1=some r):SQ L0H [.str s1] (.tup [eCmd r.1,.bool r.2]):=by
 refine wS Y1j [.c 2 16 true,.t 3] (bC H λy2 h2 H=>wH [.c 8 (Vt h2)] (wW (λ(v3:Int×Int)=>⟨[(0,.str s1),pB 2,(4,zfb y2),pB 5,(6,iV v3.2)],[],[(2,(eCmd (Cmd.mk 0 (Job.mk 0 0 0 (Vec.mk 0 0 0) (Vec.mk 0 0 0) 0 0) 0 (Vec.mk 0 0 0))).cells),(5,(eCmd (Cmd.mk v3.1 (Job.mk 0 0 0 (Vec.mk 0 0 0) (Vec.mk 0 0 0) 0 0) 0 (Vec.mk 0 0 0))).cells)],[]⟩) H (λv3 I m k3 H N18=>?_)))
 refine wP ?_
 refine X0 H ?_ ?_<;>intro H
 .refine bC2 H λw4 h4 e5 h5 H=>wH [.c 15 (Q0v h4),.x 17 eS h5] ?_
  refine X0 H ?_ ?_<;>intro H
  .exact wP (wT (N18 _ H))
  .exact wP (wT (N18 _ H))
 .refine wH [.g 28 [((v3.1==1),true)] (.ln _ _ λ_=>lm y2 eS)] (Xi (r:=r) (J5 s1) 0 (λv13:Cmd=>⟨[(0,.str s1),pB 2,pB 5],[],[(2,(eCmd (Cmd.mk 0 (Job.mk 0 0 0 (Vec.mk 0 0 0) (Vec.mk 0 0 0) 0 0) 0 (Vec.mk 0 0 0))).cells),(5,(eCmd v13).cells)],[]⟩) (by kernel_rfl) (λv13 H=>?_) (λJ45=>?_))
  .exact bC H λw14 h14 H=>wH [.d 68 [(_,false)] λq=>Z1l (bF q.1 h14)] (X0 H (λH=>sI H▸wQ [(2,[])] []) λH=>sI H▸wQ [(2,[])] [])
  .refine X0 H ?_ ?_<;>intro H
   .exact bC2 H λxs6 h6 y7 h7 H=>wH [.u 32 (.sc _ _ _ _ λ_=>Ut eS h6),.c 33 (X07 h7)] (wT (J45 _ H))
   .refine wH [.g 41 [((v3.1==6),true)] (.ln _ _ λ_=>lm y2 eS)] ?_
    refine X0 H ?_ ?_<;>intro H
    .exact bC2 H λe8 h8 y9 h9 H=>wH [.x 46 eS h8,.c 48 (Ly h9)] (wT (J45 _ H))
    .refine wG [.l 54 y2 eS] λq10=>?_
     refine X0 H ?_ ?_<;>intro H
     .exact bC2 H λe11 h11 y12 h12 H=>wH [.x 58 eS h11,.c 60 (Z8 h12)] (wT (J45 _ H))
     .exact wP (wT (J45 _ H))
def Z0h(s1:State)(c2:Cmd):Option (State×Int) :=
 (XU c2).bind λb3=>(bif !b3 then some default else(Zb s1)).bind λb4=>bif (!b3)||(!b4)then(some ((State.mk (Topo.mk [] []) [] (Vec.mk 0 0 0) 0 0 [] [] []),1))else(bif c2.kind==1 then((Z08 s1 c2.job).bind λy5=>some (y5.1,y5.2))else(bif c2.kind==2 then((JT s1 c2.n 3).bind λy6=>some (y6.1,y6.2))else(bif c2.kind==3 then((JT s1 c2.n 2).bind λy7=>some (y7.1,y7.2))else(bif c2.kind==4 then((Q0w s1 c2.n).bind λy8=>some (y8.1,y8.2))else(bif c2.kind==5 then((V08 s1 c2.n).bind λy9=>some (y9.1,y9.2))else(bif c2.kind==6 then((U08 s1 c2.lic).bind λy10=>some (y10.1,y10.2))else((UT s1 c2.n).bind λy11=>bif !y11.2 then(some ((State.mk (Topo.mk [] []) [] (Vec.mk 0 0 0) 0 0 [] [] []),10))else(some (y11.1,0)))))))))
theorem M1H{s1:State}{c2:Cmd}{r:State×Int}(H:Z0h s1 c2=some r):SQ X13 [J1 .rd s1,eCmd c2] (.tup [J1 .nw r.1,iV r.2]):=by
 refine wa [.c 4 11 true,.t 5] (bC2 H λb3 h3 b4 h4 H=>wH [.c 9 (W0P h3),.d 13 [(_,false)] λq=>Qc (bF q.1 h4)] (X0 H (λH=>sI H▸wQ [(4,z0)] z1) λH=>wP ?_))
 refine X0 H ?_ ?_<;>intro H
 .exact bC H λy5 h5 H=>wH [.c 24 (O1u h5)] (sI H▸wM [(4,[])] [zna y5.1.topo.parents,zne y5.1.topo.nodes,znd y5.1.up,znf y5.1.queue,zng y5.1.runs,znh y5.1.ends])
 .refine wP ?_
  refine X0 H ?_ ?_<;>intro H
  .exact bC H λy6 h6 H=>wH [.c 32 (Y0E h6)] (sI H▸wM [(4,[])] [zna y6.1.topo.parents,zne y6.1.topo.nodes,znd y6.1.up,znf y6.1.queue,zng y6.1.runs,znh y6.1.ends])
  .refine wP ?_
   refine X0 H ?_ ?_<;>intro H
   .exact bC H λy7 h7 H=>wH [.c 40 (Y0E h7)] (sI H▸wM [(4,[])] [zna y7.1.topo.parents,zne y7.1.topo.nodes,znd y7.1.up,znf y7.1.queue,zng y7.1.runs,znh y7.1.ends])
   .refine wP ?_
    refine X0 H ?_ ?_<;>intro H
    .exact bC H λy8 h8 H=>wH [.c 48 (M1O h8)] (sI H▸wM [(4,[])] [zna y8.1.topo.parents,zne y8.1.topo.nodes,znd y8.1.up,znf y8.1.queue,zng y8.1.runs,znh y8.1.ends])
    .refine wP ?_
     refine X0 H ?_ ?_<;>intro H
     .exact bC H λy9 h9 H=>wH [.c 56 (M1u h9)] (sI H▸wM [(4,[])] [zna y9.1.topo.parents,zne y9.1.topo.nodes,znd y9.1.up,znf y9.1.queue,zng y9.1.runs,znh y9.1.ends])
     .refine wP ?_
      refine X0 H ?_ ?_<;>intro H
      .exact bC H λy10 h10 H=>wH [.c 64 (L1u h10)] (sI H▸wM [(4,[])] [zna y10.1.topo.parents,zne y10.1.topo.nodes,znd y10.1.up,znf y10.1.queue,zng y10.1.runs,znh y10.1.ends])
      .exact bC H λy11 h11 H=>wH [.c 71 (O1H h11)] (X0 H (λH=>sI H▸wQ [(4,z0)] z1) λH=>sI H▸wQ [(4,[])] [zna y11.1.topo.parents,zne y11.1.topo.nodes,znd y11.1.up,znf y11.1.queue,zng y11.1.runs,znh y11.1.ends])
theorem Same.bif{b:Bool}{o p o' p':Option (State×Int)}(h1:Same o o')(h2:Same p p'):Same (bif b then o else p) (bif b then o' else p'):=by cases b<;>assumption
theorem Y2F{α:Type}(p:α->Bool)(l:List α):∃r:Int,rgl (λx (i:Nat) (_:Unit) (k:Unit->Option Int)=>bif p x then some (i:Int)else k ()) (λ_=>some (-1)) l 0 ()=some r/\decide (0<=r)=l.any p:=by
 refine Lh (λi (_:Unit)=>∀y∈l.take i,p y=false) (λo=>∃r:Int,o=some r/\decide (0<=r)=l.any p) (λi x b k hx hI hk=>?_) (λb hI=>?_) (by simp)
 .cases h:p x with
  |true=>exact⟨i,rfl,by rw[List.any_eq_true.2 ⟨x,yE hx,h⟩];simp⟩
  |false =>
   refine hk () λy hy=>?_
   obtain⟨hi,rfl⟩:=yB hx
   rw[List.take_succ_eq_append_getElem hi]at hy
   rcases List.mem_append.1 hy with hy|hy
   .exact hI y hy
   .rw[List.mem_singleton.1 hy];exact h
 .rw[List.take_length]at hI
  exact⟨-1,rfl,by rw[List.any_eq_false.2 λy hy=>by rw[hI y hy];simp];rfl⟩
def runI(id:Int)(x:Run):Bool:=x.job.id==id
theorem J2u(l:tR)(id:Int):V2 l id=some (l.any (runI id)):=by
 obtain⟨r,h1,h2⟩:=Y2F (runI id) l
 unfold V2
 rw[show M3 l id=some r from h1,bS,h2]
def endR(s:State)(p:Run->Bool)(why:Int):State:=State.mk s.topo s.up s.lic s.depth s.now s.queue (s.runs.filter λx=>!p x) (s.ends++(s.runs.filter p).map λx=>End.mk x.job.id s.now why)
theorem Y24{s:State}(hs:SmallS s)(p:Run->Bool)(why:Int)(he:s.ends.length+s.runs.length<=1048576):SmallS (endR s p why):=by
 have h1:=List.length_filter_le (λx=>!p x) s.runs
 have h2:=List.length_filter_le p s.runs
 exact⟨hs.up,hs.par,hs.nodes,by have:=hs.jobs;simp only[endR];omega,by simp[endR];omega,λx hx=>hs.run x (List.mem_filter.1 hx).1⟩
theorem Y0U{γ:Type}{w now:Int}{p:Run->Bool}{bd:Run->Nat->tE×tR->((tE×tR)->Option γ)->Option γ}(hb:∀x i v k,v.1.length<=1000000->v.2.length<=1000000->bd x i v k=bif p x then k (v.1++[End.mk x.job.id now w],v.2)else k (v.1,v.2++[x]))(k:tE×tR->Option γ) :
  ∀(l:tR) (i:Nat) (es:tE) (rs:tR),es.length+l.length<=1000000->rs.length+l.length<=1000000->rgl bd k l i (es,rs)=k (es++(l.filter p).map (λx=>End.mk x.job.id now w),rs++l.filter λx=>!p x)
 |[],i,es,rs,_,_=>by simp[rgl]
 |x::l,i,es,rs,h1,h2=>by
  simp only[yT]at h1 h2
  rw[rgl,hb x i _ _ (by simp only;omega) (by simp only;omega),List.filter_cons,List.filter_cons]
  cases hp:p x with
  |true =>
   simp only[yN,yL,yb,yG,yc]
   rw[Y0U hb k l (i+1) _ _ (by simp;omega) (by omega)]
   simp
  |false =>
   simp only[yM,Bool.not_false,yb,yG,yc]
   rw[Y0U hb k l (i+1) _ _ (by omega) (by simp;omega)]
   simp
theorem M1I{s:State}(h1:s.ends.length+s.runs.length<=1000000)(why id node:Int):Oa s why id node=some (endR s (λx=>runI id x||x.nodes.contains node) why):=by
 unfold Oa
 rw[Y0U (p:=λx=>runI id x||x.nodes.contains node) (now:=s.now) (w:=why) (λx i v k q1 q2=>by
  unfold Qs runI
  cases h:(x.job.id==id)with
  |true =>
   simp only[yN,bS,Bool.true_or]
   rw[Q0 (by simp;omega),bS]
  |false =>
   simp only[yM,Bool.false_or,Jd,bS]
   cases x.nodes.contains node with
   |true=>simp only[yN];rw[Q0 (by simp;omega),bS]
   |false=>simp only[yM];rw[Q0 (by simp;omega),bS]) _ _ _ _ _ h1 (by simp;omega)]
 unfold Us endR
 simp
theorem J0B{γ:Type}{w now:Int}{p:Run->Bool}{bd:Run->Nat->tE×tJ×tR->((tE×tJ×tR)->Option γ)->Option γ}(hb:∀x i v k,v.1.length<=1000000->v.2.1.length<=1000000->v.2.2.length<=1000000->bd x i v k=bif p x then k (v.1++[End.mk x.job.id now w],v.2.1++[x.job],v.2.2)else k (v.1,v.2.1,v.2.2++[x]))(k:tE×tJ×tR->Option γ) :
  ∀(l:tR) (i:Nat) (es:tE) (js:tJ) (rs:tR),es.length+l.length<=1000000->js.length+l.length<=1000000->rs.length+l.length<=1000000->rgl bd k l i (es,js,rs)=k (es++(l.filter p).map (λx=>End.mk x.job.id now w),js++(l.filter p).map Run.job,rs++l.filter λx=>!p x)
 |[],i,es,js,rs,_,_,_=>by simp[rgl]
 |x::l,i,es,js,rs,h1,h2,h3=>by
  simp only[yT]at h1 h2 h3
  rw[rgl,hb x i _ _ (by simp only;omega) (by simp only;omega) (by simp only;omega),List.filter_cons,List.filter_cons]
  cases hp:p x with
  |true =>
   simp only[yN,yL,yb,yG,yc]
   rw[J0B hb k l (i+1) _ _ _ (by simp;omega) (by simp;omega) (by omega)]
   simp
  |false =>
   simp only[yM,Bool.not_false,yb,yG,yc]
   rw[J0B hb k l (i+1) _ _ _ (by omega) (by omega) (by simp;omega)]
   simp
theorem X2e{s:State}(h1:s.ends.length+s.runs.length<=1000000)(why id:Int):W4 s why id=some ((s.runs.filter (runI id)).map Run.job,endR s (runI id) why):=by
 unfold W4
 rw[J0B (p:=runI id) (now:=s.now) (w:=why) (λx i v k q1 q2 q3=>by
  unfold W8 WP runI
  cases h:(x.job.id==id)with
  |true=>simp only[yL,yM,yN];rw[Q0 (by simp;omega),bS,Q0 (by simp;omega),bS]
  |false=>simp only[Bool.not_false,yM,yN];rw[Q0 (by simp;omega),bS]) _ _ _ _ _ _ h1 (by simp;omega) (by simp;omega)]
 unfold Q8 endR
 simp
theorem Z24{s:State}(h1:s.ends.length+s.runs.length<=1000000)(why n:Int):M5 s why n=some ((s.runs.filter λx=>x.nodes.contains n).map Run.job,endR s (λx=>x.nodes.contains n) why):=by
 unfold M5
 rw[J0B (p:=λx=>x.nodes.contains n) (now:=s.now) (w:=why) (λx i v k q1 q2 q3=>by
  unfold W9 M0j
  simp only[Um,bS]
  cases h:x.nodes.contains n with
  |true=>simp only[yL,yM,yN];rw[Q0 (by simp;omega),bS,Q0 (by simp;omega),bS]
  |false=>simp only[Bool.not_false,yM,yN];rw[Q0 (by simp;omega),bS]) _ _ _ _ _ _ h1 (by simp;omega) (by simp;omega)]
 unfold Q9 endR
 simp
theorem V1y{s:State}{p q:Run->Bool}(h:∀x∈s.runs,p x=q x)(why:Int):endR s p why=endR s q why:=by
 unfold endR
 rw[List.filter_congr h,List.filter_congr (p:=λx=>!p x) (q:=λx=>!q x) λx hx=>by rw[h x hx]]
theorem V2e{s:State}{p:Run->Bool}(h:∀x∈s.runs,p x=false)(why:Int):endR s p why=s:=by
 unfold endR
 have e1:s.runs.filter p=[]:=List.filter_eq_nil_iff.2 λx hx=>by rw[h x hx];simp
 have e2:(s.runs.filter λx=>!p x)=s.runs:=List.filter_eq_self.2 λx hx=>by rw[h x hx];rfl
 rw[e1,e2,List.map_nil,List.append_nil]
theorem Y2n{s:State}(h:StateP s){x:Run}(hx:x∈s.runs):x.nodes.contains (-1)=false:=by
 rw[Bool.eq_false_iff]
 intro q
 have:=((O5.1 (h.runs.job x hx).2.2.1).2 _ (List.contains_iff_mem.1 q)).1
 omega
theorem U2j(s:State)(id:Int):hasI (allJobs s) id=(hasI s.queue id||s.runs.any (runI id)):=by
 unfold hasI allJobs
 rw[List.any_append,List.any_map]
 rfl
theorem M1m{s:State}(hs:SmallS s)(id why:Int):Same (LR s id why) (JT s id why):=by
 unfold LR JT
 rw[(Xb hs.jobs).1,(Xb hs.jobs).2,bS,bS]
 cases ho:stateOk s with
 |false=>exact .err 1
 |true =>
 cases hw:((why != 2)&&(why != 3))with
 |true=>exact .err 1
 |false =>
 have h:=Uo ho
 have h60:=h.len60
 have he:=h.ends
 have hnd:=(Ms h.queue).2.2
 unfold allJobs at hnd
 rw[List.map_append,List.map_map,List.nodup_append]at hnd
 obtain⟨nd1,nd2,nd3⟩:=hnd
 simp only[yL,Bool.or_self,yM]
 obtain⟨y,y1,y2⟩:=L2u s.queue id
 obtain⟨z,z1,z2⟩:=L2u (allJobs s) id
 rw[y1,bS,O04 hs.jobs,bS,z1,bS,z2,y2,U2j,J2u,bS]
 cases hQ:hasI s.queue id with
 |true =>
  have hR:s.runs.any (runI id)=false:=by
   rw[Bool.eq_false_iff]
   intro q
   obtain⟨x,hx,hx2⟩:=List.any_eq_true.1 q
   obtain⟨j,hj,hj2⟩:=List.any_eq_true.1 hQ
   unfold runI at hx2
   rw[beq_iff_eq]at hx2 hj2
   exact nd3 j.id (List.mem_map_of_mem hj) x.job.id (List.mem_map_of_mem (f:=Job.id∘Run.job) hx) (by rw[hj2,hx2])
  obtain⟨j,hj,hj2⟩:=List.any_eq_true.1 hQ
  rw[beq_iff_eq]at hj2
  obtain⟨a,b,hab⟩:=List.append_of_mem hj
  have hne:∀x∈a++b,x.id≠id:=by
   have hp:((a++j::b).map Job.id).Perm ((j::(a++b)).map Job.id):=List.perm_middle.map _
   rw[hab]at nd1
   have:=List.nodup_cons.1 (by simpa using hp.nodup_iff.1 nd1:(j.id::(a++b).map Job.id).Nodup)
   intro x hx e
   exact this.1 (by rw[hj2,← e];exact List.mem_map_of_mem hx)
  have ha:∀x∈a,x.id≠id:=λx hx=>hne x (List.mem_append_left _ hx)
  have hb:∀x∈b,x.id≠id:=λx hx=>hne x (List.mem_append_right _ hx)
  have hlen:a.length+b.length<=60:=by rw[hab]at h60;simp at h60;omega
  have hat:Ou s.queue id=some (a.length:Int):=by
   unfold Ou M1
   rw[hab,V1E j b id hj2 a 0 ha,bS,Nat.zero_add]
  have hout:Vw s.queue id=some (a++b):=by rw[hab];exact L2m (by omega) hj2 ha hb
  have hdel:O0K s.queue (a.length:Int) (w64 ((a.length:Int)+1))=some (a++b):=by rw[hab];exact M2o (by omega)
  rw[hR,hat,bS]
  have hlt:decide ((a.length:Int)<0)=false:=by simp
  simp only[Bool.or_false,yL,Bool.false_or,Bool.true_and,Bool.not_false,hlt]
  cases hw2:(why==2)with
  |true=>exact .err 5
  |false =>
  simp only[yM]
  cases decide ((300:Int)<=(s.ends.length:Int))with
  |true=>exact .err 6
  |false =>
  simp only[yM,yN,Ow hs,Ue hs,bS,hout,hdel]
  rw[Q0 (by simp;omega),bS,bS]
  unfold Up Uq
  rw[show Jj=Oa from rfl,M1I (by simp;omega),bS]
  rw[V2e (s:=State.mk s.topo s.up s.lic s.depth s.now (a++b) s.runs (s.ends++[End.mk id s.now why])) (λx hx=>by
   have q1:runI id x=false:=List.any_eq_false.1 hR x hx |> λq=>by simpa using q
   rw[q1,Y2n h hx];rfl)]
  rw[show Oc=Z4 from rfl]
  exact M03 ⟨hs.up,hs.par,hs.nodes,by simp;omega,by simp;omega,hs.run⟩
 |false =>
  obtain⟨n,n1,n2,n3⟩:=atI s.queue id
  rw[n1,bS,n3,hQ]
  cases hR:s.runs.any (runI id)with
  |false=>simp only[Bool.or_self,Bool.not_false,Bool.true_or,Bool.or_true,Bool.and_self,yN];exact .err 5
  |true =>
  simp only[Bool.false_or,yL,Bool.false_and,Bool.or_self,yM]
  cases decide ((300:Int)<=(s.ends.length:Int))with
  |true=>exact .err 6
  |false =>
  simp only[yM,yN,Ow hs,Ue hs,bS]
  unfold Up Uq
  rw[show Jj=Oa from rfl,M1I (by simp;omega),bS,X2e (by omega),bS]
  rw[V1y (s:=State.mk s.topo s.up s.lic s.depth s.now s.queue s.runs s.ends) (p:=λx=>runI id x||x.nodes.contains (-1)) (q:=runI id) λx hx=>by rw[Y2n h hx,Bool.or_false]]
  rw[show Oc=Z4 from rfl]
  exact M03 (Y24 hs _ _ (by omega))
theorem M2g{s:State}(hs:SmallS s)(n:Int):Same (O0t s n) (Q0w s n):=by
 unfold O0t Q0w
 rw[(Xb hs.jobs).1,(Xb hs.jobs).2,bS,bS]
 cases ho:stateOk s with
 |false=>exact .err 1
 |true =>
 have h:=Uo ho
 have h60:=h.len60
 have he:=h.ends
 simp only[yL,yM]
 rw[W1C h]
 cases hn:Z0 n 0 (w64 ((s.up.length:Int)-1))with
 |false=>exact .err 7
 |true =>
 obtain⟨u,hu⟩:=W29 h (by rw[W1C h];exact hn)
 simp only[yL,yM,hu,bS,Bool.false_or]
 cases u with
 |false=>exact .err 7
 |true =>
 simp only[yL,yM,Ow hs,Ue hs,bS,hu]
 have hfl:=List.length_filter_le (λx:Run=>x.nodes.contains n) s.runs
 rw[Q7 (bd:=O02 n) (bs:=88) (p:=λx=>x.nodes.contains n) (f:=Run.job) (λx hx i b k=>by
  unfold O02
  rw[Jd,bS]) (by omega)]
 unfold L0h
 rw[M1I (by simp;omega),bS,Z24 (by simp;omega),bS]
 have e1:∀(q:tJ) (u:tB),endR (State.mk s.topo u s.lic s.depth s.now q s.runs s.ends) (λx=>runI 0 x||x.nodes.contains n) 4=endR (State.mk s.topo u s.lic s.depth s.now q s.runs s.ends) (λx=>x.nodes.contains n) 4:=λq u=>V1y (λx hx=>by
  have:=(Xk.1 (h.runs.job x hx).1).1
  unfold runI
  rw[show(x.job.id==0)=false from beq_eq_false_iff_ne.2 (by omega),Bool.false_or]) 4
 rw[e1]
 simp only[endR]
 have hfn:=List.length_filter_le (λx:Run=>!x.nodes.contains n) s.runs
 refine Same.bif (.err 6) ?_
 simp only[hu,bS]
 rw[Q0 (by rw[List.length_map];omega),bS]
 refine M03 ⟨by simpa using hs.up,hs.par,hs.nodes,?_,?_,λx hx=>hs.run x (List.mem_filter.1 hx).1⟩
 .show(s.queue++(s.runs.filter λx=>x.nodes.contains n).map Run.job).length+(s.runs.filter λx=>!x.nodes.contains n).length<=1048576
  rw[yU,List.length_map];omega
 .show(s.ends++(s.runs.filter λx=>x.nodes.contains n).map λx=>End.mk x.job.id s.now 4).length<=1048576
  rw[yU,List.length_map];omega
theorem Q1J(c:Cmd):XU c=Wl c:=by
 unfold XU Wl
 cases h1:(c.kind==1)with
 |true=>simp[UC,Bool.and_assoc]
 |false =>
  have e2:∀v,Zv c v=Yj c v:=λv=>by
   unfold Zv Yj
   cases v with
   |true =>
    simp only[yN,Z0,beq_self_eq_true,Bool.true_and]
    congr 1
    rw[Bool.eq_iff_iff]
    simp
    omega
   |false =>
    simp only[yM]
    cases h6:(c.kind==6)with
    |true =>
     simp only[yN,beq_self_eq_true,Bool.true_and,Uc]
     congr 1
     cases U0 c.lic<;>simp[Bool.and_assoc]
    |false =>
     simp only[yM]
     cases h7:(c.kind==7)with
     |true =>
      simp only[yN,beq_self_eq_true,Bool.true_and,On,Mb]
      congr 1
      cases time c.n<;>simp[Bool.and_assoc]
     |false=>rfl
  have e3:∀v,Ju c v=Zj c v:=λv=>by
   unfold Ju Zj
   rw[e2,e2]
   cases v with
   |true =>
    simp only[yN,Z0,beq_self_eq_true,Bool.true_and]
    congr 1
    rw[Bool.eq_iff_iff]
    simp
    omega
   |false=>rfl
  simp only[yM,e3]
theorem V0D(c:Cmd):∃b,Wl c=some b:=by
 unfold Wl Zj Yj
 cases(c.kind==1)<;>cases(c.kind==2)<;>cases(c.kind==3)<;>cases(c.kind==4)<;>cases(c.kind==5)<;>cases(c.kind==6)<;>cases(c.kind==7)<;>exact⟨_,rfl⟩
theorem L1a(t:Int):∀(f:Nat) (s:State) (r:State×Bool),SmallS s->whl (Mu t) f s=some r->SmallS r.1
 |0,_,_,_,h=>by cases h
 |f+1,s,r,hs,h=>by
  rw[whl,W0Y t hs]at h
  cases hc:(decide (0<=nextF s)&&decide (nextF s<=t))with
  |false =>
   rw[hc,yM]at h
   cases h
   exact⟨hs.up,hs.par,hs.nodes,hs.jobs,hs.ends,hs.run⟩
  |true =>
   rw[hc,yN]at h
   by_cases h3:300<((endF s (nextF s)).ends.length:Int)
   .rw[decide_eq_true h3,yN]at h
    cases h
    exact J01
   .rw[decide_eq_false h3,yM]at h
    have hsm:=U1y hs (nextF s) (by omega)
    obtain⟨s',new,e1,e2,hS⟩:=M1z hsm
    rw[e2,bS]at h
    exact L1a t f s' r (hS.small hsm) h
theorem L1U{s:State}(hs:SmallS s){t:Int}{r:State×Bool}(h:UT s t=some r):SmallS r.1:=by
 unfold UT at h
 rw[(Xb hs.jobs).2,bS]at h
 cases hS:stateOk s with
 |false=>rw[hS]at h;cases h;exact J01
 |true =>
  rw[hS]at h
  simp only[yL,Bool.false_or]at h
  cases hw:Z0 t s.now 1000000000 with
  |false=>rw[hw]at h;cases h;exact J01
  |true =>
   rw[hw]at h
   simp only[yL,yM,Ue hs,bS]at h
   exact L1a t _ s r hs h
theorem Same.tup{o p:Option (State×Int)}(h:Same o p):Same (o.bind λy=>some (y.1,y.2)) (p.bind λy=>some (y.1,y.2)):=by
 obtain⟨r,rfl,rfl,h3⟩:=h
 exact⟨r,rfl,rfl,h3⟩
theorem X25{s:State}(hs:SmallS s)(c:Cmd):Same (J0f s c) (Z0h s c):=by
 unfold J0f Z0h
 obtain⟨b,hb⟩:=V0D c
 rw[Q1J,hb,bS,bS]
 cases b with
 |false=>exact .err 1
 |true =>
 simp only[yL,yM,(Xb hs.jobs).1,(Xb hs.jobs).2,bS,Bool.false_or]
 cases ho:stateOk s with
 |false=>exact .err 1
 |true =>
 simp only[yL,yM]
 cases(c.kind==1)with
 |true=>exact(J1U hs c.job).tup
 |false =>
 cases(c.kind==2)with
 |true=>exact(M1m hs c.n 3).tup
 |false =>
 cases(c.kind==3)with
 |true=>exact(M1m hs c.n 2).tup
 |false =>
 cases(c.kind==4)with
 |true=>exact(M2g hs c.n).tup
 |false =>
 cases(c.kind==5)with
 |true=>exact(Z1V hs c.n).tup
 |false =>
 cases(c.kind==6)with
 |true=>exact(Y1V hs c.lic).tup
 |false =>
 simp only[yM]
 obtain⟨r,r1,r2⟩:=Z2l hs c.n
 have hsm:=L1U hs r2
 rw[r1,r2]
 simp only[bS]
 cases hr:r.2 with
 |false=>exact .err 10
 |true=>exact⟨_,rfl,rfl,hsm⟩
theorem L1I(n:Nat):(dgt n).toNat=48+n % 10:=by unfold dgt;rw[UInt8.toNat_ofNat'];omega
def O0q(c:UInt8):Prop:=48<=c.toNat/\c.toNat<=57
theorem O2o(n:Nat):∀c∈dg n,O0q c:=by
 induction n using Nat.strongRecOn with
 |_ n ih =>
  by_cases h:n<10
  .rw[Y1U h]
   intro c hc
   rw[List.mem_singleton.1 hc];unfold O0q;rw[L1I];omega
  .rw[O2e (by omega)]
   intro c hc
   rcases List.mem_append.1 hc with hc|hc
   .exact ih (n / 10) (by omega) c hc
   .rw[List.mem_singleton.1 hc];unfold O0q;rw[L1I];omega
def dval(l:Str):Nat:=l.foldl (λa c=>10*a+(c.toNat-48)) 0
theorem X2v(n:Nat):dval (dg n)=n:=by
 induction n using Nat.strongRecOn with
 |_ n ih =>
  by_cases h:n<10
  .rw[Y1U h];simp[dval,L1I];omega
  .have:=ih (n / 10) (by omega)
   rw[O2e (by omega)]
   unfold dval at this ⊢
   rw[List.foldl_append,this]
   simp[L1I];omega
theorem M0u{n:Int}(h:time n=true):numText n=dg n.toNat:=by unfold numText;rw[yd h]
theorem X2h{n:Int}(h:time n=true):0<=n/\n<=1000000000:=by simpa[time]using h
theorem LD{n:Int}{c:UInt8}(hc:¬ O0q c):c∉numText n:=by
 unfold numText
 split
 .exact λh=>hc (O2o _ c h)
 .simp
theorem no10:¬ O0q 10:=by unfold O0q;decide
theorem no32:¬ O0q 32:=by unfold O0q;decide
theorem no47:¬ O0q 47:=by unfold O0q;decide
theorem X21{v:Vec}(h:U0 v=true):time v.a=true/\time v.b=true/\time v.c=true:=by
 have h':(0<=v.a/\v.a<=1000000)/\(0<=v.b/\v.b<=1000000)/\(0<=v.c/\v.c<=1000000):=by
  simp[U0,Lb]at h;omega
 simp[time];omega
theorem L1v{v:Vec}(h:U0 v=true):X4 v=numText v.a++47::(numText v.b++47::numText v.c):=by
 unfold X4;rw[yd h];simp
theorem J1J{v:Vec}{c:UInt8}(hc:¬ O0q c)(h47:c≠47):c∉X4 v:=by
 unfold X4
 split
 .simp[LD hc,h47]
 .simp
theorem TopoP.times{t:Topo}(h:TopoP t):(∀x∈t.parents.drop 1,time x=true)/\∀x∈t.nodes,time x.leaf=true/\U0 x.cap=true:=by
 have hle:=h.tree.le
 refine⟨λx hx=>?_,λx hx=>?_⟩
 .obtain⟨i,hi⟩:=List.getElem?_of_mem hx
  rw[List.getElem?_drop]at hi
  have h1:=h.tree.par (1+i) (by omega) x hi
  have h2:=(yB hi).1
  unfold time;rw[yD,yO,yO];omega
 .obtain⟨q1,q2,_,q4⟩:=h.node x hx
  exact⟨by unfold time;rw[yD,yO,yO];omega,q4⟩
def Y2(c:UInt8):Str->tT
 |[]=>[[]]
 |x::s=>if x=c then[]::Y2 c s else match Y2 c s with
  |[]=>[[x]]
  |a::r=>(x::a)::r
theorem L03{c:UInt8}:∀{a:Str},c∉a->Y2 c a=[a]
 |[],_=>rfl
 |x::a,h=>by
  simp only[List.mem_cons,not_or]at h
  rw[Y2,ye (Ne.symm h.1),L03 h.2]
theorem Le{c:UInt8}{r:Str}:∀{a:Str},c∉a->Y2 c (a++c::r)=a::Y2 c r
 |[],_=>by rw[List.nil_append,Y2,yd rfl]
 |x::a,h=>by
  simp only[List.mem_cons,not_or]at h
  rw[List.cons_append,Y2,ye (Ne.symm h.1),Le h.2]
def headF(w:Str):tT->tT
 |[]=>[w]
 |x::r=>(w++x)::r
theorem Q23(w:Str)(x:UInt8)(l:tT):headF (w++[x]) l=headF w (match l with
  |[]=>[[x]]
  |a::r=>(x::a)::r):=by cases l<;>simp[headF]
theorem Yc{s:Str}{c:UInt8}(hs:s.length<=4194304):Z3 s (c.toNat:Int)=some (Y2 c s):=by
 unfold Z3
 have key:∀(n:Nat) (st i:Nat) (out:tT) (f:Nat),s.length-i=n->st<=i->i<=s.length->out.length<=i->n<f->whl (LE s (c.toNat:Int)) f ((st:Int),(i:Int),out)=some (out++headF ((s.take i).drop st) (Y2 c (s.drop i))):=by
  intro n
  induction n with
  |zero =>
   intro st i out f hn h1 h2 h3 hf
   obtain⟨f,rfl⟩:∃g,f=g+1:=⟨f-1,by omega⟩
   have hi:i=s.length:=by omega
   subst hi
   rw[whl,LE]
   simp only[Int.lt_irrefl,decide_false,yM]
   have e:cutL s (some (st:Int)) none=some (s.drop st):=by
    have a1:(0:Int)<=(st:Int)/\(st:Int)<=(s.length:Int):=by omega
    simp[cutL,bhi,blo,h1]
   rw[e,bS,Q0 (by simp;omega)]
   simp[Y2,headF]
  |succ n ih =>
   intro st i out f hn h1 h2 h3 hf
   obtain⟨f,rfl⟩:∃g,f=g+1:=⟨f-1,by omega⟩
   have hi:i<s.length:=by omega
   rw[whl,LE]
   rw[show decide ((i:Int)<(s.length:Int))=true by simp;omega,yN,X3,yA hi,bS,Wn (by omega),List.drop_eq_getElem_cons hi,Y2]
   by_cases hc:s[i]=c
   .rw[hc,beq_self_eq_true,yN,yd rfl]
    have e:cutL s (some (st:Int)) (some (i:Int))=some ((s.take i).drop st):=by
     simp[cutL,bhi,blo,h1,h2]
    rw[e,bS,Q0 (by simp;omega),bS,ih (i+1) (i+1) _ f (by omega) (by omega) (by omega) (by simp;omega) (by omega)]
    have e2:(s.take (i+1)).drop (i+1)=[]:=List.drop_eq_nil_of_le (by simp;omega)
    rw[e2]
    have e3:headF [] (Y2 c (s.drop (i+1)))=Y2 c (s.drop (i+1)):=by
     cases hx:Y2 c (s.drop (i+1))with
     |nil =>
      exfalso
      cases hd:s.drop (i+1)with
      |nil=>rw[hd]at hx;cases hx
      |cons y r =>
       rw[hd,Y2]at hx
       split at hx
       .cases hx
       .split at hx<;>cases hx
     |cons y r=>simp[headF]
    rw[e3]
    simp[headF]
   .have hne:((s[i].toNat:Int)==(c.toNat:Int))=false:=beq_eq_false_iff_ne.2 λe=>hc (UInt8.toNat_inj.1 (by omega))
    rw[hne,yM,ye hc,ih st (i+1) out f (by omega) (by omega) (by omega) (by omega) (by omega)]
    have e2:(s.take (i+1)).drop st=(s.take i).drop st++[s[i]]:=by
     rw[List.take_succ_eq_append_getElem hi,List.drop_append_of_le_length (by simp;omega)]
    rw[e2,Q23]
 have:=key s.length 0 0 [] 9223372036854775807 (by omega) (by omega) (by omega) (by simp) (by omega)
 rw[show((0:Nat):Int)=0 from rfl]at this
 rw[this]
 cases hx:Y2 c s with
 |nil =>
  exfalso
  cases s with
  |nil=>cases hx
  |cons y r =>
   rw[Y2]at hx
   split at hx
   .cases hx
   .split at hx<;>cases hx
 |cons y r=>simp[headF,hx]
theorem Q2e:∀(s:Str) (a:Nat),(∀c∈s,O0q c)->s.foldl (λa c=>10*a+(c.toNat-48)) a<(a+1)*10 ^ s.length
 |[],a,_=>by simp
 |c::s,a,h=>by
  have h1:=Q2e s (10*a+(c.toNat-48)) λx hx=>h x (by simp[hx])
  have h2:=h c (by simp)
  unfold O0q at h2
  rw[List.foldl_cons,yT,Nat.pow_succ]
  refine Nat.lt_of_lt_of_le h1 ?_
  have h3:10*a+(c.toNat-48)+1<=(a+1)*10:=by omega
  calc (10*a+(c.toNat-48)+1)*10 ^ s.length<=((a+1)*10)*10 ^ s.length:=Nat.mul_le_mul_right _ h3
   _=(a+1)*(10 ^ s.length*10):=by rw[Nat.mul_assoc,Nat.mul_comm 10]
theorem Y2v{s:Str}(h:∀c∈s,O0q c)(hl:s.length<=10):dval s<10000000000:=by
 have h1:=Q2e s 0 h
 have h2:10 ^ s.length<=10 ^ 10:=Nat.pow_le_pow_right (by omega) hl
 unfold dval
 omega
theorem ZN{n:Int}(h:time n=true):U2 (numText n)=some (n,true):=by
 have hd:∀c∈numText n,O0q c:=by rw[M0u h];exact O2o _
 have hv:((dval (numText n):Nat):Int)=n:=by
  have:=X2h h
  rw[M0u h,X2v];omega
 have hl:=J0 n
 have hne:1<=(numText n).length:=by
  rw[M0u h,dg]
  split<;>simp
 unfold U2 Z0
 rw[show(decide ((1:Int)<=((numText n).length:Int))&&decide (((numText n).length:Int)<=10))=true by simp;omega]
 simp only[yL,yM]
 have hN:=Z7 n
 revert hd hv hl hN
 generalize hs:numText n=s
 intro hd hv hl hN
 refine Xw (λ_ (o:Option (Int×Bool))=>o=some (n,true)) (λv:Int×Int=>((s.length:Int)-v.2).toNat) (λv=>∃i:Nat,i<=s.length/\v=(((dval (s.take i):Nat):Int),(i:Int))) (λv k hI hk=>?_) _ _ ⟨0,by omega,by simp[dval]⟩ (by simp only;omega)
 obtain⟨i,hi,rfl⟩:=hI
 unfold Og
 dsimp only
 by_cases hlt:i<s.length
 .have hc:=hd s[i] (List.getElem_mem hlt)
  unfold O0q at hc
  have hb:=Y2v (s:=s.take i) (λc hc=>hd c (List.mem_of_mem_take hc)) (by simp;omega)
  rw[show decide ((i:Int)<(s.length:Int))=true by simp;omega,yN,X3,yA hlt,bS]
  rw[show(decide ((s[i].toNat:Int)<48)||decide ((57:Int)<(s[i].toNat:Int)))=false by simp;omega,yM]
  have e1:IntKind.wrap .u8 ((s[i].toNat:Int)-48)=((s[i].toNat-48:Nat):Int):=by
   rw[show((s[i].toNat:Int)-48)=((s[i].toNat-48:Nat):Int) by omega]
   show(_:Int) % 256=_
   omega
  have e2:IntKind.wrap .i64 ((s[i].toNat-48:Nat):Int)=((s[i].toNat-48:Nat):Int):=Y5 (by omega)
  rw[e1,e2,Y5 (n:=10*((dval (s.take i):Nat):Int)) (by omega),Y5 (n:=(10*((dval (s.take i):Nat):Int))+_) (by omega),Y5 (n:=(i:Int)+1) (by omega)]
  refine hk _ ⟨i+1,by omega,?_⟩ (by simp only;omega)
  rw[List.take_succ_eq_append_getElem hlt]
  unfold dval
  rw[List.foldl_append]
  simp
 .have:i=s.length:=by omega
  subst this
  rw[show decide ((s.length:Int)<(s.length:Int))=false by simp,yM,List.take_length,hv,hN,bS]
  simp
theorem M25{v:Vec}(h:U0 v=true):Y2 47 (X4 v)=[numText v.a,numText v.b,numText v.c]:=by
 rw[L1v h,Le (LD no47),Le (LD no47),L03 (LD no47)]
theorem W0A{v:Vec}(h:U0 v=true):U9 (X4 v)=some (v,true):=by
 obtain⟨t1,t2,t3⟩:=X21 h
 have hl:=W7 v
 unfold U9
 have hp:Z3 (X4 v) 47=some (Y2 47 (X4 v)):=Yc (c:=47) (by omega)
 rw[hp,M25 h,bS]
 have i0:idx [numText v.a,numText v.b,numText v.c] 0=some (numText v.a):=rfl
 have i1:idx [numText v.a,numText v.b,numText v.c] 1=some (numText v.b):=rfl
 have i2:idx [numText v.a,numText v.b,numText v.c] 2=some (numText v.c):=rfl
 have e:((([numText v.a,numText v.b,numText v.c].length:Nat):Int)!=3)=false:=rfl
 rw[e,yM,i0,bS,ZN t1,bS,i1,bS,ZN t2,bS,i2,bS,ZN t3,bS]
 have hv:Z2 (Vec.mk v.a v.b v.c)=true:=by rw[Uc];exact h
 simp only[hv,yL,Bool.or_self,yM]
def jobW(j:Job):tT:=[numText j.id,numText j.prio,numText j.nodes,X4 j.need,X4 j.lic,numText j.wall,numText j.level]
theorem X1E{j:Job}(h:Y1 j=true):Ve (jobW j)=some j:=by
 obtain⟨h1,h2,h3,h4,h5,h6,h7⟩:=Xk.1 h
 have t:∀{n:Int},0<=n->n<=1000000000->time n=true:=λa b=>by simp[time,a,b]
 unfold Ve
 have i0:idx (jobW j) 0=some (numText j.id):=rfl
 have i1:idx (jobW j) 1=some (numText j.prio):=rfl
 have i2:idx (jobW j) 2=some (numText j.nodes):=rfl
 have i3:idx (jobW j) 3=some (X4 j.need):=rfl
 have i4:idx (jobW j) 4=some (X4 j.lic):=rfl
 have i5:idx (jobW j) 5=some (numText j.wall):=rfl
 have i6:idx (jobW j) 6=some (numText j.level):=rfl
 rw[i0,bS,ZN (t (by omega) (by omega)),bS,i1,bS,ZN (t (by omega) (by omega)),bS,i2,bS,ZN (t (by omega) (by omega)),bS,i3,bS,W0A h4,bS,i4,bS,W0A h5,bS,i5,bS,ZN (t (by omega) (by omega)),bS,i6,bS,ZN (t (by omega) (by omega)),bS]
theorem V19{v:Vec}:(32:UInt8)∉X4 v:=J1J no32 (by decide)
theorem O2b(j:Job):Y2 32 (numText j.id++[32]++numText j.prio++[32]++numText j.nodes++[32]++X4 j.need++[32]++X4 j.lic++[32]++numText j.wall++[32]++numText j.level)=jobW j:=by
 simp only[List.append_assoc,List.cons_append,List.nil_append]
 rw[Le (LD no32),Le (LD no32),Le (LD no32),Le V19,Le V19,Le (LD no32),L03 (LD no32)]
 rfl
theorem Zl:JA=Z3:=rfl
theorem M0A(s:Str):Ya s=U2 s:=by
 unfold Ya U2 Z0
 have e:(decide ((s.length:Int)<1)||decide ((10:Int)<(s.length:Int))) = !(decide ((1:Int)<=(s.length:Int))&&decide ((s.length:Int)<=10)):=by
  rw[Bool.eq_iff_iff];simp
 have e2:ZG s=Og s:=by
  funext v k
  unfold ZG Og
  simp only[Int.mul_comm v.1 10,V9,Z7]
 rw[e,e2]
theorem YN(s:Str):∃n b,U2 s=some (n,b)/\(b=true->numText n=s)/\0<=n/\n<10000000000:=by
 unfold U2 Z0
 cases hw:(decide ((1:Int)<=(s.length:Int))&&decide ((s.length:Int)<=10))with
 |false=>exact⟨0,false,rfl,(λh=>by cases h),by omega⟩
 |true =>
  simp only[yL,yM]
  have hl:1<=s.length/\s.length<=10:=by simp at hw;omega
  refine Xw (λ_ (o:Option (Int×Bool))=>∃n b,o=some (n,b)/\(b=true->numText n=s)/\0<=n/\n<10000000000) (λv:Int×Int=>((s.length:Int)-v.2).toNat) (λv=>∃i:Nat,v.2=(i:Int)/\0<=v.1/\v.1<10 ^ i/\i<=s.length) (λv k hI hk=>?_) _ _ ⟨0,rfl,by simp,by simp,by omega⟩ (by simp only;omega)
  obtain⟨a,b⟩:=v
  obtain⟨i,hi,h0,h1,h2⟩:=hI
  simp only at hi h0 h1
  subst hi
  unfold Og
  dsimp only
  by_cases hlt:i<s.length
  .rw[show decide ((i:Int)<(s.length:Int))=true by simp;omega,yN,X3,yA hlt,bS]
   cases hc:(decide ((s[i].toNat:Int)<48)||decide ((57:Int)<(s[i].toNat:Int)))with
   |true=>exact⟨0,false,rfl,(λh=>by cases h),by omega⟩
   |false =>
    have hc2:48<=s[i].toNat/\s[i].toNat<=57:=by simp at hc;omega
    have hp:(10:Int) ^ i<=10 ^ 9:=by
     have:(10:Nat) ^ i<=10 ^ 9:=Nat.pow_le_pow_right (by omega) (by omega)
     exact_mod_cast this
    have e1:IntKind.wrap .u8 ((s[i].toNat:Int)-48)=((s[i].toNat-48:Nat):Int):=by
     rw[show((s[i].toNat:Int)-48)=((s[i].toNat-48:Nat):Int) by omega]
     show(_:Int) % 256=_
     omega
    have e2:IntKind.wrap .i64 ((s[i].toNat-48:Nat):Int)=((s[i].toNat-48:Nat):Int):=Y5 (by omega)
    rw[yM,e1,e2,Y5 (n:=10*a) (by omega),Y5 (n:=10*a+_) (by omega),Y5 (n:=(i:Int)+1) (by omega)]
    refine hk _ ⟨i+1,by simp,by simp only;omega,?_,by omega⟩ (by simp only;omega)
    rw[Int.pow_succ]
    simp only;omega
  .rw[show decide ((i:Int)<(s.length:Int))=false by simp;omega,yM,Z7,bS]
   cases hb:(numText a != s)with
   |true=>exact⟨0,false,rfl,(λh=>by cases h),by omega⟩
   |false =>
    have hp:(10:Int) ^ i<=10 ^ 10:=by
     have:(10:Nat) ^ i<=10 ^ 10:=Nat.pow_le_pow_right (by omega) (by omega)
     exact_mod_cast this
    exact⟨a,true,rfl,(λ_=>by simpa using hb),h0,by omega⟩
def U1p(c:UInt8):tT->Str
 |[]=>[]
 |[a]=>a
 |a::b::r=>a++c::U1p c (b::r)
theorem Qo(c:UInt8):∀s:Str,∃a r,Y2 c s=a::r
 |[]=>⟨_,_,rfl⟩
 |x::s=>by
  rw[Y2]
  split
  .exact⟨_,_,rfl⟩
  .obtain⟨a,r,h⟩:=Qo c s
   rw[h];exact⟨_,_,rfl⟩
theorem W0W(c:UInt8):∀s:Str,U1p c (Y2 c s)=s
 |[]=>rfl
 |x::s=>by
  have ih:=W0W c s
  obtain⟨a,r,h⟩:=Qo c s
  rw[Y2]
  split
  .rename_i hx
   rw[h]at ih ⊢
   rw[U1p,ih,hx];rfl
  .rw[h]at ih ⊢
   simp only
   cases r with
   |nil=>simp only[U1p]at ih ⊢;rw[ih]
   |cons b r=>simp only[U1p]at ih ⊢;rw[List.cons_append,ih]
theorem Z02{s:Str}(hs:s.length<=4194304):∃v b,Xm s=some (v,b)/\U9 s=some (v,b):=by
 have hp:Z3 s 47=some (Y2 47 s):=Yc (c:=47) (by omega)
 have hj:=W0W 47 s
 unfold Xm U9
 rw[Zl,hp,bS,bS]
 have hspec:∀(P:tT),∃a b c:Int,rgl Y4 (W3 s) P 0 [0,0,0]=W3 s [a,b,c]/\(P=[[]]->a=0/\b=0/\c=0)/\∀x y z,P=[x,y,z]->(U2 x).map Prod.fst=some a/\(U2 y).map Prod.fst=some b/\(U2 z).map Prod.fst=some c:=by
  intro P
  have tail:∀(l:tT) (i:Nat) (v:tI),3<=i->rgl Y4 (W3 s) l i v=W3 s v:=by
   intro l
   induction l with
   |nil=>intro i v _;rfl
   |cons x l ih =>
    intro i v hi
    rw[rgl,Y4,show decide ((i:Int)<3)=false by simp;omega,yM,ih (i+1) v (by omega)]
  have one:∀(x:Str) (i:Nat) (v:tI) (k:tI->Option (Vec×Bool)),i<3->v.length=3->∃n b,U2 x=some (n,b)/\Y4 x i v k=k (v.set i n):=by
   intro x i v k hi hv
   obtain⟨n,b,h,_⟩:=YN x
   refine⟨n,b,h,?_⟩
   unfold Y4
   rw[show decide ((i:Int)<3)=true by simp;omega,yN,M0A,h,bS,X3,yA (by omega),bS,yZ]
  match P with
  |[]=>exact⟨0,0,0,rfl,(λh=>by cases h),λx y z h=>by cases h⟩
  |[x] =>
   obtain⟨n,b,h1,h2⟩:=one x 0 [0,0,0] (λb=>rgl Y4 (W3 s) [] 1 b) (by omega) rfl
   refine⟨n,0,0,?_,λh=>?_,λx y z h=>by cases h⟩
   .rw[rgl,h2];rfl
   .have:x=[]:=by simpa using h
    subst this
    have:U2 []=some (0,false):=rfl
    rw[this]at h1
    cases h1
    exact⟨rfl,rfl,rfl⟩
  |[x,y] =>
   obtain⟨n,b,h1,h2⟩:=one x 0 [0,0,0] (λb=>rgl Y4 (W3 s) [y] 1 b) (by omega) rfl
   obtain⟨m,b',h3,h4⟩:=one y 1 [n,0,0] (λb=>rgl Y4 (W3 s) [] 2 b) (by omega) rfl
   refine⟨n,m,0,?_,(λh=>by cases h),λx y z h=>by cases h⟩
   rw[rgl,h2]
   show rgl Y4 (W3 s) [y] 1 [n,0,0]=_
   rw[rgl,h4];rfl
  |x::y::z::r =>
   obtain⟨n,b,h1,h2⟩:=one x 0 [0,0,0] (λb=>rgl Y4 (W3 s) (y::z::r) 1 b) (by omega) rfl
   obtain⟨m,b',h3,h4⟩:=one y 1 [n,0,0] (λb=>rgl Y4 (W3 s) (z::r) 2 b) (by omega) rfl
   obtain⟨q,b'',h5,h6⟩:=one z 2 [n,m,0] (λb=>rgl Y4 (W3 s) r 3 b) (by omega) rfl
   refine⟨n,m,q,?_,(λh=>by cases h),λx' y' z' h=>?_⟩
   .rw[rgl,h2]
    show rgl Y4 (W3 s) (y::z::r) 1 [n,0,0]=_
    rw[rgl,h4]
    show rgl Y4 (W3 s) (z::r) 2 [n,m,0]=_
    rw[rgl,h6]
    exact tail r 3 [n,m,q] (by omega)
   .simp only[yW]at h
    obtain⟨rfl,rfl,rfl,_⟩:=h
    rw[h1,h3,h5];exact⟨rfl,rfl,rfl⟩
 obtain⟨a,b,c,h1,h2,h3⟩:=hspec (Y2 47 s)
 rw[h1]
 have hk:W3 s [a,b,c]=bif X4 ⟨a,b,c⟩!=s then some (⟨0,0,0⟩,false)else some (⟨a,b,c⟩,true):=by
  unfold W3
  have i0:idx [a,b,c] 0=some a:=rfl
  have i1:idx [a,b,c] 1=some b:=rfl
  have i2:idx [a,b,c] 2=some c:=rfl
  rw[i0,i1,i2,bS,bS,bS,Jo,bS]
 rw[hk]
 by_cases hv:X4 ⟨a,b,c⟩=s
 ·-- the text of a vector
  have hok:U0 ⟨a,b,c⟩=true:=by
   cases ho:U0 ⟨a,b,c⟩with
   |true=>rfl
   |false =>
    exfalso
    have:s=[]:=by rw[← hv];unfold X4;rw[ho];rfl
    subst this
    obtain⟨rfl,rfl,rfl⟩:=h2 rfl
    revert ho;decide
  have hr:=W0A hok
  rw[hv]at hr
  unfold U9 at hr
  rw[hp,bS]at hr
  rw[hv,bne_self_eq_false,yM]
  exact⟨_,_,rfl,hr⟩
 .rw[show(X4 ⟨a,b,c⟩!=s)=true by simpa using hv,yN]
  refine⟨_,_,rfl,?_⟩
  cases hl:(((Y2 47 s).length:Int)!=3)with
  |true=>rfl
  |false =>
   have hl3:(Y2 47 s).length=3:=by simp at hl;omega
   match hP:Y2 47 s,hl3 with
   |[x,y,z],_ =>
    obtain⟨q1,q2,q3⟩:=h3 x y z hP
    obtain⟨n1,b1,e1,f1,_⟩:=YN x
    obtain⟨n2,b2,e2,f2,_⟩:=YN y
    obtain⟨n3,b3,e3,f3,_⟩:=YN z
    rw[e1]at q1;rw[e2]at q2;rw[e3]at q3
    simp only[Option.map_some,yI]at q1 q2 q3
    subst q1;subst q2;subst q3
    have i0:idx [x,y,z] 0=some x:=rfl
    have i1:idx [x,y,z] 1=some y:=rfl
    have i2:idx [x,y,z] 2=some z:=rfl
    rw[yM,i0,i1,i2,bS,e1,bS,bS,e2,bS,bS,e3,bS]
    dsimp only
    have:(((!b1||!b2)||!b3)||!(Z2 ⟨n1,n2,n3⟩))=true:=by
     rw[Uc]
     cases b1 with
     |false=>rfl
     |true =>
     cases b2 with
     |false=>rfl
     |true =>
     cases b3 with
     |false=>rfl
     |true =>
     cases ho:U0 ⟨n1,n2,n3⟩with
     |false=>rfl
     |true =>
      exfalso
      apply hv
      rw[L1v ho,f1 rfl,f2 rfl,f3 rfl,← hj,hP]
      rfl
    rw[this,yN]
def Vc(s1 by2:Str):Option Bool :=
 (bif decide ((by2.length:Int)<=(s1.length:Int))then(cutL s1 none (some (by2.length:Int)))else some default).bind λw3=>some (decide ((by2.length:Int)<=(s1.length:Int))&&(w3==by2))
theorem M0D{s1 by2:Str}{r:Bool}(H:Vc s1 by2=some r):SQ U0S [.str s1,.str by2] (.bool r):=by
 exact wa [.t 4] (bC H λw3 h3 H=>wH [.g 14 [(_,true)] (.ss _ _ _ _ λq=>(bT q.1 h3))] (sI H▸wD))
def VS(x4:Int)(_:Nat)(v4:Str)(k4:Str->Option Str):Option Str :=
 (catS v4 ([32]:Str)).bind λw5=>(V5 x4).bind λw6=>(catS w5 w6).bind λw7=>k4 w7
def V0g(v4:Str):Option Str :=
 some v4
def Om(word1:Str)(l2:tI):Option Str :=
 rgl VS V0g l2 0 word1
theorem LG{word1:Str}{l2:tI}{r:Str}(H:Om word1 l2=some r):SQ V0z [.str word1,zra l2] (.str r):=by
 refine wa [.t 4] (wG [.l 8 l2 eI] λq3=>wL (λ(i4:Nat) (v4:Str)=>⟨[(0,.str v4),(7,zra l2)]++zl 8 l2 i4,[],[],[]⟩) H (λi4 x4 v4 I m k4 A4 B4 H N14=>?_) (λv4 I m H=>?_))
 .exact bC3 H λw5 h5 w6 h6 w7 h7 H=>wH [.y 11 eI A4,.u 14 (.sa _ _ _ λ_=>h5),.c 16 (O4 h6),.u 17 (.sa _ _ _ λ_=>h7),.i 18 B4 q3.1] (wT (N14 _ H))
 .exact sI H▸wV
def VJ(j1:Job):Option Str :=
 (Ux (Cmd.mk 1 j1 0 (Vec.mk 0 0 0))).bind λw2=>bif w2==([]:Str)then(some ([]:Str))else((cutL w2 (some 7) none).bind λw3=>some w3)
theorem Q0t{j1:Job}{r:Str}(H:VJ j1=some r):SQ O0G [eJob j1] (.str r):=by
 exact wa [.t 2] (bC H λw2 h2 H=>wH [.c 6 (M0t h2)] (X0 H (λH=>sI H▸wV) λH=>bC H λw3 h3 H=>wH [.u 10 (.ss _ _ _ _ λ_=>h3)] (sI H▸wD)))
def Ur(s1:Str):Option (Job×Bool) :=
 (catS ([115,117,98,109,105,116,32]:Str) s1).bind λw2=>(XJ w2).bind λy3=>bif !y3.2 then(some ((Job.mk 0 0 0 (Vec.mk 0 0 0) (Vec.mk 0 0 0) 0 0),false))else(some (y3.1.job,true))
theorem M0s{s1:Str}{r:Job×Bool}(H:Ur s1=some r):SQ Z0G [.str s1] (.tup [eJob r.1,.bool r.2]):=by
 exact wa [.c 2 11 true,.t 3] (bC2 H λw2 h2 y3 h3 H=>wH [.u 8 (.sa _ _ _ λ_=>h2),.c 9 (L0s h3)] (X0 H (λH=>sI H▸wQ [(2,[])] []) λH=>sI H▸wQ [(2,[])] []))
def YY(x3:Int)(_:Nat)(v3:Str)(k3:Str->Option Str):Option Str :=
 (catS v3 ([32]:Str)).bind λw4=>(Y6 x3).bind λw5=>(catS w4 w5).bind λw6=>k3 w6
def M0l(v3:Str):Option Str :=
 some v3
def Xr(l1:tI):Option Str :=
 rgl YY M0l l1 0 ([]:Str)
theorem UK{l1:tI}{r:Str}(H:Xr l1=some r):SQ O0E [zra l1] (.str r):=by
 refine wa [.t 2] (wG [.l 7 l1 eI] λq2=>wL (λ(i3:Nat) (v3:Str)=>⟨[(3,.str v3),(6,zra l1)]++zl 7 l1 i3,[],[],[]⟩) H (λi3 x3 v3 I m k3 A3 B3 H N15=>?_) (λv3 I m H=>?_))
 .exact bC3 H λw4 h4 w5 h5 w6 h6 H=>wH [.y 10 eI A3,.u 13 (.sa _ _ _ λ_=>h4),.c 15 (W5 h5),.u 16 (.sa _ _ _ λ_=>h6),.i 17 B3 q2.1] (wT (N15 _ H))
 .exact sI H▸wV
noncomputable def X0X:L :=
 lf Tryz.prog W0o [77] [] [] [] [(3,17)] [(18,[],[],[0,2,4,6,8,10,12,16,18,28,30,15,21,23,24,26,32],17)] []
def LL(x34:End)(_:Nat)(v34:Str)(k34:Str->Option Str):Option Str :=
 (catS v34 ([101,110,100]:Str)).bind λw35=>(Xr [x34.id,x34.t,x34.why]).bind λw36=>(catS w35 w36).bind λw37=>(catS w37 ([10]:Str)).bind λw38=>k34 w38
def QL(v34:Str):Option Str :=
 (catS v34 ([111,118,101,114,10]:Str)).bind λw39=>some w39
def JL(x23:Run)(_:Nat)(v23:Str)(k23:Str->Option Str):Option Str :=
 (catS v23 ([114,117,110]:Str)).bind λw24=>(lenQ x23.nodes).bind λ_=>(appL 8 [x23.t,(x23.nodes.length:Int)] x23.nodes).bind λxs26=>(Xr xs26).bind λw27=>(catS w24 w27).bind λw28=>(catS w28 ([32]:Str)).bind λw29=>(VJ x23.job).bind λw30=>(catS w29 w30).bind λw31=>(catS w31 ([10]:Str)).bind λw32=>k23 w32
def WL(s1:State)(v23:Str):Option Str :=
 rgl LL QL s1.ends 0 v23
def ZM(x17:Job)(_:Nat)(v17:Str)(k17:Str->Option Str):Option Str :=
 (catS v17 ([119,97,105,116,32]:Str)).bind λw18=>(VJ x17).bind λw19=>(catS w18 w19).bind λw20=>(catS w20 ([10]:Str)).bind λw21=>k17 w21
def OL(s1:State)(v17:Str):Option Str :=
 rgl JL (WL s1) s1.runs 0 v17
def YM(x11:Bool)(i11:Nat)(v11:Str)(k11:Str->Option Str):Option Str :=
 bif !x11 then((catS v11 ([100,111,119,110]:Str)).bind λw12=>(Xr [(i11:Int)]).bind λw13=>(catS w12 w13).bind λw14=>(catS w14 ([10]:Str)).bind λw15=>k11 w15)else(k11 v11)
def ML(s1:State)(v11:Str):Option Str :=
 rgl ZM (OL s1) s1.queue 0 v11
def Vu(s1:State):Option Str :=
 (Lc s1).bind λb2=>bif !b2 then(some ([]:Str))else((WA s1.topo).bind λw3=>(catS w3 ([115,116,97,116,101,32]:Str)).bind λw4=>(Wi s1.lic).bind λw5=>(catS w4 w5).bind λw6=>(Xr [s1.depth,s1.now]).bind λw7=>(catS w6 w7).bind λw8=>(catS w8 ([10]:Str)).bind λw9=>rgl YM (ML s1) s1.up 0 w9)
theorem W0f{s1:State}{r:Str}(H:Vu s1=some r):SQ W0o [J1 .rd s1] (.str r):=by
 refine wS X0X [.t 2] (bC H λb2 h2 H=>wH [.c 13 (Xe h2)] (X0 H (λH=>sI H▸wV) λH=>bC3 H λw3 h3 w4 h4 w5 h5 H=>bC3 H λw6 h6 w7 h7 w8 h8 H=>bC H λw9 h9 H=>wG [.c 17 (Q0m h3),.u 18 (.sa _ _ _ λ_=>h4),.c 21 (Lo h5),.u 22 (.sa _ _ _ λ_=>h6),.c 28 (UK h7),.u 29 (.sa _ _ _ λ_=>h8),.u 30 (.sa _ _ _ λ_=>h9),.l 33 s1.up eBo] λq10=>wL (λ(i11:Nat) (v11:Str)=>⟨[pB 1,(3,.str v11),(32,zrd s1.up)]++zl 33 s1.up i11,[],[(1,(J1 .rd s1).cells)],[]⟩) H (λi11 x11 v11 I m k11 A11 B11 H N26=>?_) (λv11 I m H=>?_)))
 .refine wH [.y 37 eBo A11] (X0 H (λH=>?_) λH=>wH [.i 48 B11 q10.1] (wT (N26 _ H)))
  exact bC3 H λw12 h12 w13 h13 w14 h14 H=>bC H λw15 h15 H=>wH [.u 42 (.sa _ _ _ λ_=>h12),.c 45 (UK h13),.u 46 (.sa _ _ _ λ_=>h14),.u 47 (.sa _ _ _ λ_=>h15),.i 48 B11 q10.1] (wT (N26 _ H))
 .refine wG [.l 51 s1.queue eJob] λq16=>wL (λ(i17:Nat) (v17:Str)=>⟨[pB 1,(3,.str v17),(50,zrf s1.queue)]++zl 51 s1.queue i17,[],[(1,(J1 .rd s1).cells)],[]⟩) H (λi17 x17 v17 I m k17 A17 B17 H N42=>?_) (λv17 I m H=>?_)
  .exact bC3 H λw18 h18 w19 h19 w20 h20 H=>bC H λw21 h21 H=>wH [.y 54 eJob A17,.u 57 (.sa _ _ _ λ_=>h18),.c 59 (Q0t h19),.u 60 (.sa _ _ _ λ_=>h20),.u 61 (.sa _ _ _ λ_=>h21),.i 62 B17 q16.1] (wT (N42 _ H))
  .refine wG [.l 65 s1.runs (X1 .rd)] λq22=>wL (λ(i23:Nat) (v23:Str)=>⟨[pB 1,(3,.str v23),(64,zqg s1.runs)]++zl 65 s1.runs i23,[],[(1,(J1 .rd s1).cells)],[]⟩) H (λi23 x23 v23 I m k23 A23 B23 H N58=>?_) (λv23 I m H=>?_)
   .exact bC3 H λw24 h24 u25 h25 xs26 h26 H=>bC3 H λw27 h27 w28 h28 w29 h29 H=>bC3 H λw30 h30 w31 h31 w32 h32 H=>wH [.y 68 (X1 .rd) A23,.u 71 (.sa _ _ _ λ_=>h24),.u 76 (.le _ _ (λ_=>lm x23.nodes eI) (λ_=>J0V h25)),.p 80 eI h26,.c 81 (UK h27),.u 82 (.sa _ _ _ λ_=>h28),.u 83 (.sa _ _ _ λ_=>h29),.c 86 (Q0t h30),.u 87 (.sa _ _ _ λ_=>h31),.u 88 (.sa _ _ _ λ_=>h32),.i 89 B23 q22.1] (wT (N58 _ H))
   .refine wG [.l 92 s1.ends eEnd] λq33=>wL (λ(i34:Nat) (v34:Str)=>⟨[(3,.str v34),(91,zrh s1.ends)]++zl 92 s1.ends i34,[],[],[]⟩) H (λi34 x34 v34 I m k34 A34 B34 H N74=>?_) (λv34 I m H=>?_)
    .exact bC3 H λw35 h35 w36 h36 w37 h37 H=>bC H λw38 h38 H=>wH [.y 95 eEnd A34,.u 98 (.sa _ _ _ λ_=>h35),.c 106 (UK h36),.u 107 (.sa _ _ _ λ_=>h37),.u 108 (.sa _ _ _ λ_=>h38),.i 109 B34 q33.1] (wT (N74 _ H))
    .exact bC H λw39 h39 H=>wH [.u 111 (.sa _ _ _ λ_=>h39)] (sI H▸wD)
def U1(w1:tT)(i2:Int):Option Int :=
 bif decide ((w1.length:Int)<=i2)then(some 0)else((idx w1 i2).bind λe4=>(Ya e4).bind λy5=>some y5.1)
theorem Md{w1:tT}{i2 r:Int}(H:U1 w1 i2=some r):SQ L0Q [zrb w1,iV i2] (iV r):=by
 exact wa [.t 4] (wG [.l 9 w1 eS] λq3=>X0 H (λH=>sI H▸wV) λH=>bC2 H λe4 h4 y5 h5 H=>wH [.x 14 eS h4,.c 16 (Va h5)] (sI H▸wD))
noncomputable def Y1f:L :=
 lf Tryz.prog W0E [] [] [] [] [] [] [7475]
def Wf(x3:Str)(k3:Str->Option Str)(v5:Str):Option Str :=
 (catS v5 x3).bind λw6=>k3 w6
def Yl(x3:Str)(i3:Nat)(v3:Str)(k3:Str->Option Str):Option Str :=
 bif decide (0<(i3:Int))then((catS v3 ([32]:Str)).bind λw4=>(Wf x3 k3) w4)else((Wf x3 k3) v3)
def UF(v3:Str):Option Str :=
 some v3
def Yr(w1:tT):Option Str :=
 rgl Yl UF w1 0 ([]:Str)
theorem L0r{w1:tT}{r:Str}(H:Yr w1=some r):SQ W0E [zrb w1] (.str r):=by
 refine wS Y1f [.t 2] (wG [.l 7 w1 eS] λq2=>wL (λ(i3:Nat) (v3:Str)=>⟨[(3,.str v3),(6,zrb w1)]++zl 7 w1 i3,[],[],[]⟩) H (λi3 x3 v3 I m k3 A3 B3 H N21=>?_) (λv3 I m H=>?_))
 .refine wH [.y 11 eS A3] (Xi (r:=r) (Wf x3 k3) 0 (λv5:Str=>⟨[(3,.str v5),(5,.str x3),(6,.sl .rd 1 (w1.map eS)),(7,.int .i64 (w1.length:Int)),(8,.int .i64 (i3:Int))],[],[],[]⟩) (by kernel_rfl) (λv5 H=>?_) (λJ13=>?_))
  .exact bC H λw6 h6 H=>wH [.u 19 (.sa _ _ _ λ_=>h6),.i 20 B3 q2.1] (wT (N21 _ H))
  .refine X0 H ?_ ?_<;>intro H
   .exact bC H λw4 h4 H=>wH [.u 16 (.sa _ _ _ λ_=>h4)] (wT (J13 _ H))
   .exact wP (wT (J13 _ H))
 .exact sI H▸wV
noncomputable def M0q:L :=
 lf Tryz.prog LW [] [] [] [] [(15,7),(20,10)] [] [27631,7]
def Y0q:List Rv:=[.c 4 11 true]
theorem X0r:YQ Tryz.prog LW 2 M0q Y0q=true:=by kernel_rfl
def L4(s1:State)(v26:tB×tJ×tR×tE):Option State :=
 some (State.mk s1.topo v26.1 s1.lic s1.depth s1.now v26.2.1 v26.2.2.1 v26.2.2.2)
def O7(s1:State)(v20:Run):Option State :=
 (appL 120 s1.runs [v20]).bind λxs21=>(L4 s1) (s1.up,s1.queue,xs21,s1.ends)
def Uh(s1:State)(w2:tT)(n11 n12:Int)(v13:Int×tI)(k13:(Int×tI)->Option State):Option State :=
 bif decide (v13.1<n12)&&decide (v13.1<24)then((U1 w2 (w64 (3+v13.1))).bind λn14=>(appL 8 v13.2 [n14]).bind λxs15=>k13 ((w64 (v13.1+1)),xs15))else(bif decide ((w64 (3+n12))<=(w2.length:Int))then((cutL w2 (some (w64 (3+n12))) none).bind λxs17=>(Yr xs17).bind λw18=>(Ur w18).bind λy19=>(O7 s1) (Run.mk y19.1 n11 v13.2))else((O7 s1) (Run.mk (Job.mk 0 0 0 (Vec.mk 0 0 0) (Vec.mk 0 0 0) 0 0) n11 v13.2)))
def Y9(s1:State)(w2:tT):Option State :=
 (idx w2 0).bind λe3=>bif e3==([100,111,119,110]:Str)then((U1 w2 1).bind λn4=>bif decide (n4<(s1.up.length:Int))then((idx s1.up n4).bind λ_=>(L4 s1) ((s1.up.set n4.toNat false),s1.queue,s1.runs,s1.ends))else((L4 s1) (s1.up,s1.queue,s1.runs,s1.ends)))else(bif e3==([119,97,105,116]:Str)then((cutL w2 (some 1) none).bind λxs7=>(Yr xs7).bind λw8=>(Ur w8).bind λy9=>(appL 88 s1.queue [y9.1]).bind λxs10=>(L4 s1) (s1.up,xs10,s1.runs,s1.ends))else(bif e3==([114,117,110]:Str)then((U1 w2 1).bind λn11=>(U1 w2 2).bind λn12=>whl (Uh s1 w2 n11 n12) 9223372036854775807 (0,[]))else(bif e3==([101,110,100]:Str)then((U1 w2 1).bind λn22=>(U1 w2 2).bind λn23=>(U1 w2 3).bind λn24=>(appL 24 s1.ends [(End.mk n22 n23 n24)]).bind λxs25=>(L4 s1) (s1.up,s1.queue,s1.runs,xs25))else((L4 s1) (s1.up,s1.queue,s1.runs,s1.ends)))))
set_option maxRecDepth 20000 in
theorem M0p{s1:State}{w2:tT}{r:State}(H:Y9 s1 w2=some r):ConD Tryz.prog LW [.agg (zs s1 (.sref 0) (.sref 1) (.sref 2) (.sref 3)),zrb w2] [] [(1,s1.up.map eBo),(11,s1.queue.map eJob),(13,s1.runs.map (X1 .nw)),(3,s1.ends.map eEnd)] (.agg (zs r (.sref 4) (.sref 5) (.sref 6) (.sref 7))) [] [none,none,none,none] [(1,r.up.map eBo),(11,r.queue.map eJob),(13,r.runs.map (X1 .nw)),(3,r.ends.map eEnd)]:=by
 refine M0C [false,false,false,false] X0r rfl (by kernel_rfl) ?_
 unfold Y9 at H
 obtain⟨e3,h3,H⟩:=bB H
 refine wH [.x 12 eS h3] ?_
 refine Xi (r:=r) (L4 s1) 0 (λv26:tB×tJ×tR×tE=>⟨[pB 2,pB 4],[],[(2,[.sl .nw 1 (s1.topo.parents.map eI),.sl .nw 4 (s1.topo.nodes.map Q1),.sref 500000000,.int .i64 s1.lic.a,.int .i64 s1.lic.b,.int .i64 s1.lic.c,.int .i64 s1.depth,.int .i64 s1.now,.sref 500000001,.sref 500000002,.sref 500000003]),(4,z8)],[(500000000,zwd v26.1),(500000001,zwf v26.2.1),(500000002,zwg v26.2.2.1),(500000003,zwh v26.2.2.2)]⟩) (by kernel_rfl) (λv26 H=>?_) (λJ56=>?_)
 .unfold L4 at H
  refine wP ?_
  replace H:=sI H;subst H
  exact Jk [(4,.d)] [(4,[])] [(500000000,some 500000000,0),(500000001,some 500000001,0),(500000002,some 500000002,0),(500000003,some 500000003,0)] [] [500000000,500000001,500000002,500000003] (by kernel_rfl)
 .refine X0 H ?_ ?_<;>intro H
  .obtain⟨n4,h4,H⟩:=bB H
   refine wG [.c 17 (Md h4),.l 21 s1.up eBo] λq5=>?_
   refine X0 H ?_ ?_<;>intro H
   .obtain⟨e6,h6,H⟩:=bB H
    exact wH [.x 26 eBo h6,.u 1000000 (.sto _ _ _ (eBo false) _ (λ_=>gm eBo (V4 h6)) (λ_=>YS ..))] (wT (J56 _ H))
   .refine wP ?_
    exact wT (J56 _ H)
  .refine wP ?_
   refine X0 H ?_ ?_<;>intro H
   .obtain⟨xs7,h7,w8,h8,y9,h9,H⟩:=bB3 H
    obtain⟨xs10,h10,H⟩:=bB H
    exact wH [.u 31 (.sc _ _ _ _ λ_=>Ut eS h7),.c 32 (L0r h8),.c 33 (M0s h9),.p 40 eJob h10] (wT (J56 _ H))
   .refine wP ?_
    refine X0 H ?_ ?_<;>intro H
    .obtain⟨n11,h11,n12,h12,H⟩:=bB2 H
     refine wH [.c 45 (Md h11),.c 48 (Md h12)] ?_
     refine Z1z (λ(v13:Int×tI)=>⟨[(1,zrb w2),pB 2,pB 4,pB 8,(9,iV n12),(10,iV v13.1)],[],[(2,(zs s1 (.sref 500000000) (.sref 500000001) (.sref 500000002) (.sref 500000003))),(4,z2),(8,[iV 0,iV 0,iV 0,iV 0,iV 0,iV 0,iV 0,iV 0,iV 0,iV 0,iV 0,iV n11,.sref 233004])],[(500000000,zwd s1.up),(500000001,zwf s1.queue),(500000002,zwg s1.runs),(500000003,zwh s1.ends),(233004,zwa v13.2)]⟩) [] [(8,[.d,.d,.d,.d,.d,.d,.d,.d,.d,.d,.d,.d,.z 233004])] [(233004,(none,1))] [] (by kernel_rfl) (by kernel_rfl) H (λv13 I m k13 H N28=>?_)
     unfold Uh at H
     refine wP ?_
     refine X0 H ?_ ?_<;>intro H
     .obtain⟨n14,h14,xs15,h15,H⟩:=bB2 H
      exact wH [.c 63 (Md h14),.p 65 eI h15] (wT (N28 _ H))
     .refine wG [.l 70 w2 eS] λq16=>?_
      refine Xi (r:=r) (O7 s1) 0 (λv20:Run=>⟨[pB 2,pB 4,pB 8],[],[(2,[.sl .nw 1 (s1.topo.parents.map eI),.sl .nw 4 (s1.topo.nodes.map Q1),.sref 500000000,.int .i64 s1.lic.a,.int .i64 s1.lic.b,.int .i64 s1.lic.c,.int .i64 s1.depth,.int .i64 s1.now,.sref 500000001,.sref 500000002,.sref 500000003]),(4,z8),(8,(X1 .nw v20).cells)],[(500000000,zwd s1.up),(500000001,zwf s1.queue),(500000002,zwg s1.runs),(500000003,zwh s1.ends)]⟩) (by kernel_rfl) (λv20 H=>?_) (λJ36=>?_)
      .unfold O7 at H
       obtain⟨xs21,h21,H⟩:=bB H
       exact wH [.p 86 (X1 .nw) h21] (wT (J56 _ H))
      .refine X0 H ?_ ?_<;>intro H
       .obtain⟨xs17,h17,w18,h18,y19,h19,H⟩:=bB3 H
        refine wH [.u 76 (.sc _ _ _ _ λ_=>Ut eS h17),.c 77 (L0r h18),.c 78 (M0s h19)] ?_
        exact wU (J36 _ H) [] [(8,za)] [] [233004]
       .refine wP ?_
        exact wU (J36 _ H) [] [(8,za)] [] [233004]
    .refine wP ?_
     refine X0 H ?_ ?_<;>intro H
     .obtain⟨n22,h22,n23,h23,n24,h24,H⟩:=bB3 H
      obtain⟨xs25,h25,H⟩:=bB H
      exact wH [.c 93 (Md h22),.c 95 (Md h23),.c 97 (Md h24),.p 100 eEnd h25] (wT (J56 _ H))
     .refine wP ?_
      exact wT (J56 _ H)
def Uv(_:Node)(_:Nat)(v9:tB)(k9:tB->Option (State×Bool)):Option (State×Bool) :=
 (appL 1 v9 [true]).bind λxs10=>k9 xs10
def Vv(v4:State×Str×Bool)(k4:(State×Str×Bool)->Option (State×Bool))(y5:tT)(y7:Topo×Bool)(v9:tB):Option (State×Bool) :=
 (idx y5 1).bind λe11=>(Xm e11).bind λy12=>(U1 y5 2).bind λn13=>(U1 y5 3).bind λn14=>k4 ((State.mk y7.1 v9 y12.1 n13 n14 v4.1.queue v4.1.runs v4.1.ends),v4.2.1,true)
def Z6(x4:Str)(_:Nat)(v4:State×Str×Bool)(k4:(State×Str×Bool)->Option (State×Bool)):Option (State×Bool) :=
 (JA x4 32).bind λy5=>(idx y5 0).bind λe6=>bif (e6==([115,116,97,116,101]:Str))&&(!v4.2.2)then((OA v4.2.1).bind λy7=>bif (!y7.2)||((y5.length:Int)!=4)then(some ((State.mk (Topo.mk [] []) [] (Vec.mk 0 0 0) 0 0 [] [] []),false))else(rgl Uv (Vv v4 k4 y5 y7) y7.1.nodes 0 v4.1.up))else(bif !v4.2.2 then((catS v4.2.1 x4).bind λw15=>(catS w15 ([10]:Str)).bind λw16=>k4 (v4.1,w16,v4.2.2))else(bif decide ((w64 ((w64 ((v4.1.queue.length:Int)+(v4.1.runs.length:Int)))+(v4.1.ends.length:Int)))<=360)then((Y9 v4.1 y5).bind λy18=>k4 (y18,v4.2.1,v4.2.2))else(k4 (v4.1,v4.2.1,v4.2.2))))
def Za(s1:Str)(v4:State×Str×Bool):Option (State×Bool) :=
 (bif s1==([]:Str)then some default else(Vu v4.1)).bind λw19=>bif (s1==([]:Str))||(w19 != s1)then(some ((State.mk (Topo.mk [] []) [] (Vec.mk 0 0 0) 0 0 [] [] []),false))else(some (v4.1,true))
def Oi(s1:Str):Option (State×Bool) :=
 (JA s1 10).bind λy2=>rgl Z6 (Za s1) y2 0 ((State.mk (Topo.mk [] []) [] (Vec.mk 0 0 0) 0 0 [] [] []),([]:Str),false)
theorem L0U{s1:Str}{r:State×Bool}(H:Oi s1=some r):SQ Q0o [.str s1] (.tup [J1 .nw r.1,.bool r.2]):=by
 refine wd [(90,2)] [.c 2 11 true,.t 3] ?_
 obtain⟨y2,h2,H⟩:=bB H
 refine wG [.c 14 (MA h2),.l 15 y2 eS] λq3=>?_
 refine M01 (λ(i4:Nat) (v4:State×Str×Bool)=>⟨[(0,.str s1),pB 2,(4,.str v4.2.1),pB 5,(6,.bool v4.2.2),(14,zfb y2)]++zl 15 y2 i4,[],[(2,z2),(5,(zs v4.1 (.sref 294000) (.sref 246001) (.sref 320002) (.sref 305003)))],[(294000,zwd v4.1.up),(246001,zwf v4.1.queue),(320002,zwg v4.1.runs),(305003,zwh v4.1.ends)]⟩) [] [(5,[.n 1,.n 4,.z 294000,.d,.d,.d,.d,.d,.z 246001,.z 320002,.z 305003])] [(294000,(none,1)),(246001,(none,11)),(320002,(none,13)),(305003,(none,3))] [] (by kernel_rfl) (by kernel_rfl) H (λi4 x4 v4 I m k4 A4 B4 H N68=>?_) (λv4 I m H=>?_)
 .refine wP (wt (ltT B4) ?_)
  obtain⟨y5,h5,e6,h6,H⟩:=bB2 H
  refine wH [.y 18 eS A4,.c 21 (MA h5),.x 23 eS h6] ?_
  refine X0 H ?_ ?_<;>intro H
  .obtain⟨y7,h7,H⟩:=bB H
   refine wH [.c 32 (U14 h7),.g 39 [((!y7.2),false)] (.ln _ _ λ_=>lm y5 eS)] ?_
   refine X0 H (λH=>sI H▸wQ [(2,z0)] z1) λH=>?_
   refine wG [.l 47 y7.1.nodes Q1] λq8=>?_
   refine wL (λ(i9:Nat) (v9:tB)=>⟨[(0,.str s1),pB 2,(4,.str v4.2.1),pB 5,(6,.bool true),(9,zfb y5),(14,zfb y2),(15,iV (y2.length:Int)),(16,iV (i4:Int))]++zl 47 y7.1.nodes i9,[],[(2,z2),(5,[zfa y7.1.parents,zfe y7.1.nodes,.sref 294000,iV v4.1.lic.a,iV v4.1.lic.b,iV v4.1.lic.c,iV v4.1.depth,iV v4.1.now,.sref 246001,.sref 320002,.sref 305003])],[(294000,zwd v9),(246001,zwf v4.1.queue),(320002,zwg v4.1.runs),(305003,zwh v4.1.ends)]⟩) H (λi9 x9 v9 I m k9 A9 B9 H N33=>?_) (λv9 I m H=>?_)
   .obtain⟨xs10,h10,H⟩:=bB H
    exact wH [.p 53 eBo h10,.i 55 B9 q8.1] (wT (N33 _ H))
   .obtain⟨e11,h11,y12,h12,n13,h13,H⟩:=bB3 H
    obtain⟨n14,h14,H⟩:=bB H
    exact wH [.x 58 eS h11,.c 60 (Jw h12),.c 65 (Md h13),.c 68 (Md h14),.i 91 B4 q3.1] (wT (N68 _ H))
  .refine wP ?_
   refine X0 H ?_ ?_<;>intro H
   .obtain⟨w15,h15,w16,h16,H⟩:=bB2 H
    exact wH [.u 74 (.sa _ _ _ λ_=>h15),.u 75 (.sa _ _ _ λ_=>h16),.i 91 B4 q3.1] (wT (N68 _ H))
   .refine wG [.l 78 v4.1.queue eJob,.l 81 v4.1.runs (X1 .nw),.l 85 v4.1.ends eEnd] λq17=>?_
    refine X0 H (λH=>?_) λH=>wH [.i 91 B4 q3.1] (wT (N68 _ H))
    obtain⟨y18,h18,H⟩:=bB H
    refine wH [.u 90 (.cw LW [] [294000,246001,320002,305003] [] [(1,v4.1.up.map eBo),(11,v4.1.queue.map eJob),(13,v4.1.runs.map (X1 .nw)),(3,v4.1.ends.map eEnd)] [.agg (zs v4.1 (.sref 0) (.sref 1) (.sref 2) (.sref 3)),zfb y5] _ _ _ _ _ (GEs.of [true,false] (by simp)) (by simp) (by simp) (by simp) (λ_=>M0p h18)),.i 91 B4 q3.1] ?_
    exact wU (N68 _ H) [] [] [(294000,(some 91000,0)),(246001,(some 91001,0)),(320002,(some 91002,0)),(305003,(some 91003,0))] []
 .refine wP (wf (ltF y2.length) ?_)
  obtain⟨w19,h19,H⟩:=bB H
  refine wH [.g 96 [(_,false)] (.call _ _ _ _ _ (AEs.of (xs:=[zX v4.1]) (by simp)) (λq=>W0f (bF q.1 h19)))] ?_
  refine X0 H (λH=>sI H▸wQ [(2,z0)] z1) λH=>?_
  exact sI H▸wY [(2,[.d,.d,.f,.d,.d,.d,.d,.d,.f,.f,.f])] [] [294000,246001,320002,305003] [] [zna v4.1.topo.parents,zne v4.1.topo.nodes,znd v4.1.up,znf v4.1.queue,zng v4.1.runs,znh v4.1.ends]
def JO(x31:End)(_:Nat)(v31:Str)(k31:Str->Option Str):Option Str :=
 (Om ([101,110,100]:Str) [x31.id,x31.t,x31.why]).bind λw32=>(catS v31 w32).bind λw33=>(catS w33 ([10]:Str)).bind λw34=>k31 w34
def WO(v31:Str):Option Str :=
 (catS v31 ([111,118,101,114,10]:Str)).bind λw35=>some w35
def ZP(x22:Run)(_:Nat)(v22:Str)(k22:Str->Option Str):Option Str :=
 (lenQ x22.nodes).bind λ_=>(Om ([114,117,110]:Str) [x22.t,(x22.nodes.length:Int)]).bind λw24=>(Om w24 x22.nodes).bind λw25=>(Uy x22.job).bind λw26=>(Mp [w25,w26]).bind λw27=>(catS v22 w27).bind λw28=>(catS w28 ([10]:Str)).bind λw29=>k22 w29
def OO(s1:State)(v22:Str):Option Str :=
 rgl JO WO s1.ends 0 v22
def YP(x16:Job)(_:Nat)(v16:Str)(k16:Str->Option Str):Option Str :=
 (Uy x16).bind λw17=>(Mp [([119,97,105,116]:Str),w17]).bind λw18=>(catS v16 w18).bind λw19=>(catS w19 ([10]:Str)).bind λw20=>k16 w20
def MO(s1:State)(v16:Str):Option Str :=
 rgl ZP (OO s1) s1.runs 0 v16
def XP(x11:Bool)(i11:Nat)(v11:Str)(k11:Str->Option Str):Option Str :=
 bif !x11 then((Om ([100,111,119,110]:Str) [(i11:Int)]).bind λw12=>(catS v11 w12).bind λw13=>(catS w13 ([10]:Str)).bind λw14=>k11 w14)else(k11 v11)
def LO(s1:State)(v11:Str):Option Str :=
 rgl YP (MO s1) s1.queue 0 v11
def Zo(s1:State):Option Str :=
 (Zb s1).bind λb2=>bif !b2 then(some ([]:Str))else((LB s1.topo).bind λw3=>(Jm s1.lic).bind λw4=>(V5 s1.depth).bind λw5=>(V5 s1.now).bind λw6=>(Mp [([115,116,97,116,101]:Str),w4,w5,w6]).bind λw7=>(catS w3 w7).bind λw8=>(catS w8 ([10]:Str)).bind λw9=>rgl XP (LO s1) s1.up 0 w9)
theorem L0g{s1:State}{r:Str}(H:Zo s1=some r):SQ U0p [J1 .rd s1] (.str r):=by
 refine wc [(3,17),(18,18)] [.t 2] (bC H λb2 h2 H=>wH [.c 13 (Qc h2)] (X0 H (λH=>sI H▸wV) λH=>bC3 H λw3 h3 w4 h4 w5 h5 H=>bC3 H λw6 h6 w7 h7 w8 h8 H=>bC H λw9 h9 H=>wG [.c 17 (L0n h3),.c 20 (Oy h4),.c 23 (O4 h5),.c 26 (O4 h6),.c 28 (Xt h7),.u 29 (.sa _ _ _ λ_=>h8),.u 30 (.sa _ _ _ λ_=>h9),.l 33 s1.up eBo] λq10=>wL (λ(i11:Nat) (v11:Str)=>⟨[pB 1,(3,.str v11),(32,zrd s1.up)]++zl 33 s1.up i11,[],[(1,(J1 .rd s1).cells)],[]⟩) H (λi11 x11 v11 I m k11 A11 B11 H N26=>?_) (λv11 I m H=>?_)))
 .refine wH [.y 37 eBo A11] (X0 H (λH=>?_) λH=>wH [.i 47 B11 q10.1] (wT (N26 _ H)))
  exact bC3 H λw12 h12 w13 h13 w14 h14 H=>wH [.c 44 (LG h12),.u 45 (.sa _ _ _ λ_=>h13),.u 46 (.sa _ _ _ λ_=>h14),.i 47 B11 q10.1] (wT (N26 _ H))
 .refine wG [.l 50 s1.queue eJob] λq15=>wL (λ(i16:Nat) (v16:Str)=>⟨[pB 1,(3,.str v16),(49,zrf s1.queue)]++zl 50 s1.queue i16,[],[(1,(J1 .rd s1).cells)],[]⟩) H (λi16 x16 v16 I m k16 A16 B16 H N42=>?_) (λv16 I m H=>?_)
  .exact bC3 H λw17 h17 w18 h18 w19 h19 H=>bC H λw20 h20 H=>wH [.y 53 eJob A16,.c 57 (Q07 h17),.c 59 (Xt h18),.u 60 (.sa _ _ _ λ_=>h19),.u 61 (.sa _ _ _ λ_=>h20),.i 62 B16 q15.1] (wT (N42 _ H))
  .refine wG [.l 65 s1.runs (X1 .rd)] λq21=>wL (λ(i22:Nat) (v22:Str)=>⟨[pB 1,(3,.str v22),(64,zqg s1.runs)]++zl 65 s1.runs i22,[],[(1,(J1 .rd s1).cells)],[]⟩) H (λi22 x22 v22 I m k22 A22 B22 H N58=>?_) (λv22 I m H=>?_)
   .exact bC3 H λu23 h23 w24 h24 w25 h25 H=>bC3 H λw26 h26 w27 h27 w28 h28 H=>bC H λw29 h29 H=>wH [.y 68 (X1 .rd) A22,.u 75 (.le _ _ (λ_=>lm x22.nodes eI) (λ_=>J0V h23)),.c 77 (LG h24),.c 80 (LG h25),.c 83 (Q07 h26),.c 85 (Xt h27),.u 86 (.sa _ _ _ λ_=>h28),.u 87 (.sa _ _ _ λ_=>h29),.i 88 B22 q21.1] (wT (N58 _ H))
   .refine wG [.l 91 s1.ends eEnd] λq30=>wL (λ(i31:Nat) (v31:Str)=>⟨[(3,.str v31),(90,zrh s1.ends)]++zl 91 s1.ends i31,[],[],[]⟩) H (λi31 x31 v31 I m k31 A31 B31 H N74=>?_) (λv31 I m H=>?_)
    .exact bC3 H λw32 h32 w33 h33 w34 h34 H=>wH [.y 94 eEnd A31,.c 104 (LG h32),.u 105 (.sa _ _ _ λ_=>h33),.u 106 (.sa _ _ _ λ_=>h34),.i 107 B31 q30.1] (wT (N74 _ H))
    .exact bC H λw35 h35 H=>wH [.u 109 (.sa _ _ _ λ_=>h35)] (sI H▸wD)
def WN(x3:Str)(_:Nat)(v3:tI)(k3:tI->Option tI):Option tI :=
 (U2 x3).bind λy4=>(appL 8 v3 [y4.1]).bind λxs5=>k3 xs5
def V07(v3:tI):Option tI :=
 some v3
def U07(w1:tT):Option tI :=
 rgl WN V07 w1 0 []
theorem W1t{w1:tT}{r:tI}(H:U07 w1=some r):SQ Q0S [zrb w1] (zfa r):=by
 refine wb [8] [.t 2] (wG [.l 10 w1 eS] λq2=>wL (λ(i3:Nat) (v3:tI)=>⟨[(3,.sref 8),(9,zrb w1)]++zl 10 w1 i3,[],[],[(8,zwa v3)]⟩) H (λi3 x3 v3 I m k3 A3 B3 H N17=>?_) (λv3 I m H=>?_))
 .exact bC2 H λy4 h4 xs5 h5 H=>wH [.y 13 eS A3,.c 17 (Z8 h4),.p 23 eI h5,.i 24 B3 q2.1] (wT (N17 _ H))
 .exact sI H▸wP (wN [(2,.f)] [] [] [8] [] [zna v3])
noncomputable def LZ:L :=
 lf Tryz.prog Qn [] [] [] [] [(6,21),(7,8)] [(5,[],[],[0,2,4,6,8,10,12,14,16,18],10),(9,[],[],[0,2,4,6,10,12,14,16,9,19],10),(11,[],[],[0,2,4,6,10,12,14,16,18,20,22,24,26,28,30,32,34,36,38,40,42,44,9,47],24),(13,[],[],[0,2,4,6,10,12,14,16,18,20,22,24,26,28,30,9,33],17)] [15]
def QZ:List Rv:=[.t 4]
theorem Y01:YQ Tryz.prog Qn 2 LZ QZ=true:=by kernel_rfl
def Q2(v29:State):Option (Bool×State) :=
 some (true,v29)
def M0(s1:State)(w2:tT):Option (Bool×State) :=
 (cutL w2 (some 1) none).bind λxs3=>(U07 xs3).bind λy4=>(idx w2 0).bind λe5=>bif (e5==([115,116,97,116,101]:Str))&&((w2.length:Int)==4)then((idx w2 1).bind λe6=>(U9 e6).bind λy7=>(idx y4 1).bind λe8=>(idx y4 2).bind λe9=>Q2 (State.mk s1.topo s1.up y7.1 e8 e9 s1.queue s1.runs s1.ends))else((bif e5==([100,111,119,110]:Str)then(lenQ w2)else some default).bind λ_=>(bif (e5==([100,111,119,110]:Str))&&((w2.length:Int)==2)then(idx y4 0)else some default).bind λe11=>(bif (e5==([100,111,119,110]:Str))&&((w2.length:Int)==2)then(lenQ s1.up)else some default).bind λ_=>bif ((e5==([100,111,119,110]:Str))&&((w2.length:Int)==2))&&decide (e11<(s1.up.length:Int))then((idx y4 0).bind λe13=>(idx s1.up e13).bind λ_=>Q2 (State.mk s1.topo (s1.up.set e13.toNat false) s1.lic s1.depth s1.now s1.queue s1.runs s1.ends))else(bif (e5==([119,97,105,116]:Str))&&((w2.length:Int)==8)then((cutL w2 (some 1) none).bind λxs15=>(Ve xs15).bind λy16=>(appL 88 s1.queue [y16]).bind λxs17=>Q2 (State.mk s1.topo s1.up s1.lic s1.depth s1.now xs17 s1.runs s1.ends))else((bif (e5==([114,117,110]:Str))&&decide (10<(w2.length:Int))then(idx y4 1)else some default).bind λe18=>bif ((e5==([114,117,110]:Str))&&decide (10<(w2.length:Int)))&&((w2.length:Int)==(w64 (10+e18)))then((idx y4 0).bind λe19=>(idx y4 1).bind λe20=>(cutL y4 (some 2) (some (w64 (2+e20)))).bind λxs21=>(cutL w2 (some (w64 (3+e20))) none).bind λxs22=>(Ve xs22).bind λy23=>(appL 120 s1.runs [(Run.mk y23 e19 xs21)]).bind λxs24=>Q2 (State.mk s1.topo s1.up s1.lic s1.depth s1.now s1.queue xs24 s1.ends))else(bif (e5==([101,110,100]:Str))&&((w2.length:Int)==4)then((idx y4 0).bind λe25=>(idx y4 1).bind λe26=>(idx y4 2).bind λe27=>(appL 24 s1.ends [(End.mk e25 e26 e27)]).bind λxs28=>Q2 (State.mk s1.topo s1.up s1.lic s1.depth s1.now s1.queue s1.runs xs28))else(bif (e5==([111,118,101,114]:Str))&&((w2.length:Int)==1)then(Q2 s1)else(some (false,s1)))))))
set_option maxRecDepth 20000 in
theorem U00{s1:State}{w2:tT}{r:Bool×State}(H:M0 s1 w2=some r):ConD Tryz.prog Qn [.ptr 0 0,zrb w2] [(zs s1 (.sref 0) (.sref 1) (.sref 2) (.sref 3))] [(1,s1.up.map eBo),(11,s1.queue.map eJob),(13,s1.runs.map (X1 .nw)),(3,s1.ends.map eEnd)] (.bool r.1) [(zs r.2 (.sref 4) (.sref 5) (.sref 6) (.sref 7))] [none,none,none,none] [(1,r.2.up.map eBo),(11,r.2.queue.map eJob),(13,r.2.runs.map (X1 .nw)),(3,r.2.ends.map eEnd)]:=by
 refine M0C [false,false,false,false] Y01 rfl (by kernel_rfl) ?_
 unfold M0 at H
 obtain⟨xs3,h3,y4,h4,e5,h5,H⟩:=bB3 H
 refine wH [.u 7 (.sc _ _ _ _ λ_=>Ut eS h3),.c 8 (W1t h4),.x 11 eS h5,.g 16 [((e5==([115,116,97,116,101]:Str)),true)] (.ln _ _ λ_=>lm w2 eS)] ?_
 refine Xi (r:=r) Q2 0 (λv29:State=>⟨[],[],[(2000000000,[.sl .nw 1 (v29.topo.parents.map eI),.sl .nw 4 (v29.topo.nodes.map Q1),.sref 500000000,.int .i64 v29.lic.a,.int .i64 v29.lic.b,.int .i64 v29.lic.c,.int .i64 v29.depth,.int .i64 v29.now,.sref 500000001,.sref 500000002,.sref 500000003])],[(500000000,zwd v29.up),(500000001,zwf v29.queue),(500000002,zwg v29.runs),(500000003,zwh v29.ends)]⟩) (by kernel_rfl) (λv29 H=>?_) (λJ34=>?_)
 .unfold Q2 at H
  refine wP ?_
  replace H:=sI H;subst H
  exact Jk [(4,.d)] [(2000000000,[])] [(500000000,some 500000000,0),(500000001,some 500000001,0),(500000002,some 500000002,0),(500000003,some 500000003,0)] [] [500000000,500000001,500000002,500000003] (by kernel_rfl)
 .refine X0 H ?_ ?_<;>intro H
  .obtain⟨e6,h6,y7,h7,e8,h8,H⟩:=bB3 H
   obtain⟨e9,h9,H⟩:=bB H
   exact wH [.x 22 eS h6,.c 24 (Ly h7),.x 32 eI h8,.x 35 eI h9] (wT (J34 _ H))
  .obtain⟨u10,h10,e11,h11,u12,h12,H⟩:=bB3 H
   refine wH [.x 43 eS h5,.g 48 [(_,true)] (.le _ _ (λq=>lm w2 eS) (λq=>J0V (bT q.1 h10))),.g 53 [(_,true)] (.ix _ _ _ λq=>Y0 eI (bT q.1 h11)),.g 59 [(_,true)] (.le _ _ (λq=>lm s1.up eBo) (λq=>J0V (bT q.1 h12)))] ?_
   refine X0 H ?_ ?_<;>intro H
   .obtain⟨e13,h13,e14,h14,H⟩:=bB2 H
    exact wH [.x 67 eI h13,.x 69 eBo h14,.u 1000000 (.sto _ _ _ (eBo false) _ (λ_=>gm eBo (V4 h14)) (λ_=>YS ..))] (wT (J34 _ H))
   .refine wH [.x 72 eS h5,.g 77 [((e5==([119,97,105,116]:Str)),true)] (.ln _ _ λ_=>lm w2 eS)] ?_
    refine X0 H ?_ ?_<;>intro H
    .obtain⟨xs15,h15,y16,h16,xs17,h17,H⟩:=bB3 H
     exact wH [.u 86 (.sc _ _ _ _ λ_=>Ut eS h15),.c 87 (X07 h16),.p 89 eJob h17] (wT (J34 _ H))
    .obtain⟨e18,h18,H⟩:=bB H
     refine wH [.x 94 eS h5,.g 99 [((e5==([114,117,110]:Str)),true)] (.ln _ _ λ_=>lm w2 eS),.g 104 [(((e5==([114,117,110]:Str))&&decide (10<(w2.length:Int))),true)] (.ln _ _ λ_=>lm w2 eS),.g 106 [(_,true)] (.ix _ _ _ λq=>Y0 eI (bT q.1 h18))] ?_
     refine X0 H ?_ ?_<;>intro H
     .obtain⟨e19,h19,e20,h20,xs21,h21,H⟩:=bB3 H
      obtain⟨xs22,h22,y23,h23,xs24,h24,H⟩:=bB3 H
      exact wH [.x 117 eI h19,.x 121 eI h20,.u 124 (.sc _ _ _ _ λ_=>Ut eI h21),.x 127 eI h20,.u 130 (.sc _ _ _ _ λ_=>Ut eS h22),.c 131 (X07 h23),.p 134 (X1 .nw) h24] (wT (J34 _ H))
     .refine wH [.x 139 eS h5,.g 144 [((e5==([101,110,100]:Str)),true)] (.ln _ _ λ_=>lm w2 eS)] ?_
      refine X0 H ?_ ?_<;>intro H
      .obtain⟨e25,h25,e26,h26,e27,h27,H⟩:=bB3 H
       obtain⟨xs28,h28,H⟩:=bB H
       exact wH [.x 153 eI h25,.x 156 eI h26,.x 159 eI h27,.p 163 eEnd h28] (wT (J34 _ H))
      .refine wH [.x 168 eS h5,.g 173 [((e5==([111,118,101,114]:Str)),true)] (.ln _ _ λ_=>lm w2 eS)] ?_
       refine X0 H ?_ ?_<;>intro H
       .refine wP ?_
        exact wT (J34 _ H)
       .refine wP ?_
        replace H:=sI H;subst H
        exact Jk [(4,.d)] [(2000000000,[])] [(500000000,some 500000000,0),(500000001,some 500000001,0),(500000002,some 500000002,0),(500000003,some 500000003,0)] [] [500000000,500000001,500000002,500000003] (by kernel_rfl)
def Uf(s1:Str)(y2:tT)(v17:State×Int)(k17:(State×Int)->Option (State×Bool)):Option (State×Bool) :=
 bif decide (v17.2<(w64 ((y2.length:Int)-1)))then((idx y2 v17.2).bind λe19=>(Z3 e19 32).bind λy20=>(M0 v17.1 y20).bind λy21=>bif !y21.1 then(some ((State.mk (Topo.mk [] []) [] (Vec.mk 0 0 0) 0 0 [] [] []),false))else(k17 (y21.2,(w64 (v17.2+1)))))else((bif s1==([]:Str)then some default else(Zo v17.1)).bind λw22=>bif (s1==([]:Str))||(w22 != s1)then(some ((State.mk (Topo.mk [] []) [] (Vec.mk 0 0 0) 0 0 [] [] []),false))else((X8 v17.1).bind λy23=>some (y23,true)))
def Yn(_:Node)(_:Nat)(v15:tB)(k15:tB->Option (State×Bool)):Option (State×Bool) :=
 (appL 1 v15 [true]).bind λxs16=>k15 xs16
def Zn(s1:Str)(y2:tT)(v3:Int×Str)(y12:Topo×Bool)(v15:tB):Option (State×Bool) :=
 whl (Uf s1 y2) 9223372036854775807 ((State.mk y12.1 v15 (Vec.mk 0 0 0) 0 0 [] [] []),v3.1)
def Qf(s1:Str)(y2:tT)(v3:Int×Str)(k3:(Int×Str)->Option (State×Bool)):Option (State×Bool) :=
 (bif decide (v3.1<(y2.length:Int))then(idx y2 v3.1)else some default).bind λe4=>(bif decide (v3.1<(y2.length:Int))then(Vc e4 ([115,119,105,116,99,104,32]:Str))else some default).bind λb5=>(bif decide (v3.1<(y2.length:Int))then(bif b5 then some default else(idx y2 v3.1))else some default).bind λe6=>(bif decide (v3.1<(y2.length:Int))then(bif b5 then some default else(Vc e6 ([110,111,100,101,32]:Str)))else some default).bind λb7=>bif decide (v3.1<(y2.length:Int))&&(b5||b7)then((idx y2 v3.1).bind λe9=>(catS v3.2 e9).bind λw10=>(catS w10 ([10]:Str)).bind λw11=>k3 ((w64 (v3.1+1)),w11))else((Yi v3.2).bind λy12=>(bif !y12.2 then some default else(idx y2 (w64 ((y2.length:Int)-1)))).bind λe13=>bif (!y12.2)||(e13 != ([]:Str))then(some ((State.mk (Topo.mk [] []) [] (Vec.mk 0 0 0) 0 0 [] [] []),false))else(rgl Yn (Zn s1 y2 v3 y12) y12.1.nodes 0 []))
def Vj(s1:Str):Option (State×Bool) :=
 (Z3 s1 10).bind λy2=>whl (Qf s1 y2) 9223372036854775807 (0,([]:Str))
theorem J0Y{s1:Str}{r:State×Bool}(H:Vj s1=some r):SQ X0p [.str s1] (.tup [J1 .nw r.1,.bool r.2]):=by
 refine wd [(83,2)] [.c 2 11 true,.t 3] ?_
 obtain⟨y2,h2,H⟩:=bB H
 refine wH [.c 12 (Vt h2)] ?_
 refine wW (λ(v3:Int×Str)=>⟨[(0,.str s1),pB 2,(4,zfb y2),(5,iV v3.1),(6,.str v3.2)],[],[(2,z2)],[]⟩) H (λv3 I m k3 H N14=>?_)
 obtain⟨e4,h4,b5,h5,e6,h6,H⟩:=bB3 H
 obtain⟨b7,h7,H⟩:=bB H
 refine wG [.l 15 y2 eS,.g 20 [(_,true)] (.ix _ _ _ λq=>Y0 eS (bT q.1 h4)),.d 22 [(_,true)] λq=>M0D (bT q.1 h5),.g 26 [(_,false),(_,true)] (.ix _ _ _ λq=>Y0 eS (bF q.1 (bT q.2.1 h6))),.d 28 [(_,false),(_,true)] λq=>M0D (bF q.1 (bT q.2.1 h7))] λq8=>?_
 refine X0 H ?_ ?_<;>intro H
 .obtain⟨e9,h9,w10,h10,w11,h11,H⟩:=bB3 H
  exact wH [.x 34 eS h9,.u 36 (.sa _ _ _ λ_=>h10),.u 37 (.sa _ _ _ λ_=>h11)] (wT (N14 _ H))
 .obtain⟨y12,h12,e13,h13,H⟩:=bB2 H
  refine wH [.c 42 (U18 h12),.g 50 [((!y12.2),false)] (.ln _ _ λ_=>lm y2 eS),.g 52 [(_,false)] (.ix _ _ _ λq=>Y0 eS (bF q.1 h13))] ?_
  refine X0 H (λH=>sI H▸wQ [(2,z0)] z1) λH=>?_
  refine wG [.l 61 y12.1.nodes Q1] λq14=>?_
  refine M01 (λ(i15:Nat) (v15:tB)=>⟨[(0,.str s1),pB 2,(4,zfb y2),(5,iV v3.1),pB 9]++zl 61 y12.1.nodes i15,[],[(2,z2),(9,[zfa y12.1.parents,zfe y12.1.nodes,.sref 490000,iV 0,iV 0,iV 0,iV 0,iV 0,.nl,.nl,.nl])],[(490000,zwd v15)]⟩) [] [(9,[.d,.d,.z 490000,.d,.d,.d,.d,.d,.d,.d,.d])] [(490000,(none,1))] [] (by kernel_rfl) (by kernel_rfl) H (λi15 x15 v15 I m k15 A15 B15 H N36=>?_) (λv15 I m H=>?_)
  .refine wP (wt (ltT B15) ?_)
   obtain⟨xs16,h16,H⟩:=bB H
   exact wH [.p 67 eBo h16,.i 69 B15 q14.1] (wT (N36 _ H))
  .refine wP (wf (ltF y12.1.nodes.length) ?_)
   refine wP ?_
   refine Z1z (λ(v17:State×Int)=>⟨[(0,.str s1),pB 2,(4,zfb y2),pB 9,(10,iV v17.2)],[],[(2,z2),(9,(zs v17.1 (.sref 490000) (.sref 550001) (.sref 184002) (.sref 481003)))],[(490000,zwd v17.1.up),(550001,zwf v17.1.queue),(184002,zwg v17.1.runs),(481003,zwh v17.1.ends)]⟩) [] [(9,[.d,.d,.d,.d,.d,.d,.d,.d,.z 550001,.z 184002,.z 481003])] [(550001,(none,11)),(184002,(none,13)),(481003,(none,3))] [] (by kernel_rfl) (by kernel_rfl) H (λv17 I m k17 H N56=>?_)
   refine wG [.l 73 y2 eS] λq18=>?_
   refine X0 H ?_ ?_<;>intro H
   .obtain⟨e19,h19,y20,h20,y21,h21,H⟩:=bB3 H
    refine wH [.x 80 eS h19,.c 82 (Vt h20),.u 83 (.cw Qn [9] [490000,550001,184002,481003] [(zs v17.1 (.sref 0) (.sref 1) (.sref 2) (.sref 3))] [(1,v17.1.up.map eBo),(11,v17.1.queue.map eJob),(13,v17.1.runs.map (X1 .nw)),(3,v17.1.ends.map eEnd)] [.ptr 0 0,zfb y20] _ _ _ _ _ (GEs.of [true,false] (by simp)) (by simp) (by simp) (by simp) (λ_=>U00 h21))] ?_
    refine X0 H (λH=>sI H▸wQ [(2,z0)] z1) λH=>?_
    refine wP ?_
    exact wU (N56 _ H) [] [] [(490000,(some 84000,0)),(550001,(some 84001,0)),(184002,(some 84002,0)),(481003,(some 84003,0))] []
   .obtain⟨w22,h22,H⟩:=bB H
    refine wH [.g 90 [(_,false)] (.call _ _ _ _ _ (AEs.of (xs:=[zX v17.1]) (by simp)) (λq=>L0g (bF q.1 h22)))] ?_
    refine X0 H (λH=>sI H▸wQ [(2,z0)] z1) λH=>?_
    obtain⟨y23,h23,H⟩:=bB H
    refine wH [.f 96 [zX v17.1] (Ja h23)] ?_
    exact sI H▸wM [(2,[])] [zna y23.topo.parents,zne y23.topo.nodes,znd y23.up,znf y23.queue,zng y23.runs,znh y23.ends]
theorem M1B{α γ:Type}{bd:α->Nat->Str->(Str->Option γ)->Option γ}{kk:Str->Option γ}{f:α->Nat->Str}(c:Nat):∀{l:List α} {i:Nat} {s:Str},(∀x i,(f x i).length<=c) ->
  (∀x∈l,∀i s k,s.length+c<=4611686018427387904->bd x i s k=k (s++f x i))->s.length+l.length*c<=4611686018427387904->rgl bd kk l i s=kk (s++(l.zipIdx i).flatMap λq=>f q.1 q.2)
 |[],_,s,_,_,_=>by simp[rgl]
 |x::l,i,s,h1,h2,h3=>by
  have h0:s.length+c+l.length*c<=4611686018427387904:=by simp only[yT,Nat.add_mul,Nat.one_mul]at h3;omega
  have hx:=h1 x i
  rw[rgl,h2 x (yJ ..) i s _ (by omega),M1B c h1 (λy hy=>h2 y (yH _ hy)) (by simp;omega)]
  simp[List.zipIdx_cons]
theorem X1P{α:Type}(f:α->Nat->Str)(c:Nat)(h:∀x i,(f x i).length<=c):∀(l:List α) (i:Nat),((l.zipIdx i).flatMap λq=>f q.1 q.2).length<=l.length*c
 |[],_=>by simp
 |x::l,i=>by
  have:=X1P f c h l (i+1)
  have:=h x i
  simp only[List.zipIdx_cons,ya,yU,yT,Nat.add_mul,Nat.one_mul];omega
def QN(l:tI):Str:=l.flatMap λn=>32::numText n
theorem Zu(l:tI):(QN l).length<=l.length*11:=W03 _ 11 l λx _=>by have:=J0 x;simp;omega
theorem QK{l:tI}(h:l.length<=1048576):Xr l=some (QN l):=by
 unfold Xr
 rw[QG 11 (f:=λn=>32::numText n) (λx _=>by have:=J0 x;simp;omega) (λx hx i s k hs=>by
  have:=J0 x
  unfold YY
  rw[V0 (by simp;omega),bS,V9,bS,V0 (by simp;omega),bS]
  simp) (by simp;omega)]
 rfl
theorem JG{w:Str}{l:tI}(hw:w.length<=1048576)(h:l.length<=1048576):Om w l=some (w++QN l):=by
 unfold Om
 rw[QG 11 (f:=λn=>32::numText n) (λx _=>by have:=J0 x;simp;omega) (λx hx i s k hs=>by
  have:=J0 x
  unfold VS
  rw[V0 (by simp;omega),bS,Z7,bS,V0 (by simp;omega),bS]
  simp) (by omega)]
 rfl
def Zh(j:Job):Str:=numText j.id++[32]++numText j.prio++[32]++numText j.nodes++[32]++X4 j.need++[32]++X4 j.lic++[32]++numText j.wall++[32]++numText j.level
theorem UB(j:Job):(Zh j).length<=140:=by
 have:=J0 j.id;have:=J0 j.prio;have:=J0 j.nodes;have:=J0 j.wall;have:=J0 j.level
 have:=W7 j.need;have:=W7 j.lic
 simp[Zh];omega
theorem MN(j:Job):Uy j=some (Zh j):=by
 have:=J0 j.id;have:=J0 j.prio;have:=J0 j.nodes;have:=J0 j.wall;have:=J0 j.level
 have:=W7 j.need;have:=W7 j.lic
 unfold Uy
 simp only[Z7,YO,bS]
 rw[Wm _ (by simp[Yt];omega),bS]
 simp[Yt,Zh]
theorem W0t(j:Job):VJ j=some (bif Y1 j then Zh j else[]):=by
 have:=J0 j.id;have:=J0 j.prio;have:=J0 j.nodes;have:=J0 j.wall;have:=J0 j.level
 have:=W7 j.need;have:=W7 j.lic
 have hc:Wl ⟨1,j,0,⟨0,0,0⟩⟩=some (Y1 j):=by
  unfold Wl
  simp
 unfold VJ Ux
 rw[hc,bS]
 cases Y1 j with
 |false=>rfl
 |true =>
  have hi:idx M7 1=some [115,117,98,109,105,116]:=rfl
  simp only[yL,yM,yN,hi,bS,show((1:Int)==1)=true from rfl,V9,Jo]
  rw[V0 (by simp),bS,V0 (by simp;omega),bS,V0 (by simp;omega),bS,V0 (by simp;omega),bS,V0 (by simp;omega),bS,V0 (by simp;omega),bS,V0 (by simp;omega),bS,V0 (by simp;omega),bS,V0 (by simp;omega),bS,V0 (by simp;omega),bS,V0 (by simp;omega),bS,V0 (by simp;omega),bS,V0 (by simp;omega),bS,V0 (by simp;omega),bS,bS]
  have e:∀(z:Str),([115,117,98,109,105,116]++[32]++numText j.id++[32]++numText j.prio++[32]++numText j.nodes++[32]++X4 j.need++[32]++X4 j.lic++[32]++numText j.wall++[32]++numText j.level:Str)=[115,117,98,109,105,116,32]++Zh j:=λ_=>by simp[Zh]
  rw[e []]
  rw[show(([115,117,98,109,105,116,32]++Zh j:Str)==[])=false from rfl]
  simp only[yM]
  have hcut:cutL ([115,117,98,109,105,116,32]++Zh j:Str) (some 7) none=some (Zh j):=by
   unfold cutL bhi blo
   simp only
   rw[yd (by simp;omega)]
   simp
  rw[hcut,bS]
def LP(b:Bool)(i:Nat):Str:=bif !b then[100,111,119,110]++QN [(i:Int)]++[10]else[]
def YK(j:Job):Str:=[119,97,105,116,32]++Zh j++[10]
def W06(x:Run):Str:=[114,117,110]++QN ([x.t,(x.nodes.length:Int)]++x.nodes)++[32]++Zh x.job++[10]
def J08(e:End):Str:=[101,110,100]++QN [e.id,e.t,e.why]++[10]
def U0b(s:State):Str:=[115,116,97,116,101,32]++X4 s.lic++QN [s.depth,s.now]++[10]
noncomputable def Q4(s:State):Str:=if stateOk s=true then Wb s.topo++U0b s++((s.up.zipIdx 0).flatMap λq=>LP q.1 q.2)++s.queue.flatMap YK++s.runs.flatMap W06++s.ends.flatMap J08++[111,118,101,114,10]else[]
theorem Z0x(b:Bool)(i:Nat):(LP b i).length<=1000:=by have:=Zu [(i:Int)];cases b<;>simp[LP]at this ⊢;omega
theorem O0r(j:Job):(YK j).length<=1000:=by have:=UB j;simp[YK];omega
theorem W0K(e:End):(J08 e).length<=1000:=by have:=Zu [e.id,e.t,e.why];simp[J08]at this ⊢;omega
theorem J1O(s:State):(U0b s).length<=1000:=by
 have h1:=Zu [s.depth,s.now]
 have h2:=W7 s.lic
 simp only[yT,List.length_nil]at h1
 simp only[U0b,yU,yT,List.length_nil];omega
theorem O0I{x:Run}(h:x.nodes.length<=24):(W06 x).length<=1000:=by
 have:=UB x.job
 have:=Zu ([x.t,(x.nodes.length:Int)]++x.nodes)
 simp[W06]at this ⊢;omega
theorem StateP.run_len{s:State}(h:StateP s){x:Run}(hx:x∈s.runs):x.nodes.length<=24/\Y1 x.job=true:=by
 obtain⟨h1,h2,_⟩:=h.runs.job x hx
 have:=(Xk.1 h1).2.2.1
 exact⟨by omega,h1⟩
theorem StateP.jobs{s:State}(h:StateP s):s.queue.length+s.runs.length<=60/\(∀j∈s.queue,Y1 j=true):=by
 have:=h.queue
 unfold queueOk allJobs at this
 simp only[yD,yO,List.all_eq_true,yU,List.length_map]at this
 exact⟨this.1.1,λj hj=>this.1.2 j (List.mem_append.2 (.inl hj))⟩
theorem M0r{s:State}(h:StateP s):(Wb s.topo++U0b s:Str).length<=6000/\((s.up.zipIdx 0).flatMap λq=>LP q.1 q.2).length<=24000/\(s.queue.flatMap YK).length<=60000/\(s.runs.flatMap W06).length<=60000/\(s.ends.flatMap J08).length<=300000/\s.up.length<=24/\s.queue.length<=60/\s.runs.length<=60/\s.ends.length<=300:=by
 have h1:=VI s.topo
 have h2:=J1O s
 have h3:=X1P LP 1000 Z0x s.up 0
 have h4:=W03 YK 1000 s.queue λx _=>O0r x
 have h5:=W03 W06 1000 s.runs λx hx=>O0I (h.run_len hx).1
 have h6:=W03 J08 1000 s.ends λx _=>W0K x
 have:=h.up;have:=h.topo.nodes;have:=h.jobs.1;have:=h.ends
 rw[yU]
 refine⟨by omega,by omega,by omega,by omega,by omega,by omega,by omega,by omega,by omega⟩
theorem OR{s:State}(hs:s.queue.length+s.runs.length<=1048576):Vu s=some (Q4 s):=by
 unfold Vu Q4
 rw[(Xb hs).1,bS]
 cases ho:stateOk s with
 |false=>rfl
 |true =>
  have h:=Uo ho
  obtain⟨b1,b2,b3,b4,b5,c1,c2,c3,c4⟩:=M0r h
  have d1:=VI s.topo
  have d2:=W7 s.lic
  have d3:=Zu [s.depth,s.now]
  simp only[yT,List.length_nil]at d3
  rw[yd rfl]
  simp only[yL,yM,W0m,Jo,bS]
  rw[V0 (by simp;omega),bS,V0 (by simp;omega),bS,QK (by simp),bS,V0 (by simp;omega),bS,V0 (by simp;omega),bS]
  rw[show(Wb s.topo++[115,116,97,116,101,32]++X4 s.lic++QN [s.depth,s.now]++[10]:Str)=Wb s.topo++U0b s by simp[U0b]]
  rw[M1B 1000 (f:=LP) Z0x (λx hx i w k hw=>by
   unfold YM LP
   cases x with
   |true=>simp
   |false =>
    have:=Zu [(i:Int)]
    simp only[yT,List.length_nil]at this
    simp only[Bool.not_false,yN]
    rw[V0 (by simp;omega),bS,QK (by simp),bS,V0 (by simp;omega),bS,V0 (by simp;omega),bS]
    simp) (by omega)]
  unfold ML
  rw[QG 1000 (f:=YK) (λx _=>O0r x) (λx hx i w k hw=>by
   have:=UB x
   unfold ZM YK
   rw[V0 (by simp;omega),bS,W0t,h.jobs.2 x hx,bS,yN,V0 (by simp;omega),bS,V0 (by simp;omega),bS]
   simp) (by rw[yU];omega)]
  unfold OL
  rw[QG 1000 (f:=W06) (λx hx=>O0I (h.run_len hx).1) (λx hx i w k hw=>by
   have:=UB x.job
   have hn:=h.run_len hx
   have:=Zu ([x.t,(x.nodes.length:Int)]++x.nodes)
   simp only[yU,yT,List.length_nil]at this
   unfold JL W06
   rw[V0 (by simp;omega),bS,show lenQ x.nodes=some () by unfold lenQ;rw[yd (by omega)],bS,Q0 (by simp;omega),bS,QK (by simp;omega),bS,V0 (by rw[yU];simp only[yT,List.length_nil];omega),bS,
    V0 (by simp only[yU,yT,List.length_nil];omega),bS,W0t,hn.2,bS,yN,V0 (by simp only[yU,yT,List.length_nil];omega),bS,V0 (by simp only[yU,yT,List.length_nil];omega),bS]
   simp) (by rw[yU,yU];omega)]
  unfold WL
  rw[QG 1000 (f:=J08) (λx _=>W0K x) (λx hx i w k hw=>by
   have:=Zu [x.id,x.t,x.why]
   simp only[yT,List.length_nil]at this
   unfold LL J08
   rw[V0 (by simp;omega),bS,QK (by simp),bS,V0 (by simp;omega),bS,V0 (by simp;omega),bS]
   simp) (by rw[yU,yU,yU];omega)]
  unfold QL
  rw[V0 (by simp only[yU,yT,List.length_nil]at b1 ⊢;omega),bS]
theorem MT{s:State}(hs:s.queue.length+s.runs.length<=1048576):Zo s=some (Q4 s):=by
 unfold Zo Q4
 rw[(Xb hs).2,bS]
 cases ho:stateOk s with
 |false=>rfl
 |true =>
  have h:=Uo ho
  obtain⟨b1,b2,b3,b4,b5,c1,c2,c3,c4⟩:=M0r h
  have d1:=VI s.topo
  have d2:=W7 s.lic
  have d3:=J0 s.depth
  have d4:=J0 s.now
  rw[yd rfl]
  simp only[yL,yM,V00,YO,Z7,bS]
  rw[Wm _ (by simp[Yt];omega),bS,V0 (by simp[Yt];omega),bS,V0 (by simp[Yt];omega),bS]
  rw[show(Wb s.topo++Yt [[115,116,97,116,101],X4 s.lic,numText s.depth,numText s.now]++[10]:Str)=Wb s.topo++U0b s by simp[U0b,Yt,QN]]
  rw[M1B 1000 (f:=LP) Z0x (λx hx i w k hw=>by
   unfold XP LP
   cases x with
   |true=>simp
   |false =>
    have:=Zu [(i:Int)]
    simp only[yT,List.length_nil]at this
    simp only[Bool.not_false,yN]
    rw[JG (by simp) (by simp),bS,V0 (by simp;omega),bS,V0 (by simp;omega),bS]
    simp) (by omega)]
  unfold LO
  rw[QG 1000 (f:=YK) (λx _=>O0r x) (λx hx i w k hw=>by
   have:=UB x
   unfold YP YK
   rw[MN,bS,Wm _ (by simp[Yt];omega),bS,V0 (by simp[Yt];omega),bS,V0 (by simp[Yt];omega),bS]
   simp[Yt]) (by rw[yU];omega)]
  unfold MO
  rw[QG 1000 (f:=W06) (λx hx=>O0I (h.run_len hx).1) (λx hx i w k hw=>by
   have:=UB x.job
   have hn:=h.run_len hx
   have i1:=Zu [x.t,(x.nodes.length:Int)]
   have i2:=Zu x.nodes
   simp only[yT,List.length_nil]at i1
   unfold ZP W06
   rw[show lenQ x.nodes=some () by unfold lenQ;rw[yd (by omega)],bS,JG (by simp) (by simp),bS,JG (by simp only[yU,yT,List.length_nil];omega) (by omega),bS,MN,bS,
    Wm _ (by simp only[Yt,yU,yT,List.length_nil];omega),bS,V0 (by simp only[Yt,yU,yT,List.length_nil];omega),bS,V0 (by simp only[Yt,yU,yT,List.length_nil];omega),bS]
   simp[Yt,QN]) (by rw[yU,yU];omega)]
  unfold OO
  rw[QG 1000 (f:=J08) (λx _=>W0K x) (λx hx i w k hw=>by
   have:=Zu [x.id,x.t,x.why]
   simp only[yT,List.length_nil]at this
   unfold JO J08
   rw[JG (by simp) (by simp),bS,V0 (by simp;omega),bS,V0 (by simp;omega),bS]
   simp) (by rw[yU,yU,yU];omega)]
  unfold WO
  rw[V0 (by simp only[yU,yT,List.length_nil]at b1 ⊢;omega),bS]
theorem VK{s:State}:(Q4 s==([]:Str)) = !stateOk s:=by
 unfold Q4
 cases stateOk s with
 |false=>rfl
 |true=>rw[yd rfl];simp
theorem Q0L(s:State):(Q4 s).length<=1000000:=by
 unfold Q4
 split
 .rename_i ho
  obtain⟨b1,b2,b3,b4,b5,_⟩:=M0r (Uo ho)
  simp only[yU,yT,List.length_nil]at b1 ⊢;omega
 .simp
theorem Ov{k n:Int}(h:(k==n)=true):k=n:=by simpa using h
theorem O1Q(c:Cmd):∃w,Ux c=some w/\JJ c=some w/\w.length<=1000:=by
 obtain⟨b,hb⟩:=V0D c
 unfold Ux JJ
 rw[Q1J,hb,bS,bS]
 cases b with
 |false=>exact⟨[],rfl,rfl,by simp⟩
 |true =>
 simp only[yL,yM]
 have n1:=J0 c.job.id;have n2:=J0 c.job.prio;have n3:=J0 c.job.nodes;have n4:=J0 c.job.wall;have n5:=J0 c.job.level
 have v1:=W7 c.job.need;have v2:=W7 c.job.lic;have v3:=W7 c.lic;have nn:=J0 c.n
 have jl:=UB c.job
 cases h1:(c.kind==1)with
 |true =>
  have hi:idx M7 c.kind=some [115,117,98,109,105,116]:=by rw[Ov h1];rfl
  rw[hi]
  simp only[bS,yN,V9,Jo,MN]
  rw[Wm _ (by simp[Yt];omega)]
  rw[V0 (by simp),bS,V0 (by simp;omega),bS,V0 (by simp;omega),bS,V0 (by simp;omega),bS,V0 (by simp;omega),bS,V0 (by simp;omega),bS,V0 (by simp;omega),bS,V0 (by simp;omega),bS,V0 (by simp;omega),bS,V0 (by simp;omega),bS,V0 (by simp;omega),bS,V0 (by simp;omega),bS,V0 (by simp;omega),bS,V0 (by simp;omega),bS]
  exact⟨_,rfl,by simp[Yt,Zh],by simp;omega⟩
 |false =>
 cases h6:(c.kind==6)with
 |true =>
  have hi:idx M7 c.kind=some [108,105,99]:=by rw[Ov h6];rfl
  rw[hi]
  simp only[bS,yN,yM,Jo,YO]
  rw[Wm _ (by simp[Yt];omega),V0 (by simp),bS,V0 (by simp;omega),bS]
  exact⟨_,rfl,by simp[Yt],by simp;omega⟩
 |false =>
  have hw:∃w,idx M7 c.kind=some w/\WJ c.kind=some w/\w.length<=10:=by
   unfold Wl at hb
   rw[h1,yM]at hb
   cases h2:(c.kind==2)with
   |true=>rw[Ov h2];exact⟨_,rfl,rfl,by decide⟩
   |false =>
   cases h3:(c.kind==3)with
   |true=>rw[Ov h3];exact⟨_,rfl,rfl,by decide⟩
   |false =>
   rw[h2,h3,yM]at hb
   unfold Zj at hb
   rw[yM]at hb
   cases h4:(c.kind==4)with
   |true=>rw[Ov h4];exact⟨_,rfl,rfl,by decide⟩
   |false =>
   cases h5:(c.kind==5)with
   |true=>rw[Ov h5];exact⟨_,rfl,rfl,by decide⟩
   |false =>
   rw[h4,h5,yM]at hb
   unfold Yj at hb
   rw[yM,h6,yM]at hb
   cases h7:(c.kind==7)with
   |true=>rw[Ov h7];exact⟨_,rfl,rfl,by decide⟩
   |false=>rw[h7]at hb;cases hb
  obtain⟨w,w1,w2,w3⟩:=hw
  rw[w1,w2]
  simp only[bS,yM,V9,Z7]
  rw[Wm _ (by simp[Yt];omega),V0 (by simp;omega),bS,V0 (by simp;omega),bS]
  exact⟨_,rfl,by simp[Yt],by simp;omega⟩
abbrev zC:Cmd:=Cmd.mk 0 (Job.mk 0 0 0 (Vec.mk 0 0 0) (Vec.mk 0 0 0) 0 0) 0 (Vec.mk 0 0 0)
theorem Z1J(s:Str)(c:Cmd):∃r,Mc s c=some r/\J5 s c=some r/\(r.2=false->r.1=zC):=by
 obtain⟨w,h1,h2⟩:=O1Q c
 unfold Mc J5
 cases hs:(s==([]:Str))with
 |true=>exact⟨(zC,false),rfl,rfl,λ_=>rfl⟩
 |false =>
  simp only[yM,h1,h2,bS,Bool.false_or]
  cases w != s with
  |true=>exact⟨(zC,false),rfl,rfl,λ_=>rfl⟩
  |false=>exact⟨(c,true),rfl,rfl,λh=>by cases h⟩
def O2i(a:Str)(v:Int)(l:List (Str×Int)):Int:=l.foldl (λv q=>bif q.1==a then q.2 else v) v
def M1V:List (Str×Int):=[([115,117,98,109,105,116],1),([99,97,110,99,101,108],2),([100,111,110,101],3),([102,97,105,108],4),([114,101,115,117,109,101],5),([108,105,99],6),([103,111],7)]
theorem L26{s a:Str}{r:tT}:rgl (Jf (a::r)) (Ot s (a::r)) M7 0 0=Ot s (a::r) (O2i a 0 M1V):=by
 have st:∀(x:Str) (i:Nat) (v:Int) (k:Int->Option (Cmd×Bool)),0<i->Jf (a::r) x i v k=k (bif x==a then(i:Int)else v):=by
  intro x i v k hi
  have i0:idx (a::r) 0=some a:=rfl
  unfold Jf
  rw[show decide ((0:Int)<(i:Int))=true by simp;omega,yN,i0,bS,Bool.true_and]
  cases x==a<;>rfl
 unfold M7
 rw[rgl]
 show Jf (a::r) [] 0 0 _=_
 rw[show ∀k:Int->Option (Cmd×Bool),Jf (a::r) [] 0 0 k=k 0 from λk=>rfl]
 rw[rgl,st _ _ _ _ (by omega),rgl,st _ _ _ _ (by omega),rgl,st _ _ _ _ (by omega),rgl,st _ _ _ _ (by omega),rgl,st _ _ _ _ (by omega),rgl,st _ _ _ _ (by omega),rgl,st _ _ _ _ (by omega),rgl]
 rfl
def U1U(s:Str)(y2:tT)(v:Int):Option (Cmd×Bool):=bif (v==1)&&((y2.length:Int)==8)then((cutL y2 (some 1) none).bind λxs6=>(Ve xs6).bind λy7=>(J5 s) (Cmd.mk v y7 0 (Vec.mk 0 0 0)))else(bif (v==6)&&((y2.length:Int)==2)then((idx y2 1).bind λe8=>(U9 e8).bind λy9=>(J5 s) (Cmd.mk v (Job.mk 0 0 0 (Vec.mk 0 0 0) (Vec.mk 0 0 0) 0 0) 0 y9.1))else(bif (y2.length:Int)==2 then((idx y2 1).bind λe11=>(U2 e11).bind λy12=>(J5 s) (Cmd.mk v (Job.mk 0 0 0 (Vec.mk 0 0 0) (Vec.mk 0 0 0) 0 0) y12.1 (Vec.mk 0 0 0)))else((J5 s) (Cmd.mk v (Job.mk 0 0 0 (Vec.mk 0 0 0) (Vec.mk 0 0 0) 0 0) 0 (Vec.mk 0 0 0)))))
theorem Q1O{s a:Str}{r:tT}:whl (Ml s (a::r)) 9223372036854775807 (0,1)=U1U s (a::r) (O2i a 0 M1V):=by
 have i0:idx (a::r) 0=some a:=rfl
 have st:∀(w:Str) (n:Int) (f:Nat) (v:Int),1<=n->n<=7->WJ n=some w->whl (Ml s (a::r)) (f+1) (v,n)=whl (Ml s (a::r)) f (bif w==a then n else v,n+1):=by
  intro w n f v h1 h2 hw
  rw[whl,Ml]
  dsimp only
  rw[show decide (n<=7)=true by simpa using h2,yN,hw,bS,i0,bS,Y5 (n:=n+1) (by omega)]
  cases w==a<;>rfl
 obtain⟨f,hf⟩:∃f,9223372036854775807=f+1+1+1+1+1+1+1+1:=⟨9223372036854775799,rfl⟩
 rw[hf,st _ 1 _ _ (by omega) (by omega) rfl,show(1:Int)+1=2 from rfl,st _ 2 _ _ (by omega) (by omega) rfl,show(2:Int)+1=3 from rfl,st _ 3 _ _ (by omega) (by omega) rfl,show(3:Int)+1=4 from rfl,st _ 4 _ _ (by omega) (by omega) rfl,show(4:Int)+1=5 from rfl,st _ 5 _ _ (by omega) (by omega) rfl,show(5:Int)+1=6 from rfl,st _ 6 _ _ (by omega) (by omega) rfl,show(6:Int)+1=7 from rfl,st _ 7 _ _ (by omega) (by omega) rfl,show(7:Int)+1=8 from rfl]
 rfl
theorem L2k{α:Type}(a:α)(l:List α):cutL (a::l) (some 1) none=some l:=by
 unfold cutL bhi blo
 simp only
 rw[yd (by simp;omega)]
 simp
theorem Xh(c:UInt8):∀{s w:Str},w∈Y2 c s->w.length<=s.length
 |[],w,h=>by
  have:w=[]:=by simpa[Y2]using h
  rw[this];simp
 |x::s,w,h=>by
  rw[Y2]at h
  obtain⟨a,r,ha⟩:=Qo c s
  have ih:∀w∈a::r,w.length<=s.length:=λw hw=>Xh c (by rw[ha];exact hw)
  split at h
  .rcases yX h with rfl|h
   .simp
   .have:=ih w (by rw[← ha];exact h);simp;omega
  .rw[ha]at h
   simp only at h
   rcases yX h with rfl|h
   .have:=ih a (yJ ..);simp;omega
   .have:=ih w (yH _ h);simp;omega
theorem V1b(c:UInt8):∀s:Str,(Y2 c s).length<=s.length+1
 |[]=>by simp[Y2]
 |x::s=>by
  have ih:=V1b c s
  obtain⟨a,r,ha⟩:=Qo c s
  rw[ha]at ih
  rw[Y2]
  split
  .rw[ha];simp at ih ⊢;omega
  .rw[ha];simp at ih ⊢;omega
theorem O0x{s:Str}(hs:s.length<=4194304):∃r,XJ s=some r/\Jy s=some r/\(r.2=false->r.1=zC):=by
 have hp:Z3 s 32=some (Y2 32 s):=Yc (c:=32) (by omega)
 have hm:∀w∈Y2 32 s,w.length<=4194304:=λw hw=>by have:=Xh 32 hw;omega
 unfold XJ Jy
 rw[Zl,hp,bS,bS]
 obtain⟨a,r,ha⟩:=Qo 32 s
 rw[ha]at hm ⊢
 rw[L26,Q1O]
 generalize O2i a 0 M1V=v
 unfold Ot U1U
 cases h1:((v==1)&&(((a::r).length:Int)==8))with
 |true =>
  have hl:(a::r).length=8:=by
   rw[yD]at h1
   have:=Ov h1.2
   omega
  match r,hl with
  |[x1,x2,x3,x4,x5,x6,x7],_ =>
   have q1:idx [a,x1,x2,x3,x4,x5,x6,x7] 1=some x1:=rfl
   have q2:idx [a,x1,x2,x3,x4,x5,x6,x7] 2=some x2:=rfl
   have q3:idx [a,x1,x2,x3,x4,x5,x6,x7] 3=some x3:=rfl
   have q4:idx [a,x1,x2,x3,x4,x5,x6,x7] 4=some x4:=rfl
   have q5:idx [a,x1,x2,x3,x4,x5,x6,x7] 5=some x5:=rfl
   have q6:idx [a,x1,x2,x3,x4,x5,x6,x7] 6=some x6:=rfl
   have q7:idx [a,x1,x2,x3,x4,x5,x6,x7] 7=some x7:=rfl
   have p0:idx [x1,x2,x3,x4,x5,x6,x7] 0=some x1:=rfl
   have p1:idx [x1,x2,x3,x4,x5,x6,x7] 1=some x2:=rfl
   have p2:idx [x1,x2,x3,x4,x5,x6,x7] 2=some x3:=rfl
   have p3:idx [x1,x2,x3,x4,x5,x6,x7] 3=some x4:=rfl
   have p4:idx [x1,x2,x3,x4,x5,x6,x7] 4=some x5:=rfl
   have p5:idx [x1,x2,x3,x4,x5,x6,x7] 5=some x6:=rfl
   have p6:idx [x1,x2,x3,x4,x5,x6,x7] 6=some x7:=rfl
   obtain⟨m1,b1,e1,_⟩:=YN x1
   obtain⟨m2,b2,e2,_⟩:=YN x2
   obtain⟨m3,b3,e3,_⟩:=YN x3
   obtain⟨m4,b4,e4,f4⟩:=Z02 (s:=x4) (hm x4 (by simp))
   obtain⟨m5,b5,e5,f5⟩:=Z02 (s:=x5) (hm x5 (by simp))
   obtain⟨m6,b6,e6,_⟩:=YN x6
   obtain⟨m7,b7,e7,_⟩:=YN x7
   unfold Ve
   simp only[yN,L2k,q1,q2,q3,q4,q5,q6,q7,p0,p1,p2,p3,p4,p5,p6,bS,M0A,e1,e2,e3,e4,f4,e5,f5,e6,e7]
   exact Z1J s _
 |false =>
 simp only[yM]
 cases h2:(((a::r).length:Int)==2)with
 |false =>
  simp only[Bool.and_false,yM]
  exact Z1J s _
 |true =>
  have hl:(a::r).length=2:=by have:=Ov h2;omega
  match r,hl with
  |[x],_ =>
   have q1:idx [a,x] 1=some x:=rfl
   obtain⟨m,b,e,_⟩:=YN x
   obtain⟨u,b',e',f'⟩:=Z02 (s:=x) (hm x (by simp))
   simp only[Bool.and_true,yN,q1,bS,M0A,e,e',f']
   cases v==6 with
   |true=>exact Z1J s _
   |false=>exact Z1J s _
def By(b:tI):Prop:=∀x∈b,0<=x/\x<256
def toB(b:tI):Str:=b.map λn=>UInt8.ofNat n.toNat
theorem Q2g{b:tI}(h:By b):b2sQ b=some (toB b):=by
 unfold b2sQ
 rw[yd (by rw[List.all_eq_true];intro x hx;have:=h x hx;simp;omega)]
 rfl
theorem By.take{b:tI}(h:By b)(n:Nat):By (b.take n):=λx hx=>h x (List.mem_of_mem_take hx)
theorem By.drop{b:tI}(h:By b)(n:Nat):By (b.drop n):=λx hx=>h x (List.mem_of_mem_drop hx)
theorem J1I{α:Type}{l:List α}{i j:Nat}(h1:i<=j)(h2:j<=l.length):cutL l (some (i:Int)) (some (j:Int))=some ((l.take j).drop i):=by
 have a1:(0:Int)<=(j:Int)/\(j:Int)<=(l.length:Int):=by omega
 have a2:(0:Int)<=(i:Int)/\(i:Int)<=(j:Int):=by omega
 simp only[cutL,bhi,blo,yd a1,yd a2,yZ]
theorem M2h{s:Str}(hs:s.length<=1048576):VM s=some ((!decide ((10:UInt8)∈s))&&(decide (1<=s.length)&&decide (s.length<=200))):=by
 unfold VM
 refine Xw (λ_ (o:Option Bool)=>o=some ((!decide ((10:UInt8)∈s))&&(decide (1<=s.length)&&decide (s.length<=200)))) (λv:Int=>((s.length:Int)-v).toNat) (λv=>∃i:Nat,v=(i:Int)/\i<=s.length/\(10:UInt8)∉s.take i) (λv k hI hk=>?_) _ _ ⟨0,rfl,by omega,by simp⟩ (by omega)
 obtain⟨i,rfl,hi,hn⟩:=hI
 unfold MR
 by_cases hlt:i<s.length
 .rw[show decide ((i:Int)<(s.length:Int))=true by simp;omega,yN,X3,yA hlt,bS]
  by_cases hc:s[i]=10
  .rw[hc]
   have hm:(10:UInt8)∈s:=hc ▸ List.getElem_mem hlt
   rw[show((((10:UInt8).toNat:Nat):Int)==10)=true from rfl,yN,decide_eq_true hm]
   rfl
  .rw[show((s[i].toNat:Int)==10)=false from beq_eq_false_iff_ne.2 λe=>hc (UInt8.toNat_inj.1 (by have:(10:UInt8).toNat=10:=rfl;omega)),yM,Wn (by omega)]
   refine hk _ ⟨i+1,rfl,by omega,?_⟩ (by omega)
   intro hm
   rw[List.take_succ_eq_append_getElem hlt]at hm
   rcases List.mem_append.1 hm with hm|hm
   .exact hn hm
   .exact hc (List.mem_singleton.1 hm).symm
 .have:i=s.length:=by omega
  subst this
  rw[List.take_length]at hn
  rw[show decide ((s.length:Int)<(s.length:Int))=false by simp,yM,decide_eq_false hn]
  congr 1
  rw[Bool.eq_iff_iff];simp;omega
theorem W0L{c:UInt8}:∀{s:Str},(Y2 c s).length=1↔c∉s
 |[]=>by simp[Y2]
 |x::s=>by
  have ih:=W0L (c:=c) (s:=s)
  obtain⟨a,r,ha⟩:=Qo c s
  rw[Y2]
  split
  .rename_i hx
   rw[ha];simp[hx]
  .rename_i hx
   rw[ha]at ih ⊢
   simp only[yT]at ih ⊢
   rw[ih]
   simp[Ne.symm hx]
theorem L2h{s:Str}(hs:s.length<=1048576):ZC s=some ((!decide ((10:UInt8)∈s))&&(decide (1<=s.length)&&decide (s.length<=200))):=by
 have hp:Z3 s 10=some (Y2 10 s):=Yc (c:=10) (by omega)
 unfold ZC
 have e:Z0 (s.length:Int) 1 200=(decide (1<=s.length)&&decide (s.length<=200)):=by
  unfold Z0;rw[Bool.eq_iff_iff];simp;omega
 rw[e]
 cases(decide (1<=s.length)&&decide (s.length<=200))with
 |false=>simp
 |true =>
  rw[yN,hp,bS,Bool.true_and,Bool.and_true]
  congr 1
  have:=W0L (c:=10) (s:=s)
  by_cases hm:(10:UInt8)∈s
  .rw[decide_eq_true hm]
   have hne:(Y2 10 s).length≠1:=λq=>this.1 q hm
   rw[show(((Y2 10 s).length:Int)==1)=false from beq_eq_false_iff_ne.2 (by omega)]
   rfl
  .rw[decide_eq_false hm,this.2 hm]
   rfl
def V2h(b1:tI)(v2:Int×Int×tT)(k2:(Int×Int×tT)->Option (tT×Int))(v4:Int):Option (tT×Int):=(V5 (v2.2.2.length:Int)).bind λw7=>(catS w7 ([32]:Str)).bind λw8=>(bif (v4==(b1.length:Int))||decide ((w64 (v4-v2.2.1))<(w8.length:Int))then some default else(cutL b1 (some v2.2.1) (some (w64 (v2.2.1+(w8.length:Int)))))).bind λxs9=>(bif (v4==(b1.length:Int))||decide ((w64 (v4-v2.2.1))<(w8.length:Int))then some default else(b2sQ xs9)).bind λw10=>bif ((v4==(b1.length:Int))||decide ((w64 (v4-v2.2.1))<(w8.length:Int)))||(w10 != w8)then(U8 (v2.1,v2.2.2))else((cutL b1 (some (w64 (v2.2.1+(w8.length:Int)))) (some v4)).bind λxs12=>(b2sQ xs12).bind λw13=>(ZC w13).bind λb14=>bif !b14 then(U8 (v2.1,v2.2.2))else((appL 16 v2.2.2 [w13]).bind λxs15=>k2 ((w64 (v4+1)),(w64 (v4+1)),xs15)))
theorem W22{b:tI}(hb:b.length<=1048576)(v2:Int×Int×tT)(k2:(Int×Int×tT)->Option (tT×Int)):∀(n at_ f1 f2:Nat),b.length-at_=n->at_<=b.length->n<f1->n<f2 ->
  (∃e:Nat,at_<=e/\e<b.length/\b[e]?=some 10/\whl (Of b) f1 (at_:Int)=some ((e+1:Nat):Int)/\whl (Q6 b v2 k2) f2 (at_:Int)=V2h b v2 k2 (e:Int)) \/
  (whl (Of b) f1 (at_:Int)=some (-1)/\whl (Q6 b v2 k2) f2 (at_:Int)=V2h b v2 k2 (b.length:Int)):=by
 intro n
 induction n with
 |zero =>
  intro at_ f1 f2 hn ha h1 h2
  obtain⟨f1,rfl⟩:∃f,f1=f+1:=⟨f1-1,by omega⟩
  obtain⟨f2,rfl⟩:∃f,f2=f+1:=⟨f2-1,by omega⟩
  have:at_=b.length:=by omega
  subst this
  have hd:decide ((b.length:Int)<(b.length:Int))=false:=by simp
  refine .inr ⟨?_,?_⟩
  .rw[whl,Of,hd,yM]
  .rw[whl,Q6,hd,yM,bS,Bool.false_and,yM]
   rfl
 |succ n ih =>
  intro at_ f1 f2 hn ha h1 h2
  obtain⟨f1,rfl⟩:∃f,f1=f+1:=⟨f1-1,by omega⟩
  obtain⟨f2,rfl⟩:∃f,f2=f+1:=⟨f2-1,by omega⟩
  have hlt:at_<b.length:=by omega
  have hd:decide ((at_:Int)<(b.length:Int))=true:=by simp;omega
  by_cases hc:b[at_]=10
  .refine .inl ⟨at_,yV _,hlt,by rw[yA hlt,hc],?_,?_⟩
   .rw[whl,Of,hd,yN,X3,yA hlt,bS,hc,beq_self_eq_true,yN,Wn (by omega)]
   .rw[whl,Q6,hd,yN,X3,yA hlt,bS,hc,bne_self_eq_false,Bool.and_false,yM]
    rfl
  .have e1:(b[at_]==10)=false:=beq_eq_false_iff_ne.2 hc
   have e2:(b[at_]!=10)=true:=by simpa using hc
   have:=ih (at_+1) f1 f2 (by omega) (by omega) (by omega) (by omega)
   rw[whl,Of,hd,yN,X3,yA hlt,bS,e1,yM,Wn (by omega)]
   rw[whl,Q6,hd,yN,X3,yA hlt,bS,e2,Bool.and_self,yN,Wn (by omega)]
   rcases this with⟨e,q1,q2,q3,q4,q5⟩|q
   .exact .inl ⟨e,by omega,q2,q3,q4,q5⟩
   .exact .inr q
theorem L1L{b:tI}(hB:By b)(hb:b.length<=1048576):∃r:tT×Int,Mt b=some r/\Xu b=some r/\(∃m:Nat,r.2=(m:Int)/\m<=b.length)/\r.1.length<=b.length/\∀w∈r.1,w.length<=200:=by
 have key:∀(n at_:Nat) (out:tT) (f1 f2:Nat),b.length-at_=n->at_<=b.length->out.length<=at_->(∀w∈out,w.length<=200)->n<f1->n<f2 ->
   ∃r:tT×Int,whl (Yo b) f1 ((at_:Int),out)=some r/\whl (U6 b) f2 ((at_:Int),(at_:Int),out)=some r/\(∃m:Nat,r.2=(m:Int)/\m<=b.length)/\r.1.length<=b.length/\∀w∈r.1,w.length<=200:=by
  intro n
  induction n using Nat.strongRecOn with
  |_ n ih =>
  intro at_ out f1 f2 hn ha ho hw h1 h2
  obtain⟨f1,rfl⟩:∃f,f1=f+1:=⟨f1-1,by omega⟩
  obtain⟨f2,rfl⟩:∃f,f2=f+1:=⟨f2-1,by omega⟩
  have stop:∃r:tT×Int,some (out,(at_:Int))=some r/\some (out,(at_:Int))=some r/\(∃m:Nat,r.2=(m:Int)/\m<=b.length)/\r.1.length<=b.length/\∀w∈r.1,w.length<=200:=⟨_,rfl,rfl,⟨at_,rfl,ha⟩,by simp only;omega,hw⟩
  have hl:=J0 (out.length:Int)
  have lines:=W22 hb ((at_:Int),(at_:Int),out) (λv=>whl (U6 b) f2 v) n at_ 9223372036854775807 9223372036854775807 hn ha (by omega) (by omega)
  rw[whl,Yo,whl,U6]
  dsimp only
  unfold L09
  have eI:(bif decide ((at_:Int)<(b.length:Int))then whl (Q6 b ((at_:Int),(at_:Int),out) (λv=>whl (U6 b) f2 v)) 9223372036854775807 (at_:Int)else U8 ((at_:Int),out))=bif decide ((at_:Int)<(b.length:Int))then whl (Q6 b ((at_:Int),(at_:Int),out) (λv=>whl (U6 b) f2 v)) 9223372036854775807 (at_:Int)else some (out,(at_:Int)):=rfl
  rw[show(whl (U6 b) f2)=λv=>whl (U6 b) f2 v from rfl,eI]
  rcases lines with⟨e,q1,q2,q3,q4,q5⟩|⟨q4,q5⟩
  .rw[q4,q5,show decide ((at_:Int)<(b.length:Int))=true by simp;omega,yN]
   unfold V2h
   dsimp only
   have hne:((e:Int)==(b.length:Int))=false:=beq_eq_false_iff_ne.2 (by omega)
   rw[bS,V9,Z7,bS,bS,V0 (by simp;omega),bS,hne]
   generalize hN:numText (out.length:Int)=N at hl
   have hneg:decide ((((e+1:Nat):Int))<0)=false:=by simp;omega
   have hKl:(N++[32]).length=N.length+1:=by simp
   have ew:∀{z:Int},-9223372036854775808<=z->z<=9223372036854775807->w64 z=z:=λh h'=>Y5 ⟨h,h'⟩
   rw[hneg,Bool.false_or,Bool.false_or,ew (z:=((e+1:Nat):Int)-1) (by omega) (by omega),ew (z:=((e+1:Nat):Int)-1-(at_:Int)) (by omega) (by omega),ew (z:=(N.length:Int)+1) (by omega) (by omega),ew (z:=(e:Int)-(at_:Int)) (by omega) (by omega),hKl]
   have ed:decide ((((e+1:Nat):Int))-1-(at_:Int)<(N.length:Int)+1)=decide (((e:Int)-(at_:Int))<((N.length+1:Nat):Int)):=decide_eq_decide.2 (by omega)
   rw[ed]
   by_cases hshort:((e:Int)-(at_:Int))<((N.length+1:Nat):Int)
   .rw[decide_eq_true hshort]
    simp only[yN,Bool.true_or,bS]
    exact stop
   .rw[decide_eq_false hshort]
    simp only[yM,Bool.false_or]
    have hle:at_+(N.length+1)<=e:=by omega
    rw[ew (z:=(at_:Int)+((N.length:Int)+1)) (by omega) (by omega),ew (z:=(at_:Int)+((N.length+1:Nat):Int)) (by omega) (by omega)]
    rw[show(at_:Int)+((N.length:Int)+1)=((at_+(N.length+1):Nat):Int) by omega,show(at_:Int)+((N.length+1:Nat):Int)=((at_+(N.length+1):Nat):Int) by omega,show(((e+1:Nat):Int))-1=(e:Int) by omega]
    rw[J1I (i:=at_+(N.length+1)) (j:=e) hle (by omega),J1I (i:=at_) (j:=e+1) (by omega) (by omega),J1I (i:=at_) (j:=at_+(N.length+1)) (by omega) (by omega)]
    simp only[bS]
    rw[Q2g ((hB.take e).drop _),Q2g ((hB.take (at_+(N.length+1))).drop _)]
    simp only[bS]
    have hlen:(toB ((b.take e).drop (at_+(N.length+1)))).length<=1048576:=by unfold toB;simp;omega
    rw[M2h hlen,L2h hlen]
    simp only[bS]
    have parts:toB ((b.take (e+1)).drop at_)=toB ((b.take (at_+(N.length+1))).drop at_)++(toB ((b.take e).drop (at_+(N.length+1)))++[10]):=by
     have he:b.take (e+1)=b.take e++[10]:=by
      obtain⟨hlt,hx⟩:=yB q3
      rw[List.take_succ_eq_append_getElem hlt,hx]
     have h3:(b.take e).drop at_=(b.take (at_+(N.length+1))).drop at_++(b.take e).drop (at_+(N.length+1)):=by
      have:=List.take_append_drop (N.length+1) ((b.take e).drop at_)
      rw[List.drop_drop,List.take_drop,List.take_take,Nat.min_eq_left hle]at this
      exact this.symm
     rw[he,List.drop_append_of_le_length (by simp;omega),h3]
     unfold toB
     rw[List.map_append,List.map_append]
     simp
    generalize toB ((b.take e).drop (at_+(N.length+1)))=W at hlen parts
    generalize toB ((b.take (at_+(N.length+1))).drop at_)=H at parts
    have hrec:YD (out.length:Int) W=some (N++[32]++W++[10]):=by
     unfold YD
     rw[V9,hN,bS,V0 (by simp;omega),bS,V0 (by simp;omega),bS,V0 (by simp;omega),bS]
    cases hR:((!decide ((10:UInt8)∈W))&&(decide (1<=W.length)&&decide (W.length<=200)))with
    |false =>
     simp only[Bool.not_false,yN,bS,Bool.true_or]
     cases(H != N++[32])<;>exact stop
    |true =>
     have hW:W.length<=200:=by simp at hR;omega
     simp only[yL,yM,hrec,bS,Bool.false_or]
     rw[Q2g ((hB.take (e+1)).drop _),bS,parts]
     by_cases hH:H=N++[32]
     .have e1:((N++[32]++W++[10]:Str)!=H++(W++[10]))=false:=by rw[hH];simp
      have e2:((H:Str)!=N++[32])=false:=by rw[hH];simp
      rw[e1,e2,yM,yM,Q0 (by simp;omega),bS,bS,ew (z:=(e:Int)+1) (by omega) (by omega),show(e:Int)+1=((e+1:Nat):Int) by omega]
      exact ih (b.length-(e+1)) (by omega) (e+1) (out++[W]) f1 f2 rfl (by omega) (by simp;omega) (λw hw'=>by
       rcases List.mem_append.1 hw' with hw'|hw'
       .exact hw w hw'
       .rw[List.mem_singleton.1 hw'];exact hW) (by omega) (by omega)
     .have e1:((N++[32]++W++[10]:Str)!=H++(W++[10]))=true:=by
       simp only[bne_iff_ne,ne_eq]
       intro q
       apply hH
       have:(N++[32])++(W++[10])=H++(W++[10]):=by simpa using q
       exact(List.append_cancel_right this).symm
      have e2:((H:Str)!=N++[32])=true:=by simpa using hH
      rw[e1,e2,yN,yN]
      exact stop
  .rw[q4,bS,V9,bS]
   have hneg:decide ((-1:Int)<0)=true:=rfl
   simp only[hneg,Bool.true_or,yN]
   by_cases hlt:at_<b.length
   .rw[show decide ((at_:Int)<(b.length:Int))=true by simp;omega,yN,q5]
    unfold V2h
    dsimp only
    rw[Z7,bS,V0 (by simp;omega),bS,beq_self_eq_true]
    simp only[Bool.true_or,yN,bS]
    exact stop
   .rw[show decide ((at_:Int)<(b.length:Int))=false by simp;omega,yM]
    exact stop
 exact key b.length 0 [] 9223372036854775807 9223372036854775807 (by omega) (by omega) (by simp) (by simp) (by omega) (by omega)
set_option maxRecDepth 20000
noncomputable def L0q:L :=
 lf Tryz.prog JW [] [] [] [] [] [] []
def X0q:List Rv:=[.c 4 11 true,.t 5]
theorem V0r:YQ Tryz.prog JW 2 L0q X0q=true:=by kernel_rfl
def Qh(x5:Str)(_:Nat)(v5:State)(k5:State->Option (State×Bool)):Option (State×Bool) :=
 (XJ x5).bind λy6=>(J0f v5 y6.1).bind λy7=>bif (!y6.2)||(y7.2 != 0)then(some ((State.mk (Topo.mk [] []) [] (Vec.mk 0 0 0) 0 0 [] [] []),false))else(k5 y7.1)
def Ys(v5:State):Option (State×Bool) :=
 some (v5,true)
def Xs(s1:State)(b2:tI):Option (State×Bool) :=
 (Mt b2).bind λy3=>rgl Qh Ys y3.1 0 s1
set_option maxRecDepth 20000 in
theorem L0p{s1:State}{b2:tI}{r:State×Bool}(H:Xs s1 b2=some r):ConD Tryz.prog JW [J1 .nw s1,zrc b2] [] [] (.tup [J1 .nw r.1,.bool r.2]) [] [] []:=by
 refine M0C [] V0r rfl (by kernel_rfl) ?_
 unfold Xs at H
 obtain⟨y3,h3,H⟩:=bB H
 refine wG [.c 16 (O05 h3),.l 20 y3.1 eS] λq4=>?_
 refine wR (λ(i5:Nat) (v5:State)=>⟨[pB 2,pB 4,(19,zfb y3.1)]++zl 20 y3.1 i5,[],[(2,(J1 .nw v5).cells),(4,z2)],[]⟩) H (λi5 x5 v5 I m k5 A5 B5 H N27=>?_) (λv5 I m H=>?_)
 .unfold Qh at H
  refine wP (wt (ltT B5) ?_)
  obtain⟨y6,h6,y7,h7,H⟩:=bB2 H
  refine wH [.y 23 eS A5,.c 27 (L0s h6),.f 33 [zX v5,.agg [iV y6.1.kind,iV y6.1.job.id,iV y6.1.job.prio,iV y6.1.job.nodes,iV y6.1.job.need.a,iV y6.1.job.need.b,iV y6.1.job.need.c,iV y6.1.job.lic.a,iV y6.1.job.lic.b,iV y6.1.job.lic.c,iV y6.1.job.wall,iV y6.1.job.level,iV y6.1.n,iV y6.1.lic.a,iV y6.1.lic.b,iV y6.1.lic.c]] (M1A h7)] ?_
  refine X0 H ?_ ?_<;>intro H
  .refine wP ?_
   replace H:=sI H;subst H
   exact Jk [(4,.d),(5,.d)] [(4,z0)] [] [] [] (by kernel_rfl)
  .exact wH [.i 44 B5 q4.1] (wT (N27 _ H))
 .unfold Ys at H
  refine wP (wf (ltF y3.1.length) ?_)
  refine wP ?_
  replace H:=sI H;subst H
  exact Jk [(4,.d),(5,.d)] [(4,[])] [] [] [] (by kernel_rfl)
def OD(p1:Pack):Option (State×Bool) :=
 (Oi p1.snap).bind λy2=>(bif !y2.2 then some default else(MD p1.journal)).bind λb3=>bif (!y2.2)||(!b3)then(some ((State.mk (Topo.mk [] []) [] (Vec.mk 0 0 0) 0 0 [] [] []),false))else((Xs y2.1 p1.journal.bytes).bind λy4=>bif !y4.2 then(some ((State.mk (Topo.mk [] []) [] (Vec.mk 0 0 0) 0 0 [] [] []),false))else(some (y4.1,true)))
theorem Y0V{p1:Pack}{r:State×Bool}(H:OD p1=some r):SQ O0o [Z09 .rd p1] (.tup [J1 .nw r.1,.bool r.2]):=by
 refine wd [(28,2)] [.c 2 11 true,.t 3] ?_
 obtain⟨y2,h2,b3,h3,H⟩:=bB2 H
 refine wH [.c 11 (L0U h2),.d 19 [(_,false)] λq=>V0V (bF q.1 h3)] ?_
 refine X0 H (λH=>sI H▸wQ [(2,z0)] z1) λH=>?_
 obtain⟨y4,h4,H⟩:=bB H
 refine wH [.u 28 (.cw JW [] [] [] [] [J1 .nw y2.1,zrc p1.journal.bytes] _ _ _ _ _ (GEs.of [true,false] (by simp)) (by simp) (by simp) (by simp) (λ_=>L0p h4))] ?_
 refine X0 H (λH=>sI H▸wQ [(2,z0)] z1) λH=>?_
 exact sI H▸wQ [(2,[])] [zna y4.1.topo.parents,zne y4.1.topo.nodes,znd y4.1.up,znf y4.1.queue,zng y4.1.runs,znh y4.1.ends]
noncomputable def W2L:L :=
 lf Tryz.prog W2J [] [] [] [] [(10,5)] [(7,[],[8],[0,2,4,6,8,10,12,14],9)] []
def L2H(p1:Pack)(c2:Cmd):Option (Pack×Int) :=
 (OD p1).bind λy3=>bif !y3.2 then(some ((Pack.mk ([]:Str) (Journal.mk [] 0 0)),30))else((J0f y3.1 c2).bind λy4=>bif y4.2 != 0 then(some ((Pack.mk ([]:Str) (Journal.mk [] 0 0)),y4.2))else((Ux c2).bind λw5=>(U2H p1.journal w5).bind λy6=>bif y6.2 != 0 then(some ((Pack.mk ([]:Str) (Journal.mk [] 0 0)),31))else((Y2H y6.1).bind λy7=>some ((Pack.mk p1.snap y7),0))))
theorem Q2L{p1:Pack}{c2:Cmd}{r:Pack×Int}(H:L2H p1 c2=some r):SQ W2J [Z09 .rd p1,eCmd c2] (.tup [Z09 .nw r.1,iV r.2]):=by
 refine wS W2L [.c 4 4 true,.t 5] ?_
 obtain⟨y3,h3,H⟩:=bB H
 refine wH [.c 14 (Y0V h3)] ?_
 refine X0 H (λH=>sI H▸wQ [(4,[.d,.n 1,.d,.d])] [znc []]) λH=>?_
 obtain⟨y4,h4,H⟩:=bB H
 refine wH [.f 23 [zX y3.1,.agg [iV c2.kind,iV c2.job.id,iV c2.job.prio,iV c2.job.nodes,iV c2.job.need.a,iV c2.job.need.b,iV c2.job.need.c,iV c2.job.lic.a,iV c2.job.lic.b,iV c2.job.lic.c,iV c2.job.wall,iV c2.job.level,iV c2.n,iV c2.lic.a,iV c2.lic.b,iV c2.lic.c]] (M1A h4)] ?_
 refine X0 H (λH=>sI H▸wQ [(4,[.d,.n 1,.d,.d])] [znc []]) λH=>?_
 obtain⟨w5,h5,y6,h6,H⟩:=bB2 H
 refine wH [.c 34 (M0t h5),.c 35 (O2K h6)] ?_
 refine X0 H (λH=>sI H▸wQ [(4,[.d,.n 1,.d,.d])] [znc []]) λH=>?_
 obtain⟨y7,h7,H⟩:=bB H
 refine wH [.c 44 (Y2K h7)] ?_
 exact sI H▸wM [(4,[])] [znc y7.bytes]
noncomputable def X0j:L :=
 lf Tryz.prog JP [] [] [] [] [] [] []
def X0i:List Rv:=[.c 4 11 true,.t 5]
theorem V0k:YQ Tryz.prog JP 2 X0j X0i=true:=by kernel_rfl
def Vf(x4:Str)(_:Nat)(v4:State)(k4:State->Option (State×Bool)):Option (State×Bool) :=
 (Jy x4).bind λy5=>bif !y5.2 then(some ((State.mk (Topo.mk [] []) [] (Vec.mk 0 0 0) 0 0 [] [] []),false))else((Z0h v4 y5.1).bind λy6=>bif y6.2 != 0 then(some ((State.mk (Topo.mk [] []) [] (Vec.mk 0 0 0) 0 0 [] [] []),false))else(k4 y6.1))
def Jp(v4:State):Option (State×Bool) :=
 some (v4,true)
def Xo(s1:State)(l2:tT):Option (State×Bool) :=
 rgl Vf Jp l2 0 s1
set_option maxRecDepth 20000 in
theorem V0j{s1:State}{l2:tT}{r:State×Bool}(H:Xo s1 l2=some r):ConD Tryz.prog JP [J1 .nw s1,zrb l2] [] [] (.tup [J1 .nw r.1,.bool r.2]) [] [] []:=by
 refine M0C [] V0k rfl (by kernel_rfl) ?_
 unfold Xo at H
 refine wG [.l 13 l2 eS] λq3=>?_
 refine wR (λ(i4:Nat) (v4:State)=>⟨[pB 2,pB 4,(12,zrb l2)]++zl 13 l2 i4,[],[(2,(J1 .nw v4).cells),(4,z2)],[]⟩) H (λi4 x4 v4 I m k4 A4 B4 H N34=>?_) (λv4 I m H=>?_)
 .unfold Vf at H
  refine wP (wt (ltT B4) ?_)
  obtain⟨y5,h5,H⟩:=bB H
  refine wH [.y 16 eS A4,.c 20 (Q1k h5)] ?_
  refine X0 H ?_ ?_<;>intro H
  .refine wP ?_
   replace H:=sI H;subst H
   exact Jk [(4,.d),(5,.d)] [(4,z0)] [] [] [] (by kernel_rfl)
  .obtain⟨y6,h6,H⟩:=bB H
   refine wH [.f 29 [zX v4,.agg [iV y5.1.kind,iV y5.1.job.id,iV y5.1.job.prio,iV y5.1.job.nodes,iV y5.1.job.need.a,iV y5.1.job.need.b,iV y5.1.job.need.c,iV y5.1.job.lic.a,iV y5.1.job.lic.b,iV y5.1.job.lic.c,iV y5.1.job.wall,iV y5.1.job.level,iV y5.1.n,iV y5.1.lic.a,iV y5.1.lic.b,iV y5.1.lic.c]] (M1H h6)] ?_
   refine X0 H ?_ ?_<;>intro H
   .refine wP ?_
    replace H:=sI H;subst H
    exact Jk [(4,.d),(5,.d)] [(4,z0)] [] [] [] (by kernel_rfl)
   .exact wH [.i 36 B4 q3.1] (wT (N34 _ H))
 .unfold Jp at H
  refine wP (wf (ltF l2.length) ?_)
  refine wP ?_
  replace H:=sI H;subst H
  exact Jk [(4,.d),(5,.d)] [(4,[])] [] [] [] (by kernel_rfl)
def JE(p1:Pack):Option (State×Bool) :=
 (Vj p1.snap).bind λy2=>(bif !y2.2 then some default else(ZF p1.journal)).bind λb3=>bif (!y2.2)||(!b3)then(some ((State.mk (Topo.mk [] []) [] (Vec.mk 0 0 0) 0 0 [] [] []),false))else((Xu p1.journal.bytes).bind λy4=>(Xo y2.1 y4.1).bind λy5=>some (y5.1,y5.2))
theorem V0Z{p1:Pack}{r:State×Bool}(H:JE p1=some r):SQ W0p [Z09 .rd p1] (.tup [J1 .nw r.1,.bool r.2]):=by
 refine wd [(32,2)] [.c 2 11 true,.t 3] ?_
 obtain⟨y2,h2,b3,h3,H⟩:=bB2 H
 refine wH [.c 11 (J0Y h2),.d 19 [(_,false)] λq=>U0Z (bF q.1 h3)] ?_
 refine X0 H (λH=>sI H▸wQ [(2,z0)] z1) λH=>?_
 obtain⟨y4,h4,y5,h5,H⟩:=bB2 H
 refine wH [.c 27 (Q08 h4),.u 32 (.cw JP [] [] [] [] [J1 .nw y2.1,zfb y4.1] _ _ _ _ _ (GEs.of [true,false] (by simp)) (by simp) (by simp) (by simp) (λ_=>V0j h5))] ?_
 exact sI H▸wM [(2,[])] [zna y5.1.topo.parents,zne y5.1.topo.nodes,znd y5.1.up,znf y5.1.queue,zng y5.1.runs,znh y5.1.ends]
noncomputable def O2L:L :=
 lf Tryz.prog J2J [] [(44,1)] [] [] [] [(7,[],[8],[0,2,4,6,8,10,12,14],9),(10,[],[],[0,2,4,7],4)] []
def O2H(p1:Pack)(c2:Cmd):Option (Pack×Int) :=
 (JE p1).bind λy3=>bif !y3.2 then(some ((Pack.mk ([]:Str) (Journal.mk [] 0 0)),30))else((Z0h y3.1 c2).bind λy4=>bif y4.2 != 0 then(some ((Pack.mk ([]:Str) (Journal.mk [] 0 0)),y4.2))else((JJ c2).bind λw5=>(Q2H p1.journal w5).bind λy6=>bif y6.2 != 0 then(some ((Pack.mk ([]:Str) (Journal.mk [] 0 0)),31))else((X2H y6.1).bind λy7=>some ((Pack.mk p1.snap y7),0))))
theorem X2J{p1:Pack}{c2:Cmd}{r:Pack×Int}(H:O2H p1 c2=some r):SP J2J [Z09 .rd p1,eCmd c2] (.tup [.agg [.str r.1.snap,.sref 0,iV r.1.journal.synced,iV r.1.journal.count],iV r.2]) [zwc r.1.journal.bytes]:=by
 refine wS O2L [.c 4 4 true,.t 5] ?_
 obtain⟨y3,h3,H⟩:=bB H
 refine wH [.c 14 (V0Z h3)] ?_
 refine X0 H (λH=>sI H▸wY [(4,[])] [] [] [none] []) λH=>?_
 obtain⟨y4,h4,H⟩:=bB H
 refine wH [.f 23 [zX y3.1,.agg [iV c2.kind,iV c2.job.id,iV c2.job.prio,iV c2.job.nodes,iV c2.job.need.a,iV c2.job.need.b,iV c2.job.need.c,iV c2.job.lic.a,iV c2.job.lic.b,iV c2.job.lic.c,iV c2.job.wall,iV c2.job.level,iV c2.n,iV c2.lic.a,iV c2.lic.b,iV c2.lic.c]] (M1H h4)] ?_
 refine X0 H (λH=>sI H▸wY [(4,[])] [] [] [none] []) λH=>?_
 obtain⟨w5,h5,y6,h6,H⟩:=bB2 H
 refine wH [.c 34 (Z1l h5),.c 35 (J2K h6)] ?_
 refine X0 H (λH=>sI H▸wY [(4,[])] [] [] [none] []) λH=>?_
 obtain⟨y7,h7,H⟩:=bB H
 refine wH [.c 44 (W2K h7)] ?_
 exact sI H▸wO [(4,[])] [(45000,some 45000,0)] [] [some 45000] [znc y7.bytes]
end
theorem O1v{j:Journal}(hB:By j.bytes)(hb:j.bytes.length<=1048576):∃r,MD j=some r/\ZF j=some r:=by
 unfold MD ZF
 have e:(!(Z0 j.synced 0 (j.bytes.length:Int)))=(decide (j.synced<0)||decide ((j.bytes.length:Int)<j.synced)):=by
  unfold Z0;rw[Bool.eq_iff_iff];simp
 rw[e,← Bool.or_assoc]
 cases((decide ((40000:Int)<(j.bytes.length:Int))||decide (j.synced<0))||decide ((j.bytes.length:Int)<j.synced))with
 |true=>exact⟨_,rfl,rfl⟩
 |false =>
  obtain⟨r,r1,r2,_⟩:=L1L hB hb
  rw[yM,yM,r1,r2]
  exact⟨_,rfl,rfl⟩
theorem M1c:∀(l:tT) (i:Nat) (s:State),SmallS s->(∀w∈l,w.length<=200)->∃r,rgl Qh Ys l i s=some r/\rgl Vf Jp l i s=some r/\SmallS r.1/\(r.2=false->r.1=zS)
 |[],_,s,hs,_=>⟨(s,true),rfl,rfl,hs,λh=>by cases h⟩
 |x::l,i,s,hs,hl=>by
  have hx:=hl x (yJ ..)
  obtain⟨c,c1,c2,c3⟩:=O0x (s:=x) (by omega)
  obtain⟨q,q1,q2,q3⟩:=X25 hs c.1
  rw[rgl,rgl,Qh,Vf,c1,c2,bS,bS,q1,bS,q2,bS]
  cases c.2 with
  |false=>exact⟨(zS,false),rfl,rfl,J01,λ_=>rfl⟩
  |true =>
   simp only[yL,Bool.false_or,yM]
   cases q.2 != 0 with
   |true=>exact⟨(zS,false),rfl,rfl,J01,λ_=>rfl⟩
   |false=>exact M1c l (i+1) q.1 q3 λw hw=>hl w (yH _ hw)
theorem Y2j{c:UInt8}(hc:¬ O0q c)(h32:c≠32)(l:tI):c∉QN l:=by
 unfold QN
 simp only[List.mem_flatMap,List.mem_cons,not_exists,not_and,not_or]
 exact λn _=>⟨h32,LD hc⟩
theorem M2b{c:UInt8}(hc:¬ O0q c)(h32:c≠32)(h47:c≠47)(j:Job):c∉Zh j:=by
 unfold Zh
 simp only[List.mem_append,List.mem_singleton,not_or]
 exact⟨⟨⟨⟨⟨⟨⟨⟨⟨⟨⟨⟨LD hc,h32⟩,LD hc⟩,h32⟩,LD hc⟩,h32⟩,J1J hc h47⟩,h32⟩,J1J hc h47⟩,h32⟩,LD hc⟩,h32⟩,LD hc⟩
def nlS(l:Str):Str:=l++[10]
theorem M09:∀{L:tT},(∀l∈L,(10:UInt8)∉l)->Y2 10 (L.flatMap nlS)=L++[[]]
 |[],_=>rfl
 |a::L,h=>by
  have e:(a::L).flatMap nlS=a++10::L.flatMap nlS:=by simp[nlS]
  rw[e,Le (h a (yJ ..)),M09 λl hl=>h l (yH _ hl)]
  rfl
def swL(p:Int):Str:=[115,119,105,116,99,104,32]++numText p
def ndL(x:Node):Str:=[110,111,100,101,32]++numText x.leaf++[32]++X4 x.cap
def hdL(v:Vec)(d n:Int):Str:=[115,116,97,116,101,32]++X4 v++QN [d,n]
def dnL(i:Nat):Str:=[100,111,119,110]++QN [(i:Int)]
def wtL(j:Job):Str:=[119,97,105,116,32]++Zh j
def rnL(x:Run):Str:=[114,117,110]++QN ([x.t,(x.nodes.length:Int)]++x.nodes)++[32]++Zh x.job
def enL(e:End):Str:=[101,110,100]++QN [e.id,e.t,e.why]
def ovL:Str:=[111,118,101,114]
inductive Ln where
 |hd (v:Vec) (d n:Int)
 |dn (i:Nat)
 |wt (j:Job)
 |rn (x:Run)
 |en (e:End)
 |ov
def lnS:Ln->Str
 |.hd v d n=>hdL v d n
 |.dn i=>dnL i
 |.wt j=>wtL j
 |.rn x=>rnL x
 |.en e=>enL e
 |.ov=>ovL
def lnW:Ln->tT
 |.hd v d n=>[[115,116,97,116,101],X4 v,numText d,numText n]
 |.dn i=>[[100,111,119,110],numText i]
 |.wt j=>[119,97,105,116]::jobW j
 |.rn x=>[114,117,110]::(([x.t,(x.nodes.length:Int)]++x.nodes).map numText++jobW x.job)
 |.en e=>[[101,110,100],numText e.id,numText e.t,numText e.why]
 |.ov=>[ovL]
def lnGo(s:State):Ln->State
 |.hd v d n=>{ s with lic:=v,depth:=d,now:=n }
 |.dn i=>{ s with up:=s.up.set i false }
 |.wt j=>{ s with queue:=s.queue++[j] }
 |.rn x=>{ s with runs:=s.runs++[x] }
 |.en e=>{ s with ends:=s.ends++[e] }
 |.ov=>s
def dnF(q:Bool×Nat):Option Nat:=bif q.1 then none else some q.2
def V0E(up:tB)(i:Nat):List Nat:=(up.zipIdx i).filterMap dnF
def ZY(t:Topo):tT:=(t.parents.drop 1).map swL++t.nodes.map ndL
def J0c(s:State):List Ln:=.hd s.lic s.depth s.now::((V0E s.up 0).map Ln.dn++(s.queue.map Ln.wt++(s.runs.map Ln.rn++(s.ends.map Ln.en++[.ov]))))
theorem Y0h{α:Type}{f g:α->Str}(h:∀x,f x=nlS (g x))(l:List α):l.flatMap f=(l.map g).flatMap nlS:=by
 rw[List.flatMap_map]
 congr 1
 funext x
 exact h x
theorem WU{t:Topo}(h:topoOk t=true):Wb t=(ZY t).flatMap nlS:=by
 unfold Wb ZY
 rw[yd h,List.flatMap_append,Y0h (g:=swL) (λx=>by simp[Wz,swL,nlS]),Y0h (f:=OV) (g:=ndL) (λx=>by simp[OV,ndL,nlS])]
theorem Y1m:∀(up:tB) (i:Nat),((up.zipIdx i).flatMap λq=>LP q.1 q.2)=((V0E up i).map dnL).flatMap nlS
 |[],_=>rfl
 |b::up,i=>by
  have ih:=Y1m up (i+1)
  unfold V0E at ih ⊢
  rw[List.zipIdx_cons,ya,ih,List.filterMap_cons]
  cases b with
  |true=>rfl
  |false=>simp[dnF,LP,dnL,nlS]
theorem V04{s:State}(h:stateOk s=true):Q4 s=(ZY s.topo++(J0c s).map lnS).flatMap nlS:=by
 have hT:topoOk s.topo=true:=Ma.2 (Uo h).topo
 unfold Q4 J0c
 rw[yd h,WU hT,Y1m,Y0h (f:=YK) (g:=wtL) (λx=>by simp[YK,wtL,nlS]),Y0h (f:=W06) (g:=rnL) (λx=>by simp[W06,rnL,nlS]),Y0h (f:=J08) (g:=enL) (λx=>by simp[J08,enL,nlS])]
 simp only[List.map_cons,List.map_append,List.map_map,List.flatMap_append,ya,List.append_assoc]
 congr 1
theorem J2l(p:Int):(10:UInt8)∉swL p:=by
 have:=LD (n:=p) no10
 simp[swL,this]
theorem V2n(x:Node):(10:UInt8)∉ndL x:=by
 have h1:=LD (n:=x.leaf) no10
 have h2:=J1J (v:=x.cap) no10 (by decide)
 simp[ndL,h1,h2]
theorem M2C(l:Ln):(10:UInt8)∉lnS l:=by
 have a:=λl=>Y2j (c:=10) no10 (by decide) l
 have b:=λj=>M2b (c:=10) no10 (by decide) (by decide) j
 cases l with
 |hd v d n =>
  have h1:=J1J (v:=v) no10 (by decide)
  have h2:=a [d,n]
  simp[lnS,hdL,h1,h2]
 |dn i=>have:=a [(i:Int)];simp[lnS,dnL,this]
 |wt j=>have:=b j;simp[lnS,wtL,this]
 |rn x =>
  have h1:=b x.job
  have h2:=a ([x.t,(x.nodes.length:Int)]++x.nodes)
  simp only[lnS,rnL,List.mem_append,not_or]
  exact⟨⟨⟨by decide,h2⟩,by decide⟩,h1⟩
 |en e=>have:=a [e.id,e.t,e.why];simp[lnS,enL,this]
 |ov=>decide
theorem X1b{s:State}(h:stateOk s=true):Y2 10 (Q4 s)=ZY s.topo++(J0c s).map lnS++[[]]:=by
 rw[V04 h,M09]
 intro l hl
 rcases List.mem_append.1 hl with hl|hl
 .unfold ZY at hl
  rcases List.mem_append.1 hl with hl|hl
  .obtain⟨x,_,rfl⟩:=yY hl;exact J2l x
  .obtain⟨x,_,rfl⟩:=yY hl;exact V2n x
 .obtain⟨x,_,rfl⟩:=yY hl;exact M2C x
theorem V21{t:Topo}(h:topoOk t=true):Y2 10 (Wb t)=ZY t++[[]]:=by
 rw[WU h,M09]
 intro l hl
 unfold ZY at hl
 rcases List.mem_append.1 hl with hl|hl
 .obtain⟨x,_,rfl⟩:=yY hl;exact J2l x
 .obtain⟨x,_,rfl⟩:=yY hl;exact V2n x
theorem O0A(a:Str)(ha:(32:UInt8)∉a):∀(l:tI),Y2 32 (a++QN l)=a::l.map numText
 |[]=>by simp[QN,L03 ha]
 |n::l=>by
  have e:a++QN (n::l)=a++32::(numText n++QN l):=by simp[QN]
  rw[e,Le ha,O0A (numText n) (LD no32) l]
  rfl
theorem U1b(a:Str)(ha:(32:UInt8)∉a)(r:Str):∀(l:tI),Y2 32 (a++QN l++32::r)=a::(l.map numText++Y2 32 r)
 |[]=>by simp[QN,Le ha]
 |n::l=>by
  have e:a++QN (n::l)++32::r=a++32::(numText n++QN l++32::r):=by simp[QN]
  rw[e,Le ha,U1b (numText n) (LD no32) r l]
  rfl
theorem Z0U(w:Str)(hw:(32:UInt8)∉w)(r:Str):Y2 32 (w++32::r)=w::Y2 32 r:=Le hw
theorem WX(j:Job):Y2 32 (Zh j)=jobW j:=O2b j
theorem M1d(l:Ln):Y2 32 (lnS l)=lnW l:=by
 cases l with
 |hd v d n =>
  have e:lnS (.hd v d n)=[115,116,97,116,101]++32::(X4 v++QN [d,n]):=by simp[lnS,hdL]
  rw[e,Z0U _ (by decide),O0A _ V19]
  rfl
 |dn i=>exact O0A [100,111,119,110] (by decide) [(i:Int)]
 |wt j =>
  have e:lnS (.wt j)=[119,97,105,116]++32::Zh j:=by simp[lnS,wtL]
  rw[e,Z0U _ (by decide),WX]
  rfl
 |rn x =>
  have e:lnS (.rn x)=[114,117,110]++QN ([x.t,(x.nodes.length:Int)]++x.nodes)++32::Zh x.job:=by simp[lnS,rnL]
  rw[e,U1b _ (by decide),WX]
  rfl
 |en e=>exact O0A [101,110,100] (by decide) [e.id,e.t,e.why]
 |ov=>rfl
theorem X1K(p:Int):Y2 32 (swL p)=[[115,119,105,116,99,104],numText p]:=by
 have e:swL p=[115,119,105,116,99,104]++32::numText p:=by simp[swL]
 rw[e,Z0U _ (by decide),L03 (LD no32)]
theorem M1M(x:Node):Y2 32 (ndL x)=[[110,111,100,101],numText x.leaf,X4 x.cap]:=by
 have e:ndL x=[110,111,100,101]++32::(numText x.leaf++32::X4 x.cap):=by simp[ndL]
 rw[e,Z0U _ (by decide),Z0U _ (LD no32),L03 V19]
theorem J25:∀(up pre:tB),(V0E up pre.length).foldl (λu i=>u.set i false) (pre++List.replicate up.length true)=pre++up
 |[],pre=>by simp[V0E]
 |b::up,pre=>by
  have ih:=J25 up (pre++[b])
  rw[yU,List.length_singleton]at ih
  unfold V0E at ih ⊢
  rw[List.zipIdx_cons,List.filterMap_cons,yT,List.replicate_succ]
  cases b with
  |true =>
   show((up.zipIdx (pre.length+1)).filterMap dnF).foldl _ _=_
   rw[show pre++true::List.replicate up.length true=pre++[true]++List.replicate up.length true by simp,ih]
   simp
  |false =>
   show((up.zipIdx (pre.length+1)).filterMap dnF).foldl _ ((pre++true::List.replicate up.length true).set pre.length false)=_
   rw[show(pre++true::List.replicate up.length true).set pre.length false=pre++[false]++List.replicate up.length true by simp[],ih]
   simp
def st0(t:Topo):State:=⟨t,List.replicate t.nodes.length true,⟨0,0,0⟩,0,0,[],[],[]⟩
theorem W2d(D:List Nat):∀s:State,(D.map Ln.dn).foldl lnGo s={ s with up:=D.foldl (λu i=>u.set i false) s.up }:=by
 induction D with
 |nil=>intro s;rfl
 |cons d D ih=>intro s;rw[List.map_cons,List.foldl_cons,ih];rfl
theorem V2d(D:tJ):∀s:State,(D.map Ln.wt).foldl lnGo s={ s with queue:=s.queue++D }:=by
 induction D with
 |nil=>intro s;simp
 |cons d D ih=>intro s;rw[List.map_cons,List.foldl_cons,ih];simp[lnGo]
theorem U2d(D:tR):∀s:State,(D.map Ln.rn).foldl lnGo s={ s with runs:=s.runs++D }:=by
 induction D with
 |nil=>intro s;simp
 |cons d D ih=>intro s;rw[List.map_cons,List.foldl_cons,ih];simp[lnGo]
theorem Q2d(D:tE):∀s:State,(D.map Ln.en).foldl lnGo s={ s with ends:=s.ends++D }:=by
 induction D with
 |nil=>intro s;simp
 |cons d D ih=>intro s;rw[List.map_cons,List.foldl_cons,ih];simp[lnGo]
theorem X1w{s:State}(h:s.up.length=s.topo.nodes.length):(J0c s).foldl lnGo (st0 s.topo)=s:=by
 unfold J0c
 rw[List.foldl_cons,List.foldl_append,List.foldl_append,List.foldl_append,List.foldl_append,W2d,V2d,U2d,Q2d]
 have e:=J25 s.up []
 simp only[List.nil_append,List.length_nil]at e
 simp[lnGo,st0,← h,e]
theorem Y1Q:∀(up:tB) (i:Nat),∀d∈V0E up i,i<=d/\d<i+up.length
 |[],_,d,h=>by simp[V0E]at h
 |b::up,i,d,h=>by
  have ih:=Y1Q up (i+1) d
  unfold V0E at h ih
  rw[List.zipIdx_cons,List.filterMap_cons]at h
  cases b with
  |true=>have:=ih h;simp only[yT];omega
  |false =>
   rcases yX h with h|h
   .simp only[yT];omega
   .have:=ih h;simp only[yT];omega
end Go.Proofs.YtehomnafaoplgaaGreat
