/-
  Lemmas, part 10.
-/
import Derived.Test.YtpgaganbacipnaaGreatA9
import Derived.Test.YtpgaganbacipnaaGreatA1
namespace Go.Proofs.YtpgaganbacipnaaGreat
open Go Go.RowKit Go.Sort Go.Lib
theorem XU{α:Type}[Inhabited α](enc:α->Value){w:World}{blk off m:Nat}(dk:Array α)(os:Array Obj){a:Addr}{v:Value}(hb:a.block≠blk)(h:w.cell? a=some v):(sortWorld enc w blk off m dk os).cell? a=some v:=by
 have hlt:a.block<w.heap.size:=by
  rcases Nat.lt_or_ge a.block w.heap.size with hl|hl
  .exact hl
  .simp only[World.cell?,Array.getElem?_eq_none hl]at h
   cases h
 unfold sortWorld
 rw[cell?_grow _ _ _ (by simpa[putRow,mapBlock,Sort.ahead]using hlt),cell?_putRow_other _ _ _ _ _ _ (.inl hb)]
 exact h
def M1f{n:Nat}(x:Fin n):Value:=.int .i64 (x.val:Int)
theorem J19{cnt:List Int}[Inhabited (Fin cnt.length)](hl:cnt.length<=24){w:World}{b ob r o cap blk size:Nat}(hb:b≠blk)(hr:r≠blk)(hbox:w.cell? ⟨b,ob,none⟩=some (.slice (some ⟨r,o,none⟩) cnt.length cap))
  (hc:∀(j:Nat) (x:Int),cnt[j]?=some x->w.cell? ⟨r,o+j,none⟩=some (.int .i64 x)):CmpReads Tryz.prog 207 #[.pointer (some ⟨b,ob,none⟩)] (M1f (n:=cnt.length)) (YZ cnt) blk 0 size w:=by
 intro m os dk _ x y
 exact Q1g x.val y.val cnt[x] cnt[y] b ob r o cnt.length cap _ hl x.isLt y.isLt (XU _ _ _ hb hbox) (XU _ _ _ hr (hc x.val _ (yA x.isLt))) (XU _ _ _ hr (hc y.val _ (yA y.isLt)))
theorem X1b{cnt:List Int}[Inhabited (Fin cnt.length)](hl:cnt.length<=24)(hc:∀c∈cnt,0<=c/\c<=1000000){w:World}{b ob r o cap0 blk cap:Nat}(hb:b≠blk)(hr:r≠blk)(hbox:w.cell? ⟨b,ob,none⟩=some (.slice (some ⟨r,o,none⟩) cnt.length cap0))
  (hcs:∀(j:Nat) (x:Int),cnt[j]?=some x->w.cell? ⟨r,o+j,none⟩=some (.int .i64 x)) (d:Array (Fin cnt.length)) (hH:Holds M1f w blk 0 d) (hblk:blk<w.heap.size) (hsz:d.size<4611686018427387904) :
  Calls Tryz.prog 206 #[.slice (some ⟨blk,0,none⟩) d.size cap,.func (.func 207) #[] #[.pointer (some ⟨b,ob,none⟩)]] w fun e w' =>
   e=.returned (.tuple #[])/\∃n os,w'=sortWorld M1f w blk 0 n (d.toList.mergeSort fun x y=>!(ltOf (YZ cnt)) y x).toArray os:=by
 have eg:∀args w,(callFunc 207 args).run Tryz.prog w=.ok (.enter 207 args) w:=enters_of Tryz.func207 (by kernel_rfl) rfl
 exact Any.slices_SortFunc_total Tryz.sortFI M1f (fun _=>rfl) (YZ cnt) (U1j hl hc) 207 #[.pointer (some ⟨b,ob,none⟩)] blk 0 cap d w eg (J19 hl hb hr hbox hcs).lays hH hblk hsz (X14 hl hc)
end Go.Proofs.YtpgaganbacipnaaGreat
namespace Go.Proofs.YtpgaganbacipnaaGreat
open Go Go.RowKit Eng
section
def Zs(cnt:List Int)(x y:Int):Bool:=!decide (cnt.getD x.toNat 0<cnt.getD y.toNat 0\/(cnt.getD y.toNat 0=cnt.getD x.toNat 0/\y<x))
def U0I(cnt zs:List Int):Prop:=(∀z∈zs,0<=z/\z<(cnt.length:Int))/\cnt.length<=24/\(∀c∈cnt,0<=c/\c<=1000000)/\zs.length<4611686018427387904
instance(cnt zs:List Int):Decidable (U0I cnt zs):=by unfold U0I;infer_instance
def U0c(cnt zs:List Int):Option (List Int):=if U0I cnt zs then some (zs.mergeSort (Zs cnt))else none
theorem Z1G{w:World}{g:Gh}{s:St}{f:Nat}{e:AV}{v:Value}(h:Gv w g s (.fn f [.ept e 0]) v):Rd w g.S g.T (.fn f [.ept e 0]) v:=by
 cases h with
 |data _ _ h=>exact h
 |fn _ _ vs hl h =>
  refine .fn _ _ vs hl fun i a u ha hu=>?_
  have q:=h i a u ha hu
  match i with
  |0 =>
   cases ha
   cases q with
   |data _ _ q=>exact q
  |i+1=>simp at ha
def O0X(n:Nat)(h:0<n)(z:Int):Fin n:=if h2:z.toNat<n then⟨z.toNat,h2⟩else⟨0,h⟩
theorem Z13{n:Nat}(dk:List (Fin n))(c:Array Value)[Inhabited (Fin n)]:Go.Sort.putCells M1f 0 dk.toArray c=Go.Sort.putCells (Value.int .i64) 0 (dk.map fun(x:Fin n)=>(x.val:Int)).toArray c:=by
 unfold Go.Sort.putCells
 apply Array.ext
 .simp
 .intro i h1 h2
  simp only[Array.getElem_mapIdx,List.size_toArray,List.length_map,Nat.zero_le,true_and,Nat.zero_add,Nat.sub_zero]
  by_cases hi:i<dk.length
  .rw[yd hi,yd hi]
   simp[M1f,hi]
  .rw[ye hi,ye hi]
theorem X12{cnt zs r:List Int}(h:U0c cnt zs=some r):X0p Tryz.prog Zt 1 (zs.map eI) [.fn O0b [.ept (.agg [.sl .rd 1 (cnt.map eI)]) 0]] false (r.map eI):=by
 unfold U0c at h
 split at h
 .rename_i hl
  obtain⟨l1,l2,l3,l4⟩:=hl
  cases h
  refine J1b (zs:=zs) (zs':=zs.mergeSort (Zs cnt)) (fun e=>by subst e;simp) (fun _=>by simp) ?_
  intro w g n0 us H hul hus
  refine⟨?_,fun b cap cur ty h1 h2 h3 h4 h5 h6=>?_⟩
  .match us,hul with
   |[u],_ =>
   exact(AnyF.slices_SortFunc_none { Tryz.sortFI with } none 0 u w).mono fun e w' h=>⟨by simp[h.1],h.2⟩
  .match us,hul with
   |[u],_ =>
   have hb:b<w.heap.size:=(Array.getElem?_eq_some_iff.1 h1).1
   by_cases hz:zs=[]
   .subst hz
    refine(AnyF.slices_SortFunc_none { Tryz.sortFI with } (some ⟨b,0,none⟩) cap u w).mono fun e w' h=>?_
    obtain⟨he,rfl⟩:=h
    refine⟨by simp[he],cur,h1,h4,by simp[i64v],by simp,rfl,rfl,rfl,yV _,fun _ _ _=>rfl⟩
   .have hn:0<cnt.length:=by
     obtain⟨z,hz⟩:=List.exists_mem_of_ne_nil _ hz
     have:=l1 z hz
     omega
    haveI:Inhabited (Fin cnt.length):=⟨⟨0,hn⟩⟩
    have hd:=Z1G (hus 0 _ u rfl rfl)
    obtain⟨bb,ob,br,o,capr,hu,hbox,hS1,hcs⟩:=Rd.cap1_inv hd hn
    subst hu
    have n1:bb≠b:=fun e=>h6 _ (e ▸ hS1)
    have n2:br≠b:=fun e=>by
     obtain⟨_,q⟩:=hcs 0 cnt[0] (yA hn)
     exact h6 _ (e ▸ q)
    have hval:∀z∈zs,((O0X cnt.length hn z).val:Int)=z:=fun z hz=>by
     have:=l1 z hz
     unfold O0X
     rw[dif_pos (by omega)]
     simp only
     omega
    have hmap:(zs.map (O0X cnt.length hn)).map (fun(x:Fin cnt.length)=>(x.val:Int))=zs:=by
     rw[List.map_map]
     exact(List.map_congr_left (fun z hz=>hval z hz)).trans (List.map_id _)
    have hH:Go.Sort.Holds M1f w b 0 (zs.map (O0X cnt.length hn)).toArray:=by
     intro j hj
     have hj':j<zs.length:=by simpa using hj
     have:=Q0P h1 h5 j (by simpa using hj')
     refine⟨?_,this.2⟩
     rw[this.1]
     simp[M1f,hj',hval]
    have e1:((zs.map (O0X cnt.length hn)).mergeSort fun x y=>!(ltOf (YZ cnt)) y x).map (fun(x:Fin cnt.length)=>(x.val:Int))=zs.mergeSort (Zs cnt):=by
     rw[List.map_mergeSort (s:=Zs cnt),hmap]
     intro x _ y _
     rw[ZX l2 l3]
     unfold Zs
     simp
    have:=X1b (w:=w) (b:=bb) (ob:=ob) (r:=br) (o:=o) (cap0:=capr) (blk:=b) (cap:=cap) l2 l3 n1 n2 hbox (fun j x hx=>(hcs j x hx).1) (zs.map (O0X cnt.length hn)).toArray hH hb (by simpa using l4)
    simp only[List.size_toArray,List.length_map]at this
    refine this.mono fun e w' h=>?_
    obtain⟨he,n,os,hw⟩:=h
    have hw2:w'=Go.Sort.grow (Go.Sort.putRow (Value.int .i64) (Go.Sort.ahead w n) b 0 (zs.mergeSort (Zs cnt)).toArray) os:=by
     rw[hw]
     unfold sortWorld Go.Sort.putRow
     congr 2
     funext c
     rw[Z13,e1]
    rw[hw2]
    obtain⟨cur',q1,q2,q3,q4,q5⟩:=M0t (zs:=zs.mergeSort (Zs cnt)) h1 h4 (by simpa using h2) n os
    exact⟨by simp[he],cur',q1,q2,q3,by simpa using h2,rfl,rfl,rfl,q4,q5⟩
 .cases h
noncomputable def W15:L :=
 lf Tryz.prog L0a [] [] [] [] [] [] []
def MR(j1:Job):Option Bool :=
 bif ((((((decide (j1.id<1))||(decide (999<j1.id)))||(decide (j1.prio<0)))||(decide (999<j1.prio)))||(decide (j1.nodes<1)))||(decide (24<j1.nodes)))then(some false)else(some ((((((W0 j1.need)&&(W0 j1.lic))&&(decide (1<=j1.wall)))&&(decide (j1.wall<=1000000)))&&(decide (0<=j1.level)))&&(decide (j1.level<=24))))
theorem V0J{j1:Job}{r:Bool}(H:MR j1=some r):Snd Tryz.prog L0a [eJob j1] (.bool r) []:=by
 refine wS W15 [.t 2] ?_
 unfold MR at H
 refine wP ?_
 refine O0 H (fun H=>?_) fun H=>?_
 .obtain rfl:=sI H
  exact wP (wE [(2,.d)])
 .refine wG [.c 33 (J4 j1.need),.g 37 [((W0 j1.need),true)] (.call _ _ _ _ _ (AEs.refl _) (fun _=>J4 j1.lic))] fun _=>?_
  replace H:=sI H;subst H
  exact wE [(2,.d)]
def X1(j1:Job):Bool :=
 bif ((((((decide (j1.id<1))||(decide (999<j1.id)))||(decide (j1.prio<0)))||(decide (999<j1.prio)))||(decide (j1.nodes<1)))||(decide (24<j1.nodes)))then(false)else(((((((W0 j1.need)&&(W0 j1.lic))&&(decide (1<=j1.wall)))&&(decide (j1.wall<=1000000)))&&(decide (0<=j1.level)))&&(decide (j1.level<=24))))
theorem Z1b(j1:Job):MR j1=some (X1 j1):=by
 unfold MR X1
 first|rfl|simp only[O5]
theorem VL(j1:Job):Snd Tryz.prog L0a [eJob j1] (.bool (X1 j1)) []:=V0J (Z1b j1)
noncomputable def J0T:L :=
 lf Tryz.prog M0p [] [] [] [] [] [] []
def XO(x5:List Pt)(_:Nat)(_:Unit)(k5:Unit->Option Bool):Option Bool :=
 (Qa x5).bind fun b6=>bif (!b6)then(some false)else(k5 ())
def U06(_:Unit):Option Bool :=
 some true
def Ym(r1:Room):Option Bool :=
 (Jf r1.topo).bind fun b2=>(bif (((!b2)||((r1.up.length:Int)!=(r1.topo.nodes.length:Int)))||((r1.profs.length:Int)!=(r1.topo.nodes.length:Int)))then some default else(Qa r1.lics)).bind fun b3=>bif ((((!b2)||((r1.up.length:Int)!=(r1.topo.nodes.length:Int)))||((r1.profs.length:Int)!=(r1.topo.nodes.length:Int)))||(!b3))then(some false)else(rgl XO U06 r1.profs 0 ())
theorem YF{r1:Room}{r:Bool}(H:Ym r1=some r):Snd Tryz.prog M0p [V9 .rd r1] (.bool r) []:=by
 refine wS J0T [.t 2] ?_
 unfold Ym at H
 obtain⟨b2,h2,H⟩:=bB H
 obtain⟨b3,h3,H⟩:=bB H
 refine wG [.c 7 (JT h2),.g 12 [((!b2),false)] (.ln _ _ fun _=>lm r1.up eBo),.g 16 [((!b2),false)] (.ln _ _ fun _=>lm r1.topo.nodes Y1),.g 22 [(((!b2)||((r1.up.length:Int)!=(r1.topo.nodes.length:Int))),false)] (.ln _ _ fun _=>lm r1.profs (Y2 .rd)),.g 26 [(((!b2)||((r1.up.length:Int)!=(r1.topo.nodes.length:Int))),false)] (.ln _ _ fun _=>lm r1.topo.nodes Y1),.g 32 [(_,false)] (.call _ _ _ _ _ (AEs.refl _) (fun q=>XF (bF q.1 h3)))] fun _=>?_
 refine O0 H (fun H=>?_) fun H=>?_
 .obtain rfl:=sI H
  exact wP (wE [(2,.d)])
 .refine wG [.u 37 (.ln _ _ fun _=>lm r1.profs (Y2 .rd))] fun q4=>?_
  refine wR (fun(i5:Nat) (v5:Unit)=>⟨[(36,rV 1 (r1.profs.map (Y2 .rd))),(37,iV (r1.profs.length:Int)),(38,iV (i5:Int))],[],[],[]⟩) H (fun i5 x5 v5 I m k5 hxv5 hiv5 H N27=>?_) (fun v5 I m H=>?_)
  .unfold XO at H
   refine wP ?_
   refine wt (ltT hiv5) ?_
   obtain⟨b6,h6,H⟩:=bB H
   refine wG [.u 40 (.ix _ _ _ fun _=>Q0 (Y2 .rd) (J0 hxv5)),.c 43 (XF h6)] fun _=>?_
   refine O0 H (fun H=>?_) fun H=>?_
   .obtain rfl:=sI H
    exact wP (wE [(2,.d)])
   .refine wG [.w 45 (wi .i64 rfl hiv5 q4.1)] fun _=>?_
    exact wT (N27 () H)
  .unfold U06 at H
   refine wP ?_
   refine wf (ltF r1.profs.length) ?_
   obtain rfl:=sI H
   exact wP (wE [(2,.d)])
noncomputable def W0E:L :=
 lf Tryz.prog J0a [13] [] [] [] [] [] []
def Yp(r1:Room)(need2:Vec)(from3 to4:Int)(x7:List Pt)(i7:Nat)(v7:(List Int))(k7:(List Int)->Option (List Int)):Option (List Int) :=
 (Um x7 from3 to4).bind fun y8=>(bif y8.2 then(idx r1.up (i7:Int))else some default).bind fun e9=>bif ((y8.2&&e9)&&(Z3 need2 y8.1))then((appL 8 v7 [(i7:Int)]).bind fun xs10=>k7 xs10)else(k7 v7)
def LW(v7:(List Int)):Option (List Int) :=
 some v7
def Vz(r1:Room)(need2:Vec)(from3 to4:Int):Option (List Int) :=
 (Ym r1).bind fun b5=>bif (!b5)then(some [])else(rgl (Yp r1 need2 from3 to4) LW r1.profs 0 [])
theorem X0C{r1:Room}{need2:Vec}{from3 to4:Int}{r:(List Int)}(H:Vz r1 need2 from3 to4=some r):Snd Tryz.prog J0a [V9 .rd r1,eVec need2,iV from3,iV to4] (nV 1 (r.map eI)) []:=by
 refine wS W0E [.t 8] ?_
 unfold Vz at H
 obtain⟨b5,h5,H⟩:=bB H
 refine wG [.c 15 (YF h5)] fun _=>?_
 refine O0 H (fun H=>?_) fun H=>?_
 .refine wP ?_
  replace H:=sI H;subst H
  exact wN [(8,.f)] [] [] [13] [] [⟨_,nw_I ([]:List Int)⟩]
 .refine wG [.u 20 (.ln _ _ fun _=>lm r1.profs (Y2 .rd))] fun q6=>?_
  refine wR (fun(i7:Nat) (v7:(List Int))=>⟨[(2,iV from3),(3,iV to4),(4,.ptr 4 0),(5,.ptr 5 0),(9,.sref 13),(20,iV (r1.profs.length:Int)),(21,iV (i7:Int))],[],[(4,(V9 .rd r1).cells),(5,(eVec need2).cells)],[(13,⟨1,v7.map eI,false⟩)]⟩) H (fun i7 x7 v7 I m k7 hxv7 hiv7 H N28=>?_) (fun v7 I m H=>?_)
  .unfold Yp at H
   refine wP ?_
   refine wt (ltT hiv7) ?_
   obtain⟨y8,h8,H⟩:=bB H
   obtain⟨e9,h9,H⟩:=bB H
   refine wG [.u 28 (.ix _ _ _ fun _=>Q0 (Y2 .rd) (J0 hxv7)),.c 32 (MO h8),.g 40 [(_,true)] (.ix _ _ _ fun q=>Q0 eBo (bT q.1 h9)),.g 46 [((y8.2&&e9),true)] (.call _ _ _ _ _ (AEs.refl _) (fun _=>ZO need2 y8.1))] fun _=>?_
   refine O0 H (fun H=>?_) fun H=>?_
   .obtain⟨xs10,h10,H⟩:=bB H
    refine wG [.u 51 (.ap _ _ _ _ fun _=>L0 eI h10),.w 52 (wi .i64 rfl hiv7 q6.1)] fun _=>?_
    exact wT (N28 _ H)
   .refine wG [.w 52 (wi .i64 rfl hiv7 q6.1)] fun _=>?_
    exact wT (N28 _ H)
  .unfold LW at H
   refine wP ?_
   refine wf (ltF r1.profs.length) ?_
   refine wP ?_
   replace H:=sI H;subst H
   exact wN [(8,.f)] [] [] [13] [] [⟨_,nw_I v7⟩]
noncomputable def Z15:L :=
 lf Tryz.prog Y0z [10] [] [] [] [(5,10)] [] []
def ME(t1:Topo)(s3 x5:Int)(_:Nat)(v5:(List Int))(k5:(List Int)->Option (List Int)):Option (List Int) :=
 (idx t1.nodes x5).bind fun e6=>(Mv t1 e6.leaf).bind fun y7=>(Va y7 s3).bind fun b8=>bif b8 then((appL 8 v5 [x5]).bind fun xs9=>k5 xs9)else(k5 v5)
def UT(v5:(List Int)):Option (List Int) :=
 some v5
def Qe(t1:Topo)(nodes2:List Int)(s3:Int):Option (List Int) :=
 rgl (ME t1 s3) UT nodes2 0 []
theorem Qo{t1:Topo}{nodes2:List Int}{s3:Int}{r:(List Int)}(H:Qe t1 nodes2 s3=some r):Snd Tryz.prog Y0z [X4 .rd t1,rV 1 (nodes2.map eI),iV s3] (nV 1 (r.map eI)) []:=by
 refine wS Z15 [.t 6] ?_
 unfold Qe at H
 refine wG [.u 12 (.ln _ _ fun _=>lm nodes2 eI)] fun q4=>?_
 refine wR (fun(i5:Nat) (v5:(List Int))=>⟨[(2,iV s3),(3,.ptr 3 0),(7,.sref 10),(11,rV 1 (nodes2.map eI)),(12,iV (nodes2.length:Int)),(13,iV (i5:Int))],[],[(3,(X4 .rd t1).cells)],[(10,⟨1,v5.map eI,false⟩)]⟩) H (fun i5 x5 v5 I m k5 hxv5 hiv5 H N19=>?_) (fun v5 I m H=>?_)
 .unfold ME at H
  refine wP ?_
  refine wt (ltT hiv5) ?_
  obtain⟨e6,h6,H⟩:=bB H
  obtain⟨y7,h7,H⟩:=bB H
  obtain⟨b8,h8,H⟩:=bB H
  refine wG [.u 15 (.ix _ _ _ fun _=>Q0 eI (J0 hxv5)),.u 21 (.ix _ _ _ fun _=>Q0 Y1 h6),.c 24 (L0k h7),.c 26 (Lf h8)] fun _=>?_
  refine O0 H (fun H=>?_) fun H=>?_
  .obtain⟨xs9,h9,H⟩:=bB H
   refine wG [.u 30 (.ap _ _ _ _ fun _=>L0 eI h9),.w 31 (wi .i64 rfl hiv5 q4.1)] fun _=>?_
   exact wT (N19 _ H)
  .refine wG [.w 31 (wi .i64 rfl hiv5 q4.1)] fun _=>?_
   exact wT (N19 _ H)
 .unfold UT at H
  refine wP ?_
  refine wf (ltF nodes2.length) ?_
  refine wP ?_
  replace H:=sI H;subst H
  exact wN [(6,.f)] [] [] [10] [] [⟨_,nw_I v5⟩]
noncomputable def L0u:L :=
 lf Tryz.prog Q04 [] [] [] [] [] [] []
def Mx(t1:Topo)(nodes2:List Int)(n3 level4 _:Int)(i6:Nat)(v6:Int)(k6:Int->Option Int):Option Int :=
 (Qe t1 nodes2 (i6:Int)).bind fun y7=>(Q8 t1 (i6:Int)).bind fun n8=>bif ((decide ((y7.length:Int)<n3))||(decide (level4<n8)))then(k6 v6)else((bif (decide (v6<0))then some default else(Q8 t1 v6)).bind fun n10=>(bif ((decide (v6<0))||(decide (n8<n10)))then some default else(Q8 t1 v6)).bind fun n11=>(bif ((decide (v6<0))||(decide (n8<n10)))then some default else(bif (n8==n11)then(Qe t1 nodes2 v6)else some default)).bind fun y12=>bif (((decide (v6<0))||(decide (n8<n10)))||((n8==n11)&&(decide ((y7.length:Int)<(y12.length:Int)))))then(k6 (i6:Int))else(k6 v6))
def WR(v6:Int):Option Int :=
 some v6
def Zr(t1:Topo)(nodes2:List Int)(n3 level4:Int):Option Int :=
 rgl (Mx t1 nodes2 n3 level4) WR t1.parents 0 (-1)
theorem X0s{t1:Topo}{nodes2:List Int}{n3 level4 r:Int}(H:Zr t1 nodes2 n3 level4=some r):Snd Tryz.prog Q04 [X4 .rd t1,rV 1 (nodes2.map eI),iV n3,iV level4] (iV r) []:=by
 refine wS L0u [.t 8] ?_
 unfold Zr at H
 refine wG [.u 15 (.ln _ _ fun _=>lm t1.parents eI)] fun q5=>?_
 refine wR (fun(i6:Nat) (v6:Int)=>⟨[(1,rV 1 (nodes2.map eI)),(2,iV n3),(3,iV level4),(4,.ptr 4 0),(9,iV v6),(15,iV (t1.parents.length:Int)),(16,iV (i6:Int))],[],[(4,(X4 .rd t1).cells)],[]⟩) H (fun i6 x6 v6 I m k6 hxv6 hiv6 H N29=>?_) (fun v6 I m H=>?_)
 .unfold Mx at H
  refine wP ?_
  refine wt (ltT hiv6) ?_
  obtain⟨y7,h7,H⟩:=bB H
  obtain⟨n8,h8,H⟩:=bB H
  refine wG [.c 22 (Qo h7),.u 23 (.ln _ _ fun _=>lm y7 eI),.c 26 (Xa h8)] fun q9=>?_
  refine O0 H (fun H=>?_) fun H=>?_
  .refine wG [.w 61 (wi .i64 rfl hiv6 q5.1)] fun _=>?_
   exact wT (N29 _ H)
  .obtain⟨n10,h10,H⟩:=bB H
   obtain⟨n11,h11,H⟩:=bB H
   obtain⟨y12,h12,H⟩:=bB H
   refine wG [.g 41 [(_,false)] (.call _ _ _ _ _ (AEs.refl _) (fun q=>Xa (bF q.1 h10))),.g 48 [(_,false)] (.call _ _ _ _ _ (AEs.refl _) (fun q=>Xa (bF q.1 h11))),.g 55 [(_,true),(_,false)] (.call _ _ _ _ _ (AEs.refl _) (fun q=>Qo (bT q.1 (bF q.2.1 h12)))),.g 56 [((n8==n11),true),(((decide (v6<0))||(decide (n8<n10))),false)] (.ln _ _ fun _=>lm y12 eI)] fun _=>?_
   refine O0 H (fun H=>?_) fun H=>?_
   .refine wG [.w 61 (wi .i64 rfl hiv6 q5.1)] fun _=>?_
    exact wT (N29 _ H)
   .refine wG [.w 61 (wi .i64 rfl hiv6 q5.1)] fun _=>?_
    exact wT (N29 _ H)
 .unfold WR at H
  refine wP ?_
  refine wf (ltF t1.parents.length) ?_
  obtain rfl:=sI H
  exact wP (wE [(8,.d)])
noncomputable def W0M:L :=
 lf Tryz.prog V0h [] [] [] [] [] [] []
def Wt(t1:Topo)(nodes2 taken3:List Int)(_:Int)(i5:Nat)(v5:Int)(k5:Int->Option Int):Option Int :=
 (Qe t1 nodes2 (i5:Int)).bind fun y6=>(bif ((y6.length:Int)==0)then some default else(Ji t1 (i5:Int))).bind fun y7=>(bif (((y6.length:Int)==0)||(decide (0<(y7.length:Int))))then some default else(Va taken3 (i5:Int))).bind fun b8=>bif ((((y6.length:Int)==0)||(decide (0<(y7.length:Int))))||b8)then(k5 v5)else((bif (decide (v5<0))then some default else(Qe t1 nodes2 v5)).bind fun y10=>bif ((decide (v5<0))||(decide ((y10.length:Int)<(y6.length:Int))))then(k5 (i5:Int))else(k5 v5))
def W02(v5:Int):Option Int :=
 some v5
def Ml(t1:Topo)(nodes2 taken3:List Int):Option Int :=
 rgl (Wt t1 nodes2 taken3) W02 t1.parents 0 (-1)
theorem Y0J{t1:Topo}{nodes2 taken3:List Int}{r:Int}(H:Ml t1 nodes2 taken3=some r):Snd Tryz.prog V0h [X4 .rd t1,rV 1 (nodes2.map eI),rV 1 (taken3.map eI)] (iV r) []:=by
 refine wS W0M [.t 6] ?_
 unfold Ml at H
 refine wG [.u 12 (.ln _ _ fun _=>lm t1.parents eI)] fun q4=>?_
 refine wR (fun(i5:Nat) (v5:Int)=>⟨[(1,rV 1 (nodes2.map eI)),(2,rV 1 (taken3.map eI)),(3,.ptr 3 0),(7,iV v5),(12,iV (t1.parents.length:Int)),(13,iV (i5:Int))],[],[(3,(X4 .rd t1).cells)],[]⟩) H (fun i5 x5 v5 I m k5 hxv5 hiv5 H N27=>?_) (fun v5 I m H=>?_)
 .unfold Wt at H
  refine wP ?_
  refine wt (ltT hiv5) ?_
  obtain⟨y6,h6,H⟩:=bB H
  obtain⟨y7,h7,H⟩:=bB H
  obtain⟨b8,h8,H⟩:=bB H
  refine wG [.c 19 (Qo h6),.u 20 (.ln _ _ fun _=>lm y6 eI),.g 26 [(_,false)] (.call _ _ _ _ _ (AEs.refl _) (fun q=>Zy (bF q.1 h7))),.g 27 [(((y6.length:Int)==0),false)] (.ln _ _ fun _=>lm y7 eI),.g 33 [(_,false)] (.call _ _ _ _ _ (AEs.refl _) (fun q=>Lf (bF q.1 h8)))] fun q9=>?_
  refine O0 H (fun H=>?_) fun H=>?_
  .refine wG [.w 47 (wi .i64 rfl hiv5 q4.1)] fun _=>?_
   exact wT (N27 _ H)
  .obtain⟨y10,h10,H⟩:=bB H
   refine wG [.g 42 [(_,false)] (.call _ _ _ _ _ (AEs.refl _) (fun q=>Qo (bF q.1 h10))),.g 43 [((decide (v5<0)),false)] (.ln _ _ fun _=>lm y10 eI)] fun _=>?_
   refine O0 H (fun H=>?_) fun H=>?_
   .refine wG [.w 47 (wi .i64 rfl hiv5 q4.1)] fun _=>?_
    exact wT (N27 _ H)
   .refine wG [.w 47 (wi .i64 rfl hiv5 q4.1)] fun _=>?_
    exact wT (N27 _ H)
 .unfold W02 at H
  refine wP ?_
  refine wf (ltF t1.parents.length) ?_
  obtain rfl:=sI H
  exact wP (wE [(6,.d)])
noncomputable def U0M:L :=
 lf Tryz.prog Y0h [9] [] [] [] [] [] [15667,63]
def Qt(x4:Int)(k4:(Bool×(List Int))->Option (List Int))(v6:Bool×(List Int)):Option (List Int) :=
 (appL 8 v6.2 [x4]).bind fun xs7=>k4 (v6.1,xs7)
def Ue(v9:(List Int)):Option (List Int) :=
 some v9
def Lj(n2 x4:Int)(_:Nat)(v4:Bool×(List Int))(k4:(Bool×(List Int))->Option (List Int)):Option (List Int) :=
 bif ((!v4.1)&&(decide (n2<x4)))then((appL 8 v4.2 [n2]).bind fun xs5=>(Qt x4 k4) (true,xs5))else((Qt x4 k4) (v4.1,v4.2))
def Ve(n2:Int)(v4:Bool×(List Int)):Option (List Int) :=
 bif (!v4.1)then((appL 8 v4.2 [n2]).bind fun xs8=>Ue xs8)else(Ue v4.2)
def Uv(l1:List Int)(n2:Int):Option (List Int) :=
 rgl (Lj n2) (Ve n2) l1 0 (false,[])
theorem M05{l1:List Int}{n2:Int}{r:(List Int)}(H:Uv l1 n2=some r):Snd Tryz.prog Y0h [rV 1 (l1.map eI),iV n2] (nV 1 (r.map eI)) []:=by
 refine wS U0M [.t 4] ?_
 unfold Uv at H
 refine wG [.u 11 (.ln _ _ fun _=>lm l1 eI)] fun q3=>?_
 refine wR (fun(i4:Nat) (v4:Bool×(List Int))=>⟨[(1,iV n2),(5,.sref 9),(6,.bool v4.1),(10,rV 1 (l1.map eI)),(11,iV (l1.length:Int)),(12,iV (i4:Int))],[],[],[(9,⟨1,v4.2.map eI,false⟩)]⟩) H (fun i4 x4 v4 I m k4 hxv4 hiv4 H N24=>?_) (fun v4 I m H=>?_)
 .unfold Lj at H
  refine wP ?_
  refine wt (ltT hiv4) ?_
  refine wG [.u 14 (.ix _ _ _ fun _=>Q0 eI (J0 hxv4))] fun _=>?_
  refine X6 (r:=r) (Qt x4 k4) 0 (fun v6:Bool×(List Int)=>⟨[(1,.int .i64 n2),(5,.sref 9),(6,.bool v6.1),(8,.int .i64 x4),(10,.sl .rd 1 (l1.map eI)),(11,.int .i64 (l1.length:Int)),(12,.int .i64 (i4:Int))],[],[],[(9,⟨1,v6.2.map eI,false⟩)]⟩) (by kernel_rfl) (fun v6 H=>?_) (fun J16=>?_)
  .unfold Qt at H
   obtain⟨xs7,h7,H⟩:=bB H
   refine wG [.u 30 (.ap _ _ _ _ fun _=>L0 eI h7),.w 31 (wi .i64 rfl hiv4 q3.1)] fun _=>?_
   exact wT (N24 _ H)
  .refine O0 H (fun H=>?_) fun H=>?_
   .obtain⟨xs5,h5,H⟩:=bB H
    refine wG [.u 26 (.ap _ _ _ _ fun _=>L0 eI h5)] fun _=>?_
    exact wT (J16 _ H)
   .refine wP ?_
    exact wT (J16 _ H)
 .unfold Ve at H
  refine wP ?_
  refine wf (ltF l1.length) ?_
  refine wP ?_
  refine X6 (r:=r) Ue 0 (fun v9:(List Int)=>⟨[(5,.sref 9)],[],[],[(9,⟨1,v9.map eI,false⟩)]⟩) (by kernel_rfl) (fun v9 H=>?_) (fun J34=>?_)
  .unfold Ue at H
   refine wP ?_
   replace H:=sI H;subst H
   exact wN [(4,.f)] [] [] [9] [] [⟨_,nw_I v9⟩]
  .refine O0 H (fun H=>?_) fun H=>?_
   .obtain⟨xs8,h8,H⟩:=bB H
    refine wG [.u 37 (.ap _ _ _ _ fun _=>L0 eI h8)] fun _=>?_
    exact wT (J34 _ H)
   .refine wP ?_
    exact wT (J34 _ H)
noncomputable def W0U:L :=
 lf Tryz.prog U0q [57,58] [] [] [] [(6,14)] [] []
def Uz(n3 x17:Int)(_:Nat)(v17:(List Int))(k17:(List Int)->Option ((List Int)×Bool)):Option ((List Int)×Bool) :=
 bif (decide ((v17.length:Int)<n3))then((Uv v17 x17).bind fun y19=>k17 y19)else(k17 v17)
def LO(k11:((List Int)×(List Int))->Option ((List Int)×Bool))(xs14:List Int)(v17:(List Int)):Option ((List Int)×Bool) :=
 k11 (v17,xs14)
def Om(t1:Topo)(n3:Int)(y10:(List Int))(v11:(List Int)×(List Int))(k11:((List Int)×(List Int))->Option ((List Int)×Bool)):Option ((List Int)×Bool) :=
 bif (decide ((v11.1.length:Int)<n3))then((Ml t1 y10 v11.2).bind fun n13=>(appL 8 v11.2 [n13]).bind fun xs14=>(Qe t1 y10 n13).bind fun y15=>rgl (Uz n3) (LO k11 xs14) y15 0 v11.1)else(some (v11.1,true))
def ZP(nodes2:List Int)(x7:Int)(i7:Nat)(_:Unit)(k7:Unit->Option ((List Int)×Bool)):Option ((List Int)×Bool) :=
 (bif (decide (0<(i7:Int)))then(idx nodes2 (w64 ((i7:Int)-1)))else some default).bind fun e8=>bif ((decide (0<(i7:Int)))&&(decide (x7<=e8)))then(some ([],false))else(k7 ())
def JO(t1:Topo)(nodes2:List Int)(n3 level4:Int)(_:Unit):Option ((List Int)×Bool) :=
 (Zr t1 nodes2 n3 level4).bind fun n9=>bif (decide (n9<0))then(some ([],false))else((Qe t1 nodes2 n9).bind fun y10=>whl (Om t1 n3 y10) 9223372036854775807 ([],[]))
def YP(t1:Topo)(nodes2:List Int)(n3 level4:Int):Option ((List Int)×Bool) :=
 (Je t1 nodes2).bind fun b5=>bif ((!b5)||(decide (n3<1)))then(some ([],false))else(rgl (ZP nodes2) (JO t1 nodes2 n3 level4) nodes2 0 ())
theorem U0S{t1:Topo}{nodes2:List Int}{n3 level4:Int}{r:(List Int)×Bool}(H:YP t1 nodes2 n3 level4=some r):Snd Tryz.prog U0q [X4 .rd t1,rV 1 (nodes2.map eI),iV n3,iV level4] (.tup [nV 1 (r.1.map eI),.bool r.2]) []:=by
 refine wS W0U [.t 8,.t 9] ?_
 unfold YP at H
 obtain⟨b5,h5,H⟩:=bB H
 refine wG [.c 20 (WI h5)] fun _=>?_
 refine O0 H (fun H=>?_) fun H=>?_
 .refine wP ?_
  replace H:=sI H;subst H
  exact wN [(8,.n 1),(9,.d)] [] [] [] [] [⟨_,nw_I ([]:List Int)⟩]
 .refine wG [.u 27 (.ln _ _ fun _=>lm nodes2 eI)] fun q6=>?_
  refine wR (fun(i7:Nat) (v7:Unit)=>⟨[(1,rV 1 (nodes2.map eI)),(2,iV n3),(3,iV level4),(4,.ptr 4 0),(27,iV (nodes2.length:Int)),(28,iV (i7:Int))],[],[(4,(X4 .rd t1).cells)],[]⟩) H (fun i7 x7 v7 I m k7 hxv7 hiv7 H N27=>?_) (fun v7 I m H=>?_)
  .unfold ZP at H
   refine wP ?_
   refine wt (ltT hiv7) ?_
   obtain⟨e8,h8,H⟩:=bB H
   refine wG [.g 37 [(_,true)] (.ix _ _ _ fun q=>Q0 eI (bT q.1 h8)),.g 41 [((decide (0<(i7:Int))),true)] (.ix _ _ _ fun _=>Q0 eI (J0 hxv7))] fun _=>?_
   refine O0 H (fun H=>?_) fun H=>?_
   .refine wP ?_
    replace H:=sI H;subst H
    exact wN [(8,.n 1),(9,.d)] [] [] [] [] [⟨_,nw_I ([]:List Int)⟩]
   .refine wG [.w 45 (wi .i64 rfl hiv7 q6.1)] fun _=>?_
    exact wT (N27 () H)
  .unfold JO at H
   refine wP ?_
   refine wf (ltF nodes2.length) ?_
   obtain⟨n9,h9,H⟩:=bB H
   refine wG [.c 50 (X0s h9)] fun _=>?_
   refine O0 H (fun H=>?_) fun H=>?_
   .refine wP ?_
    replace H:=sI H;subst H
    exact wN [(8,.n 1),(9,.d)] [] [] [] [] [⟨_,nw_I ([]:List Int)⟩]
   .obtain⟨y10,h10,H⟩:=bB H
    refine wG [.c 56 (Qo h10)] fun _=>?_
    refine U10 (fun(v11:(List Int)×(List Int))=>⟨[(2,.int .i64 n3),(4,.ptr 4 0),(12,.sl .nw 1 (y10.map eI)),(13,.sl .nw 1 (v11.1.map eI)),(14,.sref 58)],[],[(4,(X4 .rd t1).cells)],[(58,⟨1,v11.2.map eI,false⟩)]⟩) [(13,.f)] [] [] [57] (by kernel_rfl) (by kernel_rfl) H (fun v11 I m k11 H N72=>?_)
    unfold Om at H
    refine wG [.u 60 (.ln _ _ fun _=>lm v11.1 eI)] fun q12=>?_
    refine O0 H (fun H=>?_) fun H=>?_
    .obtain⟨n13,h13,H⟩:=bB H
     obtain⟨xs14,h14,H⟩:=bB H
     obtain⟨y15,h15,H⟩:=bB H
     refine wG [.c 66 (Y0J h13),.u 70 (.ap _ _ _ _ fun _=>L0 eI h14),.c 74 (Qo h15),.u 75 (.ln _ _ fun _=>lm y15 eI)] fun q16=>?_
     refine wR (fun(i17:Nat) (v17:(List Int))=>⟨[(2,iV n3),(4,.ptr 4 0),(12,nV 1 (y10.map eI)),(13,nV 1 (v17.map eI)),(14,.sref 58),(74,nV 1 (y15.map eI)),(75,iV (y15.length:Int)),(76,iV (i17:Int))],[],[(4,(X4 .rd t1).cells)],[(58,⟨1,xs14.map eI,false⟩)]⟩) H (fun i17 x17 v17 I m k17 hxv17 hiv17 H N65=>?_) (fun v17 I m H=>?_)
     .unfold Uz at H
      refine wP ?_
      refine wt (ltT hiv17) ?_
      refine wG [.u 78 (.ix _ _ _ fun _=>Q0 eI (J0 hxv17)),.u 81 (.ln _ _ fun _=>lm v17 eI)] fun q18=>?_
      refine O0 H (fun H=>?_) fun H=>?_
      .obtain⟨y19,h19,H⟩:=bB H
       refine wG [.c 86 (M05 h19),.w 87 (wi .i64 rfl hiv17 q16.1)] fun _=>?_
       exact wT (N65 _ H)
      .refine wG [.w 87 (wi .i64 rfl hiv17 q16.1)] fun _=>?_
       exact wT (N65 _ H)
     .unfold LO at H
      refine wP ?_
      refine wf (ltF y15.length) ?_
      refine wP ?_
      exact wT (N72 _ H)
    .refine wP ?_
     replace H:=sI H;subst H
     exact wN [(8,.d),(9,.d)] [] [] [] [] [⟨_,nw_I v11.1⟩]
noncomputable def W0D:L :=
 lf Tryz.prog V0a [11,12] [] [] [20] [] [(2,[],[],[2,4,8,10,12,18,1,7,15,17],10)] []
def Uo(from2:Int)(x8:Pt)(_:Nat)(v8:(List Int))(k8:(List Int)->Option (List Int)):Option (List Int) :=
 (bif (decide (from2<x8.t))then(Va v8 x8.t)else some default).bind fun b9=>bif ((decide (from2<x8.t))&&(!b9))then((Uv v8 x8.t).bind fun y10=>k8 y10)else(k8 v8)
def OB(k6:(List Int)->Option (List Int))(v8:(List Int)):Option (List Int) :=
 k6 v8
def Vo(from2:Int)(x6:List Pt)(_:Nat)(v6:(List Int))(k6:(List Int)->Option (List Int)):Option (List Int) :=
 rgl (Uo from2) (OB k6) x6 0 v6
def WB(v6:(List Int)):Option (List Int) :=
 some v6
def Ox(r1:Room)(from2:Int):Option (List Int) :=
 (appL 24 ([]:List (List Pt)) r1.profs).bind fun xs3=>(appL 24 xs3 [r1.lics]).bind fun xs4=>(lenQ xs4).bind fun _=>rgl (Vo from2) WB xs4 0 [from2]
theorem Y0B{r1:Room}{from2:Int}{r:(List Int)}(H:Ox r1 from2=some r):Snd Tryz.prog V0a [V9 .rd r1,iV from2] (nV 1 (r.map eI)) []:=by
 refine wS W0D [.t 4] ?_
 unfold Ox at H
 obtain⟨xs3,h3,H⟩:=bB H
 obtain⟨xs4,h4,H⟩:=bB H
 obtain⟨u5,h5,H⟩:=bB H
 refine wG [.u 15 (.ap _ _ _ _ fun _=>L0 (Y2 .rd) h3),.u 19 (.ap _ _ _ _ fun _=>L0 (Y2 .rd) h4),.u 20 (.le _ _ (fun _=>lm xs4 (Y2 .rd)) (fun _=>LC h5))] fun _=>?_
 refine U04 (fun(i6:Nat) (v6:(List Int))=>⟨[(1,.int .i64 from2),(5,.sl .nw 1 (v6.map eI)),(19,.sref 12),(20,.int .i64 (xs4.length:Int)),(21,.int .i64 (i6:Int))],[],[],[(12,⟨1,xs4.map (Y2 .rd),false⟩)]⟩) [(5,.f)] [] [] [11] (by kernel_rfl) (by kernel_rfl) H (fun i6 x6 v6 I m k6 hxv6 hiv6 H N34=>?_) (fun v6 I m H=>?_)
 .unfold Vo at H
  refine wP ?_
  refine wt (ltT hiv6) ?_
  refine wG [.u 23 (.ix _ _ _ fun _=>Q0 (Y2 .rd) (J0 hxv6)),.u 24 (.el _ _ _ fun _=>gm (Y2 .rd) (W4 (J0 hxv6))),.u 27 (.ln _ _ fun _=>lm x6 ePt)] fun q7=>?_
  refine wR (fun(i8:Nat) (v8:(List Int))=>⟨[(1,iV from2),(5,nV 1 (v8.map eI)),(19,.sref 12),(20,iV (xs4.length:Int)),(21,iV (i6:Int)),(26,rV 4 (x6.map ePt)),(27,iV (x6.length:Int)),(28,iV (i8:Int))],[],[],[(12,⟨1,xs4.map (Y2 .rd),false⟩)]⟩) H (fun i8 x8 v8 I m k8 hxv8 hiv8 H N25=>?_) (fun v8 I m H=>?_)
  .unfold Uo at H
   refine wP ?_
   refine wt (ltT hiv8) ?_
   obtain⟨b9,h9,H⟩:=bB H
   refine wG [.u 30 (.ix _ _ _ fun _=>Q0 ePt (J0 hxv8)),.g 40 [(_,true)] (.call _ _ _ _ _ (AEs.refl _) (fun q=>Lf (bT q.1 h9)))] fun _=>?_
   refine O0 H (fun H=>?_) fun H=>?_
   .obtain⟨y10,h10,H⟩:=bB H
    refine wG [.c 46 (M05 h10),.w 47 (wi .i64 rfl hiv8 q7.1)] fun _=>?_
    exact wT (N25 _ H)
   .refine wG [.w 47 (wi .i64 rfl hiv8 q7.1)] fun _=>?_
    exact wT (N25 _ H)
  .unfold OB at H
   refine wP ?_
   refine wf (ltF x6.length) ?_
   refine wG [.w 48 (wi .i64 rfl hiv6 (LC h5))] fun _=>?_
   exact wT (N34 _ H)
 .unfold WB at H
  refine wP ?_
  refine wf (ltF xs4.length) ?_
  refine wP ?_
  replace H:=sI H;subst H
  exact wN [(4,.d)] [] [] [] [] [⟨_,nw_I v6⟩]
noncomputable def Y0T:L :=
 lf Tryz.prog U0p [] [] [] [] [(4,20)] [] []
def LN(r1:Room)(j2:Job)(t3:Int):Option ((List Int)×Bool) :=
 (Um r1.lics t3 (w64 (t3+j2.wall))).bind fun y4=>bif ((!y4.2)||(!(Z3 j2.lic y4.1)))then(some ([],false))else((Vz r1 j2.need t3 (w64 (t3+j2.wall))).bind fun y5=>(YP r1.topo y5 j2.nodes j2.level).bind fun y6=>some (y6.1,y6.2))
theorem Q0R{r1:Room}{j2:Job}{t3:Int}{r:(List Int)×Bool}(H:LN r1 j2 t3=some r):Snd Tryz.prog U0p [V9 .rd r1,eJob j2,iV t3] (.tup [nV 1 (r.1.map eI),.bool r.2]) []:=by
 refine wS Y0T [.t 6,.t 7] ?_
 unfold LN at H
 obtain⟨y4,h4,H⟩:=bB H
 refine wG [.c 18 (MO h4),.g 27 [((!y4.2),false)] (.call _ _ _ _ _ (AEs.refl _) (fun _=>ZO j2.lic y4.1))] fun _=>?_
 refine O0 H (fun H=>?_) fun H=>?_
 .refine wP ?_
  replace H:=sI H;subst H
  exact wN [(6,.n 1),(7,.d)] [] [] [] [] [⟨_,nw_I ([]:List Int)⟩]
 .obtain⟨y5,h5,H⟩:=bB H
  obtain⟨y6,h6,H⟩:=bB H
  refine wG [.c 40 (X0C h5),.c 45 (U0S h6)] fun _=>?_
  replace H:=sI H;subst H
  exact wN [(6,.d),(7,.d)] [] [] [] [] [⟨_,nw_I y6.1⟩]
noncomputable def O0E:L :=
 lf Tryz.prog Z0b [] [] [] [] [] [] []
def OC(r1:Room)(j2:Job)(x7:Int)(_:Nat)(_:Unit)(k7:Unit->Option (Int×(List Int)×Bool)):Option (Int×(List Int)×Bool) :=
 (LN r1 j2 x7).bind fun y8=>bif y8.2 then(some (x7,y8.1,true))else(k7 ())
def WC(_:Unit):Option (Int×(List Int)×Bool) :=
 some (0,[],false)
def Uj(r1:Room)(j2:Job)(from3:Int):Option (Int×(List Int)×Bool) :=
 (Ym r1).bind fun b4=>bif (((!b4)||(!(X1 j2)))||(!(M2 from3)))then(some (0,[],false))else((Ox r1 from3).bind fun y5=>rgl (OC r1 j2) WC y5 0 ())
theorem Q03{r1:Room}{j2:Job}{from3:Int}{r:Int×(List Int)×Bool}(H:Uj r1 j2 from3=some r):Snd Tryz.prog Z0b [V9 .rd r1,eJob j2,iV from3] (.tup [iV r.1,nV 1 (r.2.1.map eI),.bool r.2.2]) []:=by
 refine wS O0E [.t 6,.t 7,.t 8] ?_
 unfold Uj at H
 obtain⟨b4,h4,H⟩:=bB H
 refine wG [.c 14 (YF h4),.g 18 [((!b4),false)] (.call _ _ _ _ _ (AEs.refl _) (fun _=>VL j2)),.g 23 [(((!b4)||(!(X1 j2))),false)] (.call _ _ _ _ _ (AEs.refl _) (fun _=>Z7 from3))] fun _=>?_
 refine O0 H (fun H=>?_) fun H=>?_
 .refine wP ?_
  replace H:=sI H;subst H
  exact wN [(6,.d),(7,.n 1),(8,.d)] [] [] [] [] [⟨_,nw_I ([]:List Int)⟩]
 .obtain⟨y5,h5,H⟩:=bB H
  refine wG [.c 28 (Y0B h5),.u 29 (.ln _ _ fun _=>lm y5 eI)] fun q6=>?_
  refine wR (fun(i7:Nat) (v7:Unit)=>⟨[(3,.ptr 3 0),(4,.ptr 4 0),(28,nV 1 (y5.map eI)),(29,iV (y5.length:Int)),(30,iV (i7:Int))],[],[(3,(V9 .rd r1).cells),(4,(eJob j2).cells)],[]⟩) H (fun i7 x7 v7 I m k7 hxv7 hiv7 H N29=>?_) (fun v7 I m H=>?_)
  .unfold OC at H
   refine wP ?_
   refine wt (ltT hiv7) ?_
   obtain⟨y8,h8,H⟩:=bB H
   refine wG [.u 32 (.ix _ _ _ fun _=>Q0 eI (J0 hxv7)),.c 38 (Q0R h8)] fun _=>?_
   refine O0 H (fun H=>?_) fun H=>?_
   .refine wP ?_
    replace H:=sI H;subst H
    exact wN [(6,.d),(7,.d),(8,.d)] [] [] [] [] [⟨_,nw_I y8.1⟩]
   .refine wG [.w 44 (wi .i64 rfl hiv7 q6.1)] fun _=>?_
    exact wT (N29 () H)
  .unfold WC at H
   refine wP ?_
   refine wf (ltF y5.length) ?_
   refine wP ?_
   replace H:=sI H;subst H
   exact wN [(6,.d),(7,.n 1),(8,.d)] [] [] [] [] [⟨_,nw_I ([]:List Int)⟩]
noncomputable def Q0M:L :=
 lf Tryz.prog X0h [3] [] [] [] [] [] []
def Qv(p1:List Pt):Option (List Pt) :=
 (appL 32 ([]:List Pt) p1).bind fun xs2=>some xs2
theorem L05{p1:List Pt}{r:(List Pt)}(H:Qv p1=some r):Snd Tryz.prog X0h [.agg [rV 4 (p1.map ePt)]] (Y2 .nw r) []:=by
 refine wS Q0M [.c 2 1 true] ?_
 unfold Qv at H
 obtain⟨xs2,h2,H⟩:=bB H
 refine wG [.u 6 (.ap _ _ _ _ fun _=>L0 ePt h2)] fun _=>?_
 replace H:=sI H;subst H
 exact wN [(2,.d)] [(2,[.f])] [] [3] [] [⟨_,Oj xs2⟩]
noncomputable def M0M:L :=
 lf Tryz.prog Q0h [6] [(14,0),(18,0),(19,0),(23,0)] [] [] [(2,12),(6,5)] [(1,[],[8],[2,4,8,10,1,7,12,15],9)] []
def Mt(x7:List Pt)(_:Nat)(v7:(List (List Pt)))(k7:(List (List Pt))->Option Room):Option Room :=
 (Qv x7).bind fun y8=>(appL 24 v7 [y8]).bind fun xs9=>k7 xs9
def QI(xs2:List Bool)(y3:(List Pt))(xs4:List Int)(xs5:List Node)(v7:(List (List Pt))):Option Room :=
 some (Room.mk (Topo.mk xs4 xs5) xs2 v7 y3)
def Ov(r1:Room):Option Room :=
 (appL 1 ([]:List Bool) r1.up).bind fun xs2=>(Qv r1.lics).bind fun y3=>(appL 8 ([]:List Int) r1.topo.parents).bind fun xs4=>(appL 32 ([]:List Node) r1.topo.nodes).bind fun xs5=>rgl Mt (QI xs2 y3 xs4 xs5) r1.profs 0 []
theorem Y06{r1 r:Room}(H:Ov r1=some r):Snd Tryz.prog Q0h [V9 .rd r1] (.agg [nV 1 (r.topo.parents.map eI),nV 4 (r.topo.nodes.map Y1),.sref 0,.sref 1,nV 4 (r.lics.map ePt)]) [⟨1,r.up.map eBo,false⟩,⟨1,r.profs.map (Y2 .nw),false⟩]:=by
 refine wS M0M [.c 2 5 true] ?_
 unfold Ov at H
 obtain⟨xs2,h2,H⟩:=bB H
 obtain⟨y3,h3,H⟩:=bB H
 obtain⟨xs4,h4,H⟩:=bB H
 obtain⟨xs5,h5,H⟩:=bB H
 refine wG [.u 9 (.ap _ _ _ _ fun _=>L0 eBo h2),.c 12 (L05 h3),.u 18 (.ap _ _ _ _ fun _=>L0 eI h4),.u 23 (.ap _ _ _ _ fun _=>L0 Y1 h5),.u 28 (.ln _ _ fun _=>lm r1.profs (Y2 .rd))] fun q6=>?_
 refine U04 (fun(i7:Nat) (v7:(List (List Pt)))=>⟨[(2,.ptr 2 0),(3,.ptr 3 0),(27,.sl .rd 1 (r1.profs.map (Y2 .rd))),(28,.int .i64 (r1.profs.length:Int)),(29,.int .i64 (i7:Int))],[],[(2,[.nl,.nl,.nl,.nl,.nl]),(3,[.sl .nw 1 (xs4.map eI),.sl .nw 4 (xs5.map Y1),.sref 6,.sref 386001,.sl .nw 4 (y3.map ePt)])],[(6,⟨1,xs2.map eBo,false⟩),(386001,⟨1,v7.map (Y2 .nw),false⟩)]⟩) [] [(3,[.d,.d,.d,.z 386001,.d])] [(386001,(none,1))] [] (by kernel_rfl) (by kernel_rfl) H (fun i7 x7 v7 I m k7 hxv7 hiv7 H N16=>?_) (fun v7 I m H=>?_)
 .unfold Mt at H
  refine wP ?_
  refine wt (ltT hiv7) ?_
  obtain⟨y8,h8,H⟩:=bB H
  obtain⟨xs9,h9,H⟩:=bB H
  refine wG [.u 31 (.ix _ _ _ fun _=>Q0 (Y2 .rd) (J0 hxv7)),.c 36 (L05 h8),.u 38 (.ap _ _ _ _ fun _=>L0 (Y2 .nw) h9),.w 40 (wi .i64 rfl hiv7 q6.1)] fun _=>?_
  exact wT (N16 _ H)
 .unfold QI at H
  refine wP ?_
  refine wf (ltF r1.profs.length) ?_
  refine wP ?_
  replace H:=sI H;subst H
  exact wN [(2,.d)] [(2,[])] [(6,some 6,0),(386001,some 386001,0)] [] [some 6,some 386001] [⟨_,nw_I xs4⟩,⟨_,J1 xs5⟩,⟨_,Oj y3⟩,⟨_,Yg xs2⟩,⟨_,X7 v7⟩]
noncomputable def O0M:L :=
 lf Tryz.prog U0h [] [] [] [] [] [] []
def UI(nodes3:List Int)(x7:Int)(i7:Nat)(_:Unit)(k7:Unit->Option Bool):Option Bool :=
 (cutL nodes3 none (some (i7:Int))).bind fun xs8=>(Va xs8 x7).bind fun b9=>bif b9 then(some false)else(k7 ())
def M02(_:Unit):Option Bool :=
 some true
def Wv(r1:Room)(j2:Job)(nodes3:List Int):Option Bool :=
 (Ym r1).bind fun b4=>(bif (((!b4)||(!(X1 j2)))||((nodes3.length:Int)!=j2.nodes))then some default else(Je r1.topo nodes3)).bind fun b5=>bif ((((!b4)||(!(X1 j2)))||((nodes3.length:Int)!=j2.nodes))||(!b5))then(some false)else(rgl (UI nodes3) M02 nodes3 0 ())
theorem J05{r1:Room}{j2:Job}{nodes3:List Int}{r:Bool}(H:Wv r1 j2 nodes3=some r):Snd Tryz.prog U0h [V9 .rd r1,eJob j2,rV 1 (nodes3.map eI)] (.bool r) []:=by
 refine wS O0M [.t 6] ?_
 unfold Wv at H
 obtain⟨b4,h4,H⟩:=bB H
 obtain⟨b5,h5,H⟩:=bB H
 refine wG [.c 10 (YF h4),.g 14 [((!b4),false)] (.call _ _ _ _ _ (AEs.refl _) (fun _=>VL j2)),.g 19 [(((!b4)||(!(X1 j2))),false)] (.ln _ _ fun _=>lm nodes3 eI),.g 28 [(_,false)] (.call _ _ _ _ _ (AEs.refl _) (fun q=>WI (bF q.1 h5)))] fun _=>?_
 refine O0 H (fun H=>?_) fun H=>?_
 .obtain rfl:=sI H
  exact wP (wE [(6,.d)])
 .refine wG [.u 32 (.ln _ _ fun _=>lm nodes3 eI)] fun q6=>?_
  refine wR (fun(i7:Nat) (v7:Unit)=>⟨[(2,rV 1 (nodes3.map eI)),(31,rV 1 (nodes3.map eI)),(32,iV (nodes3.length:Int)),(33,iV (i7:Int))],[],[],[]⟩) H (fun i7 x7 v7 I m k7 hxv7 hiv7 H N27=>?_) (fun v7 I m H=>?_)
  .unfold UI at H
   refine wP ?_
   refine wt (ltT hiv7) ?_
   obtain⟨xs8,h8,H⟩:=bB H
   obtain⟨b9,h9,H⟩:=bB H
   refine wG [.u 36 (.ix _ _ _ fun _=>Q0 eI (J0 hxv7)),.u 40 (.sc _ _ _ _ fun _=>L19 eI h8),.c 42 (Lf h9)] fun _=>?_
   refine O0 H (fun H=>?_) fun H=>?_
   .obtain rfl:=sI H
    exact wP (wE [(6,.d)])
   .refine wG [.w 43 (wi .i64 rfl hiv7 q6.1)] fun _=>?_
    exact wT (N27 () H)
  .unfold M02 at H
   refine wP ?_
   refine wf (ltF nodes3.length) ?_
   obtain rfl:=sI H
   exact wP (wE [(6,.d)])
noncomputable def X0N:L :=
 lf Tryz.prog M0h [] [(29,1)] [] [] [] [(7,[],[16],[0,4,10,12,14,16,18,20,22,3,7,9,24,26,28,30],17)] []
def Y03(j2:Job)(at3 x8:Int)(_:Nat)(v8:(List (List Pt)))(k8:(List (List Pt))->Option (Room×Bool)):Option (Room×Bool) :=
 (idx v8 x8).bind fun e9=>(La e9 at3 (w64 (at3+j2.wall)) j2.need).bind fun y10=>bif (!y10.2)then(some ((Room.mk (Topo.mk [] []) [] [] []),false))else(k8 (v8.set x8.toNat y10.1))
def Z03(j2:Job)(at3:Int)(y6:Room)(v8:(List (List Pt))):Option (Room×Bool) :=
 (La y6.lics at3 (w64 (at3+j2.wall)) j2.lic).bind fun y11=>bif (!y11.2)then(some ((Room.mk (Topo.mk [] []) [] [] []),false))else(some ((Room.mk y6.topo y6.up v8 y11.1),true))
def Zj(r1:Room)(j2:Job)(at3:Int)(nodes4:List Int):Option (Room×Bool) :=
 (Wv r1 j2 nodes4).bind fun b5=>bif ((!b5)||(!(M2 at3)))then(some ((Room.mk (Topo.mk [] []) [] [] []),false))else((Ov r1).bind fun y6=>rgl (Y03 j2 at3) (Z03 j2 at3 y6) nodes4 0 y6.profs)
theorem W06{r1:Room}{j2:Job}{at3:Int}{nodes4:List Int}{r:Room×Bool}(H:Zj r1 j2 at3 nodes4=some r):Snd Tryz.prog M0h [V9 .rd r1,eJob j2,iV at3,rV 1 (nodes4.map eI)] (.tup [V9 .nw r.1,.bool r.2]) []:=by
 refine wS X0N [.c 8 5 true,.t 9] ?_
 unfold Zj at H
 obtain⟨b5,h5,H⟩:=bB H
 refine wG [.c 20 (J05 h5),.g 24 [((!b5),false)] (.call _ _ _ _ _ (AEs.refl _) (fun _=>Z7 at3))] fun _=>?_
 refine O0 H (fun H=>?_) fun H=>?_
 .refine wP ?_
  replace H:=sI H;subst H
  exact wN [(8,.d),(9,.d)] [(8,[.n 1,.n 4,.n 1,.n 1,.n 4])] [] [] [] [⟨_,nw_I ([]:List Int)⟩,⟨_,J1 ([]:List Node)⟩,⟨_,Yg ([]:List Bool)⟩,⟨_,X7 ([]:List (List Pt))⟩,⟨_,Oj ([]:List Pt)⟩]
 .obtain⟨y6,h6,H⟩:=bB H
  refine wG [.c 29 (Y06 h6),.u 31 (.ln _ _ fun _=>lm nodes4 eI)] fun q7=>?_
  refine wR (fun(i8:Nat) (v8:(List (List Pt)))=>⟨[(2,iV at3),(5,.ptr 5 0),(8,.ptr 8 0),(10,.ptr 10 0),(30,rV 1 (nodes4.map eI)),(31,iV (nodes4.length:Int)),(32,iV (i8:Int))],[],[(5,(eJob j2).cells),(8,[.nl,.nl,.nl,.nl,.nl]),(10,[nV 1 (y6.topo.parents.map eI),nV 4 (y6.topo.nodes.map Y1),.sref 30000,.sref 30001,nV 4 (y6.lics.map ePt)])],[(30000,⟨1,y6.up.map eBo,false⟩),(30001,⟨1,v8.map (Y2 .nw),false⟩)]⟩) H (fun i8 x8 v8 I m k8 hxv8 hiv8 H N32=>?_) (fun v8 I m H=>?_)
  .unfold Y03 at H
   refine wP ?_
   refine wt (ltT hiv8) ?_
   obtain⟨e9,h9,H⟩:=bB H
   obtain⟨y10,h10,H⟩:=bB H
   refine wG [.u 34 (.ix _ _ _ fun _=>Q0 eI (J0 hxv8)),.u 40 (.ix _ _ _ fun _=>Q0 (Y2 .nw) h9),.u 41 (.el _ _ _ fun _=>gm (Y2 .nw) (W4 h9)),.c 49 (X03 h10)] fun _=>?_
   refine O0 H (fun H=>?_) fun H=>?_
   .refine wP ?_
    replace H:=sI H;subst H
    exact wN [(8,.d),(9,.d)] [(8,[.n 1,.n 4,.n 1,.n 1,.n 4])] [] [] [] [⟨_,nw_I ([]:List Int)⟩,⟨_,J1 ([]:List Node)⟩,⟨_,Yg ([]:List Bool)⟩,⟨_,X7 ([]:List (List Pt))⟩,⟨_,Oj ([]:List Pt)⟩]
   .refine wG [.u 59 (.ix _ _ _ fun _=>Q0 (Y2 .nw) h9),.u 1000000 (.sto _ _ _ (Y2 .nw y10.1) _ (fun _=>gm (Y2 .nw) (W4 h9)) (fun _=>MC ..)),.w 60 (wi .i64 rfl hiv8 q7.1)] fun _=>?_
    exact wT (N32 _ H)
  .unfold Z03 at H
   refine wP ?_
   refine wf (ltF nodes4.length) ?_
   obtain⟨y11,h11,H⟩:=bB H
   refine wG [.c 71 (X03 h11)] fun _=>?_
   refine O0 H (fun H=>?_) fun H=>?_
   .refine wP ?_
    replace H:=sI H;subst H
    exact wN [(8,.d),(9,.d)] [(8,[.n 1,.n 4,.n 1,.n 1,.n 4])] [] [] [] [⟨_,nw_I ([]:List Int)⟩,⟨_,J1 ([]:List Node)⟩,⟨_,Yg ([]:List Bool)⟩,⟨_,X7 ([]:List (List Pt))⟩,⟨_,Oj ([]:List Pt)⟩]
   .refine wP ?_
    replace H:=sI H;subst H
    exact wN [(8,.d),(9,.d)] [(8,[.d,.d,.f,.f,.d])] [] [30000,30001] [] [⟨_,nw_I y6.topo.parents⟩,⟨_,J1 y6.topo.nodes⟩,⟨_,Yg y6.up⟩,⟨_,X7 v8⟩,⟨_,Oj y11.1⟩]
noncomputable def J0E:L :=
 lf Tryz.prog U0b [] [] [] [] [(5,5)] [(1,[],[10],[0,2,4,6,8,12,14,11,16,19],11)] []
def Vp(x6:List Pt)(_:Nat)(v6:(List (List Pt)))(k6:(List (List Pt))->Option Room):Option Room :=
 (Up x6).bind fun y7=>(appL 24 v6 [y7]).bind fun xs8=>k6 xs8
def QD(y2:Topo)(xs3:List Bool)(y4:(List Pt))(v6:(List (List Pt))):Option Room :=
 some (Room.mk y2 xs3 v6 y4)
def Lz(r1:Room):Option Room :=
 (Xf r1.topo).bind fun y2=>(appL 1 ([]:List Bool) r1.up).bind fun xs3=>(Up r1.lics).bind fun y4=>rgl Vp (QD y2 xs3 y4) r1.profs 0 []
theorem Z0G{r1 r:Room}(H:Lz r1=some r):Snd Tryz.prog U0b [V9 .rd r1] (.agg [nV 1 (r.topo.parents.map eI),nV 4 (r.topo.nodes.map Y1),nV 1 (r.up.map eBo),.sref 0,nV 4 (r.lics.map ePt)]) [⟨1,r.profs.map (Y2 .nw),false⟩]:=by
 refine wS J0E [.c 2 5 true] ?_
 unfold Lz at H
 obtain⟨y2,h2,H⟩:=bB H
 obtain⟨xs3,h3,H⟩:=bB H
 obtain⟨y4,h4,H⟩:=bB H
 refine wG [.c 8 (WJ h2),.u 11 (.ap _ _ _ _ fun _=>L0 eBo h3),.c 14 (M03 h4),.u 18 (.ln _ _ fun _=>lm r1.profs (Y2 .rd))] fun q5=>?_
 refine U04 (fun(i6:Nat) (v6:(List (List Pt)))=>⟨[(2,.ptr 2 0),(3,.ptr 3 0),(17,.sl .rd 1 (r1.profs.map (Y2 .rd))),(18,.int .i64 (r1.profs.length:Int)),(19,.int .i64 (i6:Int))],[],[(2,[.nl,.nl,.nl,.nl,.nl]),(3,[.sl .nw 1 (y2.parents.map eI),.sl .nw 4 (y2.nodes.map Y1),.sref 11,.sref 386001,.sl .nw 4 (y4.map ePt)])],[(11,⟨1,xs3.map eBo,false⟩),(386001,⟨1,v6.map (Y2 .nw),false⟩)]⟩) [] [(3,[.d,.d,.d,.z 386001,.d])] [(386001,(none,1))] [] (by kernel_rfl) (by kernel_rfl) H (fun i6 x6 v6 I m k6 hxv6 hiv6 H N15=>?_) (fun v6 I m H=>?_)
 .unfold Vp at H
  refine wP ?_
  refine wt (ltT hiv6) ?_
  obtain⟨y7,h7,H⟩:=bB H
  obtain⟨xs8,h8,H⟩:=bB H
  refine wG [.u 21 (.ix _ _ _ fun _=>Q0 (Y2 .rd) (J0 hxv6)),.c 26 (M03 h7),.u 28 (.ap _ _ _ _ fun _=>L0 (Y2 .nw) h8),.w 30 (wi .i64 rfl hiv6 q5.1)] fun _=>?_
  exact wT (N15 _ H)
 .unfold QD at H
  refine wP ?_
  refine wf (ltF r1.profs.length) ?_
  refine wP ?_
  replace H:=sI H;subst H
  exact wN [(2,.d)] [(2,[.d,.d,.f,.d,.d])] [(386001,some 386001,0)] [11] [some 386001] [⟨_,nw_I y2.parents⟩,⟨_,J1 y2.nodes⟩,⟨_,Yg xs3⟩,⟨_,Oj y4⟩,⟨_,X7 v6⟩]
noncomputable def L16:L :=
 lf Tryz.prog Z0c [] [] [] [] [] [] []
def ZT(j1:Job):Option Bool :=
 some (((((((Y0 j1.id 1 999)&&(Y0 j1.prio 0 999))&&(Y0 j1.nodes 1 24))&&(Q1 j1.need))&&(Q1 j1.lic))&&(Y0 j1.wall 1 1000000))&&(Y0 j1.level 0 24))
theorem V0P{j1:Job}{r:Bool}(H:ZT j1=some r):Snd Tryz.prog Z0c [eJob j1] (.bool r) []:=by
 refine wS L16 [.t 2] ?_
 unfold ZT at H
 refine wG [.c 5 (M1 j1.id 1 999),.g 9 [((Y0 j1.id 1 999),true)] (.call _ _ _ _ _ (AEs.refl _) (fun _=>M1 j1.prio 0 999)),.g 14 [(((Y0 j1.id 1 999)&&(Y0 j1.prio 0 999)),true)] (.call _ _ _ _ _ (AEs.refl _) (fun _=>M1 j1.nodes 1 24)),.g 19 [((((Y0 j1.id 1 999)&&(Y0 j1.prio 0 999))&&(Y0 j1.nodes 1 24)),true)] (.call _ _ _ _ _ (AEs.refl _) (fun _=>U6 j1.need)),.g 24 [(((((Y0 j1.id 1 999)&&(Y0 j1.prio 0 999))&&(Y0 j1.nodes 1 24))&&(Q1 j1.need)),true)] (.call _ _ _ _ _ (AEs.refl _) (fun _=>U6 j1.lic)),.g 29 [((((((Y0 j1.id 1 999)&&(Y0 j1.prio 0 999))&&(Y0 j1.nodes 1 24))&&(Q1 j1.need))&&(Q1 j1.lic)),true)] (.call _ _ _ _ _ (AEs.refl _) (fun _=>M1 j1.wall 1 1000000)),.g 34 [(((((((Y0 j1.id 1 999)&&(Y0 j1.prio 0 999))&&(Y0 j1.nodes 1 24))&&(Q1 j1.need))&&(Q1 j1.lic))&&(Y0 j1.wall 1 1000000)),true)] (.call _ _ _ _ _ (AEs.refl _) (fun _=>M1 j1.level 0 24))] fun _=>?_
 replace H:=sI H;subst H
 exact wE [(2,.d)]
def X8(j1:Job):Bool :=
 (((((((Y0 j1.id 1 999)&&(Y0 j1.prio 0 999))&&(Y0 j1.nodes 1 24))&&(Q1 j1.need))&&(Q1 j1.lic))&&(Y0 j1.wall 1 1000000))&&(Y0 j1.level 0 24))
theorem O1e(j1:Job):ZT j1=some (X8 j1):=by
 unfold ZT X8
 first|rfl|simp only[O5]
theorem YM(j1:Job):Snd Tryz.prog Z0c [eJob j1] (.bool (X8 j1)) []:=V0P (O1e j1)
noncomputable def W0V:L :=
 lf Tryz.prog J0q [] [] [] [] [] [] []
def QQ(x4:List Pt)(_:Nat)(_:Unit)(k4:Unit->Option Bool):Option Bool :=
 (Lu x4).bind fun b5=>bif (!b5)then(some false)else(k4 ())
def UQ(r1:Room)(_:Unit):Option Bool :=
 (Lu r1.lics).bind fun b6=>some b6
def Ou(r1:Room):Option Bool :=
 (On r1.topo).bind fun b2=>bif (((!b2)||((r1.up.length:Int)!=(r1.topo.nodes.length:Int)))||((r1.profs.length:Int)!=(r1.topo.nodes.length:Int)))then(some false)else(rgl QQ (UQ r1) r1.profs 0 ())
theorem XV{r1:Room}{r:Bool}(H:Ou r1=some r):Snd Tryz.prog J0q [V9 .rd r1] (.bool r) []:=by
 refine wS W0V [.t 2] ?_
 unfold Ou at H
 obtain⟨b2,h2,H⟩:=bB H
 refine wG [.c 7 (LU h2),.g 12 [((!b2),false)] (.ln _ _ fun _=>lm r1.up eBo),.g 16 [((!b2),false)] (.ln _ _ fun _=>lm r1.topo.nodes Y1),.g 22 [(((!b2)||((r1.up.length:Int)!=(r1.topo.nodes.length:Int))),false)] (.ln _ _ fun _=>lm r1.profs (Y2 .rd)),.g 26 [(((!b2)||((r1.up.length:Int)!=(r1.topo.nodes.length:Int))),false)] (.ln _ _ fun _=>lm r1.topo.nodes Y1)] fun _=>?_
 refine O0 H (fun H=>?_) fun H=>?_
 .obtain rfl:=sI H
  exact wP (wE [(2,.d)])
 .refine wG [.u 31 (.ln _ _ fun _=>lm r1.profs (Y2 .rd))] fun q3=>?_
  refine wR (fun(i4:Nat) (v4:Unit)=>⟨[(1,.ptr 1 0),(30,rV 1 (r1.profs.map (Y2 .rd))),(31,iV (r1.profs.length:Int)),(32,iV (i4:Int))],[],[(1,(V9 .rd r1).cells)],[]⟩) H (fun i4 x4 v4 I m k4 hxv4 hiv4 H N27=>?_) (fun v4 I m H=>?_)
  .unfold QQ at H
   refine wP ?_
   refine wt (ltT hiv4) ?_
   obtain⟨b5,h5,H⟩:=bB H
   refine wG [.u 34 (.ix _ _ _ fun _=>Q0 (Y2 .rd) (J0 hxv4)),.c 37 (UV h5)] fun _=>?_
   refine O0 H (fun H=>?_) fun H=>?_
   .obtain rfl:=sI H
    exact wP (wE [(2,.d)])
   .refine wG [.w 39 (wi .i64 rfl hiv4 q3.1)] fun _=>?_
    exact wT (N27 () H)
  .unfold UQ at H
   refine wP ?_
   refine wf (ltF r1.profs.length) ?_
   obtain⟨b6,h6,H⟩:=bB H
   refine wG [.c 42 (UV h6)] fun _=>?_
   replace H:=sI H;subst H
   exact wE [(2,.d)]
noncomputable def M0E:L :=
 lf Tryz.prog X0b [12] [] [] [] [(5,13)] [] []
def XD(r1:Room)(need2:Vec)(from3 to4:Int)(x6:List Pt)(i6:Nat)(v6:(List Int))(k6:(List Int)->Option (List Int)):Option (List Int) :=
 (idx r1.up (i6:Int)).bind fun e7=>(bif e7 then(Zi x6 from3 to4)else some default).bind fun y8=>bif (e7&&(Xw need2 y8))then((appL 8 v6 [(i6:Int)]).bind fun xs9=>k6 xs9)else(k6 v6)
def QX(v6:(List Int)):Option (List Int) :=
 some v6
def Oz(r1:Room)(need2:Vec)(from3 to4:Int):Option (List Int) :=
 rgl (XD r1 need2 from3 to4) QX r1.profs 0 []
theorem L0F{r1:Room}{need2:Vec}{from3 to4:Int}{r:(List Int)}(H:Oz r1 need2 from3 to4=some r):Snd Tryz.prog X0b [V9 .rd r1,eVec need2,iV from3,iV to4] (nV 1 (r.map eI)) []:=by
 refine wS M0E [.t 8] ?_
 unfold Oz at H
 refine wG [.u 15 (.ln _ _ fun _=>lm r1.profs (Y2 .rd))] fun q5=>?_
 refine wR (fun(i6:Nat) (v6:(List Int))=>⟨[(2,iV from3),(3,iV to4),(4,.ptr 4 0),(5,.ptr 5 0),(9,.sref 12),(14,rV 1 (r1.profs.map (Y2 .rd))),(15,iV (r1.profs.length:Int)),(16,iV (i6:Int))],[],[(4,(V9 .rd r1).cells),(5,(eVec need2).cells)],[(12,⟨1,v6.map eI,false⟩)]⟩) H (fun i6 x6 v6 I m k6 hxv6 hiv6 H N19=>?_) (fun v6 I m H=>?_)
 .unfold XD at H
  refine wP ?_
  refine wt (ltT hiv6) ?_
  obtain⟨e7,h7,H⟩:=bB H
  obtain⟨y8,h8,H⟩:=bB H
  refine wG [.u 19 (.ix _ _ _ fun _=>Q0 (Y2 .rd) (J0 hxv6)),.u 24 (.ix _ _ _ fun _=>Q0 eBo h7),.g 31 [(_,true)] (.call _ _ _ _ _ (AEs.refl _) (fun q=>OS (bT q.1 h8))),.g 32 [(e7,true)] (.call _ _ _ _ _ (AEs.refl _) (fun _=>Q08 need2 y8))] fun _=>?_
  refine O0 H (fun H=>?_) fun H=>?_
  .obtain⟨xs9,h9,H⟩:=bB H
   refine wG [.u 37 (.ap _ _ _ _ fun _=>L0 eI h9),.w 38 (wi .i64 rfl hiv6 q5.1)] fun _=>?_
   exact wT (N19 _ H)
  .refine wG [.w 38 (wi .i64 rfl hiv6 q5.1)] fun _=>?_
   exact wT (N19 _ H)
 .unfold QX at H
  refine wP ?_
  refine wf (ltF r1.profs.length) ?_
  refine wP ?_
  replace H:=sI H;subst H
  exact wN [(8,.f)] [] [] [12] [] [⟨_,nw_I v6⟩]
noncomputable def L15:L :=
 lf Tryz.prog O0z [10] [] [] [] [(5,10)] [] []
def QU(t1:Topo)(s3 x5:Int)(_:Nat)(v5:(List Int))(k5:(List Int)->Option (List Int)):Option (List Int) :=
 (idx t1.nodes x5).bind fun e6=>(WX t1 e6.leaf).bind fun y7=>(U3 y7 s3).bind fun b8=>bif b8 then((appL 8 v5 [x5]).bind fun xs9=>k5 xs9)else(k5 v5)
def M0f(v5:(List Int)):Option (List Int) :=
 some v5
def JC(t1:Topo)(nodes2:List Int)(s3:Int):Option (List Int) :=
 rgl (QU t1 s3) M0f nodes2 0 []
theorem U0n{t1:Topo}{nodes2:List Int}{s3:Int}{r:(List Int)}(H:JC t1 nodes2 s3=some r):Snd Tryz.prog O0z [X4 .rd t1,rV 1 (nodes2.map eI),iV s3] (nV 1 (r.map eI)) []:=by
 refine wS L15 [.t 6] ?_
 unfold JC at H
 refine wG [.u 12 (.ln _ _ fun _=>lm nodes2 eI)] fun q4=>?_
 refine wR (fun(i5:Nat) (v5:(List Int))=>⟨[(2,iV s3),(3,.ptr 3 0),(7,.sref 10),(11,rV 1 (nodes2.map eI)),(12,iV (nodes2.length:Int)),(13,iV (i5:Int))],[],[(3,(X4 .rd t1).cells)],[(10,⟨1,v5.map eI,false⟩)]⟩) H (fun i5 x5 v5 I m k5 hxv5 hiv5 H N19=>?_) (fun v5 I m H=>?_)
 .unfold QU at H
  refine wP ?_
  refine wt (ltT hiv5) ?_
  obtain⟨e6,h6,H⟩:=bB H
  obtain⟨y7,h7,H⟩:=bB H
  obtain⟨b8,h8,H⟩:=bB H
  refine wG [.u 15 (.ix _ _ _ fun _=>Q0 eI (J0 hxv5)),.u 21 (.ix _ _ _ fun _=>Q0 Y1 h6),.c 24 (O0n h7),.c 26 (O7 h8)] fun _=>?_
  refine O0 H (fun H=>?_) fun H=>?_
  .obtain⟨xs9,h9,H⟩:=bB H
   refine wG [.u 30 (.ap _ _ _ _ fun _=>L0 eI h9),.w 31 (wi .i64 rfl hiv5 q4.1)] fun _=>?_
   exact wT (N19 _ H)
  .refine wG [.w 31 (wi .i64 rfl hiv5 q4.1)] fun _=>?_
   exact wT (N19 _ H)
 .unfold M0f at H
  refine wP ?_
  refine wf (ltF nodes2.length) ?_
  refine wP ?_
  replace H:=sI H;subst H
  exact wN [(6,.f)] [] [] [10] [] [⟨_,nw_I v5⟩]
noncomputable def X0V:L :=
 lf Tryz.prog M0q [79,110] [(109,2),(144,2)] [] [] [] [] [1022]
def Qn(t1:Topo)(n3 x20 x22:Int)(_:Nat)(v22:(List Int))(k22:(List Int)->Option ((List Int)×Bool)):Option ((List Int)×Bool) :=
 (idx t1.nodes x22).bind fun e23=>bif ((e23.leaf==x20)&&(decide ((v22.length:Int)<n3)))then((appL 8 v22 [x22]).bind fun xs24=>k22 xs24)else(k22 v22)
def ZQ(k20:(List Int)->Option ((List Int)×Bool))(v22:(List Int)):Option ((List Int)×Bool) :=
 k20 v22
def MJ(t1:Topo)(n3:Int)(y10:(List Int))(x20:Int)(_:Nat)(v20:(List Int))(k20:(List Int)->Option ((List Int)×Bool)):Option ((List Int)×Bool) :=
 rgl (Qn t1 n3 x20) (ZQ k20) y10 0 v20
def OJ(v20:(List Int)):Option ((List Int)×Bool) :=
 (Y12 v20).bind fun xs25=>some (xs25,true)
def XQ(t1:Topo)(x13:Int)(_:Nat)(v13:(List Int)×(List Int))(k13:((List Int)×(List Int))->Option ((List Int)×Bool)):Option ((List Int)×Bool) :=
 (idx t1.nodes x13).bind fun e14=>(idx v13.1 e14.leaf).bind fun e15=>(U3 v13.2 e14.leaf).bind fun b16=>bif (!b16)then((appL 8 v13.2 [e14.leaf]).bind fun xs17=>k13 ((v13.1.set e14.leaf.toNat (w64 (e15+1))),xs17))else(k13 ((v13.1.set e14.leaf.toNat (w64 (e15+1))),v13.2))
def YQ(t1:Topo)(n3:Int)(y10:(List Int))(v13:(List Int)×(List Int)):Option ((List Int)×Bool) :=
 (U0c v13.1 v13.2).bind fun xs18=>rgl (MJ t1 n3 y10) OJ xs18 0 []
def VQ(t1:Topo)(nodes2:List Int)(n3 most4 _:Int)(i6:Nat)(v6:Int×Int×Int)(k6:(Int×Int×Int)->Option ((List Int)×Bool)):Option ((List Int)×Bool) :=
 (Yw t1 (i6:Int)).bind fun n7=>bif (decide (most4<n7))then(k6 (v6.1,v6.2.1,v6.2.2))else((JC t1 nodes2 (i6:Int)).bind fun y8=>bif ((decide (n3<=(y8.length:Int)))&&(((decide (v6.1<0))||(decide (n7<v6.2.1)))||((n7==v6.2.1)&&(decide ((y8.length:Int)<v6.2.2)))))then(k6 ((i6:Int),n7,(y8.length:Int)))else(k6 (v6.1,v6.2.1,v6.2.2)))
def Y9(t1:Topo)(nodes2:List Int)(n3:Int)(v6:Int×Int×Int):Option ((List Int)×Bool) :=
 bif (decide (v6.1<0))then(some ([],false))else((JC t1 nodes2 v6.1).bind fun y10=>(mkL 8 (t1.parents.length:Int) 0).bind fun xs11=>rgl (XQ t1) (YQ t1 n3 y10) y10 0 (xs11,[]))
def WD(t1:Topo)(nodes2:List Int)(n3 most4:Int):Option ((List Int)×Bool) :=
 rgl (VQ t1 nodes2 n3 most4) (Y9 t1 nodes2 n3) t1.parents 0 ((-1),0,0)
theorem V0W{t1:Topo}{nodes2:List Int}{n3 most4:Int}{r:(List Int)×Bool}(H:WD t1 nodes2 n3 most4=some r):Snd Tryz.prog M0q [X4 .rd t1,rV 1 (nodes2.map eI),iV n3,iV most4] (.tup [nV 1 (r.1.map eI),.bool r.2]) []:=by
 refine wS X0V [.t 8,.t 9] ?_
 unfold WD at H
 refine wG [.u 28 (.ln _ _ fun _=>lm t1.parents eI)] fun q5=>?_
 refine wR (fun(i6:Nat) (v6:Int×Int×Int)=>⟨[(1,rV 1 (nodes2.map eI)),(2,iV n3),(3,iV most4),(4,.ptr 4 0),(10,iV v6.1),(11,iV v6.2.1),(12,iV v6.2.2),(28,iV (t1.parents.length:Int)),(29,iV (i6:Int))],[],[(4,(X4 .rd t1).cells)],[]⟩) H (fun i6 x6 v6 I m k6 hxv6 hiv6 H N29=>?_) (fun v6 I m H=>?_)
 .unfold VQ at H
  refine wP ?_
  refine wt (ltT hiv6) ?_
  obtain⟨n7,h7,H⟩:=bB H
  refine wG [.c 34 (OL h7)] fun _=>?_
  refine O0 H (fun H=>?_) fun H=>?_
  .refine wG [.w 68 (wi .i64 rfl hiv6 q5.1)] fun _=>?_
   exact wT (N29 _ H)
  .obtain⟨y8,h8,H⟩:=bB H
   refine wG [.c 41 (U0n h8),.u 42 (.ln _ _ fun _=>lm y8 eI)] fun q9=>?_
   refine O0 H (fun H=>?_) fun H=>?_
   .refine wG [.w 68 (wi .i64 rfl hiv6 q5.1)] fun _=>?_
    exact wT (N29 _ H)
   .refine wG [.w 68 (wi .i64 rfl hiv6 q5.1)] fun _=>?_
    exact wT (N29 _ H)
 .unfold Y9 at H
  refine wP ?_
  refine wf (ltF t1.parents.length) ?_
  refine wP ?_
  refine O0 H (fun H=>?_) fun H=>?_
  .refine wP ?_
   replace H:=sI H;subst H
   exact wN [(8,.n 1),(9,.d)] [] [] [] [] [⟨_,nw_I ([]:List Int)⟩]
  .obtain⟨y10,h10,H⟩:=bB H
   obtain⟨xs11,h11,H⟩:=bB H
   refine wG [.c 74 (U0n h10),.u 77 (.ln _ _ fun _=>lm t1.parents eI),.u 78 (.ms _ _ _ _ fun _=>V1P eI h11),.u 81 (.ln _ _ fun _=>lm y10 eI)] fun q12=>?_
   refine wR (fun(i13:Nat) (v13:(List Int)×(List Int))=>⟨[(1,nV 1 (y10.map eI)),(2,iV n3),(4,.ptr 4 0),(16,.ptr 16 0),(17,.sref 79),(80,nV 1 (y10.map eI)),(81,iV (y10.length:Int)),(82,iV (i13:Int))],[],[(4,(X4 .rd t1).cells),(16,[.sref 78])],[(78,⟨1,v13.1.map eI,false⟩),(79,⟨1,v13.2.map eI,false⟩)]⟩) H (fun i13 x13 v13 I m k13 hxv13 hiv13 H N63=>?_) (fun v13 I m H=>?_)
   .unfold XQ at H
    refine wP ?_
    refine wt (ltT hiv13) ?_
    obtain⟨e14,h14,H⟩:=bB H
    obtain⟨e15,h15,H⟩:=bB H
    obtain⟨b16,h16,H⟩:=bB H
    refine wG [.u 84 (.ix _ _ _ fun _=>Q0 eI (J0 hxv13)),.u 89 (.ix _ _ _ fun _=>Q0 Y1 h14),.u 94 (.ix _ _ _ fun _=>Q0 eI h15),.u 95 (.el _ _ _ fun _=>gm eI (W4 h15)),.u 97 (.ix _ _ _ fun _=>Q0 eI h15),.u 1000000 (.sto _ _ _ (eI (w64 (e15+1))) _ (fun _=>gm eI (W4 h15)) (fun _=>MC ..)),.c 100 (O7 h16)] fun _=>?_
    refine O0 H (fun H=>?_) fun H=>?_
    .obtain⟨xs17,h17,H⟩:=bB H
     refine wG [.u 105 (.ap _ _ _ _ fun _=>L0 eI h17),.w 106 (wi .i64 rfl hiv13 q12.2.1)] fun _=>?_
     exact wT (N63 _ H)
    .refine wG [.w 106 (wi .i64 rfl hiv13 q12.2.1)] fun _=>?_
     exact wT (N63 _ H)
   .unfold YQ at H
    refine wP ?_
    refine wf (ltF y10.length) ?_
    refine wP ?_
    refine O20 [] [(16,[.f])] [78] (by kernel_rfl) ?_
    obtain⟨xs18,h18,H⟩:=bB H
    refine wG [.u 109 (.cr Zt 1 _ [.fn O0b [.ept (.agg [nV 1 (v13.1.map eI)]) 0]] _ false _ (fun _=>W0d v13.2) (fun _=>by simp) (fun _=>by simp) (fun _=>X12 h18)),.u 112 (.ln _ _ fun _=>lm xs18 eI)] fun q19=>?_
    refine wR (fun(i20:Nat) (v20:(List Int))=>⟨[(1,nV 1 (y10.map eI)),(2,iV n3),(4,.ptr 4 0),(21,.sref 110),(111,.sref 79),(112,iV (xs18.length:Int)),(113,iV (i20:Int))],[],[(4,(X4 .rd t1).cells)],[(110,⟨1,v20.map eI,false⟩),(79,⟨1,xs18.map eI,false⟩)]⟩) H (fun i20 x20 v20 I m k20 hxv20 hiv20 H N100=>?_) (fun v20 I m H=>?_)
    .unfold MJ at H
     refine wP ?_
     refine wt (ltT hiv20) ?_
     refine wG [.u 115 (.ix _ _ _ fun _=>Q0 eI (J0 hxv20)),.u 116 (.el _ _ _ fun _=>gm eI (W4 (J0 hxv20))),.u 118 (.ln _ _ fun _=>lm y10 eI)] fun q21=>?_
     refine wR (fun(i22:Nat) (v22:(List Int))=>⟨[(1,nV 1 (y10.map eI)),(2,iV n3),(4,.ptr 4 0),(21,.sref 110),(23,iV x20),(111,.sref 79),(112,iV (xs18.length:Int)),(113,iV (i20:Int)),(117,nV 1 (y10.map eI)),(118,iV (y10.length:Int)),(119,iV (i22:Int))],[],[(4,(X4 .rd t1).cells)],[(110,⟨1,v22.map eI,false⟩),(79,⟨1,xs18.map eI,false⟩)]⟩) H (fun i22 x22 v22 I m k22 hxv22 hiv22 H N91=>?_) (fun v22 I m H=>?_)
     .unfold Qn at H
      refine wP ?_
      refine wt (ltT hiv22) ?_
      obtain⟨e23,h23,H⟩:=bB H
      refine wG [.u 121 (.ix _ _ _ fun _=>Q0 eI (J0 hxv22)),.u 126 (.ix _ _ _ fun _=>Q0 Y1 h23),.g 133 [((e23.leaf==x20),true)] (.ln _ _ fun _=>lm v22 eI)] fun _=>?_
      refine O0 H (fun H=>?_) fun H=>?_
      .obtain⟨xs24,h24,H⟩:=bB H
       refine wG [.u 140 (.ap _ _ _ _ fun _=>L0 eI h24),.w 141 (wi .i64 rfl hiv22 q12.2.1)] fun _=>?_
       exact wT (N91 _ H)
      .refine wG [.w 141 (wi .i64 rfl hiv22 q12.2.1)] fun _=>?_
       exact wT (N91 _ H)
     .unfold ZQ at H
      refine wP ?_
      refine wf (ltF y10.length) ?_
      refine wG [.w 142 (wi .i64 rfl hiv20 q19.1)] fun _=>?_
      exact wT (N100 _ H)
    .unfold OJ at H
     refine wP ?_
     refine wf (ltF xs18.length) ?_
     obtain⟨xs25,h25,H⟩:=bB H
     refine wG [.u 144 (.cr Of 1 _ [] [] false _ (fun _=>W0d v20) (fun _=>trivial) (fun _=>rfl) (fun _=>Z12 h25))] fun _=>?_
     replace H:=sI H;subst H
     exact wN [(8,.f),(9,.d)] [] [] [110] [] [⟨_,nw_I xs25⟩]
noncomputable def V0e:L :=
 lf Tryz.prog ZR [] [] [] [] [(4,10)] [] []
def X9(l1:List Int)(v2:Int)(k2:Int->Option Bool):Option Bool :=
 bif (decide (v2<(l1.length:Int)))then((idx l1 (w64 (v2-1))).bind fun e4=>(idx l1 v2).bind fun e5=>bif (decide (e5<=e4))then(some false)else(k2 (w64 (v2+1))))else(some true)
def Jh(l1:List Int):Option Bool :=
 whl (X9 l1) 9223372036854775807 1
theorem U0e{l1:List Int}{r:Bool}(H:Jh l1=some r):Snd Tryz.prog ZR [rV 1 (l1.map eI)] (.bool r) []:=by
 refine wS V0e [.t 2] ?_
 unfold Jh at H
 refine wP ?_
 refine wW (fun(v2:Int)=>⟨[(0,rV 1 (l1.map eI)),(3,iV v2)],[],[],[]⟩) H (fun v2 I m k2 H N18=>?_)
 unfold X9 at H
 refine wG [.u 6 (.ln _ _ fun _=>lm l1 eI)] fun q3=>?_
 refine O0 H (fun H=>?_) fun H=>?_
 .obtain⟨e4,h4,H⟩:=bB H
  obtain⟨e5,h5,H⟩:=bB H
  refine wG [.u 13 (.ix _ _ _ fun _=>Q0 eI h4),.u 17 (.ix _ _ _ fun _=>Q0 eI h5)] fun _=>?_
  refine O0 H (fun H=>?_) fun H=>?_
  .obtain rfl:=sI H
   exact wP (wE [(2,.d)])
  .refine wP ?_
   exact wT (N18 _ H)
 .obtain rfl:=sI H
  exact wP (wE [(2,.d)])
noncomputable def Q0F:L :=
 lf Tryz.prog Y0c [32,35] [(63,2),(65,2)] [] [] [(19,12),(20,21)] [] [127]
def VE(from3:Int)(x9:Pt)(_:Nat)(v9:(List Int))(k9:(List Int)->Option (Int×(List Int)×Bool)):Option (Int×(List Int)×Bool) :=
 bif (decide (from3<x9.t))then((appL 8 v9 [x9.t]).bind fun xs10=>k9 xs10)else(k9 v9)
def XE(k7:(List Int)->Option (Int×(List Int)×Bool))(v9:(List Int)):Option (Int×(List Int)×Bool) :=
 k7 v9
def Zq(_:Unit):Option (Int×(List Int)×Bool) :=
 some (0,[],false)
def Ud(r1:Room)(j2:Job)(x13:Int)(_:Nat)(_:Unit)(k13:Unit->Option (Int×(List Int)×Bool)):Option (Int×(List Int)×Bool) :=
 bif (decide (1000000000<(w64 (x13+j2.wall))))then(Zq ())else((Zi r1.lics x13 (w64 (x13+j2.wall))).bind fun y14=>bif (!(Xw j2.lic y14))then(k13 ())else((Oz r1 j2.need x13 (w64 (x13+j2.wall))).bind fun y15=>(WD r1.topo y15 j2.nodes j2.level).bind fun y16=>bif y16.2 then(some (x13,y16.1,true))else(k13 ())))
def Vi(_:Unit):Option (Int×(List Int)×Bool) :=
 Zq ()
def Yq(from3:Int)(x7:List Pt)(_:Nat)(v7:(List Int))(k7:(List Int)->Option (Int×(List Int)×Bool)):Option (Int×(List Int)×Bool) :=
 rgl (VE from3) (XE k7) x7 0 v7
def Jp(r1:Room)(j2:Job)(v7:(List Int)):Option (Int×(List Int)×Bool) :=
 (Y12 v7).bind fun xs11=>rgl (Ud r1 j2) Vi (Q6 xs11) 0 ()
def Xq(r1:Room)(j2:Job)(from3:Int):Option (Int×(List Int)×Bool) :=
 (Ou r1).bind fun b4=>bif (((!b4)||(!(X8 j2)))||(!(M4 from3)))then(some (0,[],false))else((appL 24 [r1.lics] r1.profs).bind fun xs5=>rgl (Yq from3) (Jp r1 j2) xs5 0 [from3])
theorem Q0G{r1:Room}{j2:Job}{from3:Int}{r:Int×(List Int)×Bool}(H:Xq r1 j2 from3=some r):Snd Tryz.prog Y0c [V9 .rd r1,eJob j2,iV from3] (.tup [iV r.1,nV 1 (r.2.1.map eI),.bool r.2.2]) []:=by
 refine wS Q0F [.t 6,.t 7,.t 8] ?_
 unfold Xq at H
 obtain⟨b4,h4,H⟩:=bB H
 refine wG [.c 19 (XV h4),.g 23 [((!b4),false)] (.call _ _ _ _ _ (AEs.refl _) (fun _=>YM j2)),.g 28 [(((!b4)||(!(X8 j2))),false)] (.call _ _ _ _ _ (AEs.refl _) (fun _=>Xg from3))] fun _=>?_
 refine O0 H (fun H=>?_) fun H=>?_
 .refine wP ?_
  replace H:=sI H;subst H
  exact wN [(6,.d),(7,.n 1),(8,.d)] [] [] [] [] [⟨_,nw_I ([]:List Int)⟩]
 .obtain⟨xs5,h5,H⟩:=bB H
  refine wG [.u 38 (.ap _ _ _ _ fun _=>L0 (Y2 .rd) h5),.u 39 (.ln _ _ fun _=>lm xs5 (Y2 .rd))] fun q6=>?_
  refine wR (fun(i7:Nat) (v7:(List Int))=>⟨[(2,iV from3),(3,.ptr 3 0),(4,.ptr 4 0),(9,.sref 32),(38,.sref 35),(39,iV (xs5.length:Int)),(40,iV (i7:Int))],[],[(3,(V9 .rd r1).cells),(4,(eJob j2).cells)],[(32,⟨1,v7.map eI,false⟩),(35,⟨1,xs5.map (Y2 .rd),false⟩)]⟩) H (fun i7 x7 v7 I m k7 hxv7 hiv7 H N41=>?_) (fun v7 I m H=>?_)
  .unfold Yq at H
   refine wP ?_
   refine wt (ltT hiv7) ?_
   refine wG [.u 42 (.ix _ _ _ fun _=>Q0 (Y2 .rd) (J0 hxv7)),.u 43 (.el _ _ _ fun _=>gm (Y2 .rd) (W4 (J0 hxv7))),.u 46 (.ln _ _ fun _=>lm x7 ePt)] fun q8=>?_
   refine wR (fun(i9:Nat) (v9:(List Int))=>⟨[(2,iV from3),(3,.ptr 3 0),(4,.ptr 4 0),(9,.sref 32),(38,.sref 35),(39,iV (xs5.length:Int)),(40,iV (i7:Int)),(45,rV 4 (x7.map ePt)),(46,iV (x7.length:Int)),(47,iV (i9:Int))],[],[(3,(V9 .rd r1).cells),(4,(eJob j2).cells)],[(32,⟨1,v9.map eI,false⟩),(35,⟨1,xs5.map (Y2 .rd),false⟩)]⟩) H (fun i9 x9 v9 I m k9 hxv9 hiv9 H N32=>?_) (fun v9 I m H=>?_)
   .unfold VE at H
    refine wP ?_
    refine wt (ltT hiv9) ?_
    refine wG [.u 49 (.ix _ _ _ fun _=>Q0 ePt (J0 hxv9))] fun _=>?_
    refine O0 H (fun H=>?_) fun H=>?_
    .obtain⟨xs10,h10,H⟩:=bB H
     refine wG [.u 59 (.ap _ _ _ _ fun _=>L0 eI h10),.w 60 (wi .i64 rfl hiv9 q8.1)] fun _=>?_
     exact wT (N32 _ H)
    .refine wG [.w 60 (wi .i64 rfl hiv9 q8.1)] fun _=>?_
     exact wT (N32 _ H)
   .unfold XE at H
    refine wP ?_
    refine wf (ltF x7.length) ?_
    refine wG [.w 61 (wi .i64 rfl hiv7 q6.1)] fun _=>?_
    exact wT (N41 _ H)
  .unfold Jp at H
   refine wP ?_
   refine wf (ltF xs5.length) ?_
   obtain⟨xs11,h11,H⟩:=bB H
   refine wG [.u 63 (.cr Of 1 _ [] [] false _ (fun _=>W0d v7) (fun _=>trivial) (fun _=>rfl) (fun _=>Z12 h11)),.u 65 (.cr Qi 1 _ [] [] true _ (fun _=>W0d xs11) (fun _=>trivial) (fun _=>rfl) (fun _=>Q0Q xs11)),.u 66 (.ln _ _ fun _=>lm (Q6 xs11) eI)] fun q12=>?_
   refine X6 (r:=r) Zq 0 (fun v17:Unit=>⟨[],[],[],[]⟩) (by kernel_rfl) (fun v17 H=>?_) (fun J83=>?_)
   .unfold Zq at H
    refine wP ?_
    replace H:=sI H;subst H
    exact wN [(6,.d),(7,.n 1),(8,.d)] [] [] [] [] [⟨_,nw_I ([]:List Int)⟩]
   .refine wR (fun(i13:Nat) (v13:Unit)=>⟨[(3,.ptr 3 0),(4,.ptr 4 0),(65,.sref 66000),(66,iV ((Q6 xs11).length:Int)),(67,iV (i13:Int))],[],[(3,(V9 .rd r1).cells),(4,(eJob j2).cells)],[(66000,⟨1,(Q6 xs11).map eI,false⟩)]⟩) H (fun i13 x13 v13 I m k13 hxv13 hiv13 H N78=>?_) (fun v13 I m H=>?_)
    .unfold Ud at H
     refine wP ?_
     refine wt (ltT hiv13) ?_
     refine wG [.u 69 (.ix _ _ _ fun _=>Q0 eI (J0 hxv13)),.u 70 (.el _ _ _ fun _=>gm eI (W4 (J0 hxv13)))] fun _=>?_
     refine O0 H (fun H=>?_) fun H=>?_
     .refine wP ?_
      exact wT (J83 () H)
     .obtain⟨y14,h14,H⟩:=bB H
      refine wG [.c 85 (OS h14),.c 86 (Q08 j2.lic y14)] fun _=>?_
      refine O0 H (fun H=>?_) fun H=>?_
      .refine wG [.w 110 (wi .i64 rfl hiv13 q12.1)] fun _=>?_
       exact wT (N78 () H)
      .obtain⟨y15,h15,H⟩:=bB H
       obtain⟨y16,h16,H⟩:=bB H
       refine wG [.c 99 (L0F h15),.c 104 (V0W h16)] fun _=>?_
       refine O0 H (fun H=>?_) fun H=>?_
       .refine wP ?_
        replace H:=sI H;subst H
        exact wN [(6,.d),(7,.d),(8,.d)] [] [] [] [] [⟨_,nw_I y16.1⟩]
       .refine wG [.w 110 (wi .i64 rfl hiv13 q12.1)] fun _=>?_
        exact wT (N78 () H)
    .unfold Vi at H
     refine wP ?_
     refine wf (ltF (Q6 xs11).length) ?_
     refine wP ?_
     exact wT (J83 () H)
noncomputable def Q0j:L :=
 lf Tryz.prog VT [] [] [] [] [] [] []
def Qq(nodes3:List Int)(x5:Int)(i5:Nat)(_:Unit)(k5:Unit->Option Bool):Option Bool :=
 (cutL nodes3 none (some (i5:Int))).bind fun xs6=>(U3 xs6 x5).bind fun b7=>bif b7 then(some false)else(k5 ())
def Uq(t1:Topo)(j2:Job)(nodes3:List Int)(_:Unit):Option Bool :=
 (Qp t1 nodes3).bind fun b8=>some (b8&&((nodes3.length:Int)==j2.nodes))
def Vk(t1:Topo)(j2:Job)(nodes3:List Int):Option Bool :=
 rgl (Qq nodes3) (Uq t1 j2 nodes3) nodes3 0 ()
theorem W0j{t1:Topo}{j2:Job}{nodes3:List Int}{r:Bool}(H:Vk t1 j2 nodes3=some r):Snd Tryz.prog VT [X4 .rd t1,eJob j2,rV 1 (nodes3.map eI)] (.bool r) []:=by
 refine wS Q0j [.t 6] ?_
 unfold Vk at H
 refine wG [.u 10 (.ln _ _ fun _=>lm nodes3 eI)] fun q4=>?_
 refine wR (fun(i5:Nat) (v5:Unit)=>⟨[(2,rV 1 (nodes3.map eI)),(3,.ptr 3 0),(4,.ptr 4 0),(9,rV 1 (nodes3.map eI)),(10,iV (nodes3.length:Int)),(11,iV (i5:Int))],[],[(3,(X4 .rd t1).cells),(4,(eJob j2).cells)],[]⟩) H (fun i5 x5 v5 I m k5 hxv5 hiv5 H N20=>?_) (fun v5 I m H=>?_)
 .unfold Qq at H
  refine wP ?_
  refine wt (ltT hiv5) ?_
  obtain⟨xs6,h6,H⟩:=bB H
  obtain⟨b7,h7,H⟩:=bB H
  refine wG [.u 14 (.ix _ _ _ fun _=>Q0 eI (J0 hxv5)),.u 18 (.sc _ _ _ _ fun _=>L19 eI h6),.c 20 (O7 h7)] fun _=>?_
  refine O0 H (fun H=>?_) fun H=>?_
  .obtain rfl:=sI H
   exact wP (wE [(6,.d)])
  .refine wG [.w 21 (wi .i64 rfl hiv5 q4.1)] fun _=>?_
   exact wT (N20 () H)
 .unfold Uq at H
  refine wP ?_
  refine wf (ltF nodes3.length) ?_
  obtain⟨b8,h8,H⟩:=bB H
  refine wG [.c 24 (J03 h8),.g 27 [(b8,true)] (.ln _ _ fun _=>lm nodes3 eI)] fun _=>?_
  replace H:=sI H;subst H
  exact wE [(6,.d)]
noncomputable def LP:L :=
 lf Tryz.prog L0z [] [(39,1)] [] [] [] [(7,[],[14],[0,2,6,12,14,16,18,5,9,11,20,22,24,26],15)] []
def Zb(j2:Job)(from3 to4 x10:Int)(_:Nat)(v10:(List (List Pt)))(k10:(List (List Pt))->Option (Room×Bool)):Option (Room×Bool) :=
 (idx v10 x10).bind fun e11=>(Lp e11 from3 to4 j2.need).bind fun y12=>bif (!y12.2)then(some ((Room.mk (Topo.mk [] []) [] [] []),false))else(k10 (v10.set x10.toNat y12.1))
def Ja(j2:Job)(from3 to4:Int)(y8:Room)(v10:(List (List Pt))):Option (Room×Bool) :=
 (Lp y8.lics from3 to4 j2.lic).bind fun y13=>bif (!y13.2)then(some ((Room.mk (Topo.mk [] []) [] [] []),false))else(some ((Room.mk y8.topo y8.up v10 y13.1),true))
def Q5(r1:Room)(j2:Job)(from3 to4:Int)(nodes5:List Int):Option (Room×Bool) :=
 (Ou r1).bind fun b6=>(bif ((!b6)||(!(X8 j2)))then some default else(Vk r1.topo j2 nodes5)).bind fun b7=>bif (((!b6)||(!(X8 j2)))||(!b7))then(some ((Room.mk (Topo.mk [] []) [] [] []),false))else((Lz r1).bind fun y8=>rgl (Zb j2 from3 to4) (Ja j2 from3 to4 y8) nodes5 0 y8.profs)
theorem Xn{r1:Room}{j2:Job}{from3 to4:Int}{nodes5:List Int}{r:Room×Bool}(H:Q5 r1 j2 from3 to4 nodes5=some r):Snd Tryz.prog L0z [V9 .rd r1,eJob j2,iV from3,iV to4,rV 1 (nodes5.map eI),.fn Yo []] (.tup [V9 .nw r.1,.bool r.2]) []:=by
 refine wS LP [.c 12 5 true,.t 13] ?_
 unfold Q5 at H
 obtain⟨b6,h6,H⟩:=bB H
 obtain⟨b7,h7,H⟩:=bB H
 refine wG [.c 22 (XV h6),.g 26 [((!b6),false)] (.call _ _ _ _ _ (AEs.refl _) (fun _=>YM j2)),.g 34 [(_,false)] (.call _ _ _ _ _ (AEs.refl _) (fun q=>W0j (bF q.1 h7)))] fun _=>?_
 refine O0 H (fun H=>?_) fun H=>?_
 .refine wP ?_
  replace H:=sI H;subst H
  exact wN [(12,.d),(13,.d)] [(12,[.n 1,.n 4,.n 1,.n 1,.n 4])] [] [] [] [⟨_,nw_I ([]:List Int)⟩,⟨_,J1 ([]:List Node)⟩,⟨_,Yg ([]:List Bool)⟩,⟨_,X7 ([]:List (List Pt))⟩,⟨_,Oj ([]:List Pt)⟩]
 .obtain⟨y8,h8,H⟩:=bB H
  refine wG [.c 39 (Z0G h8),.u 41 (.ln _ _ fun _=>lm nodes5 eI)] fun q9=>?_
  refine wR (fun(i10:Nat) (v10:(List (List Pt)))=>⟨[(2,iV from3),(3,iV to4),(5,.fn Yo []),(7,.ptr 7 0),(12,.ptr 12 0),(14,.ptr 14 0),(40,rV 1 (nodes5.map eI)),(41,iV (nodes5.length:Int)),(42,iV (i10:Int))],[],[(7,(eJob j2).cells),(12,[.nl,.nl,.nl,.nl,.nl]),(14,[nV 1 (y8.topo.parents.map eI),nV 4 (y8.topo.nodes.map Y1),nV 1 (y8.up.map eBo),.sref 40000,nV 4 (y8.lics.map ePt)])],[(40000,⟨1,v10.map (Y2 .nw),false⟩)]⟩) H (fun i10 x10 v10 I m k10 hxv10 hiv10 H N32=>?_) (fun v10 I m H=>?_)
  .unfold Zb at H
   refine wP ?_
   refine wt (ltT hiv10) ?_
   obtain⟨e11,h11,H⟩:=bB H
   obtain⟨y12,h12,H⟩:=bB H
   refine wG [.u 44 (.ix _ _ _ fun _=>Q0 eI (J0 hxv10)),.u 51 (.ix _ _ _ fun _=>Q0 (Y2 .nw) h11),.u 52 (.el _ _ _ fun _=>gm (Y2 .nw) (W4 h11)),.u 57 (.clsr _ _ _ _ _ (AEs.refl _) (by kernel_rfl) (fun _=>Y04 h12))] fun _=>?_
   refine O0 H (fun H=>?_) fun H=>?_
   .refine wP ?_
    replace H:=sI H;subst H
    exact wN [(12,.d),(13,.d)] [(12,[.n 1,.n 4,.n 1,.n 1,.n 4])] [] [] [] [⟨_,nw_I ([]:List Int)⟩,⟨_,J1 ([]:List Node)⟩,⟨_,Yg ([]:List Bool)⟩,⟨_,X7 ([]:List (List Pt))⟩,⟨_,Oj ([]:List Pt)⟩]
   .refine wG [.u 67 (.ix _ _ _ fun _=>Q0 (Y2 .nw) h11),.u 1000000 (.sto _ _ _ (Y2 .nw y12.1) _ (fun _=>gm (Y2 .nw) (W4 h11)) (fun _=>MC ..)),.w 68 (wi .i64 rfl hiv10 q9.1)] fun _=>?_
    exact wT (N32 _ H)
  .unfold Ja at H
   refine wP ?_
   refine wf (ltF nodes5.length) ?_
   obtain⟨y13,h13,H⟩:=bB H
   refine wG [.u 77 (.clsr _ _ _ _ _ (AEs.refl _) (by kernel_rfl) (fun _=>Y04 h13))] fun _=>?_
   refine O0 H (fun H=>?_) fun H=>?_
   .refine wP ?_
    replace H:=sI H;subst H
    exact wN [(12,.d),(13,.d)] [(12,[.n 1,.n 4,.n 1,.n 1,.n 4])] [] [] [] [⟨_,nw_I ([]:List Int)⟩,⟨_,J1 ([]:List Node)⟩,⟨_,Yg ([]:List Bool)⟩,⟨_,X7 ([]:List (List Pt))⟩,⟨_,Oj ([]:List Pt)⟩]
   .refine wP ?_
    replace H:=sI H;subst H
    exact wN [(12,.d),(13,.d)] [(12,[.d,.d,.d,.f,.d])] [] [40000] [] [⟨_,nw_I y8.topo.parents⟩,⟨_,J1 y8.topo.nodes⟩,⟨_,Yg y8.up⟩,⟨_,X7 v10⟩,⟨_,Oj y13.1⟩]
noncomputable def X0O:L :=
 lf Tryz.prog U0i [] [] [] [] [] [] []
def WH(r1:Room)(j2:Job)(at3:Int)(nodes4:List Int):Option (Room×Bool) :=
 bif (!(M4 at3))then(some ((Room.mk (Topo.mk [] []) [] [] []),false))else((Q5 r1 j2 at3 (w64 (at3+j2.wall)) nodes4).bind fun y5=>some (y5.1,y5.2))
theorem Y0P{r1:Room}{j2:Job}{at3:Int}{nodes4:List Int}{r:Room×Bool}(H:WH r1 j2 at3 nodes4=some r):Snd Tryz.prog U0i [V9 .rd r1,eJob j2,iV at3,rV 1 (nodes4.map eI)] (.tup [V9 .nw r.1,.bool r.2]) []:=by
 refine wS X0O [.c 8 5 true,.t 9] ?_
 unfold WH at H
 refine wG [.c 11 (Xg at3)] fun _=>?_
 refine O0 H (fun H=>?_) fun H=>?_
 .refine wP ?_
  replace H:=sI H;subst H
  exact wN [(8,.d),(9,.d)] [(8,[.n 1,.n 4,.n 1,.n 1,.n 4])] [] [] [] [⟨_,nw_I ([]:List Int)⟩,⟨_,J1 ([]:List Node)⟩,⟨_,Yg ([]:List Bool)⟩,⟨_,X7 ([]:List (List Pt))⟩,⟨_,Oj ([]:List Pt)⟩]
 .obtain⟨y5,h5,H⟩:=bB H
  refine wG [.c 22 (Xn h5)] fun _=>?_
  replace H:=sI H;subst H
  exact wN [(8,.d),(9,.d)] [(8,[])] [] [] [] [⟨_,nw_I y5.1.topo.parents⟩,⟨_,J1 y5.1.topo.nodes⟩,⟨_,Yg y5.1.up⟩,⟨_,X7 y5.1.profs⟩,⟨_,Oj y5.1.lics⟩]
theorem Md{j:Job}:X1 j=true↔(1<=j.id/\j.id<=999)/\(0<=j.prio/\j.prio<=999)/\(1<=j.nodes/\j.nodes<=24)/\W0 j.need=true/\W0 j.lic=true/\(1<=j.wall/\j.wall<=1000000)/\(0<=j.level/\j.level<=24):=by
 unfold X1
 by_cases h:(1<=j.id/\j.id<=999)/\(0<=j.prio/\j.prio<=999)/\(1<=j.nodes/\j.nodes<=24)
 .rw[show((((((decide (j.id<1))||(decide (999<j.id)))||(decide (j.prio<0)))||(decide (999<j.prio)))||(decide (j.nodes<1)))||(decide (24<j.nodes)))=false by simp;omega]
  simp only[yM,yD,yO]
  constructor
  .intro q;exact⟨h.1,h.2.1,h.2.2,q.1.1.1.1.1,q.1.1.1.1.2,⟨q.1.1.1.2,q.1.1.2⟩,q.1.2,q.2⟩
  .intro q;exact⟨⟨⟨⟨⟨q.2.2.2.1,q.2.2.2.2.1⟩,q.2.2.2.2.2.1.1⟩,q.2.2.2.2.2.1.2⟩,q.2.2.2.2.2.2.1⟩,q.2.2.2.2.2.2.2⟩
 .rw[show((((((decide (j.id<1))||(decide (999<j.id)))||(decide (j.prio<0)))||(decide (999<j.prio)))||(decide (j.nodes<1)))||(decide (24<j.nodes)))=true by
   simp only[Bool.or_eq_true,yO];omega]
  simp only[yN]
  exact Ui fun q=>h ⟨q.1,q.2.1,q.2.2.1⟩
theorem XM(j:Job):X8 j=X1 j:=by
 rw[Bool.eq_iff_iff,Md]
 unfold X8 Y0
 simp only[Wp,yD,yO,and_assoc]
structure RoomP(r:Room):Prop where
 topo:TopoP r.topo
 up:r.up.length=r.topo.nodes.length
 profs:r.profs.length=r.topo.nodes.length
 prof:∀p∈r.profs,ProfP p
 lics:ProfP r.lics
noncomputable def roomOk(r:Room):Bool:=topoOk r.topo&&decide (r.up.length=r.topo.nodes.length)&&decide (r.profs.length=r.topo.nodes.length)&&profOk r.lics&&r.profs.all profOk
theorem YN{r:Room}:roomOk r=true↔RoomP r:=by
 unfold roomOk
 simp only[yD,yO,List.all_eq_true,MM,XN]
 exact⟨fun h=>⟨h.1.1.1.1,h.1.1.1.2,h.1.1.2,h.2,h.1.2⟩,fun h=>⟨⟨⟨⟨h.topo,h.up⟩,h.profs⟩,h.lics⟩,h.prof⟩⟩
theorem Z14(a b:Nat):((a:Int)!=(b:Int)) = !decide (a=b):=by
 by_cases h:a=b
 .simp[h]
 .rw[show((a:Int)!=(b:Int))=true by simp;omega];simp[h]
theorem Mk(r:Room):Ym r=some (roomOk r):=by
 unfold Ym roomOk
 rw[Vr,bS]
 simp only[Z14,Vb]
 rw[Wj (r:=some false) (p:=fun p=>!profOk p) (fun x _ i k=>by unfold XO;rw[Vb,bS]),← List.not_all_eq_any_not]
 cases topoOk r.topo<;>cases decide (r.up.length=r.topo.nodes.length)<;>cases decide (r.profs.length=r.topo.nodes.length)<;>cases profOk r.lics<;>cases r.profs.all profOk<;>rfl
theorem VV(r:Room):Ou r=some (roomOk r):=by
 unfold Ou roomOk
 rw[JU,Vr,bS]
 simp only[Z14]
 rw[Wj (r:=some false) (p:=fun p=>!profOk p) (fun x _ i k=>by unfold QQ;rw[QV,Vb,bS]),← List.not_all_eq_any_not]
 unfold UQ
 rw[QV,Vb,bS]
 cases topoOk r.topo<;>cases decide (r.up.length=r.topo.nodes.length)<;>cases decide (r.profs.length=r.topo.nodes.length)<;>cases profOk r.lics<;>cases r.profs.all profOk<;>rfl
structure RoomS(r:Room):Prop where
 up:r.up.length<=1048576
 par:r.topo.parents.length<=1048576
 nodes:r.topo.nodes.length<=1048576
 profs:r.profs.length<=1048576
 prof:∀p∈r.profs,p.length<=1048576
 lics:r.lics.length<=1048576
theorem RoomP.small{r:Room}(h:RoomP r):RoomS r :=
  ⟨by have:=h.up;have:=h.topo.nodes;omega,by have:=h.topo.tree.le;omega,by have:=h.topo.nodes;omega,by have:=h.profs;have:=h.topo.nodes;omega,fun p hp=>by have:=(h.prof p hp).le;omega,by have:=h.lics.le;omega⟩
theorem X06{r:Room}(h:RoomS r):Ov r=some r:=by
 unfold Ov Qv
 have:=h.up;have:=h.lics;have:=h.par;have:=h.nodes;have:=h.profs
 rw[M0 (by simp;omega),bS,M0 (by simp;omega),bS,bS,M0 (by simp;omega),bS,M0 (by simp;omega),bS]
 rw[U5 (bd:=Mt) (bs:=24) (p:=fun _=>true) (f:=id) (fun x hx i b k=>by
  have:=h.prof x hx
  unfold Mt Qv
  rw[M0 (by simp;omega),bS,bS];simp) (by simp;omega)]
 unfold QI
 simp[List.filter_eq_self.2]
theorem Y0G{r:Room}(h:RoomS r):Lz r=some r:=by
 unfold Lz Xf Vf Up
 have:=h.up;have:=h.lics;have:=h.par;have:=h.nodes;have:=h.profs
 rw[M0 (by simp;omega),bS,bS,M0 (by simp;omega),bS,bS,M0 (by simp;omega),bS,M0 (by simp;omega),bS,bS]
 rw[U5 (bd:=Vp) (bs:=24) (p:=fun _=>true) (f:=id) (fun x hx i b k=>by
  have:=h.prof x hx
  unfold Vp Up
  rw[M0 (by simp;omega),bS,bS];simp) (by simp;omega)]
 unfold QD
 simp[List.filter_eq_self.2]
theorem M19{α:Type}{l:List α}{i:Nat}(h:i<=l.length):cutL l none (some (i:Int))=some (l.take i):=by
 unfold cutL bhi blo
 simp[h]
theorem O0Y{l:List Int}{i:Nat}{x:Int}(hx:l[i]?=some x):(l.take (i+1)).Nodup↔(l.take i).Nodup/\x∉l.take i:=by
 obtain⟨hi,rfl⟩:=yB hx
 rw[List.take_succ_eq_append_getElem hi,List.nodup_append]
 constructor
 .intro h;exact⟨h.1,fun hm=>h.2.2 _ hm _ (List.mem_singleton.2 rfl) rfl⟩
 .intro h;exact⟨h.1,by simp,fun a ha b hb e=>by rw[List.mem_singleton.1 hb]at e;subst e;exact h.2 ha⟩
theorem M0Y{γ:Type}{bd:Int->Nat->Unit->(Unit->Option γ)->Option γ}{kk:Unit->Option γ}{r:Option γ}{l:List Int}
  (hb:∀i x k,i<=l.length->bd x i () k=bif (l.take i).contains x then r else k ()):rgl bd kk l 0 ()=bif decide l.Nodup then kk ()else r:=by
 refine Y8 (fun i (_:Unit)=>(l.take i).Nodup) (fun o=>o=bif decide l.Nodup then kk ()else r) (fun i x b k hx hI hk=>?_) (fun b hI=>?_) (by simp)
 .have hil:=(yB hx).1
  rw[hb i x k (by omega)]
  cases hc:(l.take i).contains x with
  |true =>
   have hm:=List.contains_iff_mem.1 hc
   have:¬ l.Nodup:=fun q=>((O0Y hx).1 (q.sublist (List.take_sublist _ _))).2 hm
   simp[this]
  |false=>exact hk () ((O0Y hx).2 ⟨hI,fun hm=>by rw[List.contains_iff_mem.2 hm]at hc;cases hc⟩)
 .rw[List.take_of_length_le (yV _)]at hI
  simp[hI]
noncomputable def diffOk(r:Room)(j:Job)(nodes:List Int):Bool:=roomOk r&&X1 j&&decide ((nodes.length:Int)=j.nodes)&&Q4 r.topo nodes&&decide nodes.Nodup
theorem Z06(r:Room)(j:Job)(nodes:List Int):Wv r j nodes=some (diffOk r j nodes):=by
 unfold Wv diffOk
 rw[Mk,bS]
 have e:((nodes.length:Int)!=j.nodes) = !decide ((nodes.length:Int)=j.nodes):=by
  by_cases h:(nodes.length:Int)=j.nodes<;>simp[h]
 simp only[e,Lt]
 rw[M0Y (r:=some false) (fun i x k hi=>by unfold UI;rw[M19 hi,bS,W8,bS])]
 cases roomOk r<;>cases X1 j<;>cases decide ((nodes.length:Int)=j.nodes)<;>cases Q4 r.topo nodes<;>cases decide nodes.Nodup<;>rfl
theorem O0j{t:Topo}(ht:t.nodes.length<=1048576)(j:Job)(nodes:List Int):Vk t j nodes=some (decide ((nodes.length:Int)=j.nodes)&&Q4 t nodes&&decide nodes.Nodup):=by
 unfold Vk
 rw[M0Y (r:=some false) (fun i x k hi=>by unfold Qq;rw[M19 hi,bS,Ul,bS])]
 unfold Uq
 rw[Z04 t nodes ht,bS]
 have e:((nodes.length:Int)==j.nodes)=decide ((nodes.length:Int)=j.nodes):=by
  by_cases h:(nodes.length:Int)=j.nodes<;>simp[h]
 rw[e]
 cases decide ((nodes.length:Int)=j.nodes)<;>cases Q4 t nodes<;>cases decide nodes.Nodup<;>rfl
def noRoom:Room×Bool:=(⟨⟨[],[]⟩,[],[],[]⟩,false)
def takeRoom(r:Room)(need lic:Vec)(from_ to_:Int)(nodes:List Int):Option (Room×Bool) :=
 rgl (fun x _ v k=>(idx v x).bind fun e=>(La e from_ to_ need).bind fun y=>bif !y.2 then some noRoom else k (v.set x.toNat y.1))
  (fun v=>(La r.lics from_ to_ lic).bind fun y=>bif !y.2 then some noRoom else some (⟨r.topo,r.up,v,y.1⟩,true)) nodes 0 r.profs
theorem W0k{r:Room}(hr:RoomP r)(need lic:Vec)(from_ to_:Int){nodes:List Int}(hn:Q4 r.topo nodes=true) :
  ∃q,takeRoom r need lic from_ to_ nodes=some q/\(q.2=true->RoomP q.1/\q.1.topo=r.topo/\q.1.up=r.up):=by
 have hn:=(Q3.1 hn).2
 unfold takeRoom
 refine Y8 (fun i (v:List (List Pt))=>v.length=r.topo.nodes.length/\∀p∈v,ProfP p) (fun o=>∃q:Room×Bool,o=some q/\(q.2=true->RoomP q.1/\q.1.topo=r.topo/\q.1.up=r.up)) (fun i x v k hx hI hk=>?_) (fun v hI=>?_) ⟨hr.profs,hr.prof⟩
 .have hx':=hn x (yE hx)
  obtain⟨e,q1,q2⟩:=Qf (l:=v) (i:=x) hx'.1 (by rw[hI.1];exact hx'.2)
  obtain⟨y,h1,h2⟩:=(X0k e from_ to_ need).2
  rw[q1,bS,h1,bS]
  cases hy:y.2 with
  |false=>exact⟨noRoom,rfl,fun h=>by cases h⟩
  |true =>
   refine hk _ ⟨by simp[hI.1],fun p hp=>?_⟩
   rcases List.mem_or_eq_of_mem_set hp with hp|rfl
   .exact hI.2 p hp
   .exact h2 hy
 .obtain⟨y,h1,h2⟩:=(X0k r.lics from_ to_ lic).2
  rw[h1,bS]
  cases hy:y.2 with
  |false=>exact⟨noRoom,rfl,fun h=>by cases h⟩
  |true=>exact⟨_,rfl,fun _=>⟨⟨hr.topo,hr.up,hI.1,hI.2,h2 hy⟩,rfl,rfl⟩⟩
theorem QO(r:Room)(j:Job)(t:Int)(nodes:List Int):Zj r j t nodes=bif diffOk r j nodes&&time t then takeRoom r j.need j.lic t (w64 (t+j.wall)) nodes else some noRoom:=by
 unfold Zj
 rw[Z06,bS,Qd]
 cases hd:diffOk r j nodes with
 |false=>rfl
 |true =>
  cases time t with
  |false=>rfl
  |true =>
   have hr:roomOk r=true:=by unfold diffOk at hd;simp only[yD]at hd;exact hd.1.1.1.1
   simp only[yL,Bool.or_self,yM,Bool.and_self,yN]
   rw[X06 (YN.1 hr).small,bS]
   rfl
theorem Yf{t:Topo}{l:List Int}(h:Q4 t l=true)(hl:l.length<=1048576)(s:Nat):Qe t l (s:Int)=some (l.filter fun n=>hasUp t n s):=by
 unfold Qe
 rw[U5 (bs:=8) (p:=fun n=>hasUp t n s) (f:=fun n=>n) (fun x hx i b k=>by
  unfold ME
  exact M18 h hx s _) (by simp;omega)]
 unfold UT
 simp
def rise(n:Int):List Int->List Int
 |[]=>[n]
 |x::l=>if n<x then n::x::l else x::rise n l
theorem L0l(n:Int):∀l:List Int,(rise n l).length=l.length+1
 |[]=>rfl
 |x::l=>by
  unfold rise
  split
  .rfl
  .simp[L0l n l]
theorem M0c(n m:Int):∀l:List Int,m∈rise n l↔m=n\/m∈l
 |[]=>by simp[rise]
 |x::l=>by
  unfold rise
  split
  .simp
  .simp only[List.mem_cons,M0c n m l]
   constructor<;>rintro(h|h|h)<;>simp[h]
theorem J1I(n x:Int)(i:Nat)(v:Bool×List Int)(k:Bool×List Int->Option (List Int)) :
  Lj n x i v k=bif (!v.1)&&decide (n<x)then(appL 8 v.2 [n]).bind fun xs5=>(appL 8 xs5 [x]).bind fun xs7=>k (true,xs7)else(appL 8 v.2 [x]).bind fun xs7=>k (v.1,xs7):=rfl
theorem Y0Z{l:List Int}(n:Int)(hl:l.length<=1048576):Uv l n=some (rise n l):=by
 have key:∀(l:List Int) (i:Nat) (acc:List Int),acc.length+l.length<=1048576 ->
   rgl (Lj n) (Ve n) l i (false,acc)=some (acc++rise n l):=by
  have key2:∀(l:List Int) (i:Nat) (acc:List Int),acc.length+l.length<=1048577->rgl (Lj n) (Ve n) l i (true,acc)=some (acc++l):=by
   intro l
   induction l with
   |nil=>intro i acc _;rw[rgl];unfold Ve Ue;simp
   |cons x l ih =>
    intro i acc h
    simp only[yT]at h
    rw[rgl,J1I]
    simp only[yL,Bool.false_and,yM]
    rw[M0 (by simp;omega),bS,ih _ _ (by simp;omega)]
    simp
  intro l
  induction l with
  |nil =>
   intro i acc h
   rw[rgl]
   unfold Ve Ue
   simp only[Bool.not_false,yN]
   simp only[List.length_nil]at h
   rw[M0 (by simp;omega)]
   rfl
  |cons x l ih =>
   intro i acc h
   simp only[yT]at h
   rw[rgl,J1I]
   unfold rise
   by_cases hx:n<x
   .simp only[Bool.not_false,Bool.true_and,hx,decide_true,yN,yb]
    rw[M0 (by simp;omega),bS,M0 (by simp;omega),bS,key2 _ _ _ (by simp;omega)]
    simp
   .simp only[Bool.not_false,Bool.true_and,hx,decide_false,yM,yc]
    rw[M0 (by simp;omega),bS,ih _ _ (by simp;omega)]
    simp
 unfold Uv
 rw[key l 0 [] (by simpa using hl)]
 rfl
def O0e(n:Int)(v ys:List Int):List Int:=ys.foldl (fun v x=>if(v.length:Int)<n then rise x v else v) v
theorem Z0Q(n:Int):∀(ys v:List Int),(v.length:Int)<=n->((O0e n v ys).length:Int)=min n ((v.length:Int)+(ys.length:Int))
 |[],v,h=>by simp only[O0e,List.foldl_nil,List.length_nil];omega
 |y::ys,v,h=>by
  unfold O0e
  rw[List.foldl_cons]
  by_cases hv:(v.length:Int)<n
  .have:=Z0Q n ys (rise y v) (by rw[L0l];omega)
   unfold O0e at this
   rw[yd hv,this,L0l]
   simp only[yT];omega
  .have:=Z0Q n ys v h
   unfold O0e at this
   rw[ye hv,this]
   simp only[yT];omega
theorem O1f(n m:Int):∀(ys v:List Int),m∈O0e n v ys->m∈v\/m∈ys
 |[],v,h=>.inl h
 |y::ys,v,h=>by
  unfold O0e at h
  rw[List.foldl_cons]at h
  rcases O1f n m ys _ h with h|h
  .split at h
   .rcases(M0c y m v).1 h with h|h
    .exact .inr (by simp[h])
    .exact .inl h
   .exact .inl h
  .exact .inr (yH _ h)
def U1D(Q:Nat->Prop)(m:Nat)(v:Int):Prop:=(v<0->∀s,s<m->¬ Q s)/\(0<=v->∃s:Nat,v=(s:Int)/\s<m/\Q s)
def Y14(t:Topo)(l taken:List Int)(s:Nat):Prop:=(l.filter fun n=>hasUp t n s)≠[]/\kids t.parents (s:Int)=[]/\(s:Int)∉taken
theorem O1r{t:Topo}{l:List Int}(h:Q4 t l=true)(hl:l.length<=1048576)(taken:List Int):∃v,Ml t l taken=some v/\U1D (Y14 t l taken) t.parents.length v:=by
 have T:=(Q3.1 h).1
 unfold Ml
 refine Y8 (l0:=t.parents) (fun i (v:Int)=>U1D (Y14 t l taken) i v) (fun o=>∃v,o=some v/\U1D (Y14 t l taken) t.parents.length v) (fun i x v k hx hI hk=>?_) (fun v hI=>⟨v,rfl,hI⟩) ⟨fun _ s hs=>by omega,fun h=>by omega⟩
 have hi:=(yB hx).1
 have skip:¬ Y14 t l taken i->U1D (Y14 t l taken) (i+1) v:=fun hq=>by
  refine⟨fun hv s hs=>?_,fun hv=>?_⟩
  .by_cases e:s=i
   .subst e;exact hq
   .exact hI.1 hv s (by omega)
  .obtain⟨s,e,hs,q⟩:=hI.2 hv
   exact⟨s,e,by omega,q⟩
 have take:Y14 t l taken i->U1D (Y14 t l taken) (i+1) (i:Int):=fun hq=>⟨fun hv=>by omega,fun _=>⟨i,rfl,by omega,hq⟩⟩
 unfold Wt
 rw[Yf h hl i,bS]
 by_cases h0:(l.filter fun n=>hasUp t n i)=[]
 .simp only[h0,List.length_nil,Int.natCast_zero,beq_self_eq_true,yN,bS,Bool.true_or]
  exact hk v (skip fun q=>q.1 h0)
 .have hne:(((l.filter fun n=>hasUp t n i).length:Int)==0)=false:=by
   rw[beq_eq_false_iff_ne]
   have:=List.length_pos_iff.2 h0
   omega
  rw[hne,yM,Ll t (i:Int) (by have:=T.tree.le;omega),bS]
  by_cases hkd:kids t.parents (i:Int)=[]
  .simp only[hkd,List.map_nil,List.length_nil,Int.natCast_zero,Int.lt_irrefl,decide_false,Bool.or_self,yM,W8,bS,Bool.false_or]
   cases ht:taken.contains (i:Int)with
   |true =>
    rw[yN]
    exact hk v (skip fun q=>q.2.2 (List.contains_iff_mem.1 ht))
   |false =>
    have hq:Y14 t l taken i:=⟨h0,hkd,fun hm=>by rw[List.contains_iff_mem.2 hm]at ht;cases ht⟩
    rw[yM]
    by_cases hv:v<0
    .simp only[hv,decide_true,yN,bS,Bool.true_or]
     exact hk _ (take hq)
    .obtain⟨s,e,hs,q⟩:=hI.2 (by omega)
     subst e
     rw[show decide ((s:Int)<0)=false by simp,yM,Yf h hl s,bS,Bool.false_or]
     cases decide (((l.filter fun n=>hasUp t n s).length:Int)<((l.filter fun n=>hasUp t n i).length:Int))with
     |true=>exact hk _ (take hq)
     |false=>exact hk _ ⟨fun hv=>by omega,fun _=>⟨s,rfl,by omega,q⟩⟩
  .have hpos:decide (0<(((kids t.parents (i:Int)).map fun(n:Nat)=>(n:Int)).length:Int))=true:=by
    have:=List.length_pos_iff.2 hkd
    simp;omega
   simp only[hpos,Bool.or_true,yN,bS,Bool.true_or]
   exact hk v (skip fun q=>hkd q.2.1)
section
variable{α β γ:Type}
theorem J0l{bd:α->Nat->β->(β->Option γ)->Option γ}{kk:β->Option γ}{l0:List α}{f:β->Nat->β}(I:Nat->β->Prop)(hI:∀j b,j<l0.length->I j b->I (j+1) (f b j))
  (h:∀j x b k,l0[j]?=some x->I j b->bd x j b k=k (f b j)) {b:β} (h0:I 0 b):rgl bd kk l0 0 b=kk ((List.range l0.length).foldl f b)/\I l0.length ((List.range l0.length).foldl f b):=by
 have key:∀(m i:Nat) (b:β),l0.length-i=m->i<=l0.length->I i b->rgl bd kk (l0.drop i) i b=kk ((List.range' i m).foldl f b)/\I l0.length ((List.range' i m).foldl f b):=by
  intro m
  induction m with
  |zero =>
   intro i b hm hi hb
   have:i=l0.length:=by omega
   subst this
   rw[List.drop_length]
   exact⟨rfl,hb⟩
  |succ m ih =>
   intro i b hm hi hb
   have h1:i<l0.length:=by omega
   rw[List.drop_eq_getElem_cons h1,rgl,h i _ b _ (yA h1) hb,List.range'_succ,List.foldl_cons]
   exact ih (i+1) _ (by omega) h1 (hI i b h1 hb)
 have:=key l0.length 0 b (by simp) (Nat.zero_le _) h0
 rwa [List.drop_zero,← List.range_eq_range']at this
end
def cntU(t:Topo)(l:List Int)(s:Nat):Nat:=(l.filter fun n=>hasUp t n s).length
def inR(i:Nat)(v:Int):Prop:=-1<=v/\v<(i:Int)
def Ww(t:Topo)(l:List Int)(n level v:Int)(s:Nat):Int :=
 if(cntU t l s:Int)<n\/level<lev t s then v
 else if v<0\/lev t s<lev t v.toNat\/(lev t s=lev t v.toNat/\(cntU t l s:Int)<cntU t l v.toNat)then(s:Int)else v
def swF(t:Topo)(l:List Int)(n level:Int):Int:=(List.range t.parents.length).foldl (Ww t l n level) (-1)
theorem M1d{t:Topo}{l:List Int}(h:Q4 t l=true)(hl:l.length<=1048576)(n level:Int):Zr t l n level=some (swF t l n level)/\inR t.parents.length (swF t l n level):=by
 have T:=(Q3.1 h).1
 unfold Zr swF
 refine(J0l (f:=Ww t l n level) inR (fun j v hj hv=>?_) (fun j x v k hx hv=>?_) ⟨by omega,by omega⟩).imp (fun e=>e) fun e=>e
 .obtain⟨v1,v2⟩:=hv
  unfold Ww inR
  split
  .omega
  .split<;>omega
 .have hj:=(yB hx).1
  obtain⟨v1,v2⟩:=hv
  unfold Mx Ww
  rw[Yf h hl j,bS,Zf T hj,bS]
  rw[show(l.filter fun n=>hasUp t n j).length=cntU t l j from rfl]
  by_cases h1:(cntU t l j:Int)<n\/level<lev t j
  .rw[yd h1,show(decide ((cntU t l j:Int)<n)||decide (level<lev t j))=true by simpa using h1,yN]
  .rw[ye h1,show(decide ((cntU t l j:Int)<n)||decide (level<lev t j))=false by
    rw[Bool.eq_false_iff];intro q;exact h1 (by simpa using q),yM]
   by_cases hv0:v<0
   .rw[yd (.inl hv0),show decide (v<0)=true by simpa using hv0]
    rfl
   .obtain⟨m,rfl⟩:∃m:Nat,v=(m:Int):=⟨v.toNat,by omega⟩
    have hm:m<t.parents.length:=by omega
    rw[show decide ((m:Int)<0)=false by simp]
    simp only[yM,Bool.false_or]
    rw[Zf T hm,bS,yZ]
    by_cases h2:lev t j<lev t m
    .rw[yd (.inr (.inl h2)),show decide (lev t j<lev t m)=true by simpa using h2]
     rfl
    .rw[show decide (lev t j<lev t m)=false by simpa using h2,yM,bS,yM]
     by_cases h3:lev t j=lev t m
     .rw[show(lev t j==lev t m)=true by simpa using h3,yN,Yf h hl m,bS]
      rw[show(l.filter fun n=>hasUp t n m).length=cntU t l m from rfl]
      by_cases h4:(cntU t l j:Int)<cntU t l m
      .rw[yd (.inr (.inr ⟨h3,h4⟩)),show decide ((cntU t l j:Int)<(cntU t l m:Int))=true by simpa using h4]
       rfl
      .rw[ye (by omega),show decide ((cntU t l j:Int)<(cntU t l m:Int))=false by simpa using h4]
       rfl
     .rw[show(lev t j==lev t m)=false by simpa using h3,yM,bS,ye (by omega)]
      rfl
def QL(t:Topo)(l taken:List Int)(v:Int)(s:Nat):Int :=
 if cntU t l s=0\/kids t.parents (s:Int)≠[]\/(s:Int)∈taken then v
 else if v<0\/cntU t l v.toNat<cntU t l s then(s:Int)else v
def Z0L(t:Topo)(l taken:List Int):Int:=(List.range t.parents.length).foldl (QL t l taken) (-1)
theorem W1o{t:Topo}{l:List Int}(h:Q4 t l=true)(hl:l.length<=1048576)(taken:List Int):Ml t l taken=some (Z0L t l taken)/\inR t.parents.length (Z0L t l taken):=by
 have T:=(Q3.1 h).1
 unfold Ml Z0L
 refine(J0l (f:=QL t l taken) inR (fun j v hj hv=>?_) (fun j x v k hx hv=>?_) ⟨by omega,by omega⟩).imp (fun e=>e) fun e=>e
 .obtain⟨v1,v2⟩:=hv
  unfold QL inR
  split
  .omega
  .split<;>omega
 .have hj:=(yB hx).1
  obtain⟨v1,v2⟩:=hv
  unfold Wt QL
  rw[Yf h hl j,bS]
  rw[show(l.filter fun n=>hasUp t n j).length=cntU t l j from rfl]
  by_cases h0:cntU t l j=0
  .rw[yd (.inl h0),show((cntU t l j:Int)==0)=true by simpa using h0]
   rfl
  .rw[show((cntU t l j:Int)==0)=false by simpa using h0,yM,Ll t (j:Int) (by have:=T.tree.le;omega),bS]
   by_cases hk:kids t.parents (j:Int)=[]
   .simp only[hk,List.map_nil,List.length_nil,Int.natCast_zero,Int.lt_irrefl,decide_false,Bool.or_self,yM,W8,bS,Bool.false_or]
    by_cases ht:(j:Int)∈taken
    .rw[yd (.inr (.inr ht)),List.contains_iff_mem.2 ht,yN]
    .rw[ye (by rintro(q|q|q);exact h0 q;exact q rfl;exact ht q),show taken.contains (j:Int)=false by
      rw[Bool.eq_false_iff];exact fun q=>ht (List.contains_iff_mem.1 q),yM]
     by_cases hv0:v<0
     .rw[yd (.inl hv0),show decide (v<0)=true by simpa using hv0]
      rfl
     .obtain⟨m,rfl⟩:∃m:Nat,v=(m:Int):=⟨v.toNat,by omega⟩
      rw[show decide ((m:Int)<0)=false by simp,yM,Yf h hl m,bS,Bool.false_or,yZ]
      rw[show(l.filter fun n=>hasUp t n m).length=cntU t l m from rfl]
      by_cases h4:cntU t l m<cntU t l j
      .rw[yd (.inr h4),show decide ((cntU t l m:Int)<(cntU t l j:Int))=true by simpa using h4,yN]
      .rw[ye (by omega),show decide ((cntU t l m:Int)<(cntU t l j:Int))=false by simpa using h4,yM]
   .have hpos:decide (0<(((kids t.parents (j:Int)).map fun(n:Nat)=>(n:Int)).length:Int))=true:=by
     have:=List.length_pos_iff.2 hk
     simp;omega
    rw[yd (.inr (.inl hk))]
    simp only[hpos,Bool.or_true,yN,bS,Bool.true_or]
end
def lfOf(t:Topo)(x:Int):Nat:=match idx t.nodes x with
 |some e=>e.leaf.toNat
 |none=>0
theorem Q1o{t:Topo}{l:List Int}(h:Q4 t l=true){x:Int}(hx:x∈l):hasUp t x (lfOf t x)=true/\lfOf t x<t.parents.length/\kids t.parents (lfOf t x:Int)=[]:=by
 obtain⟨h1,h2⟩:=Q3.1 h
 obtain⟨e,q1,q2⟩:=Qf (l:=t.nodes) (i:=x) (h2 x hx).1 (h2 x hx).2
 obtain⟨a1,a2,a3,_⟩:=h1.node e (yE q2)
 have e1:lfOf t x=e.leaf.toNat:=by unfold lfOf;rw[q1]
 have e2:(lfOf t x:Int)=e.leaf:=by omega
 refine⟨?_,by omega,by rw[e2];exact a3⟩
 unfold hasUp
 rw[q1,e1]
 simp only[List.contains_iff_mem]
 exact List.mem_map.2 ⟨_,V0l _ _,rfl⟩
theorem W1f{α:Type}{r p q:α->Bool}:∀{l:List α},(∀x∈l,r x=true->p x=true\/q x=true)->(l.filter r).length<=(l.filter p).length+(l.filter q).length
 |[],_=>Nat.zero_le _
 |x::l,h=>by
  have ih:=W1f fun y hy=>h y (yH _ hy)
  have hx:=h x (yJ ..)
  cases hr:r x with
  |false=>cases hp:p x<;>cases hq:q x<;>simp[hr,hp,hq]<;>omega
  |true =>
   rcases hx hr with hp|hq
   .cases hq:q x<;>simp[hr,hp,hq]<;>omega
   .cases hp:p x<;>simp[hr,hp,hq]<;>omega
def cntT(t:Topo)(l taken:List Int):Nat:=(l.filter fun x=>taken.contains (lfOf t x:Int)).length
theorem Q1F{t:Topo}{l:List Int}(h:Q4 t l=true)(hl:l.length<=1048576){taken:List Int}(hc:cntT t l taken<l.length):∃m:Nat,Z0L t l taken=(m:Int)/\m<t.parents.length/\(m:Int)∉taken:=by
 obtain⟨v,h1,h2,h3⟩:=O1r h hl taken
 have e:=(W1o h hl taken).1
 rw[h1]at e
 have e:v=Z0L t l taken:=Option.some.inj e
 subst e
 have:∃x∈l,(lfOf t x:Int)∉taken:=by
  by_cases hx:∃x∈l,(lfOf t x:Int)∉taken
  .exact hx
  .have:l.filter (fun x=>taken.contains (lfOf t x:Int))=l:=List.filter_eq_self.2 fun x hxl=>by
    rw[List.contains_iff_mem]
    by_cases hm:(lfOf t x:Int)∈taken
    .exact hm
    .exact absurd ⟨x,hxl,hm⟩ hx
   unfold cntT at hc
   rw[this]at hc
   omega
 obtain⟨x,hx,hm⟩:=this
 obtain⟨q1,q2,q3⟩:=Q1o h hx
 have hne:(l.filter fun n=>hasUp t n (lfOf t x))≠[]:=fun q=>by
  have:x∈l.filter fun n=>hasUp t n (lfOf t x):=List.mem_filter.2 ⟨hx,q1⟩
  rw[q]at this
  cases this
 have hQ:Y14 t l taken (lfOf t x):=⟨hne,q3,hm⟩
 have hv:0<=Z0L t l taken:=by
  by_cases hv:Z0L t l taken<0
  .exact absurd hQ (h2 hv _ q2)
  .omega
 obtain⟨m,e,hm,q⟩:=h3 hv
 exact⟨m,e,hm,q.2.2⟩
theorem V19{n:Int}{k11:(List Int×List Int)->Option (List Int×Bool)}{xs:List Int}:∀(ys:List Int) (i:Nat) (v:List Int),v.length+ys.length<=1048576->rgl (Uz n) (LO k11 xs) ys i v=k11 (O0e n v ys,xs)
 |[],_,_,_=>rfl
 |y::ys,i,v,h=>by
  simp only[yT]at h
  have e:O0e n v (y::ys)=O0e n (if(v.length:Int)<n then rise y v else v) ys:=rfl
  rw[rgl,e]
  unfold Uz
  by_cases hv:(v.length:Int)<n
  .rw[show decide ((v.length:Int)<n)=true by simpa using hv,yN,Y0Z y (by omega),bS,yd hv]
   exact V19 ys _ _ (by rw[L0l];omega)
  .rw[show decide ((v.length:Int)<n)=false by simpa using hv,yM,ye hv]
   exact V19 ys _ _ (by omega)
def chL(t:Topo)(l:List Int)(n:Int):Nat->List Int->List Int->List Int
 |0,out,_=>out
 |k+1,out,taken=>if(out.length:Int)<n then chL t l n k (O0e n out (l.filter fun x=>hasUp t x (Z0L t l taken).toNat)) (taken++[Z0L t l taken])else out
theorem Q1t{t:Topo}{l:List Int}{n:Int}(h:Q4 t l=true)(hl:l.length<=24)(h0:1<=n)(hn:n<=l.length) :
    whl (Om t n l) 9223372036854775807 ([],[])=some (chL t l n (t.parents.length+1) [] [],true)/\((chL t l n (t.parents.length+1) [] []).length:Int)=n/\∀m∈chL t l n (t.parents.length+1) [] [],m∈l:=by
  have T:=(Q3.1 h).1
  have hP:=T.tree.le
  have:=QN (bd:=Om t n l) (fun b o=>o=some (chL t l n (t.parents.length+1-b.2.length) b.1 b.2,true)/\((chL t l n (t.parents.length+1-b.2.length) b.1 b.2).length:Int)=n/\∀m∈chL t l n (t.parents.length+1-b.2.length) b.1 b.2,m∈l)
    (fun b=>t.parents.length-b.2.length) (fun b=>(b.1.length:Int)<=n/\(∀m∈b.1,m∈l)/\b.2.Nodup/\(∀s∈b.2,s∈(List.range t.parents.length).map fun(i:Nat)=>(i:Int))/\((b.1.length:Int)<n->cntT t l b.2<=b.1.length)) ?_ 9223372036854775807 ([],[])
    ⟨by simp;omega,by simp,List.nodup_nil,by simp,fun _=>by simp[cntT]⟩ (by simp;omega)
  · simpa using this
  rintro⟨out,taken⟩ k ⟨i1,i2,i3,i4,i5⟩ hk
  simp only at i1 i2 i3 i4 i5 hk ⊢
  have hlen:taken.length<=t.parents.length:=by simpa using i3.length_le_of_subset i4
  unfold Om
  simp only
  rw[show t.parents.length+1-taken.length=(t.parents.length-taken.length)+1 by omega,chL]
  by_cases ho:(out.length:Int)<n
  · obtain⟨m,e,hm,hmt⟩:=Q1F h (by omega) (taken:=taken) (by have:=i5 ho;omega)
    rw[show decide ((out.length:Int)<n)=true by simpa using ho,yN,(W1o h (by omega) taken).1,bS,yd ho]
    rw[e,yZ]
    rw[M0 (by simp;omega),bS,Yf h (by omega) m,bS]
    have hfl:(l.filter fun x=>hasUp t x m).length<=l.length:=List.length_filter_le ..
    rw[V19 _ _ _ (by omega)]
    have hnd:(taken++[(m:Int)]).Nodup:=by
      rw[List.nodup_append]
      exact⟨i3,by simp,fun a ha b hb q=>by simp at hb;subst hb;subst q;exact hmt ha⟩
    have hsub:∀s∈taken++[(m:Int)],s∈(List.range t.parents.length).map fun(i:Nat)=>(i:Int):=fun s hs=>by
      rcases List.mem_append.1 hs with hs|hs
      · exact i4 s hs
      · simp at hs;subst hs
        exact List.mem_map.2 ⟨m,List.mem_range.2 hm,rfl⟩
    have hlen2:taken.length+1<=t.parents.length:=by simpa using hnd.length_le_of_subset hsub
    have hfn:=Z0Q n (l.filter fun x=>hasUp t x m) out i1
    have:=hk (O0e n out (l.filter fun x=>hasUp t x m),taken++[(m:Int)]) ⟨by simp only;omega,fun y hy=>?_,hnd,hsub,fun hlt=>?_⟩ (by simp;omega)
    · simp only[yU,yT,List.length_nil]at this
      rw[show t.parents.length+1-(taken.length+(0+1))=t.parents.length-taken.length by omega]at this
      exact this
    · rcases O1f n y _ _ hy with hy|hy
      · exact i2 y hy
      · exact(List.mem_filter.1 hy).1
    · simp only at hlt ⊢
      have c1:=i5 ho
      have c2:cntT t l (taken++[(m:Int)])<=cntT t l taken+(l.filter fun x=>hasUp t x m).length:=W1f fun x hx hr=>by
        rw[List.contains_iff_mem]at hr
        rcases List.mem_append.1 hr with hr|hr
        · exact .inl (List.contains_iff_mem.2 hr)
        · have hr:(lfOf t x:Int)=(m:Int):=by simpa using hr
          have hr:lfOf t x=m:=by omega
          exact .inr (hr ▸ (Q1o h hx).1)
      omega
  · rw[show decide ((out.length:Int)<n)=false by simpa using ho,yM,ye ho]
    exact⟨rfl,by omega,i2⟩
theorem Q1m{α γ:Type}{bd:α->Nat->Unit->(Unit->Option γ)->Option γ}{kk:Unit->Option γ}{p:α->Nat->Bool}{r:Option γ}:∀{l:List α} {i:Nat},(∀j x k,l[j]?=some x->bd x (i+j) () k=bif p x (i+j)then r else k ())->rgl bd kk l i ()=bif (l.zipIdx i).any (fun q=>p q.1 q.2)then r else kk ()
 |[],_,_=>rfl
 |x::l,i,h=>by
  have h0:=h 0 x (fun b'=>rgl bd kk l (i+1) b') rfl
  rw[Nat.add_zero]at h0
  rw[rgl,h0,List.zipIdx_cons,List.any_cons]
  cases p x i with
  |true=>rfl
  |false =>
   rw[yM,Bool.false_or]
   exact Q1m fun j y k hy=>by
    have:=h (j+1) y k (by simpa using hy)
    rwa [show i+(j+1)=i+1+j by omega]at this
theorem V0o{α β:Type}(P:β->Prop){f:β->α->β}(h:∀b x,P b->P (f b x)):∀(l:List α) (b:β),P b->P (l.foldl f b)
 |[],_,hb=>hb
 |x::l,b,hb=>V0o P h l _ (h b x hb)
theorem Q1I{t:Topo}{l:List Int}{n level:Int}(h:0<=swF t l n level):n<=cntU t l (swF t l n level).toNat/\lev t (swF t l n level).toNat<=level:=by
 have:=V0o (fun v:Int=>v<0\/(n<=cntU t l v.toNat/\lev t v.toNat<=level)) (f:=Ww t l n level) (fun v s hv=>by
  unfold Ww
  split
  .exact hv
  .rename_i h1
   split
   .exact .inr (by rw[yZ];omega)
   .exact hv) (List.range t.parents.length) (-1) (.inl (by omega))
 rcases this with q|q
 .exact absurd q (by unfold swF at h;omega)
 .exact q
def V1r(l:List Int)(i:Nat):Int:=if 0<i then(l[i-1]?).getD default else default
theorem O1w{l:List Int}{i:Nat}(hi:i<l.length)(hl:l.length<=1048576):(bif decide (0<(i:Int))then idx l (w64 ((i:Int)-1))else some default)=some (V1r l i):=by
 unfold V1r
 by_cases h:0<i
 .have e:w64 ((i:Int)-1)=((i-1:Nat):Int):=by rw[X5 (by omega)];omega
  rw[show decide (0<(i:Int))=true by simpa using h,yN,e,L6,yd h,yA (by omega)]
  rfl
 .rw[show decide (0<(i:Int))=false by simpa using h,yM,ye h]
def Y1t(l:List Int):Bool:=(l.zipIdx 0).any fun q=>decide (0<(q.2:Int))&&decide (q.1<=V1r l q.2)
def W0K(t:Topo)(l:List Int)(n level:Int):List Int:=l.filter fun x=>hasUp t x (swF t l n level).toNat
noncomputable def O00(t:Topo)(l:List Int)(n level:Int):List Int×Bool :=
 if Q4 t l=true/\1<=n/\Y1t l=false/\0<=swF t l n level then(chL t (W0K t l n level) n (t.parents.length+1) [] [],true)else([],false)
theorem Q0S{t:Topo}{l:List Int}(hl:l.length<=24)(n level:Int):YP t l n level=some (O00 t l n level)/\((O00 t l n level).2=true->((O00 t l n level).1.length:Int)=n/\∀m∈(O00 t l n level).1,m∈l):=by
 unfold YP O00
 rw[Lt,bS]
 by_cases hno:Q4 t l=true
 .by_cases hn:1<=n
  .rw[hno,show decide (n<1)=false by simp;omega,yL,Bool.or_self,yM]
   rw[Q1m (r:=some ([],false)) (p:=fun x i=>decide (0<(i:Int))&&decide (x<=V1r l i)) (fun j x k hx=>by
    have hj:=(yB hx).1
    rw[Nat.zero_add]
    unfold ZP
    rw[O1w hj (by omega),bS])]
   rw[show((l.zipIdx 0).any fun q=>decide (0<(q.2:Int))&&decide (q.1<=V1r l q.2))=Y1t l from rfl]
   cases hf:Y1t l with
   |true =>
    rw[ye (by rintro⟨_,_,q,_⟩;cases q)]
    exact⟨rfl,fun q=>by cases q⟩
   |false =>
    rw[yM]
    unfold JO
    obtain⟨s1,s2⟩:=M1d hno (by omega) n level
    rw[s1,bS]
    by_cases hs:0<=swF t l n level
    .rw[yd ⟨rfl,hn,rfl,hs⟩,show decide (swF t l n level<0)=false by simp;omega,yM]
     obtain⟨m,e⟩:∃m:Nat,swF t l n level=(m:Int):=⟨(swF t l n level).toNat,by omega⟩
     have e2:Qe t l (swF t l n level)=some (W0K t l n level):=by
      unfold W0K
      rw[e,yZ,Yf hno (by omega) m]
     rw[e2,bS]
     have hle:(W0K t l n level).length<=l.length:=List.length_filter_le ..
     have hmine:Q4 t (W0K t l n level)=true:=Q3.2 ⟨(Q3.1 hno).1,fun x hx=>(Q3.1 hno).2 x (List.mem_filter.1 hx).1⟩
     obtain⟨c1,c2,c3⟩:=Q1t (n:=n) hmine (by omega) hn (Q1I hs).1
     rw[c1]
     exact⟨rfl,fun _=>⟨c2,fun x hx=>(List.mem_filter.1 (c3 x hx)).1⟩⟩
    .rw[ye fun q=>hs q.2.2.2,show decide (swF t l n level<0)=true by simp;omega,yN]
     exact⟨rfl,fun q=>by cases q⟩
  .rw[ye fun q=>hn q.2.1,show(!Q4 t l||decide (n<1))=true by
    rw[show decide (n<1)=true by simp;omega,Bool.or_true],yN]
   exact⟨rfl,fun q=>by cases q⟩
 .rw[ye fun q=>hno q.1,show Q4 t l=false by simpa using hno,Bool.not_false,Bool.true_or,yN]
  exact⟨rfl,fun q=>by cases q⟩
def MA(fr:Int)(v:List Int)(x:Pt):List Int:=bif decide (fr<x.t)&&!v.contains x.t then rise x.t v else v
theorem W1q(fr:Int)(v:List Int)(x:Pt):(MA fr v x).length<=v.length+1:=by
 unfold MA
 cases(decide (fr<x.t)&&!v.contains x.t)with
 |true=>rw[yN,L0l];exact yV _
 |false=>rw[yM];omega
theorem J1u{fr:Int}{k:List Int->Option (List Int)}:∀(p:List Pt) (i:Nat) (v:List Int),v.length+p.length<=1048576->rgl (Uo fr) (OB k) p i v=k (p.foldl (MA fr) v)/\(p.foldl (MA fr) v).length<=v.length+p.length
 |[],_,_,_=>⟨rfl,by simp⟩
 |x::p,i,v,h=>by
  simp only[yT]at h
  have hs:=W1q fr v x
  obtain⟨q1,q2⟩:=J1u (fr:=fr) (k:=k) p (i+1) (MA fr v x) (by omega)
  refine⟨?_,by simp only[List.foldl_cons,yT];omega⟩
  rw[rgl,List.foldl_cons]
  unfold Uo
  rw[← q1]
  unfold MA
  by_cases hx:fr<x.t
  .rw[show decide (fr<x.t)=true by simpa using hx,yN,W8,bS,Bool.true_and]
   cases v.contains x.t with
   |true=>rfl
   |false =>
    simp only[Bool.not_false,yN]
    rw[Y0Z _ (by omega),bS]
    rfl
  .rw[show decide (fr<x.t)=false by simpa using hx,yM,bS,Bool.false_and,yM]
   rfl
def timesF(fr:Int)(ps:List (List Pt))(v:List Int):List Int:=ps.foldl (fun v p=>p.foldl (MA fr) v) v
theorem L1u{fr:Int}:∀(ps:List (List Pt)) (i:Nat) (v:List Int),(∀p∈ps,p.length<=200)->v.length+200*ps.length<=1048576->rgl (Vo fr) WB ps i v=some (timesF fr ps v)/\(timesF fr ps v).length<=v.length+200*ps.length
 |[],_,_,_,_=>⟨rfl,by simp[timesF]⟩
 |p::ps,i,v,hp,h=>by
  simp only[yT]at h
  have h1:=hp p (yJ ..)
  obtain⟨_,b2⟩:=J1u (fr:=fr) (k:=fun _=>none) p 0 v (by omega)
  obtain⟨q1,q2⟩:=L1u (fr:=fr) ps (i+1) (p.foldl (MA fr) v) (fun q hq=>hp q (yH _ hq)) (by omega)
  have e:timesF fr (p::ps) v=timesF fr ps (p.foldl (MA fr) v):=rfl
  refine⟨?_,by rw[e];simp only[yT];omega⟩
  rw[rgl,e,← q1]
  unfold Vo
  exact(J1u p 0 v (by omega)).1
theorem Q1j{r:Room}(h:RoomP r)(fr:Int):Ox r fr=some (timesF fr (r.profs++[r.lics]) [fr]):=by
 have h1:=h.topo.nodes
 have h2:=h.profs
 unfold Ox
 rw[M0 (by simp;omega),bS,List.nil_append,M0 (by simp;omega),bS]
 rw[show lenQ (r.profs++[r.lics])=some () by unfold lenQ;rw[yd (by simp;omega)],bS]
 refine(L1u _ 0 _ (fun p hp=>?_) (by simp;omega)).1
 rcases List.mem_append.1 hp with hp|hp
 .exact(h.prof p hp).le
 .simp at hp;subst hp;exact h.lics.le
def spanOk(fr to_:Int):Bool:=time fr&&time to_&&decide (fr<to_)
def VM(r:Room)(need:Vec)(fr to_:Int)(v:List Int)(i:Nat):List Int :=
 bif (r.up[i]?).getD false&&Z3 need (minV ((r.profs[i]?).getD []) fr to_)then v++[(i:Int)]else v
def Y0Q(r:Room)(need:Vec)(fr to_:Int):List Int:=bif spanOk fr to_ then(List.range r.profs.length).foldl (VM r need fr to_) []else[]
theorem ZN{fr to_:Int}:spanOk fr to_=true↔time fr=true/\time to_=true/\fr<to_:=by simp[spanOk,and_assoc]
theorem U03{r:Room}(R:RoomP r)(need:Vec)(fr to_:Int):Vz r need fr to_=some (Y0Q r need fr to_)/\(Y0Q r need fr to_).length<=24:=by
 have h24:=R.topo.nodes
 have hpl:=R.profs
 unfold Vz Y0Q
 rw[Mk,bS,YN.2 R,yL,yM]
 cases hs:spanOk fr to_ with
 |true =>
  obtain⟨q2,q3,q4⟩:=ZN.1 hs
  rw[yN]
  refine(J0l (b:=([]:List Int)) (f:=VM r need fr to_) (fun i (v:List Int)=>v.length<=i) (fun j v hj hv=>?_) (fun j x v k hx hv=>?_) (yV 0)).imp (fun e=>e) fun e=>by omega
  .unfold VM
   cases(r.up[j]?).getD false&&Z3 need (minV ((r.profs[j]?).getD []) fr to_)with
   |true=>rw[yN];simp;omega
   |false=>rw[yM];omega
  .have hj:=(yB hx).1
   obtain⟨u,hu⟩:∃u,r.up[j]?=some u:=⟨_,yA (by rw[R.up,← R.profs];exact hj)⟩
   unfold Yp VM
   rw[Zz,bS,yd ⟨XN.2 (R.prof _ (yE hx)),q2,q3,q4⟩,L6,hu,hx]
   simp only[yN,bS,Option.getD_some,Bool.true_and]
   cases(u&&Z3 need (minV x fr to_))with
   |true=>rw[yN,yN,M0 (by simp;omega),bS]
   |false=>rfl
 |false =>
  have hn:¬ (time fr=true/\time to_=true/\fr<to_):=fun q=>by rw[ZN.2 q]at hs;cases hs
  rw[yM]
  refine⟨?_,by simp⟩
  refine Y8 (l0:=r.profs) (fun i (v:List Int)=>v=[]) (fun o=>o=some []) (fun i x v k hx hI hk=>?_) (fun v hI=>by rw[hI];rfl) rfl
  subst hI
  unfold Yp
  rw[Zz,bS,ye fun q=>hn q.2]
  exact hk _ rfl
noncomputable def canM(r:Room)(j:Job)(t:Int):List Int×Bool :=
 bif spanOk t (t+j.wall)&&Z3 j.lic (minV r.lics t (t+j.wall))then O00 r.topo (Y0Q r j.need t (t+j.wall)) j.nodes j.level else([],false)
theorem X1z{r:Room}(R:RoomP r){j:Job}(hj:X1 j=true){t:Int}(ht:time t=true):LN r j t=some (canM r j t):=by
 have hw:=(Md.1 hj).2.2.2.2.2.1
 have ht':=U8.1 ht
 unfold LN canM
 rw[X5 (by omega),Zz,bS]
 by_cases hs:spanOk t (t+j.wall)=true
 .obtain⟨q2,q3,q4⟩:=ZN.1 hs
  rw[yd ⟨XN.2 R.lics,q2,q3,q4⟩,hs,Bool.true_and]
  simp only[yL,Bool.false_or]
  cases Z3 j.lic (minV r.lics t (t+j.wall))with
  |false=>rfl
  |true =>
   obtain⟨e1,e2⟩:=U03 R j.need t (t+j.wall)
   rw[yL,yM,yN,e1,bS,(Q0S e2 j.nodes j.level).1]
   rfl
 .rw[ye fun q=>hs (ZN.2 q.2),show spanOk t (t+j.wall)=false by simpa using hs]
  rfl
theorem V1I(fr m:Int):∀(p:List Pt) (v:List Int),m∈p.foldl (MA fr) v->m∈v\/∃x∈p,m=x.t
 |[],_,h=>.inl h
 |x::p,v,h=>by
  rw[List.foldl_cons]at h
  rcases V1I fr m p _ h with h|⟨y,hy,e⟩
  .unfold MA at h
   cases hc:(decide (fr<x.t)&&!v.contains x.t)with
   |false=>rw[hc,yM]at h;exact .inl h
   |true =>
    rw[hc,yN]at h
    rcases(M0c x.t m v).1 h with h|h
    .exact .inr ⟨x,yJ ..,h⟩
    .exact .inl h
  .exact .inr ⟨y,yH _ hy,e⟩
theorem Q0r(fr m:Int):∀(ps:List (List Pt)) (v:List Int),m∈timesF fr ps v->m∈v\/∃p∈ps,∃x∈p,m=x.t
 |[],_,h=>.inl h
 |p::ps,v,h=>by
  have e:timesF fr (p::ps) v=timesF fr ps (p.foldl (MA fr) v):=rfl
  rw[e]at h
  rcases Q0r fr m ps _ h with h|⟨q,hq,x,hx,e⟩
  .rcases V1I fr m p v h with h|⟨x,hx,e⟩
   .exact .inl h
   .exact .inr ⟨p,yJ ..,x,hx,e⟩
  .exact .inr ⟨q,yH _ hq,x,hx,e⟩
theorem U1m{α γ:Type}{bd:α->Nat->Unit->(Unit->Option γ)->Option γ}{kk:Unit->Option γ}{p:α->Bool}{g:α->γ}:∀{l:List α} {i:Nat},(∀x∈l,∀i k,bd x i () k=bif p x then some (g x)else k ())->rgl bd kk l i ()=match l.find? p with
  |some x=>some (g x)
  |none=>kk ()
 |[],_,_=>rfl
 |x::l,i,h=>by
  rw[rgl,h x (yJ ..),List.find?_cons]
  cases p x with
  |true=>rfl
  |false=>exact U1m fun y hy=>h y (yH _ hy)
noncomputable def L1G(r:Room)(j:Job)(fr:Int):Int×List Int×Bool :=
 match(timesF fr (r.profs++[r.lics]) [fr]).find? (fun t=>(canM r j t).2)with
 |some t=>(t,(canM r j t).1,true)
 |none=>(0,[],false)
theorem YJ(r:Room)(j:Job)(fr:Int):Uj r j fr=some (bif roomOk r&&X1 j&&time fr then L1G r j fr else(0,[],false)):=by
 unfold Uj
 rw[Mk,bS,Qd]
 cases hr:roomOk r with
 |false=>rfl
 |true=>cases hj:X1 j with
  |false=>rfl
  |true=>cases ht:time fr with
   |false=>rfl
   |true =>
    have R:=YN.1 hr
    simp only[yL,Bool.or_self,yM,Bool.and_self,yN]
    rw[Q1j R,bS]
    have hall:∀t∈timesF fr (r.profs++[r.lics]) [fr],time t=true:=fun t h=>by
     rcases Q0r fr t _ _ h with h|⟨p,hp,x,hx,rfl⟩
     .rw[List.mem_singleton.1 h];exact ht
     .rcases List.mem_append.1 hp with hp|hp
      .exact((R.prof p hp).ok x hx).1
      .rw[List.mem_singleton.1 hp]at hx;exact(R.lics.ok x hx).1
    rw[U1m (p:=fun t=>(canM r j t).2) (g:=fun t=>(t,(canM r j t).1,true)) (fun t h i k=>by
     unfold OC
     rw[X1z R hj (hall t h),bS])]
    unfold L1G WC
    cases(timesF fr (r.profs++[r.lics]) [fr]).find? (fun t=>(canM r j t).2)<;>rfl
theorem Z1c(n:Int):∀l:List Int,(rise n l).Perm (n::l)
 |[]=>.refl _
 |x::l=>by
  unfold rise
  split
  .exact .refl _
  .exact((Z1c n l).cons x).trans (.swap n x l)
theorem L0J(n:Int):∀{l:List Int},l.Pairwise (·<=·)->(rise n l).Pairwise (·<=·)
 |[],_=>by simp[rise]
 |x::l,h=>by
  unfold rise
  split
  .rename_i hx
   refine List.pairwise_cons.2 ⟨fun y hy=>?_,h⟩
   rcases yX hy with rfl|hy
   .omega
   .have:=(List.pairwise_cons.1 h).1 y hy;omega
  .rename_i hx
   refine List.pairwise_cons.2 ⟨fun y hy=>?_,L0J n (List.pairwise_cons.1 h).2⟩
   rcases(M0c n y l).1 hy with rfl|hy
   .omega
   .exact(List.pairwise_cons.1 h).1 y hy
def O0k(n:Int)(v ys:List Int):List Int:=ys.foldl (fun v x=>if(v.length:Int)<n then v++[x]else v) v
theorem W0H(n:Int):∀(ys v:List Int),O0k n v ys=v++ys.take (n.toNat-v.length)
 |[],v=>by simp[O0k]
 |y::ys,v=>by
  have e:O0k n v (y::ys)=O0k n (if(v.length:Int)<n then v++[y]else v) ys:=rfl
  rw[e]
  by_cases h:(v.length:Int)<n
  .rw[yd h,W0H n ys,yU,List.length_singleton,show n.toNat-v.length=(n.toNat-(v.length+1))+1 by omega,List.take_succ_cons,List.append_assoc]
   rfl
  .rw[ye h,W0H n ys,show n.toNat-v.length=0 by omega]
   simp
theorem O0w(n:Int):∀(ys v w:List Int),v.Perm w->v.Pairwise (·<=·)->(O0e n v ys).Perm (O0k n w ys)/\(O0e n v ys).Pairwise (·<=·)
 |[],v,w,h,hs=>⟨h,hs⟩
 |y::ys,v,w,h,hs=>by
  have e:O0e n v (y::ys)=O0e n (if(v.length:Int)<n then rise y v else v) ys:=rfl
  have e2:O0k n w (y::ys)=O0k n (if(w.length:Int)<n then w++[y]else w) ys:=rfl
  rw[e,e2,← h.length_eq]
  by_cases hv:(v.length:Int)<n
  .rw[yd hv,yd hv]
   refine O0w n ys _ _ ?_ (L0J y hs)
   exact(Z1c y v).trans ((h.cons y).trans (List.perm_append_singleton y w).symm)
  .rw[ye hv,ye hv]
   exact O0w n ys _ _ h hs
theorem L1q{v w:List Int}(h:v.Perm w)(hs:v.Pairwise (·<=·)):J0s w=v:=by
 have h1:(J0s w).Perm v:=(List.mergeSort_perm w _).trans h.symm
 have h2:(J0s w).Pairwise (·<=·):=by
  have:=List.pairwise_mergeSort (le:=fun(x y:Int)=>decide (x<=y)) (fun a b c h1 h2=>by simp at *;omega) (fun a b=>by simp;omega) w
  exact this.imp fun h=>by simpa using h
 exact List.Perm.eq_of_pairwise (le:=(·<=·)) (fun a b _ _ h1 h2=>Int.le_antisymm h1 h2) h2 hs h1
theorem W0r(n:Int)(grp:Int->List Int):∀(B w:List Int),B.foldl (fun w s=>O0k n w (grp s)) w=w++(B.flatMap grp).take (n.toNat-w.length)
 |[],w=>by simp
 |s::B,w=>by
  rw[List.foldl_cons,W0r n grp B,W0H,ya,List.append_assoc,List.take_append,yU,List.length_take]
  congr 3
  omega
theorem W1F{t:Topo}{l taken:List Int}{s0:Nat}(h0:s0<t.parents.length)(ok0:¬ (cntU t l s0=0\/kids t.parents (s0:Int)≠[]\/(s0:Int)∈taken))
  (best:∀s,s<t.parents.length->¬ (cntU t l s=0\/kids t.parents (s:Int)≠[]\/(s:Int)∈taken)->s≠s0->cntU t l s<cntU t l s0\/(cntU t l s=cntU t l s0/\s0<s)):Z0L t l taken=(s0:Int):=by
 have key:∀n,n<=t.parents.length->(n<=s0->((List.range n).foldl (QL t l taken) (-1)<0\/cntU t l ((List.range n).foldl (QL t l taken) (-1)).toNat<cntU t l s0))/\(s0<n->(List.range n).foldl (QL t l taken) (-1)=(s0:Int)):=by
  intro n
  induction n with
  |zero=>intro _;exact⟨fun _=>.inl (by simp),fun h=>by omega⟩
  |succ n ih =>
   intro hn
   obtain⟨i1,i2⟩:=ih (by omega)
   rw[List.range_succ,List.foldl_append,List.foldl_cons,List.foldl_nil]
   generalize (List.range n).foldl (QL t l taken) (-1)=v at i1 i2
   unfold QL
   by_cases hk:cntU t l n=0\/kids t.parents (n:Int)≠[]\/(n:Int)∈taken
   .rw[yd hk]
    refine⟨fun h=>i1 (by omega),fun h=>?_⟩
    by_cases e:n=s0
    .subst e;exact absurd hk ok0
    .exact i2 (by omega)
   .rw[ye hk]
    by_cases e:n=s0
    .subst e
     refine⟨fun h=>by omega,fun _=>?_⟩
     rw[yd (i1 (yV _))]
    .have b:=best n (by omega) hk e
     refine⟨fun h=>?_,fun h=>?_⟩
     .have q:=i1 (by omega)
      split
      .right;rw[yZ];omega
      .exact q
     .have q:=i2 (by omega)
      rw[q,ye]
      rintro(h|h)
      .omega
      .rw[yZ]at h;omega
 exact(key _ (yV _)).2 h0
noncomputable def grp(t:Topo)(l:List Int)(s:Int):List Int:=l.filter fun x=>decide ((lfOf t x:Int)=s)
theorem Z1L{t:Topo}{l L:List Int}{n:Int}(hg:∀s,s<t.parents.length->kids t.parents (s:Int)=[]->(l.filter fun x=>hasUp t x s)=grp t l (s:Int))
  (hm:∀z∈L,∃s:Nat,z=(s:Int)/\s<t.parents.length/\kids t.parents (s:Int)=[]/\cntU t l s≠0) (hm2:∀s:Nat,s<t.parents.length->kids t.parents (s:Int)=[]->cntU t l s≠0->(s:Int)∈L) (hn:L.Nodup)
  (hs:L.Pairwise fun a b=>cntU t l b.toNat<cntU t l a.toNat\/(cntU t l b.toNat=cntU t l a.toNat/\a<b)) (hlen:n<=((L.flatMap (grp t l)).length:Int)) :
  ∀(B A v w:List Int) (fuel:Nat),L=A++B->B.length<fuel->v.Perm w->v.Pairwise (·<=·)->w=(A.flatMap (grp t l)).take n.toNat ->
   (chL t l n fuel v A).Perm (B.foldl (fun w s=>O0k n w (grp t l s)) w)/\(chL t l n fuel v A).Pairwise (·<=·)
 |[],A,v,w,fuel+1,hL,hf,hp,hsv,hw=>by
  have hvl:=hp.length_eq
  rw[List.append_nil]at hL
  subst hL
  have:w.length=min n.toNat (L.flatMap (grp t l)).length:=by rw[hw,List.length_take]
  rw[chL,ye (by omega)]
  exact⟨hp,hsv⟩
 |s::B,A,v,w,fuel+1,hL,hf,hp,hsv,hw=>by
  have hvl:=hp.length_eq
  rw[chL]
  by_cases hv:(v.length:Int)<n
  .rw[yd hv]
   have hsL:s∈L:=by rw[hL];simp
   obtain⟨m,rfl,h1,h2,h3⟩:=hm s hsL
   rw[hL]at hn hs
   have e:Z0L t l A=(m:Int):=by
    refine W1F h1 (by
     rintro(q|q|q)
     .exact h3 q
     .exact q h2
     .exact(List.nodup_append.1 hn).2.2 _ q _ (yJ ..) rfl) fun s' hs' ok' hne=>?_
    have hk':kids t.parents (s':Int)=[]:=Classical.byContradiction fun q=>ok' (.inr (.inl q))
    have hmem:=hm2 s' hs' hk' fun q=>ok' (.inl q)
    rw[hL]at hmem
    rcases List.mem_append.1 hmem with q|q
    .exact absurd (.inr (.inr q)) ok'
    .rcases yX q with q|q
     .omega
     .have:=(List.pairwise_cons.1 (List.pairwise_append.1 hs).2.1).1 _ q
      simp only[yZ]at this
      omega
   rw[e,yZ,hg m h1 h2]
   obtain⟨p1,p2⟩:=O0w n (grp t l (m:Int)) v w hp hsv
   rw[List.foldl_cons]
   refine Z1L hg hm hm2 (by rw[hL];exact hn) (by rw[hL];exact hs) hlen B (A++[(m:Int)]) _ _ fuel (by rw[hL];simp) (by simp at hf;omega) p1 p2 ?_
   rw[W0H,hw,List.flatMap_append,List.take_append,List.length_take,ya,List.flatMap_nil,List.append_nil]
   congr 2
   omega
  .rw[ye hv]
   refine⟨?_,hsv⟩
   rw[W0r,show n.toNat-w.length=0 by omega]
   simpa using hp
theorem M0Z{t:Topo}{l:List Int}(h:Q4 t l=true){x:Int}(hx:x∈l){s:Nat}(hk:kids t.parents (s:Int)=[]):hasUp t x s=decide ((lfOf t x:Int)=(s:Int)):=by
 obtain⟨q1,q2,q3⟩:=Q1o h hx
 by_cases e:lfOf t x=s
 .rw[← e,q1];simp
 .rw[show decide ((lfOf t x:Int)=(s:Int))=false by simp;omega]
  rw[Bool.eq_false_iff]
  intro hu
  obtain⟨e1,m,r1,r2,r3⟩:=XH h hx
  have T:=(Q3.1 h).1.tree
  have em:lfOf t x=m:=by unfold lfOf;rw[r1];simp only;omega
  unfold hasUp at hu
  rw[r1]at hu
  simp only[List.contains_iff_mem,r2,yZ]at hu
  obtain⟨a,ha,hae⟩:=yY hu
  have hae:a=s:=by omega
  subst hae
  obtain⟨c,hc,_⟩:=T.kid_of m r3 a ha (by omega)
  rw[hk]at hc
  cases hc
theorem J18(t:Topo)(x:Int)(m:List Int)(s:Int):grp t (x::m) s=if(lfOf t x:Int)=s then x::grp t m s else grp t m s:=by
 unfold grp
 rw[List.filter_cons]
 by_cases e:(lfOf t x:Int)=s<;>simp[e]
theorem L18(t:Topo)(x:Int)(m:List Int):∀L:List Int,(L.flatMap (grp t m)).length<=(L.flatMap (grp t (x::m))).length
 |[]=>yV _
 |s::L=>by
  have:=L18 t x m L
  rw[ya,ya,yU,yU,J18]
  split
  .simp only[yT];omega
  .omega
theorem L1A{t:Topo}{L:List Int}:∀{m:List Int},(∀x∈m,(lfOf t x:Int)∈L)->m.length<=(L.flatMap (grp t m)).length
 |[],_=>Nat.zero_le _
 |x::m,h=>by
  have ih:=L1A (L:=L) (m:=m) fun y hy=>h y (yH _ hy)
  obtain⟨A,B,e⟩:=List.append_of_mem (h x (yJ ..))
  have h1:=L18 t x m A
  have h2:=L18 t x m B
  have h3:(grp t (x::m) (lfOf t x:Int)).length=(grp t m (lfOf t x:Int)).length+1:=by rw[J18,yd rfl];rfl
  rw[e]at ih ⊢
  simp only[List.flatMap_append,ya,yU,yT]at ih ⊢
  omega
theorem Y0y{t:Topo}{l:List Int}(h:Q4 t l=true)(hl:l.length<=1048576)(s:Nat):JC t l (s:Int)=some (l.filter fun n=>hasUp t n s):=by
 rw[← Yf h hl s]
 unfold JC Qe
 exact U07 (fun i x b k _=>by
  unfold QU ME
  simp only[M0n,Ul,W8]) fun _=>rfl
def swMk(t:Topo)(l:List Int)(v:Int):Int×Int×Int:=(v,if v<0 then 0 else lev t v.toNat,if v<0 then 0 else(cntU t l v.toNat:Int))
theorem Q1C{t:Topo}{l:List Int}(h:Q4 t l=true)(hl:l.length<=24)(n level:Int):WD t l n level=Y9 t l n (swMk t l (swF t l n level)):=by
 have T:=(Q3.1 h).1
 unfold WD
 refine Y8 (fun i (b:Int×Int×Int)=>inR i ((List.range i).foldl (Ww t l n level) (-1))/\b=swMk t l ((List.range i).foldl (Ww t l n level) (-1))) (fun o=>o=Y9 t l n (swMk t l (swF t l n level))) (fun i x b k hx hI hk=>?_) (fun b hI=>by rw[hI.2];rfl) ⟨⟨by simp,by simp⟩,rfl⟩
 obtain⟨hr,rfl⟩:=hI
 have hi:=(yB hx).1
 have hk2:∀b',inR (i+1) (Ww t l n level ((List.range i).foldl (Ww t l n level) (-1)) i)->b'=swMk t l (Ww t l n level ((List.range i).foldl (Ww t l n level) (-1)) i)->k b'=Y9 t l n (swMk t l (swF t l n level)):=by
  intro b' q1 q2
  refine hk b' ?_
  rw[List.range_succ,List.foldl_append,List.foldl_cons,List.foldl_nil]
  exact⟨q1,q2⟩
 clear hk
 generalize (List.range i).foldl (Ww t l n level) (-1)=v at hr hk2 ⊢
 obtain⟨r1,r2⟩:=hr
 have keep:Ww t l n level v i=v->k (swMk t l v)=Y9 t l n (swMk t l (swF t l n level)):=fun e=>hk2 _ (by rw[e];exact⟨r1,by omega⟩) (by rw[e])
 have take:Ww t l n level v i=(i:Int)->k ((i:Int),lev t i,(cntU t l i:Int))=Y9 t l n (swMk t l (swF t l n level)):=fun e=>hk2 _ (by rw[e];exact⟨by omega,by omega⟩) (by
  rw[e];unfold swMk;rw[ye (by omega),ye (by omega),yZ])
 unfold VQ
 rw[Wz T hi,bS]
 by_cases c1:level<lev t i
 .rw[show decide (level<lev t i)=true by simpa using c1,yN]
  exact keep (by unfold Ww;rw[yd (.inr c1)])
 rw[show decide (level<lev t i)=false by simpa using c1,yM,Y0y h (by omega) i,bS]
 rw[show(l.filter fun n=>hasUp t n i).length=cntU t l i from rfl]
 by_cases c2:(cntU t l i:Int)<n
 .rw[show decide (n<=(cntU t l i:Int))=false by simp;omega,Bool.false_and,yM]
  exact keep (by unfold Ww;rw[yd (.inl c2)])
 rw[show decide (n<=(cntU t l i:Int))=true by simp;omega,Bool.true_and]
 have hst:Ww t l n level v i=if v<0\/lev t i<lev t v.toNat\/(lev t i=lev t v.toNat/\(cntU t l i:Int)<cntU t l v.toNat)then(i:Int)else v:=by
  unfold Ww;rw[ye (by omega)]
 by_cases c3:v<0
 .rw[show decide ((swMk t l v).1<0)=true from decide_eq_true c3]
  simp only[Bool.true_or,yN]
  exact take (by rw[hst,yd (.inl c3)])
 .rw[show decide ((swMk t l v).1<0)=false from decide_eq_false c3,Bool.false_or]
  rw[show(swMk t l v).2.1=lev t v.toNat by unfold swMk;simp[c3],show(swMk t l v).2.2=(cntU t l v.toNat:Int) by unfold swMk;simp[c3]]
  by_cases c4:lev t i<lev t v.toNat
  .rw[show decide (lev t i<lev t v.toNat)=true by simpa using c4,Bool.true_or,yN]
   exact take (by rw[hst,yd (.inr (.inl c4))])
  .rw[show decide (lev t i<lev t v.toNat)=false by simpa using c4,Bool.false_or]
   by_cases c5:lev t i=lev t v.toNat/\(cntU t l i:Int)<cntU t l v.toNat
   .rw[show((lev t i==lev t v.toNat)&&decide ((cntU t l i:Int)<(cntU t l v.toNat:Int)))=true by simpa using c5,yN]
    exact take (by rw[hst,yd (.inr (.inr c5))])
   .rw[show((lev t i==lev t v.toNat)&&decide ((cntU t l i:Int)<(cntU t l v.toNat:Int)))=false by
     rw[Bool.eq_false_iff];intro q;exact c5 (by simpa using q),yM]
    rw[show((swMk t l v).1,lev t v.toNat,(cntU t l v.toNat:Int))=swMk t l v by unfold swMk;simp[c3]]
    refine keep (by rw[hst,ye];rintro(q|q|q)<;>first|exact c3 q|exact c4 q|exact c5 q)
def cntM(t:Topo)(m:List Int):List Int:=(List.range t.parents.length).map fun s=>((m.filter fun x=>decide (lfOf t x=s)).length:Int)
theorem V1C(t:Topo)(m:List Int){s:Nat}(hs:s<t.parents.length):(cntM t m)[s]?=some ((m.filter fun x=>decide (lfOf t x=s)).length:Int):=by
 unfold cntM;simp[hs]
theorem O1p(t:Topo)(m:List Int){s:Nat}(hs:s<t.parents.length):(cntM t m).getD s 0=((grp t m (s:Int)).length:Int):=by
 rw[List.getD_eq_getElem?_getD,V1C t m hs,Option.getD_some]
 unfold grp
 rw[show(fun x=>decide (lfOf t x=s))=fun x=>decide ((lfOf t x:Int)=(s:Int)) from by
  funext x;rw[decide_eq_decide];omega]
theorem X1C(t:Topo)(m:List Int)(x:Int):cntM t (m++[x])=(cntM t m).set (lfOf t x) (((m.filter fun y=>decide (lfOf t y=lfOf t x)).length:Int)+1):=by
 apply List.ext_getElem
 .simp[cntM]
 .intro s h1 h2
  have hs:s<t.parents.length:=by simpa[cntM]using h1
  rw[List.getElem_set]
  unfold cntM
  simp only[List.getElem_map,List.getElem_range,List.filter_append,yU]
  by_cases e:lfOf t x=s
  .subst e;simp
  .rw[ye e];simp[e]
theorem V1j(cnt zs:List Int):(zs.mergeSort (Zs cnt)).Pairwise fun a b=>Zs cnt a b=true:=by
 refine List.pairwise_mergeSort (fun a b c h1 h2=>?_) (fun a b=>?_) zs
 .unfold Zs at *
  simp only[Bool.not_eq_true',decide_eq_false_iff_not]at *
  omega
 .unfold Zs
  simp only[Bool.or_eq_true,Bool.not_eq_true',decide_eq_false_iff_not]
  omega
theorem U0W{t:Topo}{l:List Int}(h:Q4 t l=true)(hl:l.length<=24){n:Int}(hn:1<=n)(hf:Y1t l=false)(level:Int):WD t l n level=some (O00 t l n level):=by
 have T:=(Q3.1 h).1
 have hP:=T.tree.le
 rw[Q1C h hl]
 unfold Y9 O00
 by_cases hs:0<=swF t l n level
 rotate_left
 .rw[ye fun q=>hs q.2.2.2,show decide ((swMk t l (swF t l n level)).1<0)=true from decide_eq_true (by show swF t l n level<0;omega),yN]
 rw[yd ⟨h,hn,hf,hs⟩,show decide ((swMk t l (swF t l n level)).1<0)=false from decide_eq_false (by show ¬ swF t l n level<0;omega),yM]
 have e1:JC t l (swMk t l (swF t l n level)).1=some (W0K t l n level):=by
  obtain⟨m,e⟩:∃m:Nat,swF t l n level=(m:Int):=⟨(swF t l n level).toNat,by omega⟩
  unfold W0K
  rw[show(swMk t l (swF t l n level)).1=swF t l n level from rfl,e,yZ,Y0y h (by omega) m]
 rw[e1,bS]
 have hle:(W0K t l n level).length<=l.length:=List.length_filter_le ..
 have hmine:Q4 t (W0K t l n level)=true:=Q3.2 ⟨(Q3.1 h).1,fun x hx=>(Q3.1 h).2 x (List.mem_filter.1 hx).1⟩
 have hnm:n<=(W0K t l n level).length:=(Q1I hs).1
 generalize W0K t l n level=m at hle hmine hnm ⊢
 rw[show mkL 8 (t.parents.length:Int) (0:Int)=some (List.replicate t.parents.length 0) by unfold mkL;rw[yd (by omega),yZ],bS]
 refine Y8 (fun i (b:List Int×List Int)=>b.1=cntM t (m.take i)/\b.2.Nodup/\∀z,z∈b.2↔∃x∈m.take i,z=(lfOf t x:Int)) (fun o=>o=some (chL t m n (t.parents.length+1) [] [],true)) (fun i x b k hx hI hk=>?_) (fun b hI=>?_) ⟨?_,List.nodup_nil,fun z=>by simp⟩
 .obtain⟨i1,i2,i3⟩:=hI
  have hi:=(yB hx).1
  have hxm:x∈m:=yE hx
  obtain⟨e,s,r1,r2,r3⟩:=XH hmine hxm
  have es:lfOf t x=s:=by unfold lfOf;rw[r1];simp only;omega
  have htk:m.take (i+1)=m.take i++[x]:=by rw[List.take_succ_eq_append_getElem hi];rw[yA hi]at hx;rw[Option.some.inj hx]
  have hbnd:((m.take i).filter fun y=>decide (lfOf t y=s)).length<=24:=Nat.le_trans (List.length_filter_le ..) (by simp;omega)
  unfold XQ
  rw[r1,bS,r2,i1,L6,V1C t _ r3,bS,Ul,bS,X5 (by omega),yZ]
  have hset:(cntM t (m.take i)).set s (((m.take i).filter fun y=>decide (lfOf t y=s)).length+1:Int)=cntM t (m.take (i+1)):=by
   rw[htk,X1C,es]
  have hbl:b.2.length<=24:=by
   have:=i2.length_le_of_subset (l₂:=(m.take i).map fun x=>(lfOf t x:Int)) fun z hz=>by
    obtain⟨y,hy,e⟩:=(i3 z).1 hz
    exact List.mem_map.2 ⟨y,hy,e.symm⟩
   simp at this;omega
  rw[hset]
  cases hc:b.2.contains (s:Int)with
  |true =>
   have hc:=List.contains_iff_mem.1 hc
   refine hk _ ⟨rfl,i2,fun z=>?_⟩
   rw[i3,htk]
   constructor
   .rintro⟨y,hy,e⟩;exact⟨y,by simp[hy],e⟩
   .rintro⟨y,hy,e⟩
    rcases List.mem_append.1 hy with hy|hy
    .exact⟨y,hy,e⟩
    .rw[List.mem_singleton.1 hy,es]at e
     rw[← i3,e];exact hc
  |false =>
   have hc:(s:Int)∉b.2:=fun q=>by rw[List.contains_iff_mem.2 q]at hc;cases hc
   simp only[Bool.not_false,yN]
   rw[M0 (by simp;omega),bS]
   refine hk _ ⟨rfl,?_,fun z=>?_⟩
   .rw[List.nodup_append]
    exact⟨i2,by simp,fun a ha c hc' q=>by rw[List.mem_singleton.1 hc']at q;exact hc (q ▸ ha)⟩
   .rw[List.mem_append,i3,htk,List.mem_singleton]
    constructor
    .rintro(⟨y,hy,e⟩|e)
     .exact⟨y,by simp[hy],e⟩
     .exact⟨x,by simp,by rw[es];exact e⟩
    .rintro⟨y,hy,e⟩
     rcases List.mem_append.1 hy with hy|hy
     .exact .inl ⟨y,hy,e⟩
     .rw[List.mem_singleton.1 hy,es]at e;exact .inr e
 .obtain⟨i1,i2,i3⟩:=hI
  rw[List.take_of_length_le (yV _)]at i1 i3
  unfold YQ
  rw[i1]
  have lfP:∀z∈b.2,∃s:Nat,z=(s:Int)/\s<t.parents.length/\kids t.parents (s:Int)=[]/\cntU t m s≠0:=fun z hz=>by
   obtain⟨x,hx,e⟩:=(i3 z).1 hz
   obtain⟨q1,q2,q3⟩:=Q1o hmine hx
   refine⟨lfOf t x,e,q2,q3,fun q=>?_⟩
   have:x∈m.filter fun n=>hasUp t n (lfOf t x):=List.mem_filter.2 ⟨hx,q1⟩
   have q:(m.filter fun n=>hasUp t n (lfOf t x)).length=0:=q
   rw[List.eq_nil_of_length_eq_zero q]at this
   cases this
  have hbl:b.2.length<=t.parents.length:=by
   have:=i2.length_le_of_subset (l₂:=(List.range t.parents.length).map fun(s:Nat)=>(s:Int)) fun z hz=>by
    obtain⟨s,e,hs,_⟩:=lfP z hz
    exact List.mem_map.2 ⟨s,List.mem_range.2 hs,e.symm⟩
   simpa using this
  have hin:U0I (cntM t m) b.2:=by
   refine⟨fun z hz=>?_,by simp[cntM];omega,fun c hc=>?_,by omega⟩
   .obtain⟨s,e,hs,_⟩:=lfP z hz
    simp[cntM];omega
   .obtain⟨s,_,rfl⟩:=yY hc
    have:(m.filter fun x=>decide (lfOf t x=s)).length<=m.length:=List.length_filter_le ..
    omega
  unfold U0c
  rw[yd hin,bS]
  have hg:∀s,s<t.parents.length->kids t.parents (s:Int)=[]->(m.filter fun x=>hasUp t x s)=grp t m (s:Int):=fun s _ hk=>by
   unfold grp
   exact List.filter_congr fun x hx=>M0Z hmine hx hk
  have hmem:∀z,z∈b.2.mergeSort (Zs (cntM t m))↔z∈b.2:=fun z=>(List.mergeSort_perm b.2 _).mem_iff
  have hm2:∀s:Nat,s<t.parents.length->kids t.parents (s:Int)=[]->cntU t m s≠0->(s:Int)∈b.2.mergeSort (Zs (cntM t m)):=fun s hs hk hc=>by
   rw[hmem,i3]
   have:(m.filter fun n=>hasUp t n s)≠[]:=fun q=>hc (by unfold cntU;rw[q];rfl)
   obtain⟨x,hx⟩:=List.exists_mem_of_ne_nil _ this
   obtain⟨x1,x2⟩:=List.mem_filter.1 hx
   rw[M0Z hmine x1 hk]at x2
   exact⟨x,x1,by simpa using(of_decide_eq_true x2).symm⟩
  have hnd:(b.2.mergeSort (Zs (cntM t m))).Nodup:=(List.mergeSort_perm b.2 _).nodup_iff.2 i2
  have hsort:(b.2.mergeSort (Zs (cntM t m))).Pairwise fun a c=>cntU t m c.toNat<cntU t m a.toNat\/(cntU t m c.toNat=cntU t m a.toNat/\a<c):=by
   refine List.Pairwise.imp_of_mem (fun{a c} ha hc q=>?_) ((V1j (cntM t m) b.2).and hnd)
   obtain⟨q,hne⟩:=q
   obtain⟨sa,ea,ha1,ha2,_⟩:=lfP a ((hmem a).1 ha)
   obtain⟨sc,ec,hc1,hc2,_⟩:=lfP c ((hmem c).1 hc)
   subst ea;subst ec
   unfold Zs at q
   rw[yZ,yZ,O1p t m ha1,O1p t m hc1,← hg sa ha1 ha2,← hg sc hc1 hc2]at q
   rw[yZ,yZ]
   unfold cntU
   simp only[Bool.not_eq_true',decide_eq_false_iff_not]at q
   omega
  have hlen:n<=(((b.2.mergeSort (Zs (cntM t m))).flatMap (grp t m)).length:Int):=by
   have:=L1A (t:=t) (L:=b.2.mergeSort (Zs (cntM t m))) (m:=m) fun x hx=>by rw[hmem,i3];exact⟨x,hx,rfl⟩
   omega
  have hll:(b.2.mergeSort (Zs (cntM t m))).length<t.parents.length+1:=by rw[List.length_mergeSort];omega
  obtain⟨p1,p2⟩:=Z1L hg (fun z hz=>lfP z ((hmem z).1 hz)) hm2 hnd hsort hlen _ [] [] [] _ rfl hll (.refl _) .nil (by simp)
  have hmemI:∀z∈b.2.mergeSort (Zs (cntM t m)),∃s:Nat,z=(s:Int):=fun z hz=>by
   obtain⟨s,e,_⟩:=lfP z ((hmem z).1 hz)
   exact⟨s,e⟩
  generalize b.2.mergeSort (Zs (cntM t m))=L at p1 hmemI
  rw[Qr (f:=fun w s=>O0k n w (grp t m s)) (fun s hs i w k=>by
   unfold MJ
   have key:∀(ys:List Int) (i:Nat) (w:List Int),(∀y∈ys,y∈m)->rgl (Qn t n s) (ZQ k) ys i w=k (O0k n w (grp t ys s)):=by
    intro ys
    induction ys with
    |nil=>intro i w _;rfl
    |cons y ys ih =>
     intro i w hy
     obtain⟨e,c,r1,r2,r3⟩:=XH hmine (hy y (yJ ..))
     have es:lfOf t y=c:=by unfold lfOf;rw[r1];simp only;omega
     have hb:∀k',Qn t n s y i w k'=if(c:Int)=s/\(w.length:Int)<n then k' (w++[y])else k' w:=fun k'=>by
      unfold Qn
      rw[r1,bS,r2]
      by_cases h1:(c:Int)=s
      .rw[show((c:Int)==s)=true by simpa using h1,Bool.true_and]
       by_cases h2:(w.length:Int)<n
       .rw[show decide ((w.length:Int)<n)=true by simpa using h2,yN,M0 (by simp;omega),bS,yd ⟨h1,h2⟩]
       .rw[show decide ((w.length:Int)<n)=false by simpa using h2,yM,ye fun q=>h2 q.2]
      .rw[show((c:Int)==s)=false by simpa using h1,Bool.false_and,yM,ye fun q=>h1 q.1]
     rw[rgl,hb,J18,es]
     by_cases h1:(c:Int)=s
     .rw[yd h1]
      by_cases h2:(w.length:Int)<n
      .rw[yd ⟨h1,h2⟩,ih _ _ fun z hz=>hy z (yH _ hz)]
       congr 1
       unfold O0k
       rw[List.foldl_cons,yd h2]
      .rw[ye fun q=>h2 q.2,ih _ _ fun z hz=>hy z (yH _ hz)]
       congr 1
       unfold O0k
       rw[List.foldl_cons,ye h2]
     .rw[ye h1,ye fun q=>h1 q.1,ih _ _ fun z hz=>hy z (yH _ hz)]
   exact key m 0 w fun _ h=>h)]
  unfold OJ Y12
  have hfl:((L.foldl (fun w s=>O0k n w (grp t m s)) []).length:Int)<=24:=by
   rw[W0r]
   simp
   omega
  rw[yd (by omega),bS,L1q p1 p2]
 .show List.replicate t.parents.length 0=cntM t []
  unfold cntM
  rw[eq_comm,List.eq_replicate_iff]
  exact⟨by simp,fun b hb=>by obtain⟨_,_,rfl⟩:=yY hb;rfl⟩
theorem J0F{r:Room}(R:RoomP r)(need:Vec){fr to_:Int}(hs:spanOk fr to_=true):Oz r need fr to_=some (Y0Q r need fr to_):=by
 have h24:=R.topo.nodes
 have hpl:=R.profs
 unfold Oz Y0Q
 rw[hs,yN]
 refine(J0l (b:=([]:List Int)) (f:=VM r need fr to_) (fun i (v:List Int)=>v.length<=i) (fun j v hj hv=>?_) (fun j x v k hx hv=>?_) (yV 0)).1
 .unfold VM
  cases(r.up[j]?).getD false&&Z3 need (minV ((r.profs[j]?).getD []) fr to_)with
  |true=>rw[yN];simp;omega
  |false=>rw[yM];omega
 .have hj:=(yB hx).1
  obtain⟨u,hu⟩:∃u,r.up[j]?=some u:=⟨_,yA (by rw[R.up,← R.profs];exact hj)⟩
  unfold XD VM
  rw[L6,hu,hx]
  simp only[bS,Option.getD_some,W08]
  cases u with
  |false=>rfl
  |true =>
   rw[yN,W0n (R.prof _ (yE hx)),bS,Bool.true_and]
   cases Z3 need (minV x fr to_)with
   |true=>rw[yN,yN,M0 (by simp;omega),bS]
   |false=>rfl
theorem W1B{r:Room}(R:RoomP r)(need:Vec)(fr to_:Int):(Y0Q r need fr to_).Pairwise (· < ·)/\∀z∈Y0Q r need fr to_,0<=z/\z<r.topo.nodes.length:=by
 have hpl:=R.profs
 unfold Y0Q
 cases spanOk fr to_ with
 |false=>exact⟨List.Pairwise.nil,fun z hz=>by simp at hz⟩
 |true =>
  rw[yN,← hpl]
  generalize r.profs.length=n
  induction n with
  |zero=>exact⟨List.Pairwise.nil,fun z hz=>by simp at hz⟩
  |succ n ih =>
   obtain⟨i1,i2⟩:=ih
   rw[List.range_succ,List.foldl_append,List.foldl_cons,List.foldl_nil]
   generalize (List.range n).foldl (VM r need fr to_) []=v at i1 i2
   unfold VM
   cases(r.up[n]?).getD false&&Z3 need (minV ((r.profs[n]?).getD []) fr to_)with
   |false=>exact⟨i1,fun z hz=>by have:=i2 z hz;omega⟩
   |true =>
    rw[yN]
    refine⟨List.pairwise_append.2 ⟨i1,List.pairwise_singleton ..,fun a ha b hb=>?_⟩,fun z hz=>?_⟩
    .rw[List.mem_singleton.1 hb];have:=i2 a ha;omega
    .rcases List.mem_append.1 hz with hz|hz
     .have:=i2 z hz;omega
     .rw[List.mem_singleton.1 hz];omega
theorem V1B{l:List Int}(h:l.Pairwise (· < ·)):Y1t l=false:=by
 unfold Y1t
 rw[List.any_eq_false]
 rintro⟨x,i⟩ hq
 obtain⟨hi,e⟩:∃hi:i<l.length,x=l[i]:=by
  have hx:=List.mem_zipIdx hq
  simp only[Nat.zero_le,Nat.zero_add,Nat.sub_zero,true_and]at hx
  obtain⟨hi,e⟩:=hx
  exact⟨hi,e⟩
 clear hq
 simp only[yD,yO,not_and]
 intro h0 hle
 have h0:0<i:=by omega
 unfold V1r at hle
 rw[yd h0,yA (by omega),Option.getD_some]at hle
 subst e
 have:=List.pairwise_iff_getElem.1 h (i-1) i (by omega) hi (by omega)
 omega
theorem J0J(n:Int):∀{l:List Int},l.Pairwise (· < ·)->n∉l->(rise n l).Pairwise (· < ·)
 |[],_,_=>by simp[rise]
 |x::l,h,hn=>by
  have hx:n≠x:=fun e=>hn (by simp[e])
  unfold rise
  split
  .rename_i hlt
   refine List.pairwise_cons.2 ⟨fun y hy=>?_,h⟩
   rcases yX hy with rfl|hy
   .exact hlt
   .have:=(List.pairwise_cons.1 h).1 y hy;omega
  .refine List.pairwise_cons.2 ⟨fun y hy=>?_,J0J n (List.pairwise_cons.1 h).2 fun q=>hn (yH _ q)⟩
   rcases(M0c n y l).1 hy with rfl|hy
   .omega
   .exact(List.pairwise_cons.1 h).1 y hy
theorem J10(fr:Int){v:List Int}(h:v.Pairwise (· < ·))(x:Pt):(MA fr v x).Pairwise (· < ·):=by
 unfold MA
 cases hc:(decide (fr<x.t)&&!v.contains x.t)with
 |false=>exact h
 |true =>
  rw[yN]
  simp only[yD,Bool.not_eq_true']at hc
  exact J0J _ h fun q=>by rw[List.contains_iff_mem.2 q]at hc;cases hc.2
theorem Q0k(fr:Int)(ps:List (List Pt)){v:List Int}(h:v.Pairwise (· < ·)):(timesF fr ps v).Pairwise (· < ·) :=
 V0o (fun v:List Int=>v.Pairwise (· < ·)) (fun v p hv=>V0o (fun v:List Int=>v.Pairwise (· < ·)) (fun _ x hv=>J10 fr hv x) p v hv) ps v h
theorem U1I(fr m:Int):∀(p:List Pt) (v:List Int),m∈p.foldl (MA fr) v↔m∈v\/∃x∈p,fr<x.t/\m=x.t
 |[],v=>by simp
 |x::p,v=>by
  have h1:m∈MA fr v x↔m∈v\/(fr<x.t/\m=x.t):=by
   unfold MA
   by_cases hx:fr<x.t
   .rw[show decide (fr<x.t)=true by simpa using hx,Bool.true_and]
    cases hc:v.contains x.t with
    |true =>
     have:=List.contains_iff_mem.1 hc
     simp only[yL,yM]
     exact⟨.inl,fun q=>q.elim id fun q=>q.2 ▸ this⟩
    |false =>
     simp only[Bool.not_false,yN]
     rw[M0c]
     exact⟨fun q=>q.elim (fun e=>.inr ⟨hx,e⟩) .inl,fun q=>q.elim .inr fun e=>.inl e.2⟩
   .rw[show decide (fr<x.t)=false by simpa using hx,Bool.false_and,yM]
    exact⟨.inl,fun q=>q.elim id fun q=>absurd q.1 hx⟩
  rw[List.foldl_cons,U1I fr m p,h1]
  simp only[List.mem_cons,exists_eq_or_imp,or_assoc]
theorem M0X(fr m:Int):∀(ps:List (List Pt)) (v:List Int),m∈timesF fr ps v↔m∈v\/∃p∈ps,∃x∈p,fr<x.t/\m=x.t
 |[],v=>by simp[timesF]
 |p::ps,v=>by
  have e:timesF fr (p::ps) v=timesF fr ps (p.foldl (MA fr) v):=rfl
  rw[e,M0X fr m ps,U1I]
  simp only[List.mem_cons,exists_eq_or_imp,or_assoc]
def ptsF(fr:Int)(p:List Pt):List Int:=(p.filter fun x=>decide (fr<x.t)).map Pt.t
theorem Q1s{r:Room}(R:RoomP r)(j:Job)(fr:Int):((appL 24 [r.lics] r.profs).bind fun xs5=>rgl (Yq fr) (Jp r j) xs5 0 [fr])=rgl (Ud r j) Vi (timesF fr (r.profs++[r.lics]) [fr]) 0 ():=by
 have h1:=R.topo.nodes
 have h2:=R.profs
 rw[M0 (by simp;omega),bS]
 have hle:∀p∈[r.lics]++r.profs,p.length<=200:=fun p hp=>by
  rcases List.mem_append.1 hp with hp|hp
  .simp at hp;subst hp;exact R.lics.le
  .exact(R.prof p hp).le
 refine Y8 (l0:=[r.lics]++r.profs) (fun i (v:List Int)=>v=[fr]++(([r.lics]++r.profs).take i).flatMap (ptsF fr)/\v.length<=1+200*i) (fun o=>o=rgl (Ud r j) Vi (timesF fr (r.profs++[r.lics]) [fr]) 0 ()) (fun i p v k hx hI hk=>?_) (fun v hI=>?_) ⟨by simp,by simp⟩
 .obtain⟨i1,i2⟩:=hI
  have hi:=(yB hx).1
  have hp:=hle p (yE hx)
  simp only[yU,List.length_singleton]at hi
  unfold Yq
  rw[U5 (bd:=VE fr) (bs:=8) (p:=fun x:Pt=>decide (fr<x.t)) (f:=Pt.t) (fun x _ i b k=>rfl) (by omega)]
  unfold XE
  refine hk _ ⟨?_,?_⟩
  .rw[List.take_succ_eq_append_getElem (by simp;omega),List.flatMap_append,ya,List.flatMap_nil,List.append_nil,i1,List.append_assoc]
   rw[yA (by simp;omega)]at hx
   rw[Option.some.inj hx];rfl
  .have:(p.filter fun x:Pt=>decide (fr<x.t)).length<=p.length:=List.length_filter_le ..
   simp only[yU,List.length_map];omega
 .obtain⟨i1,i2⟩:=hI
  rw[List.take_of_length_le (yV _)]at i1
  unfold Jp Y12
  have hl:v.length<4611686018427387904:=by simp at i2;omega
  rw[yd hl,bS]
  obtain⟨s1,s2⟩:=J0X v
  obtain⟨c1,c2⟩:=L0y s1
  rw[O0t c1 (Q0k fr (r.profs++[r.lics]) (v:=[fr]) (by simp)) fun x=>?_]
  rw[c2,s2,i1,M0X]
  simp only[List.mem_append,List.mem_flatMap,ptsF,List.mem_map,List.mem_filter,yO]
  constructor
  .rintro(q|⟨p,hp,y,⟨hy,hlt⟩,rfl⟩)
   .exact .inl q
   .exact .inr ⟨p,hp.symm,y,hy,hlt,rfl⟩
  .rintro(q|⟨p,hp,y,hy,hlt,rfl⟩)
   .exact .inl q
   .exact .inr ⟨p,hp.symm,y,⟨hy,hlt⟩,rfl⟩
theorem L1f{r:Room}(R:RoomP r){j:Job}(hj:X1 j=true):∀(l:List Int) (i:Nat),l.Pairwise (· < ·)->(∀t∈l,time t=true)->rgl (Ud r j) Vi l i ()=some (match l.find? (fun t=>(canM r j t).2)with
  |some t=>(t,(canM r j t).1,true)
  |none=>(0,[],false))
 |[],_,_,_=>rfl
 |t::l,i,hs,ht=>by
  have hw:=(Md.1 hj).2.2.2.2.2.1
  have hnn:=(Md.1 hj).2.2.1
  have ht0:=U8.1 (ht t (yJ ..))
  obtain⟨s1,s2⟩:=List.pairwise_cons.1 hs
  rw[rgl]
  unfold Ud
  rw[X5 (by omega)]
  have far:∀t',1000000000<t'+j.wall->(canM r j t').2=false:=fun t' h=>by
   have:spanOk t' (t'+j.wall)=false:=by
    rw[Bool.eq_false_iff];intro q
    have:=U8.1 (ZN.1 q).2.1
    omega
   unfold canM;rw[this];rfl
  by_cases hb:1000000000<t+j.wall
  .rw[show decide (1000000000<t+j.wall)=true by simpa using hb,yN]
   have:(t::l).find? (fun t=>(canM r j t).2)=none:=by
    rw[List.find?_eq_none]
    intro t' h'
    have:1000000000<t'+j.wall:=by
     rcases yX h' with rfl|h'
     .exact hb
     .have:=s1 t' h';omega
    rw[far t' this];simp
   rw[this];rfl
  rw[show decide (1000000000<t+j.wall)=false by simpa using hb,yM,W0n R.lics,bS,W08,List.find?_cons]
  have hspan:spanOk t (t+j.wall)=true:=ZN.2 ⟨ht t (yJ ..),U8.2 (by omega),by omega⟩
  have ih:=L1f R hj l (i+1) s2 fun t' h'=>ht t' (yH _ h')
  cases hfit:Z3 j.lic (minV r.lics t (t+j.wall))with
  |false =>
   have:(canM r j t).2=false:=by unfold canM;rw[hfit,Bool.and_false];rfl
   rw[this]
   exact ih
  |true =>
   obtain⟨a1,a2⟩:=W1B R j.need t (t+j.wall)
   have hno:Q4 r.topo (Y0Q r j.need t (t+j.wall))=true:=Q3.2 ⟨R.topo,a2⟩
   have hl:=(U03 R j.need t (t+j.wall)).2
   have e:canM r j t=O00 r.topo (Y0Q r j.need t (t+j.wall)) j.nodes j.level:=by unfold canM;rw[hspan,hfit];rfl
   simp only[yL,yM]
   rw[J0F R j.need hspan,bS,U0W hno hl hnn.1 (V1B a1) j.level,bS,← e]
   cases h:(canM r j t).2 with
   |true=>rfl
   |false=>exact ih
theorem W0G(r:Room)(j:Job)(fr:Int):Xq r j fr=some (bif roomOk r&&X1 j&&time fr then L1G r j fr else(0,[],false)):=by
 unfold Xq
 rw[VV,bS,XM,Xs]
 cases hr:roomOk r with
 |false=>rfl
 |true=>cases hj:X1 j with
  |false=>rfl
  |true=>cases ht:time fr with
   |false=>rfl
   |true =>
    have R:=YN.1 hr
    simp only[yL,Bool.or_self,yM,Bool.and_self,yN]
    rw[Q1s R]
    have hall:∀t∈timesF fr (r.profs++[r.lics]) [fr],time t=true:=fun t h=>by
     rcases Q0r fr t _ _ h with h|⟨p,hp,x,hx,rfl⟩
     .rw[List.mem_singleton.1 h];exact ht
     .rcases List.mem_append.1 hp with hp|hp
      .exact((R.prof p hp).ok x hx).1
      .rw[List.mem_singleton.1 hp]at hx;exact(R.lics.ok x hx).1
    rw[L1f R hj _ 0 (Q0k fr _ (by simp)) hall]
    rfl
theorem Z1l(r:Room)(j:Job)(fr:Int):Xq r j fr=Uj r j fr:=by rw[W0G,YJ]
end Go.Proofs.YtpgaganbacipnaaGreat
namespace Go.Proofs.YtpgaganbacipnaaGreat
open Go Go.RowKit Eng Go.Sort
theorem J0P{α:Type}{k:Nat}{enc:α->List Value}(hk:∀x,(enc x).length=k):∀(l:List α) (i c:Nat),c<k->(l.flatMap enc)[i*k+c]?=l[i]?.bind fun x=>(enc x)[c]?
 |[],i,c,_=>by simp
 |x::l,0,c,hc=>by
  rw[ya,yK (by rw[hk];omega)]
  simp
 |x::l,i+1,c,hc=>by
  rw[ya,yS (by rw[hk,Nat.succ_mul];omega),hk]
  have:(i+1)*k+c-k=i*k+c:=by rw[Nat.succ_mul];omega
  rw[this,J0P hk l i c hc]
  simp
theorem L0P{α:Type}{k:Nat}{enc:α->List Value}(hk:∀x,(enc x).length=k)(l:List α):(l.flatMap enc).length=l.length*k:=by
 induction l with
 |nil=>simp
 |cons x l ih=>rw[ya,yU,ih,hk,yT,Nat.succ_mul];omega
theorem Z1t{α:Type}[Inhabited α]{k:Nat}(h0:0<k){enc:α->List Value}(hk:∀x,(enc x).length=k)(l:List α):(flatK enc k l.toArray).toList=l.flatMap enc:=by
 apply List.ext_getElem (by rw[L0P hk];simp)
 intro t h1 h2
 have ht:t<l.length*k:=by simpa using h1
 have hi:t / k<l.length:=Nat.div_lt_of_lt_mul (by rw[Nat.mul_comm];exact ht)
 have hc:t % k<k:=Nat.mod_lt _ h0
 have e:=J0P hk l (t / k) (t % k) hc
 have e2:t / k*k+t % k=t:=by rw[Nat.mul_comm];exact Nat.div_add_mod t k
 rw[e2,yA h2,yA hi]at e
 simp only[bS]at e
 rw[yA (by rw[hk];exact hc)]at e
 rw[Option.some.inj e]
 simp only[flatK,Array.toList_map,List.getElem_map,Array.getElem_toList,Array.getElem_range]
 rw[getElem!_pos l.toArray (t / k) (by simpa using hi)]
 simp only[List.getElem_toArray]
 rw[getElem!_pos _ (t % k) (by rw[hk];exact hc)]
theorem W0Z{w:World}{b:Nat}{cur F:Array Value}{ty:TypeId}(h1:w.heap[b]?=some (.cells cur ty (0,0)))(h5:cur.toList.take F.size=F.toList):Holds id w b 0 F:=by
 intro j hj
 refine⟨?_,frozen_of_row w b (0+j) cur ty h1⟩
 have hc:cur[j]?=some F[j]:=by
  have:=congrArg (·[j]?) h5
  simp only[List.getElem?_take,hj,yb,Array.getElem?_toList,Array.getElem?_eq_getElem hj]at this
  exact this
 simp only[World.cell?,h1,Option.isSome_none,yG,yc,Nat.zero_add]
 rw[hc]
 simp[hj]
theorem Y0K{w:World}{b:Nat}{cur F:Array Value}{ty:TypeId}(h1:w.heap[b]?=some (.cells cur ty (0,0)))(h2:F.size<=cur.size)(n:Nat)(os:Array Obj) :
  ∃cur':Array Value,(grow (putRow id (Sort.ahead w n) b 0 F) os).heap[b]?=some (.cells cur' ty (0,0))/\cur'.size=cur.size/\cur'.toList.take F.size=F.toList /\
   w.heap.size<=(grow (putRow id (Sort.ahead w n) b 0 F) os).heap.size/\∀k,k<w.heap.size->k≠b->(grow (putRow id (Sort.ahead w n) b 0 F) os).heap[k]?=w.heap[k]?:=by
 have hb:b<w.heap.size:=(Array.getElem?_eq_some_iff.1 h1).1
 have hg:∀k,k<w.heap.size->(grow (putRow id (Sort.ahead w n) b 0 F) os).heap[k]?=(w.heap.modify b (onCells (putCells id 0 F)))[k]?:=by
  intro k hk
  simp only[grow,putRow,mapBlock,Sort.ahead]
  rw[Array.getElem?_append_left (by simpa using hk)]
 refine⟨putCells id 0 F cur,?_,?_,?_,?_,fun k hk hne=>?_⟩
 .rw[hg b hb,Array.getElem?_modify];simp only[yb,h1];rfl
 .simp[putCells]
 .apply List.ext_getElem
  .simp[putCells];omega
  .intro j q1 q2
   have hj:j<F.size:=by simpa using q2
   simp[putCells,hj]
 .simp[grow,putRow,mapBlock,Sort.ahead]
 .rw[hg k hk,Array.getElem?_modify,ye (fun e=>hne e.symm)]
theorem V1E{α:Type}{sz:Nat}{enc:α->AV}{val:α->List Value}(E:Enc sz enc val)(h0:0<sz){P:Program}{ρ:Shelf.Ren}(L:SlLaysF0.n6 P ρ)(aE:∀w,(isAgg (ρ.t 24)).run P w=.ok true w)(zE:∀w,(Go.sizeOf (ρ.t 24)).run P w=.ok sz w)(g:Nat)(eg:∀args w,(callFunc g args).run P w=.ok (.enter g args) w)
  (zs:List α) (cf:Fin zs.length->Fin zs.length->Int) (hO:SWO (ltOf cf)) (hT:∀x y,(ltOf cf) x y=false->(ltOf cf) y x=false->x=y) (le:α->α->Bool) (hle:∀x y:Fin zs.length,(!(ltOf cf) y x)=le zs[x] zs[y])
  (hcmp:∀(x y:Fin zs.length) (w:World),Calls P g #[.agg (val zs[x]).toArray,.agg (val zs[y]).toArray] w fun e w'=>e=.returned (.int .i64 (cf x y))/\∃q os',w'=grow (w.drewN q) os') (hl:zs.length<4611686018427387904) :
  RowX P (ρ.f 6) sz enc val [.fn g []] zs (zs.mergeSort le) false:=by
 intro w gh n0 us H hul hus
 match us,hul with
 |[u],_ =>
 obtain⟨vs,hu,hvs,_⟩:=(hus 0 _ u rfl rfl).fn_inv
 have hvs0:vs=[]:=List.eq_nil_of_length_eq_zero (by simpa using hvs.symm)
 subst hvs0
 refine⟨fun hz=>?_,fun b cap cur ty h1 h2 h3 h4 h5 h6=>?_⟩
 .subst hz
  exact(AnyF.slices_SortFunc_none L none 0 u w).mono fun e w' h=>⟨by simp[h.1],h.2⟩
 .have hb:b<w.heap.size:=(Array.getElem?_eq_some_iff.1 h1).1
  by_cases hz:zs=[]
  .subst hz
   refine(AnyF.slices_SortFunc_none L (some ⟨b,0,none⟩) cap u w).mono fun e w' h=>?_
   obtain⟨he,rfl⟩:=h
   exact⟨by simp[he],cur,h1,h4,by simp,by simp,rfl,rfl,rfl,yV _,fun _ _ _=>rfl⟩
  .have hn:0<zs.length:=List.length_pos_iff.2 hz
   haveI:Inhabited (Fin zs.length):=⟨⟨0,hn⟩⟩
   have hk:∀x:Fin zs.length,(val zs[x]).length=sz:=fun x=>E.vlen _
   have hfr:(List.finRange zs.length).map (fun x:Fin zs.length=>zs[x])=zs:=by
    apply List.ext_getElem (by simp)
    intro j q1 q2
    simp
   have hff:∀l:List (Fin zs.length),(flatK (fun x:Fin zs.length=>val zs[x]) sz l.toArray).toList=(l.map fun x:Fin zs.length=>zs[x]).flatMap val:=fun l=>by
    rw[Z1t h0 hk,List.flatMap_map]
   have hs0:(flatK (fun x:Fin zs.length=>val zs[x]) sz (List.finRange zs.length).toArray).size=zs.length*sz:=by simp
   have hH:HoldsK (fun x:Fin zs.length=>val zs[x]) sz w b 0 (List.finRange zs.length).toArray:=by
    refine W0Z h1 ?_
    rw[hs0,h5,hff,hfr]
   have:=AnyQ.slices_SortFunc_total L sz aE zE (fun x:Fin zs.length=>val zs[x]) hk (fun x=>E.vone _) cf hO g #[] b 0 cap (List.finRange zs.length).toArray w eg (fun m os dk _ x y=>hcmp x y _) hH hb (by simpa using hl) hT
   simp only[List.size_toArray,List.length_finRange]at this
   rw[hu]
   refine this.mono fun e w' h=>?_
   obtain⟨he,n,os,hw⟩:=h
   have e1:((List.finRange zs.length).mergeSort fun x y=>!(ltOf cf) y x).map (fun x:Fin zs.length=>zs[x])=zs.mergeSort le:=by
    rw[List.map_mergeSort (s:=le),hfr]
    intro x _ y _
    exact hle x y
   obtain⟨F,hF⟩:∃F,F=flatK (fun x:Fin zs.length=>val zs[x]) sz ((List.finRange zs.length).mergeSort fun x y=>!(ltOf cf) y x).toArray:=⟨_,rfl⟩
   have hFl:F.toList=(zs.mergeSort le).flatMap val:=by rw[hF,hff,e1]
   have hFs:F.size=zs.length*sz:=by rw[hF];simp
   have hw2:w'=grow (putRow id (Sort.ahead w n) b 0 F) os:=by
    rw[hw,hF]
    rfl
   rw[hw2]
   have hm:=Nat.mul_le_mul_right sz h2
   obtain⟨cur',q1,q2,q3,q4,q5⟩:=Y0K (F:=F) h1 (by rw[hFs,h4];exact hm) n os
   refine⟨by simp[he],cur',q1,by rw[q2,h4],?_,by simpa using h2,rfl,rfl,rfl,q4,q5⟩
   rw[List.length_mergeSort,← hFs,q3,hFl]
def jobV(x:Job):List Value:=[.int .i64 x.id,.int .i64 x.prio,.int .i64 x.nodes,.int .i64 x.need.a,.int .i64 x.need.b,.int .i64 x.need.c,.int .i64 x.lic.a,.int .i64 x.lic.b,.int .i64 x.lic.c,.int .i64 x.wall,.int .i64 x.level]
theorem V0j:Enc 11 eJob jobV:=by
 have key:∀x (j:Nat) (a:AV) (u:Value),(eJob x).cells[j]?=some a->(jobV x)[j]?=some u->∃n,a=.int .i64 n/\u=.int .i64 n:=by
  intro x j a u h1 h2
  simp only[eJob,AV.cells,jobV]at h1 h2
  match j with
  |0|1|2|3|4|5|6|7|8|9|10=>exact⟨_,(Option.some.inj h1).symm,(Option.some.inj h2).symm⟩
  |j+11=>simp at h1
 refine⟨fun x=>rfl,fun x=>rfl,fun x a ha=>?_,fun x v hv=>?_,fun w S T x j a u h1 h2=>?_,fun w S T x j a u v h1 h2 h=>?_⟩
 .obtain⟨j,hj⟩:=List.getElem?_of_mem ha
  have hl:j<(jobV x).length:=by have:=(yB hj).1;exact this
  obtain⟨n,rfl,_⟩:=key x j a _ hj (yA hl)
  rfl
 .simp only[jobV,List.mem_cons,List.not_mem_nil,or_false]at hv
  rcases hv with rfl|rfl|rfl|rfl|rfl|rfl|rfl|rfl|rfl|rfl|rfl<;>rfl
 .obtain⟨n,rfl,rfl⟩:=key x j a u h1 h2
  exact .int _ _
 .obtain⟨n,rfl,rfl⟩:=key x j a u h1 h2
  cases h;rfl
def UJ(x y:Job):Bool:=!decide (x.prio<y.prio\/(x.prio=y.prio/\y.id<x.id))
def X0j(l:List Job):Prop:=(l.map (·.id)).Nodup/\(∀j∈l,-2305843009213693952<=j.prio/\j.prio<=2305843009213693952/\-2305843009213693952<=j.id/\j.id<=2305843009213693952)/\l.length<4611686018427387904
instance(l:List Job):Decidable (X0j l):=by unfold X0j;infer_instance
def O0H(l:List Job):Option (List Job):=if X0j l then some (l.mergeSort UJ)else none
def X0Z(l:List Job)(x y:Fin l.length):Int:=if l[x].prio≠l[y].prio then wrap64 (l[y].prio-l[x].prio)else wrap64 (l[x].id-l[y].id)
theorem jw64{z:Int}(h:-9223372036854775808<=z/\z<=9223372036854775807):wrap64 z=z:=by
 unfold wrap64;omega
theorem Y08{l:List Job}(h:X0j l)(x y:Fin l.length):ltOf (X0Z l) x y=decide (l[y].prio<l[x].prio\/(l[x].prio=l[y].prio/\l[x].id<l[y].id)):=by
 have hx:=h.2.1 l[x] (List.getElem_mem x.isLt)
 have hy:=h.2.1 l[y] (List.getElem_mem y.isLt)
 unfold ltOf X0Z
 rw[decide_eq_decide]
 by_cases e:l[x].prio=l[y].prio
 .rw[ye (by simpa using e),jw64 (by omega)]
  omega
 .rw[yd e,jw64 (by omega)]
  omega
theorem Y1s{l:List Job}(h:X0j l):SWO (ltOf (X0Z l)) where
 irrefl x:=by rw[Y08 h];simp
 trans x y z h1 h2:=by
  rw[Y08 h]at *
  simp only[yO]at *
  omega
 ntrans x y z h1 h2:=by
  rw[Y08 h]at *
  simp only[decide_eq_false_iff_not]at *
  omega
theorem J1d{l:List Job}(h:X0j l)(x y:Fin l.length)(h1:ltOf (X0Z l) x y=false)(h2:ltOf (X0Z l) y x=false):x=y:=by
 rw[Y08 h]at h1 h2
 simp only[decide_eq_false_iff_not]at h1 h2
 have e:l[x].id=l[y].id:=by omega
 have hn:=h.1
 have hp:=List.pairwise_iff_getElem.1 hn
 rcases Nat.lt_trichotomy x.val y.val with q|q|q
 .exact absurd (by simpa using e) (hp x.val y.val (by simp) (by simp) q)
 .exact Fin.ext q
 .exact absurd (by simpa using e.symm) (hp y.val x.val (by simp) (by simp) q)
theorem V1i{l r:List Job}(h:O0H l=some r):X0p Tryz.prog Jd 11 (l.map eJob) [.fn Y0i []] false (r.map eJob):=by
 unfold O0H at h
 split at h
 .rename_i hl
  cases h
  have eg:∀args w,(callFunc 248 args).run Tryz.prog w=.ok (.enter 248 args) w:=enters_of Tryz.func248 (by kernel_rfl) rfl
  refine M0H V0j (fun e=>by subst e;simp) (fun _=>by simp) ?_
  refine V1E (ρ:=Tryz.sortFJ_ren) V0j (by omega) Tryz.sortFJ Tryz.isAgg36 Tryz.sizeOf36 248 eg l (X0Z l) (Y1s hl) (J1d hl) UJ (fun x y=>?_) (fun x y w=>?_) hl.2.2
  .rw[Y08 hl];unfold UJ;congr 1;rw[decide_eq_decide];omega
  .exact M1i _ _ _ _ _ _ _ _ _ _ _ _ _ _ _ _ _ _ _ _ _ _ w
 .cases h
end Go.Proofs.YtpgaganbacipnaaGreat
namespace Go.Proofs.YtpgaganbacipnaaGreat
open Go Go.RowKit Eng
noncomputable def V0N:L :=
 lf Tryz.prog L0h [] [] [] [] [(11,8)] [] []
def Xk(l1:List Job)(i4:Nat)(x4:Job)(k4:Unit->Option Bool)(v5:Int)(k5:Int->Option Bool):Option Bool :=
 bif (decide (v5<(i4:Int)))then((idx l1 v5).bind fun e6=>bif (e6.id==x4.id)then(some false)else(k5 (w64 (v5+1))))else(k4 ())
def JI(l1:List Job)(x4:Job)(i4:Nat)(_:Unit)(k4:Unit->Option Bool):Option Bool :=
 bif (!(X1 x4))then(some false)else(whl (Xk l1 i4 x4 k4) 9223372036854775807 0)
def LI(_:Unit):Option Bool :=
 some true
def Vm(l1:List Job):Option Bool :=
 bif (decide (60<(l1.length:Int)))then(some false)else(rgl (JI l1) LI l1 0 ())
theorem WO{l1:List Job}{r:Bool}(H:Vm l1=some r):Snd Tryz.prog L0h [rV 11 (l1.map eJob)] (.bool r) []:=by
 refine wS V0N [.t 2] ?_
 unfold Vm at H
 refine wG [.u 7 (.ln _ _ fun _=>lm l1 eJob)] fun q2=>?_
 refine O0 H (fun H=>?_) fun H=>?_
 .obtain rfl:=sI H
  exact wP (wE [(2,.d)])
 .refine wG [.u 10 (.ln _ _ fun _=>lm l1 eJob)] fun q3=>?_
  refine wR (fun(i4:Nat) (v4:Unit)=>⟨[(0,rV 11 (l1.map eJob)),(9,rV 11 (l1.map eJob)),(10,iV (l1.length:Int)),(11,iV (i4:Int))],[],[],[]⟩) H (fun i4 x4 v4 I m k4 hxv4 hiv4 H N48=>?_) (fun v4 I m H=>?_)
  .unfold JI at H
   refine wP ?_
   refine wt (ltT hiv4) ?_
   refine wG [.u 14 (.ix _ _ _ fun _=>Q0 eJob (J0 hxv4)),.c 17 (VL x4)] fun _=>?_
   refine O0 H (fun H=>?_) fun H=>?_
   .obtain rfl:=sI H
    exact wP (wE [(2,.d)])
   .refine wP ?_
    refine wW (fun(v5:Int)=>⟨[(0,rV 11 (l1.map eJob)),(3,iV (i4:Int)),(4,.ptr 4 0),(5,iV v5),(9,rV 11 (l1.map eJob)),(10,iV (l1.length:Int)),(11,iV (i4:Int))],[],[(4,(eJob x4).cells)],[]⟩) H (fun v5 I m k5 H N38=>?_)
    unfold Xk at H
    refine wP ?_
    refine O0 H (fun H=>?_) fun H=>?_
    .obtain⟨e6,h6,H⟩:=bB H
     refine wG [.u 26 (.ix _ _ _ fun _=>Q0 eJob h6)] fun _=>?_
     refine O0 H (fun H=>?_) fun H=>?_
     .obtain rfl:=sI H
      exact wP (wE [(2,.d)])
     .refine wP ?_
      exact wT (N38 _ H)
    .refine wG [.w 32 (wi .i64 rfl hiv4 q2.1)] fun _=>?_
     exact wT (N48 () H)
  .unfold LI at H
   refine wP ?_
   refine wf (ltF l1.length) ?_
   obtain rfl:=sI H
   exact wP (wE [(2,.d)])
noncomputable def M0u:L :=
 lf Tryz.prog QK [] [] [] [] [] [] []
def Ut(a1 b2:Job):Option Bool :=
 some ((decide (b2.prio<a1.prio))||((a1.prio==b2.prio)&&(decide (a1.id<b2.id))))
theorem M0i{a1 b2:Job}{r:Bool}(H:Ut a1 b2=some r):Snd Tryz.prog QK [eJob a1,eJob b2] (.bool r) []:=by
 refine wS M0u [.t 4] ?_
 unfold Ut at H
 obtain rfl:=sI H
 exact wP (wE [(4,.d)])
def J6(a1 b2:Job):Bool :=
 ((decide (b2.prio<a1.prio))||((a1.prio==b2.prio)&&(decide (a1.id<b2.id))))
theorem Z0B(a1 b2:Job):Ut a1 b2=some (J6 a1 b2):=by
 unfold Ut J6
 first|rfl|simp only[O5]
theorem Y0s(a1 b2:Job):Snd Tryz.prog QK [eJob a1,eJob b2] (.bool (J6 a1 b2)) []:=M0i (Z0B a1 b2)
noncomputable def Q15:L :=
 lf Tryz.prog Q0z [10,21] [] [] [] [] [] [32087347]
def Ub(x6:Job)(k6:(Bool×(List Job))->Option (List Job))(v8:Bool×(List Job)):Option (List Job) :=
 (appL 88 v8.2 [x6]).bind fun xs9=>k6 (v8.1,xs9)
def Jk(x4 x6:Job)(_:Nat)(v6:Bool×(List Job))(k6:(Bool×(List Job))->Option (List Job)):Option (List Job) :=
 bif ((!v6.1)&&(J6 x4 x6))then((appL 88 v6.2 [x4]).bind fun xs7=>(Ub x6 k6) (true,xs7))else((Ub x6 k6) (v6.1,v6.2))
def Lk(x4:Job)(k4:(List Job)->Option (List Job))(v6:Bool×(List Job)):Option (List Job) :=
 bif (!v6.1)then((appL 88 v6.2 [x4]).bind fun xs10=>k4 xs10)else(k4 v6.2)
def UF(x4:Job)(_:Nat)(v4:(List Job))(k4:(List Job)->Option (List Job)):Option (List Job) :=
 rgl (Jk x4) (Lk x4 k4) v4 0 (false,[])
def YU(v4:(List Job)):Option (List Job) :=
 some v4
def MW(l1:List Job):Option (List Job) :=
 (Vm l1).bind fun b2=>bif (!b2)then(some [])else(rgl UF YU l1 0 [])
theorem L11{l1:List Job}{r:(List Job)}(H:MW l1=some r):Snd Tryz.prog Q0z [rV 11 (l1.map eJob)] (nV 11 (r.map eJob)) []:=by
 refine wS Q15 [.t 2] ?_
 unfold MW at H
 obtain⟨b2,h2,H⟩:=bB H
 refine wG [.c 12 (WO h2)] fun _=>?_
 refine O0 H (fun H=>?_) fun H=>?_
 .refine wP ?_
  replace H:=sI H;subst H
  exact wN [(2,.f)] [] [] [10] [] [⟨_,Lh ([]:List Job)⟩]
 .refine wG [.u 16 (.ln _ _ fun _=>lm l1 eJob)] fun q3=>?_
  refine wR (fun(i4:Nat) (v4:(List Job))=>⟨[(3,.sref 10),(15,rV 11 (l1.map eJob)),(16,iV (l1.length:Int)),(17,iV (i4:Int))],[],[],[(10,⟨11,v4.map eJob,false⟩)]⟩) H (fun i4 x4 v4 I m k4 hxv4 hiv4 H N57=>?_) (fun v4 I m H=>?_)
  .unfold UF at H
   refine wP ?_
   refine wt (ltT hiv4) ?_
   refine wG [.u 19 (.ix _ _ _ fun _=>Q0 eJob (J0 hxv4)),.u 23 (.ln _ _ fun _=>lm v4 eJob)] fun q5=>?_
   refine wR (fun(i6:Nat) (v6:Bool×(List Job))=>⟨[(5,.ptr 5 0),(6,.sref 21),(7,.bool v6.1),(15,rV 11 (l1.map eJob)),(16,iV (l1.length:Int)),(17,iV (i4:Int)),(22,.sref 10),(23,iV (v4.length:Int)),(24,iV (i6:Int))],[],[(5,(eJob x4).cells)],[(21,⟨11,v6.2.map eJob,false⟩),(10,⟨11,v4.map eJob,false⟩)]⟩) H (fun i6 x6 v6 I m k6 hxv6 hiv6 H N38=>?_) (fun v6 I m H=>?_)
   .unfold Jk at H
    refine wP ?_
    refine wt (ltT hiv6) ?_
    refine wG [.u 26 (.ix _ _ _ fun _=>Q0 eJob (J0 hxv6)),.u 27 (.el _ _ _ fun _=>gm eJob (W4 (J0 hxv6))),.g 33 [((!v6.1),true)] (.call _ _ _ _ _ (AEs.refl _) (fun _=>Y0s x4 x6))] fun _=>?_
    refine X6 (r:=r) (Ub x6 k6) 0 (fun v8:Bool×(List Job)=>⟨[(5,.ptr 5 0),(6,.sref 21),(7,.bool v8.1),(9,.ptr 9 0),(15,.sl .rd 11 (l1.map eJob)),(16,.int .i64 (l1.length:Int)),(17,.int .i64 (i4:Int)),(22,.sref 10),(23,.int .i64 (v4.length:Int)),(24,.int .i64 (i6:Int))],[],[(5,(eJob x4).cells),(9,(eJob x6).cells)],[(21,⟨11,v8.2.map eJob,false⟩),(10,⟨11,v4.map eJob,false⟩)]⟩) (by kernel_rfl) (fun v8 H=>?_) (fun J30=>?_)
    .unfold Ub at H
     obtain⟨xs9,h9,H⟩:=bB H
     refine wG [.u 42 (.ap _ _ _ _ fun _=>L0 eJob h9),.w 43 (wi .i64 rfl hiv6 q5.1)] fun _=>?_
     exact wT (N38 _ H)
    .refine O0 H (fun H=>?_) fun H=>?_
     .obtain⟨xs7,h7,H⟩:=bB H
      refine wG [.u 38 (.ap _ _ _ _ fun _=>L0 eJob h7)] fun _=>?_
      exact wT (J30 _ H)
     .refine wP ?_
      exact wT (J30 _ H)
   .unfold Lk at H
    refine wP ?_
    refine wf (ltF v4.length) ?_
    refine wP ?_
    refine O0 H (fun H=>?_) fun H=>?_
    .obtain⟨xs10,h10,H⟩:=bB H
     refine wG [.u 49 (.ap _ _ _ _ fun _=>L0 eJob h10),.w 51 (wi .i64 rfl hiv4 q3.1)] fun _=>?_
     exact U05 (N57 _ H) [] [] [(10,(some 21,0))] [] (by kernel_rfl) (by kernel_rfl)
    .refine wG [.w 51 (wi .i64 rfl hiv4 q3.1)] fun _=>?_
     exact U05 (N57 _ H) [] [] [(10,(some 21,0))] [] (by kernel_rfl) (by kernel_rfl)
  .unfold YU at H
   refine wP ?_
   refine wf (ltF l1.length) ?_
   refine wP ?_
   replace H:=sI H;subst H
   exact wN [(2,.f)] [] [] [10] [] [⟨_,Lh v4⟩]
noncomputable def V0M:L :=
 lf Tryz.prog Z0h [] [] [] [] [] [] []
def Xe(id2:Int)(x4:Job)(_:Nat)(_:Unit)(k4:Unit->Option (Job×Bool)):Option (Job×Bool) :=
 bif (x4.id==id2)then(some (x4,true))else(k4 ())
def VI(_:Unit):Option (Job×Bool) :=
 some ((Job.mk 0 0 0 (Vec.mk 0 0 0) (Vec.mk 0 0 0) 0 0),false)
def Yb(l1:List Job)(id2:Int):Option (Job×Bool) :=
 rgl (Xe id2) VI l1 0 ()
theorem Wx{l1:List Job}{id2:Int}{r:Job×Bool}(H:Yb l1 id2=some r):Snd Tryz.prog Z0h [rV 11 (l1.map eJob),iV id2] (.tup [eJob r.1,.bool r.2]) []:=by
 refine wS V0M [.c 4 11 true,.t 5] ?_
 unfold Yb at H
 refine wG [.u 9 (.ln _ _ fun _=>lm l1 eJob)] fun q3=>?_
 refine wR (fun(i4:Nat) (v4:Unit)=>⟨[(1,iV id2),(4,.ptr 4 0),(8,rV 11 (l1.map eJob)),(9,iV (l1.length:Int)),(10,iV (i4:Int))],[],[(4,(eJob (Job.mk 0 0 0 (Vec.mk 0 0 0) (Vec.mk 0 0 0) 0 0)).cells)],[]⟩) H (fun i4 x4 v4 I m k4 hxv4 hiv4 H N20=>?_) (fun v4 I m H=>?_)
 .unfold Xe at H
  refine wP ?_
  refine wt (ltT hiv4) ?_
  refine wG [.u 12 (.ix _ _ _ fun _=>Q0 eJob (J0 hxv4))] fun _=>?_
  refine O0 H (fun H=>?_) fun H=>?_
  .refine wP ?_
   replace H:=sI H;subst H
   exact wN [(4,.d),(5,.d)] [(4,[])] [] [] [] []
  .refine wG [.w 19 (wi .i64 rfl hiv4 q3.1)] fun _=>?_
   exact wT (N20 () H)
 .unfold VI at H
  refine wP ?_
  refine wf (ltF l1.length) ?_
  refine wP ?_
  replace H:=sI H;subst H
  exact wN [(4,.d),(5,.d)] [(4,[])] [] [] [] []
noncomputable def W0v:L :=
 lf Tryz.prog Me [] [] [] [] [] [] []
def Qu(k1 x2:Job):Option Bool :=
 some (k1.id==x2.id)
theorem M0j{k1 x2:Job}{r:Bool}(H:Qu k1 x2=some r):Snd Tryz.prog Me [eJob k1,.ept (eJob x2) 0] (.bool r) []:=by
 refine wS W0v [.t 3] ?_
 unfold Qu at H
 obtain rfl:=sI H
 exact wP (wE [(3,.d)])
def Us(k1 x2:Job):Bool :=
 (k1.id==x2.id)
theorem U0G(k1 x2:Job):Qu k1 x2=some (Us k1 x2):=by
 unfold Qu Us
 first|rfl|simp only[O5]
theorem X0w(k1 x2:Job):Snd Tryz.prog Me [eJob k1,.ept (eJob x2) 0] (.bool (Us k1 x2)) []:=M0j (U0G k1 x2)
noncomputable def Vd:L :=
 lf Tryz.prog Z4 [] [] [] [] [] [] []
def Z2(c2 x4:Job)(i4:Nat)(_:Unit)(k4:Unit->Option Int):Option Int :=
 bif (Us x4 c2)then(some (i4:Int))else(k4 ())
def J2(_:Unit):Option Int :=
 some (-1)
def V2(s1:List Job)(c2:Job):Option Int :=
 rgl (Z2 c2) J2 s1 0 ()
theorem Xd{s1:List Job}{c2:Job}{r:Int}(H:V2 s1 c2=some r):Snd Tryz.prog Z4 [rV 11 (s1.map eJob),.fn Me [.ept (eJob c2) 0]] (iV r) []:=by
 refine wS Vd [.t 4] ?_
 unfold V2 at H
 refine wG [.u 7 (.ln _ _ fun _=>lm s1 eJob)] fun q3=>?_
 refine wR (fun(i4:Nat) (v4:Unit)=>⟨[(0,rV 11 (s1.map eJob)),(1,.fn Me [.ept (eJob c2) 0]),(7,iV (s1.length:Int)),(8,iV (i4:Int))],[],[],[]⟩) H (fun i4 x4 v4 I m k4 hxv4 hiv4 H N20=>?_) (fun v4 I m H=>?_)
 .unfold Z2 at H
  refine wP ?_
  refine wt (ltT hiv4) ?_
  refine wG [.u 14 (.ix _ _ _ fun _=>Q0 eJob (J0 hxv4)),.u 16 (.clsr _ _ _ _ _ (AEs.refl _) (by kernel_rfl) (fun _=>X0w x4 c2))] fun _=>?_
  refine O0 H (fun H=>?_) fun H=>?_
  .refine wP ?_
   replace H:=sI H;subst H
   exact wE [(4,.d)]
  .refine wG [.w 18 (wi .i64 rfl hiv4 q3.1)] fun _=>?_
   exact wT (N20 () H)
 .unfold J2 at H
  refine wP ?_
  refine wf (ltF s1.length) ?_
  obtain rfl:=sI H
  exact wP (wE [(4,.d)])
noncomputable def Oa:L :=
 lf Tryz.prog U9 [] [] [] [] [] [] []
def V1(s1:List Job)(c2:Job):Option Bool :=
 (V2 s1 c2).bind fun n3=>some (decide (0<=n3))
theorem Wa{s1:List Job}{c2:Job}{r:Bool}(H:V1 s1 c2=some r):Snd Tryz.prog U9 [rV 11 (s1.map eJob),.fn Me [.ept (eJob c2) 0]] (.bool r) []:=by
 refine wS Oa [.t 4] ?_
 unfold V1 at H
 obtain⟨n3,h3,H⟩:=bB H
 refine wG [.c 7 (Xd h3)] fun _=>?_
 replace H:=sI H;subst H
 exact wE [(4,.d)]
noncomputable def V0O:L :=
 lf Tryz.prog Q0i [] [] [] [] [] [] []
def VK(l1:List Job)(x3:Job)(i3:Nat)(_:Unit)(k3:Unit->Option Bool):Option Bool :=
 (bif (!(X8 x3))then some default else(cutL l1 none (some (i3:Int)))).bind fun xs4=>(bif (!(X8 x3))then some default else(V1 xs4 x3)).bind fun b5=>bif ((!(X8 x3))||b5)then(some false)else(k3 ())
def XK(l1:List Job)(_:Unit):Option Bool :=
 some (decide ((l1.length:Int)<=60))
def Uw(l1:List Job):Option Bool :=
 rgl (VK l1) (XK l1) l1 0 ()
theorem J08{l1:List Job}{r:Bool}(H:Uw l1=some r):Snd Tryz.prog Q0i [rV 11 (l1.map eJob)] (.bool r) []:=by
 refine wS V0O [.t 2] ?_
 unfold Uw at H
 refine wG [.u 6 (.ln _ _ fun _=>lm l1 eJob)] fun q2=>?_
 refine wR (fun(i3:Nat) (v3:Unit)=>⟨[(0,rV 11 (l1.map eJob)),(5,rV 11 (l1.map eJob)),(6,iV (l1.length:Int)),(7,iV (i3:Int))],[],[],[]⟩) H (fun i3 x3 v3 I m k3 hxv3 hiv3 H N20=>?_) (fun v3 I m H=>?_)
 .unfold VK at H
  refine wP ?_
  refine wt (ltT hiv3) ?_
  obtain⟨xs4,h4,H⟩:=bB H
  obtain⟨b5,h5,H⟩:=bB H
  refine wG [.u 10 (.ix _ _ _ fun _=>Q0 eJob (J0 hxv3)),.c 13 (YM x3),.g 18 [(_,false)] (.sc _ _ _ _ fun q=>L19 eJob (bF q.1 h4)),.g 20 [(_,false)] (.call _ _ _ _ _ (AEs.refl _) (fun q=>Wa (bF q.1 h5)))] fun _=>?_
  refine O0 H (fun H=>?_) fun H=>?_
  .obtain rfl:=sI H
   exact wP (wE [(2,.d)])
  .refine wG [.w 22 (wi .i64 rfl hiv3 q2.1)] fun _=>?_
   exact wT (N20 () H)
 .unfold XK at H
  refine wP ?_
  refine wf (ltF l1.length) ?_
  refine wG [.u 24 (.ln _ _ fun _=>lm l1 eJob)] fun q6=>?_
  replace H:=sI H;subst H
  exact wE [(2,.d)]
noncomputable def J15:L :=
 lf Tryz.prog M0z [4] [(8,2)] [] [] [] [] []
def VX(l1:List Job):Option (List Job) :=
 (appL 88 ([]:List Job) l1).bind fun xs2=>(O0H xs2).bind fun xs3=>some xs3
theorem Q17{l1:List Job}{r:(List Job)}(H:VX l1=some r):Snd Tryz.prog M0z [rV 11 (l1.map eJob)] (nV 11 (r.map eJob)) []:=by
 refine wS J15 [.t 2] ?_
 unfold VX at H
 obtain⟨xs2,h2,H⟩:=bB H
 obtain⟨xs3,h3,H⟩:=bB H
 refine wG [.u 6 (.ap _ _ _ _ fun _=>L0 eJob h2),.u 8 (.cr Jd 11 _ [.fn Y0i []] _ false _ (fun _=>by simp) (fun _=>by simp) (fun _=>by simp) (fun _=>V1i h3))] fun _=>?_
 replace H:=sI H;subst H
 exact wN [(2,.f)] [] [] [4] [] [⟨_,Lh xs3⟩]
noncomputable def L0N:L :=
 lf Tryz.prog Xt [] [] [] [] [] [] []
def MF(j1:Job)(x2:Int):Option Bool :=
 some (j1.id==x2)
theorem M0v{j1:Job}{x2:Int}{r:Bool}(H:MF j1 x2=some r):Snd Tryz.prog Xt [eJob j1,.ept (.agg [iV x2]) 0] (.bool r) []:=by
 refine wS L0N [.t 3] ?_
 unfold MF at H
 obtain rfl:=sI H
 exact wP (wE [(3,.d)])
def Vn(j1:Job)(x2:Int):Bool :=
 (j1.id==x2)
theorem Z0W(j1:Job)(x2:Int):MF j1 x2=some (Vn j1 x2):=by
 unfold MF Vn
 first|rfl|simp only[O5]
theorem M0O(j1:Job)(x2:Int):Snd Tryz.prog Xt [eJob j1,.ept (.agg [iV x2]) 0] (.bool (Vn j1 x2)) []:=M0v (Z0W j1 x2)
noncomputable def Ye:L :=
 lf Tryz.prog Z4 [] [] [] [] [] [] []
def U1(c2:Int)(x4:Job)(i4:Nat)(_:Unit)(k4:Unit->Option Int):Option Int :=
 bif (Vn x4 c2)then(some (i4:Int))else(k4 ())
def Y3(_:Unit):Option Int :=
 some (-1)
def O2(s1:List Job)(c2:Int):Option Int :=
 rgl (U1 c2) Y3 s1 0 ()
theorem Ze{s1:List Job}{c2 r:Int}(H:O2 s1 c2=some r):Snd Tryz.prog Z4 [rV 11 (s1.map eJob),.fn Xt [.ept (.agg [iV c2]) 0]] (iV r) []:=by
 refine wS Ye [.t 4] ?_
 unfold O2 at H
 refine wG [.u 7 (.ln _ _ fun _=>lm s1 eJob)] fun q3=>?_
 refine wR (fun(i4:Nat) (v4:Unit)=>⟨[(0,rV 11 (s1.map eJob)),(1,.fn Xt [.ept (.agg [iV c2]) 0]),(7,iV (s1.length:Int)),(8,iV (i4:Int))],[],[],[]⟩) H (fun i4 x4 v4 I m k4 hxv4 hiv4 H N20=>?_) (fun v4 I m H=>?_)
 .unfold U1 at H
  refine wP ?_
  refine wt (ltT hiv4) ?_
  refine wG [.u 14 (.ix _ _ _ fun _=>Q0 eJob (J0 hxv4)),.u 16 (.clsr _ _ _ _ _ (AEs.refl _) (by kernel_rfl) (fun _=>M0O x4 c2))] fun _=>?_
  refine O0 H (fun H=>?_) fun H=>?_
  .refine wP ?_
   replace H:=sI H;subst H
   exact wE [(4,.d)]
  .refine wG [.w 18 (wi .i64 rfl hiv4 q3.1)] fun _=>?_
   exact wT (N20 () H)
 .unfold Y3 at H
  refine wP ?_
  refine wf (ltF s1.length) ?_
  obtain rfl:=sI H
  exact wP (wE [(4,.d)])
noncomputable def Y16:L :=
 lf Tryz.prog Z0A [] [] [] [] [] [] []
def U0d(l1:List Job)(id2:Int):Option Int :=
 (O2 l1 id2).bind fun n3=>some n3
theorem O17{l1:List Job}{id2 r:Int}(H:U0d l1 id2=some r):Snd Tryz.prog Z0A [rV 11 (l1.map eJob),iV id2] (iV r) []:=by
 refine wS Y16 [.t 4] ?_
 unfold U0d at H
 obtain⟨n3,h3,H⟩:=bB H
 refine wG [.c 7 (Ze h3)] fun _=>?_
 replace H:=sI H;subst H
 exact wE [(4,.d)]
end Go.Proofs.YtpgaganbacipnaaGreat
namespace Go.Proofs.YtpgaganbacipnaaGreat
open Go Go.RowKit Eng Go.Sort
def U0Q(l:List Job)(i j:Int):Option (List Job):=if 0<=i/\i<j/\j<=(l.length:Int)then some (l.take i.toNat++l.drop j.toNat)else none
theorem X07:∀(vs:List Value) (s:Nat) (F:Array Value),s+vs.length<=F.size->(setMany F s vs).toList=F.toList.take s++vs++F.toList.drop (s+vs.length)
 |[],s,F,_=>by simp[setMany]
 |v::r,s,F,h=>by
  have h':s+1+r.length<=F.size:=by simp at h;omega
  rw[setMany,X07 r (s+1) _ (by simpa using h')]
  simp only[Array.toList_setIfInBounds]
  have hs:s<F.toList.length:=by simp at h ⊢;omega
  rw[List.set_eq_take_append_cons_drop,yd hs]
  have hl:(F.toList.take s).length=s:=by simp at hs ⊢;omega
  have e1:(F.toList.take s++v::F.toList.drop (s+1)).take (s+1)=F.toList.take s++[v]:=by
   rw[List.take_append,hl]
   have:s+1-s=1:=by omega
   rw[this,List.take_of_length_le (by rw[hl];omega)]
   rfl
  have e2:(F.toList.take s++v::F.toList.drop (s+1)).drop (s+1+r.length)=F.toList.drop (s+(v::r).length):=by
   rw[List.drop_append,hl,List.drop_of_length_le (by rw[hl];omega)]
   have:s+1+r.length-s=r.length+1:=by omega
   rw[this,List.drop_succ_cons,List.drop_drop]
   simp only[List.nil_append,yT]
   congr 1
   omega
  rw[e1,e2]
  simp
theorem U1E{w:World}{b:Nat}{cur:Array Value}{ty:TypeId}(h1:w.heap[b]?=some (.cells cur ty (0,0)))(s1 s2:Nat)(v1 v2:List Value)(l1:s1+v1.length<=cur.size)(l2:s2+v2.length<=cur.size) :
  ∃F:Array Value,F=setMany (setMany cur s1 v1) s2 v2/\(w.drew.setCells b s1 v1).setCells b s2 v2=grow (putRow id (Sort.ahead w 1) b 0 F) #[]:=by
 refine⟨_,rfl,?_⟩
 have e0:putRow id w.drew b 0 cur=w.drew:=putRow_self id _ b 0 _ (W0Z (w:=w.drew) h1 (List.take_of_length_le (by simp)))
 have e1:=setCells_putRow w.drew b 0 v1 s1 cur l1
 rw[e0,Nat.zero_add]at e1
 have e2:=setCells_putRow w.drew b 0 v2 s2 (setMany cur s1 v1) (by simpa using l2)
 rw[Nat.zero_add]at e2
 rw[e1,e2,grow_empty]
 rfl
theorem V1f{α:Type}{k:Nat}{enc:α->List Value}(hk:∀x,(enc x).length=k)(l:List α)(i:Nat):(l.flatMap enc).take (i*k)=(l.take i).flatMap enc:=by
 induction l generalizing i with
 |nil=>simp
 |cons x l ih =>
  cases i with
  |zero=>simp
  |succ i =>
   rw[ya,List.take_succ_cons,ya,List.take_append,hk,← ih,List.take_of_length_le (by rw[hk,Nat.succ_mul];omega)]
   congr 2
   rw[Nat.succ_mul];omega
theorem U1f{α:Type}{k:Nat}{enc:α->List Value}(hk:∀x,(enc x).length=k)(l:List α)(i:Nat):(l.flatMap enc).drop (i*k)=(l.drop i).flatMap enc:=by
 induction l generalizing i with
 |nil=>simp
 |cons x l ih =>
  cases i with
  |zero=>simp
  |succ i =>
   rw[ya,List.drop_succ_cons,List.drop_append,hk,← ih,List.drop_of_length_le (by rw[hk,Nat.succ_mul];omega),List.nil_append]
   congr 1
   rw[Nat.succ_mul];omega
set_option maxRecDepth 20000 in
theorem X1t{l r:List Job}{i j:Int}(h:U0Q l i j=some r):X0p Tryz.prog Mf 11 (l.map eJob) [.int .i64 i,.int .i64 j] true (r.map eJob):=by
 unfold U0Q at h
 split at h
 .rename_i hc
  cases h
  obtain⟨a,rfl⟩:∃a:Nat,i=a:=⟨i.toNat,by omega⟩
  obtain⟨c,rfl⟩:∃c:Nat,j=c:=⟨j.toNat,by omega⟩
  obtain⟨_,hij,hjn⟩:=hc
  have hij:a<c:=by omega
  have hjn:c<=l.length:=by omega
  simp only[yZ]
  have hne:l≠[]:=fun e=>by subst e;simp at hjn;omega
  refine M0H V0j (fun e=>absurd e hne) (fun e=>by cases e) ?_
  intro w g n0 us H hul hus
  match us,hul with
  |[u1,u2],_ =>
  have hu1:=(hus 0 _ u1 rfl rfl).int_inv
  have hu2:=(hus 1 _ u2 rfl rfl).int_inv
  subst hu1;subst hu2
  refine⟨fun e=>absurd e hne,fun b cap cur ty h1 h2 h3 h4 h5 h6=>?_⟩
  obtain⟨i0,hi0,hz1⟩:∃i0,Tryz.prog.info? 36=some i0/\i0.size=11:=yC (show(Tryz.prog.info? 36).map (fun x=>x.size)=some 11 by kernel_rfl)
  have hlen:((l.drop c).flatMap jobV).length=(l.length-c)*11:=by rw[L0P V0j.vlen,List.length_drop]
  obtain⟨zs,hzs⟩:∃zs,zs=(Builtin.zeroCells (Value.agg #[.int .i64 0,.int .i64 0,.int .i64 0,.int .i64 0,.int .i64 0,.int .i64 0,.int .i64 0,.int .i64 0,.int .i64 0,.int .i64 0,.int .i64 0]).cells (l.length-(a+(l.length-c)))).toList:=⟨_,rfl⟩
  have hzl:zs.length=(c-a)*11:=by
   rw[hzs]
   have:(Value.agg #[.int .i64 0,.int .i64 0,.int .i64 0,.int .i64 0,.int .i64 0,.int .i64 0,.int .i64 0,.int .i64 0,.int .i64 0,.int .i64 0,.int .i64 0]).cells.size=11:=rfl
   simp only[Builtin.zeroCells,Array.toList_map,List.length_map,Array.length_toList,Array.size_range,this]
   congr 1
   omega
  have hz0:∀v∈zs,v.oneCell'=true:=by
   intro v hv
   rw[hzs]at hv
   simp only[Builtin.zeroCells,Array.toList_map,List.mem_map]at hv
   obtain⟨q,_,rfl⟩:=hv
   have hc:(Value.agg #[.int .i64 0,.int .i64 0,.int .i64 0,.int .i64 0,.int .i64 0,.int .i64 0,.int .i64 0,.int .i64 0,.int .i64 0,.int .i64 0,.int .i64 0]).cells=#[Value.int .i64 0,.int .i64 0,.int .i64 0,.int .i64 0,.int .i64 0,.int .i64 0,.int .i64 0,.int .i64 0,.int .i64 0,.int .i64 0,.int .i64 0]:=rfl
   rw[hc]
   have hq:q % 11<11:=Nat.mod_lt _ (by omega)
   show Value.oneCell' (#[Value.int .i64 0,.int .i64 0,.int .i64 0,.int .i64 0,.int .i64 0,.int .i64 0,.int .i64 0,.int .i64 0,.int .i64 0,.int .i64 0,.int .i64 0][q % 11]!)=true
   generalize q % 11=k at hq
   match k with
   |0|1|2|3|4|5|6|7|8|9|10=>rfl
   |k+11=>omega
  have hcur:∀k,k<l.length*11->cur[k]?=(l.flatMap jobV)[k]?:=by
   intro k hk
   have:=congrArg (·[k]?) h5
   simp only[List.getElem?_take,hk,yb,Array.getElem?_toList]at this
   exact this
  have hcap:=Nat.mul_le_mul_right 11 h2
  have hcell:∀k,w.cell? ⟨b,k,none⟩=cur[k]?:=by
   intro k
   simp only[World.cell?,h1,Option.isSome_none,yG,yc]
  refine(Z1H b cap l.length a c w ((l.drop c).flatMap jobV) zs i0 hi0 hz1 Tryz.underlying30 _ Tryz.zeroValue36 hzs hzl hz0 (by simp only[maxLen]at h3;omega) hij hjn h2 hlen (fun v hv=>?_) (fun k u hu=>?_) fun k hk=>?_).mono fun e w' hw=>?_
  .obtain⟨x,_,hx⟩:=List.mem_flatMap.1 hv
   exact V0j.vone x v hx
  .have hkl:k<(l.length-c)*11:=by
    have:=(yB hu).1
    rwa [hlen]at this
   have hm:c*11+(l.length-c)*11=l.length*11:=by rw[← Nat.add_mul];congr 1;omega
   rw[hcell,hcur _ (by omega),← hu,← U1f V0j.vlen,List.getElem?_drop]
  .have hk2:k<cur.size:=by rw[h4];omega
   rw[hcell,Array.getElem?_eq_getElem hk2]
   exact⟨rfl,frozen_of_row w b k cur ty h1⟩
  .obtain⟨he,hw⟩:=hw
   have m1:a*11+(l.length-c)*11=(a+(l.length-c))*11:=(Nat.add_mul ..).symm
   have m2:(a+(l.length-c))*11+(c-a)*11=l.length*11:=by rw[← Nat.add_mul];congr 1;omega
   obtain⟨F,hF,hw2⟩:=U1E h1 (a*11) ((a+(l.length-c))*11) ((l.drop c).flatMap jobV) zs (by rw[hlen,h4];omega) (by rw[hzl,h4];omega)
   have hFs:F.size=cap*11:=by rw[hF];simp[h4]
   rw[hw,hw2]
   obtain⟨cur',q1,q2,q3,q4,q5⟩:=Y0K (F:=F) h1 (by omega) 1 #[]
   have hlr:(l.take a++l.drop c).length=a+(l.length-c):=by simp;omega
   refine⟨by rw[he,hlr];rfl,cur',q1,by rw[q2,h4],?_,by rw[hlr];omega,rfl,rfl,rfl,q4,q5⟩
   have hFl:F.toList.take ((a+(l.length-c))*11)=(l.take a++l.drop c).flatMap jobV:=by
    have hs1:((setMany cur (a*11) ((l.drop c).flatMap jobV)).toList.take ((a+(l.length-c))*11)).length=(a+(l.length-c))*11:=by
     have:(setMany cur (a*11) ((l.drop c).flatMap jobV)).toList.length=cap*11:=by simp[h4]
     rw[List.length_take,this];omega
    rw[hF,X07 _ _ _ (by simp only[size_setMany];rw[hzl,h4];omega),List.append_assoc,List.take_append,hs1,Nat.sub_self,List.take_zero,List.append_nil,List.take_take,Nat.min_self]
    have hc0:cur.toList.length=cap*11:=by simp[h4]
    have hc1:(cur.toList.take (a*11)).length=a*11:=by rw[List.length_take,hc0];omega
    rw[X07 _ _ _ (by rw[hlen,h4];omega),List.take_append,yU,hc1,hlen,← m1,Nat.sub_self,List.take_zero,List.append_nil,List.take_of_length_le (by rw[yU,hc1,hlen];omega),List.flatMap_append]
    congr 1
    rw[← V1f V0j.vlen l a,← h5,List.take_take,Nat.min_eq_left (by omega)]
   have:=congrArg (·.take ((a+(l.length-c))*11)) q3
   simp only[List.take_take]at this
   rw[Nat.min_eq_left (by omega)]at this
   rw[hlr,this,hFl]
 .cases h
end Go.Proofs.YtpgaganbacipnaaGreat
