/-
  Lemmas, part 11.
-/
import Derived.Test.YtodafdoninblmaaGreatV10
import Derived.Test.YtodafdoninblmaaGreatV1
namespace Go.Proofs.YtodafdoninblmaaGreat
open Go Go.RowKit Go.Sort Go.Lib
theorem JR{α:Type}[Inhabited α](enc:α->Value){w:World}{blk off m:Nat}(dk:Array α)(os:Array Obj){a:Addr}{v:Value}(hb:a.block≠blk)(h:w.cell? a=some v):(sortWorld enc w blk off m dk os).cell? a=some v:=by
 have hlt:a.block<w.heap.size:=by
  rcases Nat.lt_or_ge a.block w.heap.size with hl|hl
  .exact hl
  .simp only[World.cell?,Array.getElem?_eq_none hl]at h
   cases h
 unfold sortWorld
 rw[cell?_grow _ _ _ (by simpa[putRow,mapBlock,Sort.ahead]using hlt),cell?_putRow_other _ _ _ _ _ _ (.inl hb)]
 exact h
def O1b{n:Nat}(x:Fin n):Value:=.int .i64 (x.val:Int)
theorem L15{cnt:List Int}[Inhabited (Fin cnt.length)](hl:cnt.length<=24){w:World}{b ob r o cap blk size:Nat}(hb:b≠blk)(hr:r≠blk)(hbox:w.cell? ⟨b,ob,none⟩=some (.slice (some ⟨r,o,none⟩) cnt.length cap))
  (hc:∀(j:Nat) (x:Int),cnt[j]?=some x->w.cell? ⟨r,o+j,none⟩=some (.int .i64 x)):CmpReads Tryz.prog 232 #[.pointer (some ⟨b,ob,none⟩)] (O1b (n:=cnt.length)) (XY cnt) blk 0 size w:=by
 intro m os dk _ x y
 exact U1c x.val y.val cnt[x] cnt[y] b ob r o cnt.length cap _ hl x.isLt y.isLt (JR _ _ _ hb hbox) (JR _ _ _ hr (hc x.val _ (yA x.isLt))) (JR _ _ _ hr (hc y.val _ (yA y.isLt)))
theorem Y17{cnt:List Int}[Inhabited (Fin cnt.length)](hl:cnt.length<=24)(hc:∀c∈cnt,0<=c/\c<=1000000){w:World}{b ob r o cap0 blk cap:Nat}(hb:b≠blk)(hr:r≠blk)(hbox:w.cell? ⟨b,ob,none⟩=some (.slice (some ⟨r,o,none⟩) cnt.length cap0))
  (hcs:∀(j:Nat) (x:Int),cnt[j]?=some x->w.cell? ⟨r,o+j,none⟩=some (.int .i64 x)) (d:Array (Fin cnt.length)) (hH:Holds O1b w blk 0 d) (hblk:blk<w.heap.size) (hsz:d.size<4611686018427387904) :
  Calls Tryz.prog 231 #[.slice (some ⟨blk,0,none⟩) d.size cap,.func (.func 232) #[] #[.pointer (some ⟨b,ob,none⟩)]] w fun e w' =>
   e=.returned (.tuple #[])/\∃n os,w'=sortWorld O1b w blk 0 n (d.toList.mergeSort fun x y=>!(ltOf (XY cnt)) y x).toArray os:=by
 have eg:∀args w,(callFunc 232 args).run Tryz.prog w=.ok (.enter 232 args) w:=enters_of Tryz.func232 (by kernel_rfl) rfl
 exact Any.slices_SortFunc_total Tryz.sortFI O1b (fun _=>rfl) (XY cnt) (O1e hl hc) 232 #[.pointer (some ⟨b,ob,none⟩)] blk 0 cap d w eg (L15 hl hb hr hbox hcs).lays hH hblk hsz (V10 hl hc)
end Go.Proofs.YtodafdoninblmaaGreat
namespace Go.Proofs.YtodafdoninblmaaGreat
open Go Go.RowKit Eng
section
def Yl(cnt:List Int)(x y:Int):Bool:=!decide (cnt.getD x.toNat 0<cnt.getD y.toNat 0\/(cnt.getD y.toNat 0=cnt.getD x.toNat 0/\y<x))
def V0z(cnt zs:List Int):Prop:=(∀z∈zs,0<=z/\z<(cnt.length:Int))/\cnt.length<=24/\(∀c∈cnt,0<=c/\c<=1000000)/\zs.length<4611686018427387904
instance(cnt zs:List Int):Decidable (V0z cnt zs):=by unfold V0z;infer_instance
def Y09(cnt zs:List Int):Option (List Int):=if V0z cnt zs then some (zs.mergeSort (Yl cnt))else none
theorem M1B{w:World}{g:Gh}{s:St}{f:Nat}{e:AV}{v:Value}(h:Gv w g s (.fn f [.ept e 0]) v):Rd w g.S g.T (.fn f [.ept e 0]) v:=by
 cases h with
 |data _ _ h=>exact h
 |fn _ _ vs hl h =>
  refine .fn _ _ vs hl fun i a u ha hu=>?_
  have q:=h i a u ha hu
  match i with
  |0 =>
   cases ha
   cases q with
   |data _ _ q=>exact q
  |i+1=>simp at ha
def V0T(n:Nat)(h:0<n)(z:Int):Fin n:=if h2:z.toNat<n then⟨z.toNat,h2⟩else⟨0,h⟩
theorem M0Y{n:Nat}(dk:List (Fin n))(c:Array Value)[Inhabited (Fin n)]:Go.Sort.putCells O1b 0 dk.toArray c=Go.Sort.putCells (Value.int .i64) 0 (dk.map fun(x:Fin n)=>(x.val:Int)).toArray c:=by
 unfold Go.Sort.putCells
 apply Array.ext
 .simp
 .intro i h1 h2
  simp only[Array.getElem_mapIdx,List.size_toArray,List.length_map,Nat.zero_le,true_and,Nat.zero_add,Nat.sub_zero]
  by_cases hi:i<dk.length
  .rw[yd hi,yd hi]
   simp[O1b,hi]
  .rw[ye hi,ye hi]
theorem O0X{cnt zs r:List Int}(h:Y09 cnt zs=some r):L0c Tryz.prog Qc 1 (zs.map eI) [.fn YN [.ept (.agg [.sl .rd 1 (cnt.map eI)]) 0]] false (r.map eI):=by
 unfold Y09 at h
 split at h
 .rename_i hl
  obtain⟨l1,l2,l3,l4⟩:=hl
  cases h
  refine Z18 (zs:=zs) (zs':=zs.mergeSort (Yl cnt)) (fun e=>by subst e;simp) (fun _=>by simp) ?_
  intro w g n0 us H hul hus
  refine⟨?_,fun b cap cur ty h1 h2 h3 h4 h5 h6=>?_⟩
  .match us,hul with
   |[u],_ =>
   exact(AnyF.slices_SortFunc_none { Tryz.sortFI with } none 0 u w).mono fun e w' h=>⟨by simp[h.1],h.2⟩
  .match us,hul with
   |[u],_ =>
   have hb:b<w.heap.size:=(Array.getElem?_eq_some_iff.1 h1).1
   by_cases hz:zs=[]
   .subst hz
    refine(AnyF.slices_SortFunc_none { Tryz.sortFI with } (some ⟨b,0,none⟩) cap u w).mono fun e w' h=>?_
    obtain⟨he,rfl⟩:=h
    refine⟨by simp[he],cur,h1,h4,by simp[i64v],by simp,rfl,rfl,rfl,yV _,fun _ _ _=>rfl⟩
   .have hn:0<cnt.length:=by
     obtain⟨z,hz⟩:=List.exists_mem_of_ne_nil _ hz
     have:=l1 z hz
     omega
    haveI:Inhabited (Fin cnt.length):=⟨⟨0,hn⟩⟩
    have hd:=M1B (hus 0 _ u rfl rfl)
    obtain⟨bb,ob,br,o,capr,hu,hbox,hS1,hcs⟩:=Rd.cap1_inv hd hn
    subst hu
    have n1:bb≠b:=fun e=>h6 _ (e ▸ hS1)
    have n2:br≠b:=fun e=>by
     obtain⟨_,q⟩:=hcs 0 cnt[0] (yA hn)
     exact h6 _ (e ▸ q)
    have hval:∀z∈zs,((V0T cnt.length hn z).val:Int)=z:=fun z hz=>by
     have:=l1 z hz
     unfold V0T
     rw[dif_pos (by omega)]
     simp only
     omega
    have hmap:(zs.map (V0T cnt.length hn)).map (fun(x:Fin cnt.length)=>(x.val:Int))=zs:=by
     rw[List.map_map]
     exact(List.map_congr_left (fun z hz=>hval z hz)).trans (List.map_id _)
    have hH:Go.Sort.Holds O1b w b 0 (zs.map (V0T cnt.length hn)).toArray:=by
     intro j hj
     have hj':j<zs.length:=by simpa using hj
     have:=M0I h1 h5 j (by simpa using hj')
     refine⟨?_,this.2⟩
     rw[this.1]
     simp[O1b,hj',hval]
    have e1:((zs.map (V0T cnt.length hn)).mergeSort fun x y=>!(ltOf (XY cnt)) y x).map (fun(x:Fin cnt.length)=>(x.val:Int))=zs.mergeSort (Yl cnt):=by
     rw[List.map_mergeSort (s:=Yl cnt),hmap]
     intro x _ y _
     rw[WV l2 l3]
     unfold Yl
     simp
    have:=Y17 (w:=w) (b:=bb) (ob:=ob) (r:=br) (o:=o) (cap0:=capr) (blk:=b) (cap:=cap) l2 l3 n1 n2 hbox (fun j x hx=>(hcs j x hx).1) (zs.map (V0T cnt.length hn)).toArray hH hb (by simpa using l4)
    simp only[List.size_toArray,List.length_map]at this
    refine this.mono fun e w' h=>?_
    obtain⟨he,n,os,hw⟩:=h
    have hw2:w'=Go.Sort.grow (Go.Sort.putRow (Value.int .i64) (Go.Sort.ahead w n) b 0 (zs.mergeSort (Yl cnt)).toArray) os:=by
     rw[hw]
     unfold sortWorld Go.Sort.putRow
     congr 2
     funext c
     rw[M0Y,e1]
    rw[hw2]
    obtain⟨cur',q1,q2,q3,q4,q5⟩:=U0n (zs:=zs.mergeSort (Yl cnt)) h1 h4 (by simpa using h2) n os
    exact⟨by simp[he],cur',q1,q2,q3,by simpa using h2,rfl,rfl,rfl,q4,q5⟩
 .cases h
def Z12:L :=
sR [.bx 1 0,.mv 2 (cB false)]
 (.seq (sR [fA 3 1 0,lF 4 3 1,.bi 5 .lss 4 (kI 1),mV 6 5,gF 6 (fA 7 1 0),gF 6 (lF 8 7 1),gF 6 (.bi 9 .gtr 8 (kI 999)),.pk 10 6 (cB true) 9,mV 11 10,gF 11 (fA 12 1 1),gF 11 (lF 13 12 1),gF 11 (.bi 14 .lss 13 (kI 0)),.pk 15 11 (cB true) 14,mV 16 15,gF 16 (fA 17 1 1),gF 16 (lF 18 17 1),gF 16 (.bi 19 .gtr 18 (kI 999)),.pk 20 16 (cB true) 19,mV 21 20,gF 21 (fA 22 1 2),gF 21 (lF 23 22 1),gF 21 (.bi 24 .lss 23 (kI 1)),.pk 25 21 (cB true) 24,mV 26 25,gF 26 (fA 27 1 2),gF 26 (lF 28 27 1),gF 26 (.bi 29 .gtr 28 (kI 24)),.pk 30 26 (cB true) 29]
 (.cond 30 (.seq (rE 2 (cB false))
 gR)
 .skip))
 (sR [fA 31 1 3,lT 32 31 3,cQ 33 O4 [32],mV 34 33,gT 34 (fA 35 1 6),gT 34 (lT 36 35 3),gT 34 (cQ 37 O4 [36]),.pk 38 34 37 (cB false),mV 39 38,gT 39 (fA 40 1 9),gT 39 (lF 41 40 1),gT 39 (.bi 42 .geq 41 (kI 1)),.pk 43 39 42 (cB false),mV 44 43,gT 44 (fA 45 1 9),gT 44 (lF 46 45 1),gT 44 (.bi 47 .leq 46 (kI 1000000)),.pk 48 44 47 (cB false),mV 49 48,gT 49 (fA 50 1 10),gT 49 (lF 51 50 1),gT 49 (.bi 52 .geq 51 (kI 0)),.pk 53 49 52 (cB false),mV 54 53,gT 54 (fA 55 1 10),gT 54 (lF 56 55 1),gT 54 (.bi 57 .leq 56 (kI 24)),.pk 58 54 57 (cB false),mV 2 58]
 gR))
def XO(j1:Job):Option Bool :=
 bif ((((((decide (j1.id<1))||(decide (999<j1.id)))||(decide (j1.prio<0)))||(decide (999<j1.prio)))||(decide (j1.nodes<1)))||(decide (24<j1.nodes)))then(some false)else(some ((((((X0 j1.need)&&(X0 j1.lic))&&(decide (1<=j1.wall)))&&(decide (j1.wall<=1000000)))&&(decide (0<=j1.level)))&&(decide (j1.level<=24))))
theorem L0A{j1:Job}{r:Bool}(H:XO j1=some r):Snd Tryz.prog Mp [eJob j1] (.bool r) []:=by
 refine wS Z12 [.t 2] ?_
 unfold XO at H
 refine wP ?_
 refine V0 H (fun H=>?_) fun H=>?_
 .obtain rfl:=sI H
  exact wP (wE [(2,.d)])
 .refine wG [.c 33 (L4 j1.need),.g 37 [((X0 j1.need),true)] (.call _ _ _ _ _ (AEs.refl _) (fun _=>L4 j1.lic))] fun _=>?_
  replace H:=sI H;subst H
  exact wE [(2,.d)]
def O0(j1:Job):Bool :=
 bif ((((((decide (j1.id<1))||(decide (999<j1.id)))||(decide (j1.prio<0)))||(decide (999<j1.prio)))||(decide (j1.nodes<1)))||(decide (24<j1.nodes)))then(false)else(((((((X0 j1.need)&&(X0 j1.lic))&&(decide (1<=j1.wall)))&&(decide (j1.wall<=1000000)))&&(decide (0<=j1.level)))&&(decide (j1.level<=24))))
theorem Z17(j1:Job):XO j1=some (O0 j1):=by
 unfold XO O0
 first|rfl|simp only[Z2]
theorem QF(j1:Job):Snd Tryz.prog Mp [eJob j1] (.bool (O0 j1)) []:=L0A (Z17 j1)
def O0O:L :=
sR [.bx 1 0,.mv 2 (cB false)]
 (.seq (sR [fA 5 1 0,lT 6 5 2,cQ 7 XH [6],.un 8 7,mV 9 8,gF 9 (fA 10 1 2),gF 9 (lF 11 10 1),gF 9 (.ln 12 11),gF 9 (fA 13 1 0),gF 9 (fA 14 13 1),gF 9 (lF 15 14 1),gF 9 (.ln 16 15),gF 9 (bI 17 .neq 12 16),.pk 18 9 (cB true) 17,mV 19 18,gF 19 (fA 20 1 3),gF 19 (lF 21 20 1),gF 19 (.ln 22 21),gF 19 (fA 23 1 0),gF 19 (fA 24 23 1),gF 19 (lF 25 24 1),gF 19 (.ln 26 25),gF 19 (bI 27 .neq 22 26),.pk 28 19 (cB true) 27,mV 29 28,gF 29 (fA 30 1 4),gF 29 (lT 31 30 1),gF 29 (cQ 32 Jt [31]),gF 29 (.un 33 32),.pk 34 29 (cB true) 33]
 (.cond 34 (.seq (rE 2 (cB false))
 gR)
 .skip))
 (.seq (sR [fA 35 1 3,lF 36 35 1,.ln 37 36,.mv 38 (kI 0)]
 (.blk 0 (.loop (.gw (sR [bI 39 .lss 38 37]
 (.seq (.cond 39 .skip
 (.exit 0))
 (.seq (.blk 1 (sR [iA 40 36 38 1,lT 41 40 1,.al 4 [.nl],.st 4 41 1]
 (sR [lT 42 4 1,cQ 43 Jt [42],.un 44 43]
 (.cond 44 (.seq (rE 2 (cB false))
 gR)
 .skip))))
 (.reg [.bi 45 .add 38 (kI 1),mV 38 45]))))))))
 (.seq (rE 2 (cB true))
 gR)))
def XJ(x5:List Pt)(_:Nat)(_:Unit)(k5:Unit->Option Bool):Option Bool :=
 (U8 x5).bind fun b6=>bif (!b6)then(some false)else(k5 ())
def Y04(_:Unit):Option Bool :=
 some true
def Jn(r1:Room):Option Bool :=
 (Xc r1.topo).bind fun b2=>(bif (((!b2)||((r1.up.length:Int)!=(r1.topo.nodes.length:Int)))||((r1.profs.length:Int)!=(r1.topo.nodes.length:Int)))then some default else(U8 r1.lics)).bind fun b3=>bif ((((!b2)||((r1.up.length:Int)!=(r1.topo.nodes.length:Int)))||((r1.profs.length:Int)!=(r1.topo.nodes.length:Int)))||(!b3))then(some false)else(rgl XJ Y04 r1.profs 0 ())
theorem OR{r1:Room}{r:Bool}(H:Jn r1=some r):Snd Tryz.prog VH [Ye .rd r1] (.bool r) []:=by
 refine wS O0O [.t 2] ?_
 unfold Jn at H
 obtain⟨b2,h2,H⟩:=bB H
 obtain⟨b3,h3,H⟩:=bB H
 refine wG [.c 7 (WR h2),.g 12 [((!b2),false)] (.ln _ _ fun _=>lm r1.up eBo),.g 16 [((!b2),false)] (.ln _ _ fun _=>lm r1.topo.nodes L2),.g 22 [(((!b2)||((r1.up.length:Int)!=(r1.topo.nodes.length:Int))),false)] (.ln _ _ fun _=>lm r1.profs (O1 .rd)),.g 26 [(((!b2)||((r1.up.length:Int)!=(r1.topo.nodes.length:Int))),false)] (.ln _ _ fun _=>lm r1.topo.nodes L2),.g 32 [(_,false)] (.call _ _ _ _ _ (AEs.refl _) (fun q=>Qy (bF q.1 h3)))] fun _=>?_
 refine V0 H (fun H=>?_) fun H=>?_
 .obtain rfl:=sI H
  exact wP (wE [(2,.d)])
 .refine wG [.u 37 (.ln _ _ fun _=>lm r1.profs (O1 .rd))] fun q4=>?_
  refine wR (fun(i5:Nat) (v5:Unit)=>⟨[(36,rV 1 (r1.profs.map (O1 .rd))),(37,iV (r1.profs.length:Int)),(38,iV (i5:Int))],[],[],[]⟩) H (fun i5 x5 v5 I m k5 hxv5 hiv5 H N27=>?_) (fun v5 I m H=>?_)
  .unfold XJ at H
   refine wP ?_
   refine wt (ltT hiv5) ?_
   obtain⟨b6,h6,H⟩:=bB H
   refine wG [.u 40 (.ix _ _ _ fun _=>Y0 (O1 .rd) (Q0 hxv5)),.c 43 (Qy h6)] fun _=>?_
   refine V0 H (fun H=>?_) fun H=>?_
   .obtain rfl:=sI H
    exact wP (wE [(2,.d)])
   .refine wG [.w 45 (wi .i64 rfl hiv5 q4.1)] fun _=>?_
    exact wT (N27 () H)
  .unfold Y04 at H
   refine wP ?_
   refine wf (ltF r1.profs.length) ?_
   obtain rfl:=sI H
   exact wP (wE [(2,.d)])
def U0w:L :=
sR [.bx 4 0,.bx 5 1,.mv 8 (.c (.nl))]
 (sR [.bs 13 1 [] true,mV 9 13]
 (.seq (sR [lT 14 4 5,cQ 15 VH [14],.un 16 15]
 (.cond 16 (sR [mV 17 9,mV 8 17]
 gR)
 .skip))
 (.seq (sR [fA 18 4 3,lF 19 18 1,.ln 20 19,.mv 21 (kI 0)]
 (.blk 0 (.loop (.gw (sR [bI 22 .lss 21 20]
 (.seq (.cond 22 .skip
 (.exit 0))
 (.seq (.blk 1 (sR [mV 23 21,mV 10 23]
 (sR [fA 25 4 3,lF 26 25 1,mV 27 10,iA 28 26 27 1,lT 29 28 1,mV 30 2,mV 31 3,cQ 32 Lz [29,30,31],mV 24 32,eX 33 24 0,eX 34 24 1,.al 11 [.int .i64 0,.int .i64 0,.int .i64 0],.st 11 33 3,mV 12 34]
 (sR [mV 35 12,mV 36 35,gT 36 (fA 37 4 2),gT 36 (lF 38 37 1),gT 36 (mV 39 10),gT 36 (iA 40 38 39 1),gT 36 (lF 41 40 1),.pk 42 36 41 (cB false),mV 43 42,gT 43 (lT 44 5 3),gT 43 (lT 45 11 3),gT 43 (cQ 46 Jl [44,45]),.pk 47 43 46 (cB false)]
 (.cond 47 (.reg [mV 48 9,mV 49 10,.bs 50 1 [49] false,.ap 51 48 50 1 8,mV 9 51])
 .skip)))))
 (.reg [.bi 52 .add 21 (kI 1),mV 21 52]))))))))
 (sR [mV 53 9,mV 8 53]
 gR))))
def Vj(r1:Room)(need2:Vec)(from3 to4:Int)(x7:List Pt)(i7:Nat)(v7:(List Int))(k7:(List Int)->Option (List Int)):Option (List Int) :=
 (Xh x7 from3 to4).bind fun y8=>(bif y8.2 then(idx r1.up (i7:Int))else some default).bind fun e9=>bif ((y8.2&&e9)&&(V2 need2 y8.1))then((appL 8 v7 [(i7:Int)]).bind fun xs10=>k7 xs10)else(k7 v7)
def UU(v7:(List Int)):Option (List Int) :=
 some v7
def Jq(r1:Room)(need2:Vec)(from3 to4:Int):Option (List Int) :=
 (Jn r1).bind fun b5=>bif (!b5)then(some [])else(rgl (Vj r1 need2 from3 to4) UU r1.profs 0 [])
theorem W0u{r1:Room}{need2:Vec}{from3 to4:Int}{r:(List Int)}(H:Jq r1 need2 from3 to4=some r):Snd Tryz.prog Z08 [Ye .rd r1,eVec need2,iV from3,iV to4] (nV 1 (r.map eI)) []:=by
 refine wS U0w [.t 8] ?_
 unfold Jq at H
 obtain⟨b5,h5,H⟩:=bB H
 refine wG [.c 15 (OR h5)] fun _=>?_
 refine V0 H (fun H=>?_) fun H=>?_
 .refine wP ?_
  replace H:=sI H;subst H
  exact wN [(8,.f)] [] [] [13] [] [⟨_,nw_I ([]:List Int)⟩]
 .refine wG [.u 20 (.ln _ _ fun _=>lm r1.profs (O1 .rd))] fun q6=>?_
  refine wR (fun(i7:Nat) (v7:(List Int))=>⟨[(2,iV from3),(3,iV to4),(4,.ptr 4 0),(5,.ptr 5 0),(9,.sref 13),(20,iV (r1.profs.length:Int)),(21,iV (i7:Int))],[],[(4,(Ye .rd r1).cells),(5,(eVec need2).cells)],[(13,⟨1,v7.map eI,false⟩)]⟩) H (fun i7 x7 v7 I m k7 hxv7 hiv7 H N28=>?_) (fun v7 I m H=>?_)
  .unfold Vj at H
   refine wP ?_
   refine wt (ltT hiv7) ?_
   obtain⟨y8,h8,H⟩:=bB H
   obtain⟨e9,h9,H⟩:=bB H
   refine wG [.u 28 (.ix _ _ _ fun _=>Y0 (O1 .rd) (Q0 hxv7)),.c 32 (UJ h8),.g 40 [(_,true)] (.ix _ _ _ fun q=>Y0 eBo (bT q.1 h9)),.g 46 [((y8.2&&e9),true)] (.call _ _ _ _ _ (AEs.refl _) (fun _=>ZJ need2 y8.1))] fun _=>?_
   refine V0 H (fun H=>?_) fun H=>?_
   .obtain⟨xs10,h10,H⟩:=bB H
    refine wG [.u 51 (.ap _ _ _ _ fun _=>M0 eI h10),.w 52 (wi .i64 rfl hiv7 q6.1)] fun _=>?_
    exact wT (N28 _ H)
   .refine wG [.w 52 (wi .i64 rfl hiv7 q6.1)] fun _=>?_
    exact wT (N28 _ H)
  .unfold UU at H
   refine wP ?_
   refine wf (ltF r1.profs.length) ?_
   refine wP ?_
   replace H:=sI H;subst H
   exact wN [(8,.f)] [] [] [13] [] [⟨_,nw_I v7⟩]
def O11:L :=
sR [.bx 3 0,.mv 6 (.c (.nl))]
 (sR [.bs 10 1 [] true,mV 7 10]
 (.seq (sR [mV 11 1,.ln 12 11,.mv 13 (kI 0)]
 (.blk 0 (.loop (.gw (sR [bI 14 .lss 13 12]
 (.seq (.cond 14 .skip
 (.exit 0))
 (.seq (.blk 1 (sR [iA 15 11 13 1,lF 16 15 1,mV 9 16]
 (.seq (.rq 10 [lT 17 3 2,fA 18 3 1,lF 19 18 1,mV 20 9,iA 21 19 20 4,fA 22 21 0,lF 23 22 1,cQ 24 J07 [17,23],mV 25 2,cQ 26 Je [24,25]])
 (.cond 26 (.reg [mV 27 7,mV 28 9,.bs 29 1 [28] false,.ap 30 27 29 1 8,mV 7 30])
 .skip))))
 (.reg [.bi 31 .add 13 (kI 1),mV 13 31]))))))))
 (sR [mV 32 7,mV 6 32]
 gR)))
def Xy(t1:Topo)(s3 x5:Int)(_:Nat)(v5:(List Int))(k5:(List Int)->Option (List Int)):Option (List Int) :=
 (idx t1.nodes x5).bind fun e6=>(Jo t1 e6.leaf).bind fun y7=>(M9 y7 s3).bind fun b8=>bif b8 then((appL 8 v5 [x5]).bind fun xs9=>k5 xs9)else(k5 v5)
def YR(v5:(List Int)):Option (List Int) :=
 some v5
def La(t1:Topo)(nodes2:List Int)(s3:Int):Option (List Int) :=
 rgl (Xy t1 s3) YR nodes2 0 []
theorem Mi{t1:Topo}{nodes2:List Int}{s3:Int}{r:(List Int)}(H:La t1 nodes2 s3=some r):Snd Tryz.prog Vi [Y3 .rd t1,rV 1 (nodes2.map eI),iV s3] (nV 1 (r.map eI)) []:=by
 refine wS O11 [.t 6] ?_
 unfold La at H
 refine wG [.u 12 (.ln _ _ fun _=>lm nodes2 eI)] fun q4=>?_
 refine wR (fun(i5:Nat) (v5:(List Int))=>⟨[(2,iV s3),(3,.ptr 3 0),(7,.sref 10),(11,rV 1 (nodes2.map eI)),(12,iV (nodes2.length:Int)),(13,iV (i5:Int))],[],[(3,(Y3 .rd t1).cells)],[(10,⟨1,v5.map eI,false⟩)]⟩) H (fun i5 x5 v5 I m k5 hxv5 hiv5 H N19=>?_) (fun v5 I m H=>?_)
 .unfold Xy at H
  refine wP ?_
  refine wt (ltT hiv5) ?_
  obtain⟨e6,h6,H⟩:=bB H
  obtain⟨y7,h7,H⟩:=bB H
  obtain⟨b8,h8,H⟩:=bB H
  refine wG [.u 15 (.ix _ _ _ fun _=>Y0 eI (Q0 hxv5)),.u 21 (.ix _ _ _ fun _=>Y0 L2 h6),.c 24 (O0g h7),.c 26 (Lf h8)] fun _=>?_
  refine V0 H (fun H=>?_) fun H=>?_
  .obtain⟨xs9,h9,H⟩:=bB H
   refine wG [.u 30 (.ap _ _ _ _ fun _=>M0 eI h9),.w 31 (wi .i64 rfl hiv5 q4.1)] fun _=>?_
   exact wT (N19 _ H)
  .refine wG [.w 31 (wi .i64 rfl hiv5 q4.1)] fun _=>?_
   exact wT (N19 _ H)
 .unfold YR at H
  refine wP ?_
  refine wf (ltF nodes2.length) ?_
  refine wP ?_
  replace H:=sI H;subst H
  exact wN [(6,.f)] [] [] [10] [] [⟨_,nw_I v5⟩]
def W0o:L :=
sR [.bx 4 0,.mv 8 (kI 0)]
 (.seq (rE 9 (kI (-1)))
 (.seq (sR [fA 13 4 0,lF 14 13 1,.ln 15 14,.mv 16 (kI 0)]
 (.blk 0 (.loop (.gw (sR [bI 17 .lss 16 15]
 (.seq (.cond 17 .skip
 (.exit 0))
 (.seq (.blk 1 (sR [mV 18 16,mV 10 18]
 (sR [lT 19 4 2,mV 20 1,mV 21 10,cQ 22 Vi [19,20,21],.ln 23 22,mV 11 23]
 (sR [lT 24 4 2,mV 25 10,cQ 26 O5 [24,25],mV 12 26]
 (.seq (sR [mV 27 11,mV 28 2,bI 29 .lss 27 28,mV 30 29,gF 30 (mV 31 12),gF 30 (mV 32 3),gF 30 (bI 33 .gtr 31 32),.pk 34 30 (cB true) 33]
 (.cond 34 (.exit 1)
 .skip))
 (sR [mV 35 9,.bi 36 .lss 35 (kI 0),mV 37 36,gF 37 (mV 38 12),gF 37 (lT 39 4 2),gF 37 (mV 40 9),gF 37 (cQ 41 O5 [39,40]),gF 37 (bI 42 .lss 38 41),.pk 43 37 (cB true) 42,mV 44 43,gF 44 (mV 45 12),gF 44 (lT 46 4 2),gF 44 (mV 47 9),gF 44 (cQ 48 O5 [46,47]),gF 44 (bI 49 .eql 45 48),gF 44 (mV 50 49),gT 50 (mV 51 11),gT 50 (lT 52 4 2),gT 50 (mV 53 1),gT 50 (mV 54 9),gT 50 (cQ 55 Vi [52,53,54]),gT 50 (.ln 56 55),gT 50 (bI 57 .lss 51 56),gF 44 (.pk 58 50 57 (cB false)),.pk 59 44 (cB true) 58]
 (.cond 59 (.reg [mV 60 10,mV 9 60])
 .skip)))))))
 (.reg [.bi 61 .add 16 (kI 1),mV 16 61]))))))))
 (sR [mV 62 9,mV 8 62]
 gR)))
def Vq(t1:Topo)(nodes2:List Int)(n3 level4 _:Int)(i6:Nat)(v6:Int)(k6:Int->Option Int):Option Int :=
 (La t1 nodes2 (i6:Int)).bind fun y7=>(V7 t1 (i6:Int)).bind fun n8=>bif ((decide ((y7.length:Int)<n3))||(decide (level4<n8)))then(k6 v6)else((bif (decide (v6<0))then some default else(V7 t1 v6)).bind fun n10=>(bif ((decide (v6<0))||(decide (n8<n10)))then some default else(V7 t1 v6)).bind fun n11=>(bif ((decide (v6<0))||(decide (n8<n10)))then some default else(bif (n8==n11)then(La t1 nodes2 v6)else some default)).bind fun y12=>bif (((decide (v6<0))||(decide (n8<n10)))||((n8==n11)&&(decide ((y7.length:Int)<(y12.length:Int)))))then(k6 (i6:Int))else(k6 v6))
def JN(v6:Int):Option Int :=
 some v6
def Lk(t1:Topo)(nodes2:List Int)(n3 level4:Int):Option Int :=
 rgl (Vq t1 nodes2 n3 level4) JN t1.parents 0 (-1)
theorem M0m{t1:Topo}{nodes2:List Int}{n3 level4 r:Int}(H:Lk t1 nodes2 n3 level4=some r):Snd Tryz.prog L02 [Y3 .rd t1,rV 1 (nodes2.map eI),iV n3,iV level4] (iV r) []:=by
 refine wS W0o [.t 8] ?_
 unfold Lk at H
 refine wG [.u 15 (.ln _ _ fun _=>lm t1.parents eI)] fun q5=>?_
 refine wR (fun(i6:Nat) (v6:Int)=>⟨[(1,rV 1 (nodes2.map eI)),(2,iV n3),(3,iV level4),(4,.ptr 4 0),(9,iV v6),(15,iV (t1.parents.length:Int)),(16,iV (i6:Int))],[],[(4,(Y3 .rd t1).cells)],[]⟩) H (fun i6 x6 v6 I m k6 hxv6 hiv6 H N29=>?_) (fun v6 I m H=>?_)
 .unfold Vq at H
  refine wP ?_
  refine wt (ltT hiv6) ?_
  obtain⟨y7,h7,H⟩:=bB H
  obtain⟨n8,h8,H⟩:=bB H
  refine wG [.c 22 (Mi h7),.u 23 (.ln _ _ fun _=>lm y7 eI),.c 26 (X8 h8)] fun q9=>?_
  refine V0 H (fun H=>?_) fun H=>?_
  .refine wG [.w 61 (wi .i64 rfl hiv6 q5.1)] fun _=>?_
   exact wT (N29 _ H)
  .obtain⟨n10,h10,H⟩:=bB H
   obtain⟨n11,h11,H⟩:=bB H
   obtain⟨y12,h12,H⟩:=bB H
   refine wG [.g 41 [(_,false)] (.call _ _ _ _ _ (AEs.refl _) (fun q=>X8 (bF q.1 h10))),.g 48 [(_,false)] (.call _ _ _ _ _ (AEs.refl _) (fun q=>X8 (bF q.1 h11))),.g 55 [(_,true),(_,false)] (.call _ _ _ _ _ (AEs.refl _) (fun q=>Mi (bT q.1 (bF q.2.1 h12)))),.g 56 [((n8==n11),true),(((decide (v6<0))||(decide (n8<n10))),false)] (.ln _ _ fun _=>lm y12 eI)] fun _=>?_
   refine V0 H (fun H=>?_) fun H=>?_
   .refine wG [.w 61 (wi .i64 rfl hiv6 q5.1)] fun _=>?_
    exact wT (N29 _ H)
   .refine wG [.w 61 (wi .i64 rfl hiv6 q5.1)] fun _=>?_
    exact wT (N29 _ H)
 .unfold JN at H
  refine wP ?_
  refine wf (ltF t1.parents.length) ?_
  obtain rfl:=sI H
  exact wP (wE [(8,.d)])
def V0F:L :=
sR [.bx 3 0,.mv 6 (kI 0)]
 (.seq (rE 7 (kI (-1)))
 (.seq (sR [fA 10 3 0,lF 11 10 1,.ln 12 11,.mv 13 (kI 0)]
 (.blk 0 (.loop (.gw (sR [bI 14 .lss 13 12]
 (.seq (.cond 14 .skip
 (.exit 0))
 (.seq (.blk 1 (sR [mV 15 13,mV 8 15]
 (sR [lT 16 3 2,mV 17 1,mV 18 8,cQ 19 Vi [16,17,18],.ln 20 19,mV 9 20]
 (.seq (sR [mV 21 9,.bi 22 .eql 21 (kI 0),mV 23 22,gF 23 (lT 24 3 2),gF 23 (mV 25 8),gF 23 (cQ 26 Oz [24,25]),gF 23 (.ln 27 26),gF 23 (.bi 28 .gtr 27 (kI 0)),.pk 29 23 (cB true) 28,mV 30 29,gF 30 (mV 31 2),gF 30 (mV 32 8),gF 30 (cQ 33 Je [31,32]),.pk 34 30 (cB true) 33]
 (.cond 34 (.exit 1)
 .skip))
 (sR [mV 35 7,.bi 36 .lss 35 (kI 0),mV 37 36,gF 37 (mV 38 9),gF 37 (lT 39 3 2),gF 37 (mV 40 1),gF 37 (mV 41 7),gF 37 (cQ 42 Vi [39,40,41]),gF 37 (.ln 43 42),gF 37 (bI 44 .gtr 38 43),.pk 45 37 (cB true) 44]
 (.cond 45 (.reg [mV 46 8,mV 7 46])
 .skip))))))
 (.reg [.bi 47 .add 13 (kI 1),mV 13 47]))))))))
 (sR [mV 48 7,mV 6 48]
 gR)))
def Vm(t1:Topo)(nodes2 taken3:List Int)(_:Int)(i5:Nat)(v5:Int)(k5:Int->Option Int):Option Int :=
 (La t1 nodes2 (i5:Int)).bind fun y6=>(bif ((y6.length:Int)==0)then some default else(Jg t1 (i5:Int))).bind fun y7=>(bif (((y6.length:Int)==0)||(decide (0<(y7.length:Int))))then some default else(M9 taken3 (i5:Int))).bind fun b8=>bif ((((y6.length:Int)==0)||(decide (0<(y7.length:Int))))||b8)then(k5 v5)else((bif (decide (v5<0))then some default else(La t1 nodes2 v5)).bind fun y10=>bif ((decide (v5<0))||(decide ((y10.length:Int)<(y6.length:Int))))then(k5 (i5:Int))else(k5 v5))
def W01(v5:Int):Option Int :=
 some v5
def Lg(t1:Topo)(nodes2 taken3:List Int):Option Int :=
 rgl (Vm t1 nodes2 taken3) W01 t1.parents 0 (-1)
theorem Y0A{t1:Topo}{nodes2 taken3:List Int}{r:Int}(H:Lg t1 nodes2 taken3=some r):Snd Tryz.prog Z0d [Y3 .rd t1,rV 1 (nodes2.map eI),rV 1 (taken3.map eI)] (iV r) []:=by
 refine wS V0F [.t 6] ?_
 unfold Lg at H
 refine wG [.u 12 (.ln _ _ fun _=>lm t1.parents eI)] fun q4=>?_
 refine wR (fun(i5:Nat) (v5:Int)=>⟨[(1,rV 1 (nodes2.map eI)),(2,rV 1 (taken3.map eI)),(3,.ptr 3 0),(7,iV v5),(12,iV (t1.parents.length:Int)),(13,iV (i5:Int))],[],[(3,(Y3 .rd t1).cells)],[]⟩) H (fun i5 x5 v5 I m k5 hxv5 hiv5 H N27=>?_) (fun v5 I m H=>?_)
 .unfold Vm at H
  refine wP ?_
  refine wt (ltT hiv5) ?_
  obtain⟨y6,h6,H⟩:=bB H
  obtain⟨y7,h7,H⟩:=bB H
  obtain⟨b8,h8,H⟩:=bB H
  refine wG [.c 19 (Mi h6),.u 20 (.ln _ _ fun _=>lm y6 eI),.g 26 [(_,false)] (.call _ _ _ _ _ (AEs.refl _) (fun q=>LI (bF q.1 h7))),.g 27 [(((y6.length:Int)==0),false)] (.ln _ _ fun _=>lm y7 eI),.g 33 [(_,false)] (.call _ _ _ _ _ (AEs.refl _) (fun q=>Lf (bF q.1 h8)))] fun q9=>?_
  refine V0 H (fun H=>?_) fun H=>?_
  .refine wG [.w 47 (wi .i64 rfl hiv5 q4.1)] fun _=>?_
   exact wT (N27 _ H)
  .obtain⟨y10,h10,H⟩:=bB H
   refine wG [.g 42 [(_,false)] (.call _ _ _ _ _ (AEs.refl _) (fun q=>Mi (bF q.1 h10))),.g 43 [((decide (v5<0)),false)] (.ln _ _ fun _=>lm y10 eI)] fun _=>?_
   refine V0 H (fun H=>?_) fun H=>?_
   .refine wG [.w 47 (wi .i64 rfl hiv5 q4.1)] fun _=>?_
    exact wT (N27 _ H)
   .refine wG [.w 47 (wi .i64 rfl hiv5 q4.1)] fun _=>?_
    exact wT (N27 _ H)
 .unfold W01 at H
  refine wP ?_
  refine wf (ltF t1.parents.length) ?_
  obtain rfl:=sI H
  exact wP (wE [(6,.d)])
def Y0F:L :=
sR [.mv 4 (.c (.nl))]
 (sR [.bs 9 1 [] true,mV 5 9]
 (.seq (rE 6 (cB false))
 (.seq (sR [mV 10 0,.ln 11 10,.mv 12 (kI 0)]
 (.blk 0 (.loop (.gw (sR [bI 13 .lss 12 11]
 (.seq (.cond 13 .skip
 (.exit 0))
 (.seq (.blk 1 (sR [iA 14 10 12 1,lF 15 14 1,mV 8 15]
 (.seq (sR [mV 16 6,.un 17 16,mV 18 17,gT 18 (mV 19 1),gT 18 (mV 20 8),gT 18 (bI 21 .lss 19 20),.pk 22 18 21 (cB false)]
 (.cond 22 (sR [mV 23 5,mV 24 1,.bs 25 1 [24] false,.ap 26 23 25 1 8,mV 5 26]
 (rE 6 (cB true)))
 .skip))
 (.gw (.reg [mV 27 5,mV 28 8,.bs 29 1 [28] false,.ap 30 27 29 1 8,mV 5 30])))))
 (.reg [.bi 31 .add 12 (kI 1),mV 12 31]))))))))
 (.seq (sR [mV 32 6,.un 33 32]
 (.cond 33 (.reg [mV 34 5,mV 35 1,.bs 36 1 [35] false,.ap 37 34 36 1 8,mV 5 37])
 .skip))
 (.gw (sR [mV 38 5,mV 4 38]
 gR))))))
def Xm(x4:Int)(k4:(Bool×(List Int))->Option (List Int))(v6:Bool×(List Int)):Option (List Int) :=
 (appL 8 v6.2 [x4]).bind fun xs7=>k4 (v6.1,xs7)
def Ma(v9:(List Int)):Option (List Int) :=
 some v9
def Yf(n2 x4:Int)(_:Nat)(v4:Bool×(List Int))(k4:(Bool×(List Int))->Option (List Int)):Option (List Int) :=
 bif ((!v4.1)&&(decide (n2<x4)))then((appL 8 v4.2 [n2]).bind fun xs5=>(Xm x4 k4) (true,xs5))else((Xm x4 k4) (v4.1,v4.2))
def Oa(n2:Int)(v4:Bool×(List Int)):Option (List Int) :=
 bif (!v4.1)then((appL 8 v4.2 [n2]).bind fun xs8=>Ma xs8)else(Ma v4.2)
def Wo(l1:List Int)(n2:Int):Option (List Int) :=
 rgl (Yf n2) (Oa n2) l1 0 (false,[])
theorem U03{l1:List Int}{n2:Int}{r:(List Int)}(H:Wo l1 n2=some r):Snd Tryz.prog YT [rV 1 (l1.map eI),iV n2] (nV 1 (r.map eI)) []:=by
 refine wS Y0F [.t 4] ?_
 unfold Wo at H
 refine wG [.u 11 (.ln _ _ fun _=>lm l1 eI)] fun q3=>?_
 refine wR (fun(i4:Nat) (v4:Bool×(List Int))=>⟨[(1,iV n2),(5,.sref 9),(6,.bool v4.1),(10,rV 1 (l1.map eI)),(11,iV (l1.length:Int)),(12,iV (i4:Int))],[],[],[(9,⟨1,v4.2.map eI,false⟩)]⟩) H (fun i4 x4 v4 I m k4 hxv4 hiv4 H N24=>?_) (fun v4 I m H=>?_)
 .unfold Yf at H
  refine wP ?_
  refine wt (ltT hiv4) ?_
  refine wG [.u 14 (.ix _ _ _ fun _=>Y0 eI (Q0 hxv4))] fun _=>?_
  refine WZ (r:=r) (Xm x4 k4) 0 (fun v6:Bool×(List Int)=>⟨[(1,.int .i64 n2),(5,.sref 9),(6,.bool v6.1),(8,.int .i64 x4),(10,.sl .rd 1 (l1.map eI)),(11,.int .i64 (l1.length:Int)),(12,.int .i64 (i4:Int))],[],[],[(9,⟨1,v6.2.map eI,false⟩)]⟩) (by kernel_rfl) (fun v6 H=>?_) (fun J16=>?_)
  .unfold Xm at H
   obtain⟨xs7,h7,H⟩:=bB H
   refine wG [.u 30 (.ap _ _ _ _ fun _=>M0 eI h7),.w 31 (wi .i64 rfl hiv4 q3.1)] fun _=>?_
   exact wT (N24 _ H)
  .refine V0 H (fun H=>?_) fun H=>?_
   .obtain⟨xs5,h5,H⟩:=bB H
    refine wG [.u 26 (.ap _ _ _ _ fun _=>M0 eI h5)] fun _=>?_
    exact wT (J16 _ H)
   .refine wP ?_
    exact wT (J16 _ H)
 .unfold Oa at H
  refine wP ?_
  refine wf (ltF l1.length) ?_
  refine wP ?_
  refine WZ (r:=r) Ma 0 (fun v9:(List Int)=>⟨[(5,.sref 9)],[],[],[(9,⟨1,v9.map eI,false⟩)]⟩) (by kernel_rfl) (fun v9 H=>?_) (fun J34=>?_)
  .unfold Ma at H
   refine wP ?_
   replace H:=sI H;subst H
   exact wN [(4,.f)] [] [] [9] [] [⟨_,nw_I v9⟩]
  .refine V0 H (fun H=>?_) fun H=>?_
   .obtain⟨xs8,h8,H⟩:=bB H
    refine wG [.u 37 (.ap _ _ _ _ fun _=>M0 eI h8)] fun _=>?_
    exact wT (J34 _ H)
   .refine wP ?_
    exact wT (J34 _ H)
def Z0P:L :=
sR [.bx 4 0,.mv 8 (.c (.nl)),.mv 9 (cB false)]
 (.seq (sR [lT 18 4 2,mV 19 1,cQ 20 Ot [18,19],.un 21 20,mV 22 21,gF 22 (mV 23 2),gF 22 (.bi 24 .lss 23 (kI 1)),.pk 25 22 (cB true) 24]
 (.cond 25 (sR [.mv 8 (.c (.nl)),.mv 9 (cB false)]
 gR)
 .skip))
 (.seq (sR [mV 26 1,.ln 27 26,.mv 28 (kI 0)]
 (.blk 0 (.loop (.gw (sR [bI 29 .lss 28 27]
 (.seq (.cond 29 .skip
 (.exit 0))
 (.seq (.blk 1 (sR [mV 30 28,mV 10 30]
 (.seq (.rq 14 [mV 31 10,.bi 32 .gtr 31 (kI 0),mV 33 32,gT 33 (mV 34 1),gT 33 (mV 35 10),gT 33 (.bi 36 .sub 35 (kI 1)),gT 33 (iA 37 34 36 1),gT 33 (lF 38 37 1),gT 33 (mV 39 1),gT 33 (mV 40 10),gT 33 (iA 41 39 40 1),gT 33 (lF 42 41 1),gT 33 (bI 43 .geq 38 42),.pk 44 33 43 (cB false)])
 (.cond 44 (sR [.mv 8 (.c (.nl)),.mv 9 (cB false)]
 gR)
 .skip))))
 (.reg [.bi 45 .add 28 (kI 1),mV 28 45]))))))))
 (sR [lT 46 4 2,mV 47 1,mV 48 2,mV 49 3,cQ 50 L02 [46,47,48,49],mV 11 50]
 (.seq (sR [mV 51 11,.bi 52 .lss 51 (kI 0)]
 (.cond 52 (sR [.mv 8 (.c (.nl)),.mv 9 (cB false)]
 gR)
 .skip))
 (sR [lT 53 4 2,mV 54 1,mV 55 11,cQ 56 Vi [53,54,55],mV 12 56]
 (sR [.bs 57 1 [] true,mV 13 57]
 (sR [.bs 58 1 [] true,mV 14 58]
 (.seq (.blk 2 (.loop (.gw (.seq (sR [mV 59 13,.ln 60 59,mV 61 2,bI 62 .lss 60 61]
 (.cond 62 .skip
 (.exit 2)))
 (.blk 3 (sR [lT 63 4 2,mV 64 12,mV 65 14,cQ 66 Z0d [63,64,65],mV 15 66]
 (sR [mV 67 14,mV 68 15,.bs 69 1 [68] false,.ap 70 67 69 1 8,mV 14 70]
 (sR [lT 71 4 2,mV 72 12,mV 73 15,cQ 74 Vi [71,72,73],.ln 75 74,.mv 76 (kI 0)]
 (.blk 4 (.loop (.gw (sR [bI 77 .lss 76 75]
 (.seq (.cond 77 .skip
 (.exit 4))
 (.seq (.blk 5 (sR [iA 78 74 76 1,lF 79 78 1,mV 17 79]
 (sR [mV 80 13,.ln 81 80,mV 82 2,bI 83 .lss 81 82]
 (.cond 83 (.reg [mV 84 13,mV 85 17,cQ 86 YT [84,85],mV 13 86])
 .skip))))
 (.reg [.bi 87 .add 76 (kI 1),mV 76 87])))))))))))))))
 (sR [mV 88 13,mV 8 88,.mv 9 (cB true)]
 gR)))))))))
def Zr(n3 x17:Int)(_:Nat)(v17:(List Int))(k17:(List Int)->Option ((List Int)×Bool)):Option ((List Int)×Bool) :=
 bif (decide ((v17.length:Int)<n3))then((Wo v17 x17).bind fun y19=>k17 y19)else(k17 v17)
def QJ(k11:((List Int)×(List Int))->Option ((List Int)×Bool))(xs14:List Int)(v17:(List Int)):Option ((List Int)×Bool) :=
 k11 (v17,xs14)
def Qh(t1:Topo)(n3:Int)(y10:(List Int))(v11:(List Int)×(List Int))(k11:((List Int)×(List Int))->Option ((List Int)×Bool)):Option ((List Int)×Bool) :=
 bif (decide ((v11.1.length:Int)<n3))then((Lg t1 y10 v11.2).bind fun n13=>(appL 8 v11.2 [n13]).bind fun xs14=>(La t1 y10 n13).bind fun y15=>rgl (Zr n3) (QJ k11 xs14) y15 0 v11.1)else(some (v11.1,true))
def OJ(nodes2:List Int)(x7:Int)(i7:Nat)(_:Unit)(k7:Unit->Option ((List Int)×Bool)):Option ((List Int)×Bool) :=
 (bif (decide (0<(i7:Int)))then(idx nodes2 (w64 ((i7:Int)-1)))else some default).bind fun e8=>bif ((decide (0<(i7:Int)))&&(decide (x7<=e8)))then(some ([],false))else(k7 ())
def WJ(t1:Topo)(nodes2:List Int)(n3 level4:Int)(_:Unit):Option ((List Int)×Bool) :=
 (Lk t1 nodes2 n3 level4).bind fun n9=>bif (decide (n9<0))then(some ([],false))else((La t1 nodes2 n9).bind fun y10=>whl (Qh t1 n3 y10) 9223372036854775807 ([],[]))
def MJ(t1:Topo)(nodes2:List Int)(n3 level4:Int):Option ((List Int)×Bool) :=
 (Qb t1 nodes2).bind fun b5=>bif ((!b5)||(decide (n3<1)))then(some ([],false))else(rgl (OJ nodes2) (WJ t1 nodes2 n3 level4) nodes2 0 ())
theorem V0L{t1:Topo}{nodes2:List Int}{n3 level4:Int}{r:(List Int)×Bool}(H:MJ t1 nodes2 n3 level4=some r):Snd Tryz.prog X0l [Y3 .rd t1,rV 1 (nodes2.map eI),iV n3,iV level4] (.tup [nV 1 (r.1.map eI),.bool r.2]) []:=by
 refine wS Z0P [.t 8,.t 9] ?_
 unfold MJ at H
 obtain⟨b5,h5,H⟩:=bB H
 refine wG [.c 20 (VC h5)] fun _=>?_
 refine V0 H (fun H=>?_) fun H=>?_
 .refine wP ?_
  replace H:=sI H;subst H
  exact wN [(8,.n 1),(9,.d)] [] [] [] [] [⟨_,nw_I ([]:List Int)⟩]
 .refine wG [.u 27 (.ln _ _ fun _=>lm nodes2 eI)] fun q6=>?_
  refine wR (fun(i7:Nat) (v7:Unit)=>⟨[(1,rV 1 (nodes2.map eI)),(2,iV n3),(3,iV level4),(4,.ptr 4 0),(27,iV (nodes2.length:Int)),(28,iV (i7:Int))],[],[(4,(Y3 .rd t1).cells)],[]⟩) H (fun i7 x7 v7 I m k7 hxv7 hiv7 H N27=>?_) (fun v7 I m H=>?_)
  .unfold OJ at H
   refine wP ?_
   refine wt (ltT hiv7) ?_
   obtain⟨e8,h8,H⟩:=bB H
   refine wG [.g 37 [(_,true)] (.ix _ _ _ fun q=>Y0 eI (bT q.1 h8)),.g 41 [((decide (0<(i7:Int))),true)] (.ix _ _ _ fun _=>Y0 eI (Q0 hxv7))] fun _=>?_
   refine V0 H (fun H=>?_) fun H=>?_
   .refine wP ?_
    replace H:=sI H;subst H
    exact wN [(8,.n 1),(9,.d)] [] [] [] [] [⟨_,nw_I ([]:List Int)⟩]
   .refine wG [.w 45 (wi .i64 rfl hiv7 q6.1)] fun _=>?_
    exact wT (N27 () H)
  .unfold WJ at H
   refine wP ?_
   refine wf (ltF nodes2.length) ?_
   obtain⟨n9,h9,H⟩:=bB H
   refine wG [.c 50 (M0m h9)] fun _=>?_
   refine V0 H (fun H=>?_) fun H=>?_
   .refine wP ?_
    replace H:=sI H;subst H
    exact wN [(8,.n 1),(9,.d)] [] [] [] [] [⟨_,nw_I ([]:List Int)⟩]
   .obtain⟨y10,h10,H⟩:=bB H
    refine wG [.c 56 (Mi h10)] fun _=>?_
    refine U1z (fun(v11:(List Int)×(List Int))=>⟨[(2,.int .i64 n3),(4,.ptr 4 0),(12,.sl .nw 1 (y10.map eI)),(13,.sl .nw 1 (v11.1.map eI)),(14,.sref 58)],[],[(4,(Y3 .rd t1).cells)],[(58,⟨1,v11.2.map eI,false⟩)]⟩) [(13,.f)] [] [] [57] (by kernel_rfl) (by kernel_rfl) H (fun v11 I m k11 H N72=>?_)
    unfold Qh at H
    refine wG [.u 60 (.ln _ _ fun _=>lm v11.1 eI)] fun q12=>?_
    refine V0 H (fun H=>?_) fun H=>?_
    .obtain⟨n13,h13,H⟩:=bB H
     obtain⟨xs14,h14,H⟩:=bB H
     obtain⟨y15,h15,H⟩:=bB H
     refine wG [.c 66 (Y0A h13),.u 70 (.ap _ _ _ _ fun _=>M0 eI h14),.c 74 (Mi h15),.u 75 (.ln _ _ fun _=>lm y15 eI)] fun q16=>?_
     refine wR (fun(i17:Nat) (v17:(List Int))=>⟨[(2,iV n3),(4,.ptr 4 0),(12,nV 1 (y10.map eI)),(13,nV 1 (v17.map eI)),(14,.sref 58),(74,nV 1 (y15.map eI)),(75,iV (y15.length:Int)),(76,iV (i17:Int))],[],[(4,(Y3 .rd t1).cells)],[(58,⟨1,xs14.map eI,false⟩)]⟩) H (fun i17 x17 v17 I m k17 hxv17 hiv17 H N65=>?_) (fun v17 I m H=>?_)
     .unfold Zr at H
      refine wP ?_
      refine wt (ltT hiv17) ?_
      refine wG [.u 78 (.ix _ _ _ fun _=>Y0 eI (Q0 hxv17)),.u 81 (.ln _ _ fun _=>lm v17 eI)] fun q18=>?_
      refine V0 H (fun H=>?_) fun H=>?_
      .obtain⟨y19,h19,H⟩:=bB H
       refine wG [.c 86 (U03 h19),.w 87 (wi .i64 rfl hiv17 q16.1)] fun _=>?_
       exact wT (N65 _ H)
      .refine wG [.w 87 (wi .i64 rfl hiv17 q16.1)] fun _=>?_
       exact wT (N65 _ H)
     .unfold QJ at H
      refine wP ?_
      refine wf (ltF y15.length) ?_
      refine wP ?_
      exact wT (N72 _ H)
    .refine wP ?_
     replace H:=sI H;subst H
     exact wN [(8,.d),(9,.d)] [] [] [] [] [⟨_,nw_I v11.1⟩]
def J0v:L :=
sR [.bx 2 0,.mv 4 (.c (.nl))]
 (sR [mV 10 1,.bs 11 1 [10] true,mV 5 11]
 (.seq (.seq (.rz [] [(1,false,fA 13 2 3),
 (2,false,lF 14 13 1),
 (4,false,fA 16 2 4),
 (5,false,lT 17 16 1),
 (6,false,.bs 18 1 [17] false),
 (9,false,.mv 21 (kI 0)),
 (0,true,.bs 12 1 [] true),
 (3,true,.ap 15 12 14 1 24),
 (7,true,.ap 19 15 18 1 24),
 (8,true,.ln 20 19)]
 [])
 (.blk 0 (.loop (.gw (sR [bI 22 .lss 21 20]
 (.seq (.cond 22 .skip
 (.exit 0))
 (.seq (.blk 1 (sR [iA 23 19 21 1,lT 24 23 1,.al 7 [.nl],.st 7 24 1]
 (sR [fA 25 7 0,lF 26 25 1,.ln 27 26,.mv 28 (kI 0)]
 (.blk 2 (.loop (.gw (sR [bI 29 .lss 28 27]
 (.seq (.cond 29 .skip
 (.exit 2))
 (.seq (.blk 3 (sR [iA 30 26 28 4,lT 31 30 4,.al 9 [.int .i64 0,.int .i64 0,.int .i64 0,.int .i64 0],.st 9 31 4]
 (sR [fA 32 9 0,lF 33 32 1,mV 34 1,bI 35 .gtr 33 34,mV 36 35,gT 36 (mV 37 5),gT 36 (fA 38 9 0),gT 36 (lF 39 38 1),gT 36 (cQ 40 Je [37,39]),gT 36 (.un 41 40),.pk 42 36 41 (cB false)]
 (.cond 42 (.reg [mV 43 5,fA 44 9 0,lF 45 44 1,cQ 46 YT [43,45],mV 5 46])
 .skip))))
 (.reg [.bi 47 .add 28 (kI 1),mV 28 47]))))))))))
 (.reg [.bi 48 .add 21 (kI 1),mV 21 48]))))))))
 (sR [mV 49 5,mV 4 49]
 gR)))
def Oi(from2:Int)(x8:Pt)(_:Nat)(v8:(List Int))(k8:(List Int)->Option (List Int)):Option (List Int) :=
 (bif (decide (from2<x8.t))then(M9 v8 x8.t)else some default).bind fun b9=>bif ((decide (from2<x8.t))&&(!b9))then((Wo v8 x8.t).bind fun y10=>k8 y10)else(k8 v8)
def Zv(k6:(List Int)->Option (List Int))(v8:(List Int)):Option (List Int) :=
 k6 v8
def Wi(from2:Int)(x6:List Pt)(_:Nat)(v6:(List Int))(k6:(List Int)->Option (List Int)):Option (List Int) :=
 rgl (Oi from2) (Zv k6) x6 0 v6
def Ju(v6:(List Int)):Option (List Int) :=
 some v6
def Xq(r1:Room)(from2:Int):Option (List Int) :=
 (appL 24 ([]:List (List Pt)) r1.profs).bind fun xs3=>(appL 24 xs3 [r1.lics]).bind fun xs4=>(lenQ xs4).bind fun _=>rgl (Wi from2) Ju xs4 0 [from2]
theorem O0t{r1:Room}{from2:Int}{r:(List Int)}(H:Xq r1 from2=some r):Snd Tryz.prog O07 [Ye .rd r1,iV from2] (nV 1 (r.map eI)) []:=by
 refine wS J0v [.t 4] ?_
 unfold Xq at H
 obtain⟨xs3,h3,H⟩:=bB H
 obtain⟨xs4,h4,H⟩:=bB H
 obtain⟨u5,h5,H⟩:=bB H
 refine wG [.u 15 (.ap _ _ _ _ fun _=>M0 (O1 .rd) h3),.u 19 (.ap _ _ _ _ fun _=>M0 (O1 .rd) h4),.u 20 (.le _ _ (fun _=>lm xs4 (O1 .rd)) (fun _=>Y1u h5))] fun _=>?_
 refine X07 (fun(i6:Nat) (v6:(List Int))=>⟨[(1,.int .i64 from2),(5,.sl .nw 1 (v6.map eI)),(19,.sref 12),(20,.int .i64 (xs4.length:Int)),(21,.int .i64 (i6:Int))],[],[],[(12,⟨1,xs4.map (O1 .rd),false⟩)]⟩) [(5,.f)] [] [] [11] (by kernel_rfl) (by kernel_rfl) H (fun i6 x6 v6 I m k6 hxv6 hiv6 H N34=>?_) (fun v6 I m H=>?_)
 .unfold Wi at H
  refine wP ?_
  refine wt (ltT hiv6) ?_
  refine wG [.u 23 (.ix _ _ _ fun _=>Y0 (O1 .rd) (Q0 hxv6)),.u 24 (.el _ _ _ fun _=>gm (O1 .rd) (L7 (Q0 hxv6))),.u 27 (.ln _ _ fun _=>lm x6 ePt)] fun q7=>?_
  refine wR (fun(i8:Nat) (v8:(List Int))=>⟨[(1,iV from2),(5,nV 1 (v8.map eI)),(19,.sref 12),(20,iV (xs4.length:Int)),(21,iV (i6:Int)),(26,rV 4 (x6.map ePt)),(27,iV (x6.length:Int)),(28,iV (i8:Int))],[],[],[(12,⟨1,xs4.map (O1 .rd),false⟩)]⟩) H (fun i8 x8 v8 I m k8 hxv8 hiv8 H N25=>?_) (fun v8 I m H=>?_)
  .unfold Oi at H
   refine wP ?_
   refine wt (ltT hiv8) ?_
   obtain⟨b9,h9,H⟩:=bB H
   refine wG [.u 30 (.ix _ _ _ fun _=>Y0 ePt (Q0 hxv8)),.g 40 [(_,true)] (.call _ _ _ _ _ (AEs.refl _) (fun q=>Lf (bT q.1 h9)))] fun _=>?_
   refine V0 H (fun H=>?_) fun H=>?_
   .obtain⟨y10,h10,H⟩:=bB H
    refine wG [.c 46 (U03 h10),.w 47 (wi .i64 rfl hiv8 q7.1)] fun _=>?_
    exact wT (N25 _ H)
   .refine wG [.w 47 (wi .i64 rfl hiv8 q7.1)] fun _=>?_
    exact wT (N25 _ H)
  .unfold Zv at H
   refine wP ?_
   refine wf (ltF x6.length) ?_
   refine wG [.w 48 (wi .i64 rfl hiv6 (Y1u h5))] fun _=>?_
   exact wT (N34 _ H)
 .unfold Ju at H
  refine wP ?_
  refine wf (ltF xs4.length) ?_
  refine wP ?_
  replace H:=sI H;subst H
  exact wN [(4,.d)] [] [] [] [] [⟨_,nw_I v6⟩]
def L0N:L :=
sR [.bx 3 0,.bx 4 1,.mv 6 (.c (.nl)),.mv 7 (cB false)]
 (sR [fA 11 3 4,lT 12 11 1,mV 13 2,mV 14 2,fA 15 4 9,lF 16 15 1,bI 17 .add 14 16,cQ 18 Lz [12,13,17],mV 10 18,eX 19 10 0,eX 20 10 1,.al 8 [.int .i64 0,.int .i64 0,.int .i64 0],.st 8 19 3,mV 9 20]
 (.seq (sR [mV 21 9,.un 22 21,mV 23 22,gF 23 (fA 24 4 6),gF 23 (lT 25 24 3),gF 23 (lT 26 8 3),gF 23 (cQ 27 Jl [25,26]),gF 23 (.un 28 27),.pk 29 23 (cB true) 28]
 (.cond 29 (sR [.mv 6 (.c (.nl)),.mv 7 (cB false)]
 gR)
 .skip))
 (.seq (.rq 20 [fA 30 3 0,lT 31 30 2,lT 32 3 5,fA 33 4 3,lT 34 33 3,mV 35 2,mV 36 2,fA 37 4 9,lF 38 37 1,bI 39 .add 36 38,cQ 40 Z08 [32,34,35,39],fA 41 4 2,lF 42 41 1,fA 43 4 10,lF 44 43 1,cQ 45 X0l [31,40,42,44],eX 46 45 0,eX 47 45 1,mV 6 46,mV 7 47])
 gR)))
def MI(r1:Room)(j2:Job)(t3:Int):Option ((List Int)×Bool) :=
 (Xh r1.lics t3 (w64 (t3+j2.wall))).bind fun y4=>bif ((!y4.2)||(!(V2 j2.lic y4.1)))then(some ([],false))else((Jq r1 j2.need t3 (w64 (t3+j2.wall))).bind fun y5=>(MJ r1.topo y5 j2.nodes j2.level).bind fun y6=>some (y6.1,y6.2))
theorem Q0K{r1:Room}{j2:Job}{t3:Int}{r:(List Int)×Bool}(H:MI r1 j2 t3=some r):Snd Tryz.prog Z0l [Ye .rd r1,eJob j2,iV t3] (.tup [nV 1 (r.1.map eI),.bool r.2]) []:=by
 refine wS L0N [.t 6,.t 7] ?_
 unfold MI at H
 obtain⟨y4,h4,H⟩:=bB H
 refine wG [.c 18 (UJ h4),.g 27 [((!y4.2),false)] (.call _ _ _ _ _ (AEs.refl _) (fun _=>ZJ j2.lic y4.1))] fun _=>?_
 refine V0 H (fun H=>?_) fun H=>?_
 .refine wP ?_
  replace H:=sI H;subst H
  exact wN [(6,.n 1),(7,.d)] [] [] [] [] [⟨_,nw_I ([]:List Int)⟩]
 .obtain⟨y5,h5,H⟩:=bB H
  obtain⟨y6,h6,H⟩:=bB H
  refine wG [.c 40 (W0u h5),.c 45 (V0L h6)] fun _=>?_
  replace H:=sI H;subst H
  exact wN [(6,.d),(7,.d)] [] [] [] [] [⟨_,nw_I y6.1⟩]
def Q0w:L :=
sR [.bx 3 0,.bx 4 1,.mv 6 (kI 0),.mv 7 (.c (.nl)),.mv 8 (cB false)]
 (.seq (sR [lT 13 3 5,cQ 14 VH [13],.un 15 14,mV 16 15,gF 16 (lT 17 4 11),gF 16 (cQ 18 Mp [17]),gF 16 (.un 19 18),.pk 20 16 (cB true) 19,mV 21 20,gF 21 (mV 22 2),gF 21 (cQ 23 W7 [22]),gF 21 (.un 24 23),.pk 25 21 (cB true) 24]
 (.cond 25 (sR [.mv 6 (kI 0),.mv 7 (.c (.nl)),.mv 8 (cB false)]
 gR)
 .skip))
 (.seq (sR [lT 26 3 5,mV 27 2,cQ 28 O07 [26,27],.ln 29 28,.mv 30 (kI 0)]
 (.blk 0 (.loop (.gw (sR [bI 31 .lss 30 29]
 (.seq (.cond 31 .skip
 (.exit 0))
 (.seq (.blk 1 (sR [iA 32 28 30 1,lF 33 32 1,mV 10 33]
 (sR [lT 35 3 5,lT 36 4 11,mV 37 10,cQ 38 Z0l [35,36,37],mV 34 38,eX 39 34 0,eX 40 34 1,mV 11 39,mV 12 40]
 (sR [mV 41 12]
 (.cond 41 (sR [mV 42 10,mV 43 11,mV 6 42,mV 7 43,.mv 8 (cB true)]
 gR)
 .skip)))))
 (.reg [.bi 44 .add 30 (kI 1),mV 30 44]))))))))
 (sR [.mv 6 (kI 0),.mv 7 (.c (.nl)),.mv 8 (cB false)]
 gR)))
def Ov(r1:Room)(j2:Job)(x7:Int)(_:Nat)(_:Unit)(k7:Unit->Option (Int×(List Int)×Bool)):Option (Int×(List Int)×Bool) :=
 (MI r1 j2 x7).bind fun y8=>bif y8.2 then(some (x7,y8.1,true))else(k7 ())
def Wv(_:Unit):Option (Int×(List Int)×Bool) :=
 some (0,[],false)
def Uj(r1:Room)(j2:Job)(from3:Int):Option (Int×(List Int)×Bool) :=
 (Jn r1).bind fun b4=>bif (((!b4)||(!(O0 j2)))||(!(W4 from3)))then(some (0,[],false))else((Xq r1 from3).bind fun y5=>rgl (Ov r1 j2) Wv y5 0 ())
theorem O0u{r1:Room}{j2:Job}{from3:Int}{r:Int×(List Int)×Bool}(H:Uj r1 j2 from3=some r):Snd Tryz.prog Y08 [Ye .rd r1,eJob j2,iV from3] (.tup [iV r.1,nV 1 (r.2.1.map eI),.bool r.2.2]) []:=by
 refine wS Q0w [.t 6,.t 7,.t 8] ?_
 unfold Uj at H
 obtain⟨b4,h4,H⟩:=bB H
 refine wG [.c 14 (OR h4),.g 18 [((!b4),false)] (.call _ _ _ _ _ (AEs.refl _) (fun _=>QF j2)),.g 23 [(((!b4)||(!(O0 j2))),false)] (.call _ _ _ _ _ (AEs.refl _) (fun _=>L9 from3))] fun _=>?_
 refine V0 H (fun H=>?_) fun H=>?_
 .refine wP ?_
  replace H:=sI H;subst H
  exact wN [(6,.d),(7,.n 1),(8,.d)] [] [] [] [] [⟨_,nw_I ([]:List Int)⟩]
 .obtain⟨y5,h5,H⟩:=bB H
  refine wG [.c 28 (O0t h5),.u 29 (.ln _ _ fun _=>lm y5 eI)] fun q6=>?_
  refine wR (fun(i7:Nat) (v7:Unit)=>⟨[(3,.ptr 3 0),(4,.ptr 4 0),(28,nV 1 (y5.map eI)),(29,iV (y5.length:Int)),(30,iV (i7:Int))],[],[(3,(Ye .rd r1).cells),(4,(eJob j2).cells)],[]⟩) H (fun i7 x7 v7 I m k7 hxv7 hiv7 H N29=>?_) (fun v7 I m H=>?_)
  .unfold Ov at H
   refine wP ?_
   refine wt (ltT hiv7) ?_
   obtain⟨y8,h8,H⟩:=bB H
   refine wG [.u 32 (.ix _ _ _ fun _=>Y0 eI (Q0 hxv7)),.c 38 (Q0K h8)] fun _=>?_
   refine V0 H (fun H=>?_) fun H=>?_
   .refine wP ?_
    replace H:=sI H;subst H
    exact wN [(6,.d),(7,.d),(8,.d)] [] [] [] [] [⟨_,nw_I y8.1⟩]
   .refine wG [.w 44 (wi .i64 rfl hiv7 q6.1)] fun _=>?_
    exact wT (N29 () H)
  .unfold Wv at H
   refine wP ?_
   refine wf (ltF y5.length) ?_
   refine wP ?_
   replace H:=sI H;subst H
   exact wN [(6,.d),(7,.n 1),(8,.d)] [] [] [] [] [⟨_,nw_I ([]:List Int)⟩]
def X0F:L :=
sR [.bx 1 0,.al 2 [.nl]]
 (sR [.bs 3 4 [] true,fA 4 1 0,lF 5 4 1,.ap 6 3 5 4 32,.bd 7 [.nl] [(0,1,6)],.st 2 7 1]
 gR)
def Oo(p1:List Pt):Option (List Pt) :=
 (appL 32 ([]:List Pt) p1).bind fun xs2=>some xs2
theorem Q03{p1:List Pt}{r:(List Pt)}(H:Oo p1=some r):Snd Tryz.prog XT [.agg [rV 4 (p1.map ePt)]] (O1 .nw r) []:=by
 refine wS X0F [.c 2 1 true] ?_
 unfold Oo at H
 obtain⟨xs2,h2,H⟩:=bB H
 refine wG [.u 6 (.ap _ _ _ _ fun _=>M0 ePt h2)] fun _=>?_
 replace H:=sI H;subst H
 exact wN [(2,.d)] [(2,[.f])] [] [3] [] [⟨_,Xg xs2⟩]
def Q0F:L :=
sR [.bx 1 0,.al 2 [.nl,.nl,.nl,.nl,.nl]]
 (.seq (.rz [(8,3,[.nl,.nl,.nl,.nl,.nl])] [(1,false,fA 7 1 2),
 (2,false,lF 8 7 1),
 (4,false,fA 10 1 4),
 (5,false,lT 11 10 1),
 (0,true,.bs 6 1 [] true),
 (3,true,.ap 9 6 8 1 1),
 (6,false,cQ 12 XT [11]),
 (7,true,.bd 13 [.nl,.nl,.nl,.nl,.nl] [(2,1,9),(4,1,12)])]
 [.st 3 13 5])
 (.seq (.rq 12 [.be 14,fA 15 1 0,fA 16 15 0,lF 17 16 1,.ae 18 14 17 1 8,.be 19,fA 20 1 0,fA 21 20 1,lF 22 21 1,.ae 23 19 22 4 32,.bd 24 [.nl,.nl] [(0,1,18),(1,1,23)],fA 25 3 0,.st 25 24 2])
 (.seq (sR [fA 26 1 3,lF 27 26 1,.ln 28 27,.mv 29 (kI 0)]
 (.blk 0 (.loop (.gw (sR [bI 30 .lss 29 28]
 (.seq (.cond 30 .skip
 (.exit 0))
 (.seq (.blk 1 (sR [iA 31 27 29 1,lT 32 31 1,.al 5 [.nl],.st 5 32 1]
 (.rq 5 [fA 33 3 3,lF 34 33 1,lT 35 5 1,cQ 36 XT [35],.bs 37 1 [36] false,.ap 38 34 37 1 24,fA 39 3 3,.st 39 38 1])))
 (.reg [.bi 40 .add 29 (kI 1),mV 29 40]))))))))
 (sR [lT 41 3 5,.st 2 41 5]
 gR))))
def Um(x7:List Pt)(_:Nat)(v7:(List (List Pt)))(k7:(List (List Pt))->Option Room):Option Room :=
 (Oo x7).bind fun y8=>(appL 24 v7 [y8]).bind fun xs9=>k7 xs9
def XC(xs2:List Bool)(y3:(List Pt))(xs4:List Int)(xs5:List Node)(v7:(List (List Pt))):Option Room :=
 some (Room.mk (Topo.mk xs4 xs5) xs2 v7 y3)
def Lo(r1:Room):Option Room :=
 (appL 1 ([]:List Bool) r1.up).bind fun xs2=>(Oo r1.lics).bind fun y3=>(appL 8 ([]:List Int) r1.topo.parents).bind fun xs4=>(appL 32 ([]:List Node) r1.topo.nodes).bind fun xs5=>rgl Um (XC xs2 y3 xs4 xs5) r1.profs 0 []
theorem M03{r1 r:Room}(H:Lo r1=some r):Snd Tryz.prog UT [Ye .rd r1] (.agg [nV 1 (r.topo.parents.map eI),nV 4 (r.topo.nodes.map L2),.sref 0,.sref 1,nV 4 (r.lics.map ePt)]) [⟨1,r.up.map eBo,false⟩,⟨1,r.profs.map (O1 .nw),false⟩]:=by
 refine wS Q0F [.c 2 5 true] ?_
 unfold Lo at H
 obtain⟨xs2,h2,H⟩:=bB H
 obtain⟨y3,h3,H⟩:=bB H
 obtain⟨xs4,h4,H⟩:=bB H
 obtain⟨xs5,h5,H⟩:=bB H
 refine wG [.u 9 (.ap _ _ _ _ fun _=>M0 eBo h2),.c 12 (Q03 h3),.u 18 (.ap _ _ _ _ fun _=>M0 eI h4),.u 23 (.ap _ _ _ _ fun _=>M0 L2 h5),.u 28 (.ln _ _ fun _=>lm r1.profs (O1 .rd))] fun q6=>?_
 refine X07 (fun(i7:Nat) (v7:(List (List Pt)))=>⟨[(2,.ptr 2 0),(3,.ptr 3 0),(27,.sl .rd 1 (r1.profs.map (O1 .rd))),(28,.int .i64 (r1.profs.length:Int)),(29,.int .i64 (i7:Int))],[],[(2,[.nl,.nl,.nl,.nl,.nl]),(3,[.sl .nw 1 (xs4.map eI),.sl .nw 4 (xs5.map L2),.sref 6,.sref 132001,.sl .nw 4 (y3.map ePt)])],[(6,⟨1,xs2.map eBo,false⟩),(132001,⟨1,v7.map (O1 .nw),false⟩)]⟩) [] [(3,[.d,.d,.d,.z 132001,.d])] [(132001,(none,1))] [] (by kernel_rfl) (by kernel_rfl) H (fun i7 x7 v7 I m k7 hxv7 hiv7 H N16=>?_) (fun v7 I m H=>?_)
 .unfold Um at H
  refine wP ?_
  refine wt (ltT hiv7) ?_
  obtain⟨y8,h8,H⟩:=bB H
  obtain⟨xs9,h9,H⟩:=bB H
  refine wG [.u 31 (.ix _ _ _ fun _=>Y0 (O1 .rd) (Q0 hxv7)),.c 36 (Q03 h8),.u 38 (.ap _ _ _ _ fun _=>M0 (O1 .nw) h9),.w 40 (wi .i64 rfl hiv7 q6.1)] fun _=>?_
  exact wT (N16 _ H)
 .unfold XC at H
  refine wP ?_
  refine wf (ltF r1.profs.length) ?_
  refine wP ?_
  replace H:=sI H;subst H
  exact wN [(2,.d)] [(2,[])] [(6,some 6,0),(132001,some 132001,0)] [] [some 6,some 132001] [⟨_,nw_I xs4⟩,⟨_,Y7 xs5⟩,⟨_,Xg y3⟩,⟨_,OF xs2⟩,⟨_,U7 v7⟩]
def U0F:L :=
sR [.bx 3 0,.bx 4 1,.mv 6 (cB false)]
 (.seq (sR [lT 9 3 5,cQ 10 VH [9],.un 11 10,mV 12 11,gF 12 (lT 13 4 11),gF 12 (cQ 14 Mp [13]),gF 12 (.un 15 14),.pk 16 12 (cB true) 15,mV 17 16,gF 17 (mV 18 2),gF 17 (.ln 19 18),gF 17 (fA 20 4 2),gF 17 (lF 21 20 1),gF 17 (bI 22 .neq 19 21),.pk 23 17 (cB true) 22,mV 24 23,gF 24 (fA 25 3 0),gF 24 (lT 26 25 2),gF 24 (mV 27 2),gF 24 (cQ 28 Ot [26,27]),gF 24 (.un 29 28),.pk 30 24 (cB true) 29]
 (.cond 30 (.seq (rE 6 (cB false))
 gR)
 .skip))
 (.seq (sR [mV 31 2,.ln 32 31,.mv 33 (kI 0)]
 (.blk 0 (.loop (.gw (sR [bI 34 .lss 33 32]
 (.seq (.cond 34 .skip
 (.exit 0))
 (.seq (.blk 1 (sR [mV 35 33,iA 36 31 33 1,lF 37 36 1,mV 7 35,mV 8 37]
 (sR [mV 38 2,mV 39 7,.sc 40 38 none (some 39) 1,mV 41 8,cQ 42 Je [40,41]]
 (.cond 42 (.seq (rE 6 (cB false))
 gR)
 .skip))))
 (.reg [.bi 43 .add 33 (kI 1),mV 33 43]))))))))
 (.seq (rE 6 (cB true))
 gR)))
def YC(nodes3:List Int)(x7:Int)(i7:Nat)(_:Unit)(k7:Unit->Option Bool):Option Bool :=
 (cutL nodes3 none (some (i7:Int))).bind fun xs8=>(M9 xs8 x7).bind fun b9=>bif b9 then(some false)else(k7 ())
def O01(_:Unit):Option Bool :=
 some true
def Mo(r1:Room)(j2:Job)(nodes3:List Int):Option Bool :=
 (Jn r1).bind fun b4=>(bif (((!b4)||(!(O0 j2)))||((nodes3.length:Int)!=j2.nodes))then some default else(Qb r1.topo nodes3)).bind fun b5=>bif ((((!b4)||(!(O0 j2)))||((nodes3.length:Int)!=j2.nodes))||(!b5))then(some false)else(rgl (YC nodes3) O01 nodes3 0 ())
theorem W03{r1:Room}{j2:Job}{nodes3:List Int}{r:Bool}(H:Mo r1 j2 nodes3=some r):Snd Tryz.prog VT [Ye .rd r1,eJob j2,rV 1 (nodes3.map eI)] (.bool r) []:=by
 refine wS U0F [.t 6] ?_
 unfold Mo at H
 obtain⟨b4,h4,H⟩:=bB H
 obtain⟨b5,h5,H⟩:=bB H
 refine wG [.c 10 (OR h4),.g 14 [((!b4),false)] (.call _ _ _ _ _ (AEs.refl _) (fun _=>QF j2)),.g 19 [(((!b4)||(!(O0 j2))),false)] (.ln _ _ fun _=>lm nodes3 eI),.g 28 [(_,false)] (.call _ _ _ _ _ (AEs.refl _) (fun q=>VC (bF q.1 h5)))] fun _=>?_
 refine V0 H (fun H=>?_) fun H=>?_
 .obtain rfl:=sI H
  exact wP (wE [(6,.d)])
 .refine wG [.u 32 (.ln _ _ fun _=>lm nodes3 eI)] fun q6=>?_
  refine wR (fun(i7:Nat) (v7:Unit)=>⟨[(2,rV 1 (nodes3.map eI)),(31,rV 1 (nodes3.map eI)),(32,iV (nodes3.length:Int)),(33,iV (i7:Int))],[],[],[]⟩) H (fun i7 x7 v7 I m k7 hxv7 hiv7 H N27=>?_) (fun v7 I m H=>?_)
  .unfold YC at H
   refine wP ?_
   refine wt (ltT hiv7) ?_
   obtain⟨xs8,h8,H⟩:=bB H
   obtain⟨b9,h9,H⟩:=bB H
   refine wG [.u 36 (.ix _ _ _ fun _=>Y0 eI (Q0 hxv7)),.u 40 (.sc _ _ _ _ fun _=>V0k eI h8),.c 42 (Lf h9)] fun _=>?_
   refine V0 H (fun H=>?_) fun H=>?_
   .obtain rfl:=sI H
    exact wP (wE [(6,.d)])
   .refine wG [.w 43 (wi .i64 rfl hiv7 q6.1)] fun _=>?_
    exact wT (N27 () H)
  .unfold O01 at H
   refine wP ?_
   refine wf (ltF nodes3.length) ?_
   obtain rfl:=sI H
   exact wP (wE [(6,.d)])
def Z0G:L :=
sR [.bx 4 0,.bx 5 1,.al 8 [.nl,.nl,.nl,.nl,.nl],.mv 9 (cB false)]
 (.seq (sR [lT 17 4 5,lT 18 5 11,mV 19 3,cQ 20 VT [17,18,19],.un 21 20,mV 22 21,gF 22 (mV 23 2),gF 22 (cQ 24 W7 [23]),gF 22 (.un 25 24),.pk 26 22 (cB true) 25]
 (.cond 26 (sR [.bd 27 [.nl,.nl,.nl,.nl,.nl] [],.st 8 27 5,.mv 9 (cB false)]
 gR)
 .skip))
 (sR [lT 28 4 5,.cl 29 UT [28],.al 10 [.nl,.nl,.nl,.nl,.nl],.st 10 29 5]
 (.seq (sR [mV 30 3,.ln 31 30,.mv 32 (kI 0)]
 (.blk 0 (.loop (.gw (sR [bI 33 .lss 32 31]
 (.seq (.cond 33 .skip
 (.exit 0))
 (.seq (.blk 1 (sR [iA 34 30 32 1,lF 35 34 1,mV 12 35]
 (.seq (.rz [(16,13,[.nl])] [(0,false,fA 37 10 3),
 (2,false,mV 39 12),
 (5,false,mV 42 2),
 (6,false,mV 43 2),
 (7,false,fA 44 5 9),
 (8,false,lF 45 44 1),
 (9,false,bI 46 .add 43 45),
 (10,false,fA 47 5 3),
 (11,false,lT 48 47 3),
 (1,true,lF 38 37 1),
 (3,true,iA 40 38 39 1),
 (4,true,lT 41 40 1),
 (12,false,cQ 49 WM [41,42,46,48]),
 (13,false,mV 36 49),
 (14,false,eX 50 36 0),
 (15,false,eX 51 36 1)]
 [.st 13 50 1,mV 14 51])
 (.seq (sR [mV 52 14,.un 53 52]
 (.cond 53 (sR [.bd 54 [.nl,.nl,.nl,.nl,.nl] [],.st 8 54 5,.mv 9 (cB false)]
 gR)
 .skip))
 (.reg [fA 55 10 3,lF 56 55 1,mV 57 12,lT 58 13 1,iA 59 56 57 1,.st 59 58 1])))))
 (.reg [.bi 60 .add 32 (kI 1),mV 32 60]))))))))
 (sR [fA 62 10 4,lT 63 62 1,mV 64 2,mV 65 2,fA 66 5 9,lF 67 66 1,bI 68 .add 65 67,fA 69 5 6,lT 70 69 3,cQ 71 WM [63,64,68,70],mV 61 71,eX 72 61 0,eX 73 61 1,.al 15 [.nl],.st 15 72 1,mV 16 73]
 (.seq (sR [mV 74 16,.un 75 74]
 (.cond 75 (sR [.bd 76 [.nl,.nl,.nl,.nl,.nl] [],.st 8 76 5,.mv 9 (cB false)]
 gR)
 .skip))
 (sR [lT 77 15 1,fA 78 10 4,.st 78 77 1]
 (sR [lT 79 10 5,.st 8 79 5,.mv 9 (cB true)]
 gR)))))))
def J01(j2:Job)(at3 x8:Int)(_:Nat)(v8:(List (List Pt)))(k8:(List (List Pt))->Option (Room×Bool)):Option (Room×Bool) :=
 (idx v8 x8).bind fun e9=>(L8 e9 at3 (w64 (at3+j2.wall)) j2.need).bind fun y10=>bif (!y10.2)then(some ((Room.mk (Topo.mk [] []) [] [] []),false))else(k8 (v8.set x8.toNat y10.1))
def L01(j2:Job)(at3:Int)(y6:Room)(v8:(List (List Pt))):Option (Room×Bool) :=
 (L8 y6.lics at3 (w64 (at3+j2.wall)) j2.lic).bind fun y11=>bif (!y11.2)then(some ((Room.mk (Topo.mk [] []) [] [] []),false))else(some ((Room.mk y6.topo y6.up v8 y11.1),true))
def QA(r1:Room)(j2:Job)(at3:Int)(nodes4:List Int):Option (Room×Bool) :=
 (Mo r1 j2 nodes4).bind fun b5=>bif ((!b5)||(!(W4 at3)))then(some ((Room.mk (Topo.mk [] []) [] [] []),false))else((Lo r1).bind fun y6=>rgl (J01 j2 at3) (L01 j2 at3 y6) nodes4 0 y6.profs)
theorem Q0A{r1:Room}{j2:Job}{at3:Int}{nodes4:List Int}{r:Room×Bool}(H:QA r1 j2 at3 nodes4=some r):Snd Tryz.prog X0d [Ye .rd r1,eJob j2,iV at3,rV 1 (nodes4.map eI)] (.tup [Ye .nw r.1,.bool r.2]) []:=by
 refine wS Z0G [.c 8 5 true,.t 9] ?_
 unfold QA at H
 obtain⟨b5,h5,H⟩:=bB H
 refine wG [.c 20 (W03 h5),.g 24 [((!b5),false)] (.call _ _ _ _ _ (AEs.refl _) (fun _=>L9 at3))] fun _=>?_
 refine V0 H (fun H=>?_) fun H=>?_
 .refine wP ?_
  replace H:=sI H;subst H
  exact wN [(8,.d),(9,.d)] [(8,[.n 1,.n 4,.n 1,.n 1,.n 4])] [] [] [] [⟨_,nw_I ([]:List Int)⟩,⟨_,Y7 ([]:List Node)⟩,⟨_,OF ([]:List Bool)⟩,⟨_,U7 ([]:List (List Pt))⟩,⟨_,Xg ([]:List Pt)⟩]
 .obtain⟨y6,h6,H⟩:=bB H
  refine wG [.c 29 (M03 h6),.u 31 (.ln _ _ fun _=>lm nodes4 eI)] fun q7=>?_
  refine wR (fun(i8:Nat) (v8:(List (List Pt)))=>⟨[(2,iV at3),(5,.ptr 5 0),(8,.ptr 8 0),(10,.ptr 10 0),(30,rV 1 (nodes4.map eI)),(31,iV (nodes4.length:Int)),(32,iV (i8:Int))],[],[(5,(eJob j2).cells),(8,[.nl,.nl,.nl,.nl,.nl]),(10,[nV 1 (y6.topo.parents.map eI),nV 4 (y6.topo.nodes.map L2),.sref 30000,.sref 30001,nV 4 (y6.lics.map ePt)])],[(30000,⟨1,y6.up.map eBo,false⟩),(30001,⟨1,v8.map (O1 .nw),false⟩)]⟩) H (fun i8 x8 v8 I m k8 hxv8 hiv8 H N32=>?_) (fun v8 I m H=>?_)
  .unfold J01 at H
   refine wP ?_
   refine wt (ltT hiv8) ?_
   obtain⟨e9,h9,H⟩:=bB H
   obtain⟨y10,h10,H⟩:=bB H
   refine wG [.u 34 (.ix _ _ _ fun _=>Y0 eI (Q0 hxv8)),.u 40 (.ix _ _ _ fun _=>Y0 (O1 .nw) h9),.u 41 (.el _ _ _ fun _=>gm (O1 .nw) (L7 h9)),.c 49 (Z02 h10)] fun _=>?_
   refine V0 H (fun H=>?_) fun H=>?_
   .refine wP ?_
    replace H:=sI H;subst H
    exact wN [(8,.d),(9,.d)] [(8,[.n 1,.n 4,.n 1,.n 1,.n 4])] [] [] [] [⟨_,nw_I ([]:List Int)⟩,⟨_,Y7 ([]:List Node)⟩,⟨_,OF ([]:List Bool)⟩,⟨_,U7 ([]:List (List Pt))⟩,⟨_,Xg ([]:List Pt)⟩]
   .refine wG [.u 59 (.ix _ _ _ fun _=>Y0 (O1 .nw) h9),.u 1000000 (.sto _ _ _ (O1 .nw y10.1) _ (fun _=>gm (O1 .nw) (L7 h9)) (fun _=>JX ..)),.w 60 (wi .i64 rfl hiv8 q7.1)] fun _=>?_
    exact wT (N32 _ H)
  .unfold L01 at H
   refine wP ?_
   refine wf (ltF nodes4.length) ?_
   obtain⟨y11,h11,H⟩:=bB H
   refine wG [.c 71 (Z02 h11)] fun _=>?_
   refine V0 H (fun H=>?_) fun H=>?_
   .refine wP ?_
    replace H:=sI H;subst H
    exact wN [(8,.d),(9,.d)] [(8,[.n 1,.n 4,.n 1,.n 1,.n 4])] [] [] [] [⟨_,nw_I ([]:List Int)⟩,⟨_,Y7 ([]:List Node)⟩,⟨_,OF ([]:List Bool)⟩,⟨_,U7 ([]:List (List Pt))⟩,⟨_,Xg ([]:List Pt)⟩]
   .refine wP ?_
    replace H:=sI H;subst H
    exact wN [(8,.d),(9,.d)] [(8,[.d,.d,.f,.f,.d])] [] [30000,30001] [] [⟨_,nw_I y6.topo.parents⟩,⟨_,Y7 y6.topo.nodes⟩,⟨_,OF y6.up⟩,⟨_,U7 v8⟩,⟨_,Xg y11.1⟩]
def M0w:L :=
sR [.bx 1 0,.al 2 [.nl,.nl,.nl,.nl,.nl]]
 (.seq (.rz [(10,3,[.nl,.nl,.nl,.nl,.nl])] [(0,false,fA 6 1 0),
 (1,false,lT 7 6 2),
 (2,false,cQ 8 Yu [7]),
 (3,false,fA 9 1 2),
 (4,false,lF 10 9 1),
 (6,false,fA 12 1 4),
 (7,false,lT 13 12 1),
 (5,true,.ap 11 (.c (.nl)) 10 1 1),
 (8,false,cQ 14 ZN [13]),
 (9,true,.bd 15 [.nl,.nl,.nl,.nl,.nl] [(0,2,8),(2,1,11),(4,1,14)])]
 [.st 3 15 5])
 (.seq (sR [fA 16 1 3,lF 17 16 1,.ln 18 17,.mv 19 (kI 0)]
 (.blk 0 (.loop (.gw (sR [bI 20 .lss 19 18]
 (.seq (.cond 20 .skip
 (.exit 0))
 (.seq (.blk 1 (sR [iA 21 17 19 1,lT 22 21 1,.al 5 [.nl],.st 5 22 1]
 (.rq 5 [fA 23 3 3,lF 24 23 1,lT 25 5 1,cQ 26 ZN [25],.bs 27 1 [26] false,.ap 28 24 27 1 24,fA 29 3 3,.st 29 28 1])))
 (.reg [.bi 30 .add 19 (kI 1),mV 19 30]))))))))
 (sR [lT 31 3 5,.st 2 31 5]
 gR)))
def Qj(x6:List Pt)(_:Nat)(v6:(List (List Pt)))(k6:(List (List Pt))->Option Room):Option Room :=
 (Wj x6).bind fun y7=>(appL 24 v6 [y7]).bind fun xs8=>k6 xs8
def Lw(y2:Topo)(xs3:List Bool)(y4:(List Pt))(v6:(List (List Pt))):Option Room :=
 some (Room.mk y2 xs3 v6 y4)
def Ms(r1:Room):Option Room :=
 (Lb r1.topo).bind fun y2=>(appL 1 ([]:List Bool) r1.up).bind fun xs3=>(Wj r1.lics).bind fun y4=>rgl Qj (Lw y2 xs3 y4) r1.profs 0 []
theorem M0x{r1 r:Room}(H:Ms r1=some r):Snd Tryz.prog O08 [Ye .rd r1] (.agg [nV 1 (r.topo.parents.map eI),nV 4 (r.topo.nodes.map L2),nV 1 (r.up.map eBo),.sref 0,nV 4 (r.lics.map ePt)]) [⟨1,r.profs.map (O1 .nw),false⟩]:=by
 refine wS M0w [.c 2 5 true] ?_
 unfold Ms at H
 obtain⟨y2,h2,H⟩:=bB H
 obtain⟨xs3,h3,H⟩:=bB H
 obtain⟨y4,h4,H⟩:=bB H
 refine wG [.c 8 (XD h2),.u 11 (.ap _ _ _ _ fun _=>M0 eBo h3),.c 14 (U02 h4),.u 18 (.ln _ _ fun _=>lm r1.profs (O1 .rd))] fun q5=>?_
 refine X07 (fun(i6:Nat) (v6:(List (List Pt)))=>⟨[(2,.ptr 2 0),(3,.ptr 3 0),(17,.sl .rd 1 (r1.profs.map (O1 .rd))),(18,.int .i64 (r1.profs.length:Int)),(19,.int .i64 (i6:Int))],[],[(2,[.nl,.nl,.nl,.nl,.nl]),(3,[.sl .nw 1 (y2.parents.map eI),.sl .nw 4 (y2.nodes.map L2),.sref 11,.sref 132001,.sl .nw 4 (y4.map ePt)])],[(11,⟨1,xs3.map eBo,false⟩),(132001,⟨1,v6.map (O1 .nw),false⟩)]⟩) [] [(3,[.d,.d,.d,.z 132001,.d])] [(132001,(none,1))] [] (by kernel_rfl) (by kernel_rfl) H (fun i6 x6 v6 I m k6 hxv6 hiv6 H N15=>?_) (fun v6 I m H=>?_)
 .unfold Qj at H
  refine wP ?_
  refine wt (ltT hiv6) ?_
  obtain⟨y7,h7,H⟩:=bB H
  obtain⟨xs8,h8,H⟩:=bB H
  refine wG [.u 21 (.ix _ _ _ fun _=>Y0 (O1 .rd) (Q0 hxv6)),.c 26 (U02 h7),.u 28 (.ap _ _ _ _ fun _=>M0 (O1 .nw) h8),.w 30 (wi .i64 rfl hiv6 q5.1)] fun _=>?_
  exact wT (N15 _ H)
 .unfold Lw at H
  refine wP ?_
  refine wf (ltF r1.profs.length) ?_
  refine wP ?_
  replace H:=sI H;subst H
  exact wN [(2,.d)] [(2,[.d,.d,.f,.d,.d])] [(132001,some 132001,0)] [11] [some 132001] [⟨_,nw_I y2.parents⟩,⟨_,Y7 y2.nodes⟩,⟨_,OF xs3⟩,⟨_,Xg y4⟩,⟨_,U7 v6⟩]
def O13:L :=
sR [.bx 1 0,.mv 2 (cB false)]
 (sR [fA 3 1 0,lF 4 3 1,.cq 5 Q1 [4,(kI 1),(kI 999)],mV 6 5,gT 6 (fA 7 1 1),gT 6 (lF 8 7 1),gT 6 (.cq 9 Q1 [8,(kI 0),(kI 999)]),.pk 10 6 9 (cB false),mV 11 10,gT 11 (fA 12 1 2),gT 11 (lF 13 12 1),gT 11 (.cq 14 Q1 [13,(kI 1),(kI 24)]),.pk 15 11 14 (cB false),mV 16 15,gT 16 (fA 17 1 3),gT 16 (lT 18 17 3),gT 16 (cQ 19 Q5 [18]),.pk 20 16 19 (cB false),mV 21 20,gT 21 (fA 22 1 6),gT 21 (lT 23 22 3),gT 21 (cQ 24 Q5 [23]),.pk 25 21 24 (cB false),mV 26 25,gT 26 (fA 27 1 9),gT 26 (lF 28 27 1),gT 26 (.cq 29 Q1 [28,(kI 1),(kI 1000000)]),.pk 30 26 29 (cB false),mV 31 30,gT 31 (fA 32 1 10),gT 31 (lF 33 32 1),gT 31 (.cq 34 Q1 [33,(kI 0),(kI 24)]),.pk 35 31 34 (cB false),mV 2 35]
 gR)
def WQ(j1:Job):Option Bool :=
 some (((((((Z0 j1.id 1 999)&&(Z0 j1.prio 0 999))&&(Z0 j1.nodes 1 24))&&(J0 j1.need))&&(J0 j1.lic))&&(Z0 j1.wall 1 1000000))&&(Z0 j1.level 0 24))
theorem W0I{j1:Job}{r:Bool}(H:WQ j1=some r):Snd Tryz.prog Qi [eJob j1] (.bool r) []:=by
 refine wS O13 [.t 2] ?_
 unfold WQ at H
 refine wG [.c 5 (V1 j1.id 1 999),.g 9 [((Z0 j1.id 1 999),true)] (.call _ _ _ _ _ (AEs.refl _) (fun _=>V1 j1.prio 0 999)),.g 14 [(((Z0 j1.id 1 999)&&(Z0 j1.prio 0 999)),true)] (.call _ _ _ _ _ (AEs.refl _) (fun _=>V1 j1.nodes 1 24)),.g 19 [((((Z0 j1.id 1 999)&&(Z0 j1.prio 0 999))&&(Z0 j1.nodes 1 24)),true)] (.call _ _ _ _ _ (AEs.refl _) (fun _=>M5 j1.need)),.g 24 [(((((Z0 j1.id 1 999)&&(Z0 j1.prio 0 999))&&(Z0 j1.nodes 1 24))&&(J0 j1.need)),true)] (.call _ _ _ _ _ (AEs.refl _) (fun _=>M5 j1.lic)),.g 29 [((((((Z0 j1.id 1 999)&&(Z0 j1.prio 0 999))&&(Z0 j1.nodes 1 24))&&(J0 j1.need))&&(J0 j1.lic)),true)] (.call _ _ _ _ _ (AEs.refl _) (fun _=>V1 j1.wall 1 1000000)),.g 34 [(((((((Z0 j1.id 1 999)&&(Z0 j1.prio 0 999))&&(Z0 j1.nodes 1 24))&&(J0 j1.need))&&(J0 j1.lic))&&(Z0 j1.wall 1 1000000)),true)] (.call _ _ _ _ _ (AEs.refl _) (fun _=>V1 j1.level 0 24))] fun _=>?_
 replace H:=sI H;subst H
 exact wE [(2,.d)]
def W5(j1:Job):Bool :=
 (((((((Z0 j1.id 1 999)&&(Z0 j1.prio 0 999))&&(Z0 j1.nodes 1 24))&&(J0 j1.need))&&(J0 j1.lic))&&(Z0 j1.wall 1 1000000))&&(Z0 j1.level 0 24))
theorem Z1b(j1:Job):WQ j1=some (W5 j1):=by
 unfold WQ W5
 first|rfl|simp only[Z2]
theorem Vt(j1:Job):Snd Tryz.prog Qi [eJob j1] (.bool (W5 j1)) []:=W0I (Z1b j1)
def W0R:L :=
sR [.bx 1 0,.mv 2 (cB false)]
 (.seq (sR [fA 5 1 0,lT 6 5 2,cQ 7 WH [6],.un 8 7,mV 9 8,gF 9 (fA 10 1 2),gF 9 (lF 11 10 1),gF 9 (.ln 12 11),gF 9 (fA 13 1 0),gF 9 (fA 14 13 1),gF 9 (lF 15 14 1),gF 9 (.ln 16 15),gF 9 (bI 17 .neq 12 16),.pk 18 9 (cB true) 17,mV 19 18,gF 19 (fA 20 1 3),gF 19 (lF 21 20 1),gF 19 (.ln 22 21),gF 19 (fA 23 1 0),gF 19 (fA 24 23 1),gF 19 (lF 25 24 1),gF 19 (.ln 26 25),gF 19 (bI 27 .neq 22 26),.pk 28 19 (cB true) 27]
 (.cond 28 (.seq (rE 2 (cB false))
 gR)
 .skip))
 (.seq (sR [fA 29 1 3,lF 30 29 1,.ln 31 30,.mv 32 (kI 0)]
 (.blk 0 (.loop (.gw (sR [bI 33 .lss 32 31]
 (.seq (.cond 33 .skip
 (.exit 0))
 (.seq (.blk 1 (sR [iA 34 30 32 1,lT 35 34 1,.al 4 [.nl],.st 4 35 1]
 (sR [lT 36 4 1,cQ 37 OH [36],.un 38 37]
 (.cond 38 (.seq (rE 2 (cB false))
 gR)
 .skip))))
 (.reg [.bi 39 .add 32 (kI 1),mV 32 39]))))))))
 (sR [fA 40 1 4,lT 41 40 1,cQ 42 OH [41],mV 2 42]
 gR)))
def YM(x4:List Pt)(_:Nat)(_:Unit)(k4:Unit->Option Bool):Option Bool :=
 (Vo x4).bind fun b5=>bif (!b5)then(some false)else(k4 ())
def ZM(r1:Room)(_:Unit):Option Bool :=
 (Vo r1.lics).bind fun b6=>some b6
def Vx(r1:Room):Option Bool :=
 (Yi r1.topo).bind fun b2=>bif (((!b2)||((r1.up.length:Int)!=(r1.topo.nodes.length:Int)))||((r1.profs.length:Int)!=(r1.topo.nodes.length:Int)))then(some false)else(rgl YM (ZM r1) r1.profs 0 ())
theorem Y0c{r1:Room}{r:Bool}(H:Vx r1=some r):Snd Tryz.prog X01 [Ye .rd r1] (.bool r) []:=by
 refine wS W0R [.t 2] ?_
 unfold Vx at H
 obtain⟨b2,h2,H⟩:=bB H
 refine wG [.c 7 (WS h2),.g 12 [((!b2),false)] (.ln _ _ fun _=>lm r1.up eBo),.g 16 [((!b2),false)] (.ln _ _ fun _=>lm r1.topo.nodes L2),.g 22 [(((!b2)||((r1.up.length:Int)!=(r1.topo.nodes.length:Int))),false)] (.ln _ _ fun _=>lm r1.profs (O1 .rd)),.g 26 [(((!b2)||((r1.up.length:Int)!=(r1.topo.nodes.length:Int))),false)] (.ln _ _ fun _=>lm r1.topo.nodes L2)] fun _=>?_
 refine V0 H (fun H=>?_) fun H=>?_
 .obtain rfl:=sI H
  exact wP (wE [(2,.d)])
 .refine wG [.u 31 (.ln _ _ fun _=>lm r1.profs (O1 .rd))] fun q3=>?_
  refine wR (fun(i4:Nat) (v4:Unit)=>⟨[(1,.ptr 1 0),(30,rV 1 (r1.profs.map (O1 .rd))),(31,iV (r1.profs.length:Int)),(32,iV (i4:Int))],[],[(1,(Ye .rd r1).cells)],[]⟩) H (fun i4 x4 v4 I m k4 hxv4 hiv4 H N27=>?_) (fun v4 I m H=>?_)
  .unfold YM at H
   refine wP ?_
   refine wt (ltT hiv4) ?_
   obtain⟨b5,h5,H⟩:=bB H
   refine wG [.u 34 (.ix _ _ _ fun _=>Y0 (O1 .rd) (Q0 hxv4)),.c 37 (MS h5)] fun _=>?_
   refine V0 H (fun H=>?_) fun H=>?_
   .obtain rfl:=sI H
    exact wP (wE [(2,.d)])
   .refine wG [.w 39 (wi .i64 rfl hiv4 q3.1)] fun _=>?_
    exact wT (N27 () H)
  .unfold ZM at H
   refine wP ?_
   refine wf (ltF r1.profs.length) ?_
   obtain⟨b6,h6,H⟩:=bB H
   refine wG [.c 42 (MS h6)] fun _=>?_
   replace H:=sI H;subst H
   exact wE [(2,.d)]
def W0w:L :=
sR [.bx 4 0,.bx 5 1,.mv 8 (.c (.nl))]
 (sR [.bs 12 1 [] true,mV 9 12]
 (.seq (sR [fA 13 4 3,lF 14 13 1,.ln 15 14,.mv 16 (kI 0)]
 (.blk 0 (.loop (.gw (sR [bI 17 .lss 16 15]
 (.seq (.cond 17 .skip
 (.exit 0))
 (.seq (.blk 1 (sR [mV 18 16,iA 19 14 16 1,lT 20 19 1,.al 11 [.nl],mV 10 18,.st 11 20 1]
 (.seq (.rq 13 [fA 21 4 2,lF 22 21 1,mV 23 10,iA 24 22 23 1,lF 25 24 1,mV 26 25,gT 26 (lT 27 5 3),gT 26 (lT 28 11 1),gT 26 (mV 29 2),gT 26 (mV 30 3),gT 26 (cQ 31 Zy [28,29,30]),gT 26 (cQ 32 Jz [27,31]),.pk 33 26 32 (cB false)])
 (.cond 33 (.reg [mV 34 9,mV 35 10,.bs 36 1 [35] false,.ap 37 34 36 1 8,mV 9 37])
 .skip))))
 (.reg [.bi 38 .add 16 (kI 1),mV 16 38]))))))))
 (sR [mV 39 9,mV 8 39]
 gR)))
def Ow(r1:Room)(need2:Vec)(from3 to4:Int)(x6:List Pt)(i6:Nat)(v6:(List Int))(k6:(List Int)->Option (List Int)):Option (List Int) :=
 (idx r1.up (i6:Int)).bind fun e7=>(bif e7 then(Md x6 from3 to4)else some default).bind fun y8=>bif (e7&&(Qp need2 y8))then((appL 8 v6 [(i6:Int)]).bind fun xs9=>k6 xs9)else(k6 v6)
def LW(v6:(List Int)):Option (List Int) :=
 some v6
def Qs(r1:Room)(need2:Vec)(from3 to4:Int):Option (List Int) :=
 rgl (Ow r1 need2 from3 to4) LW r1.profs 0 []
theorem W0x{r1:Room}{need2:Vec}{from3 to4:Int}{r:(List Int)}(H:Qs r1 need2 from3 to4=some r):Snd Tryz.prog W08 [Ye .rd r1,eVec need2,iV from3,iV to4] (nV 1 (r.map eI)) []:=by
 refine wS W0w [.t 8] ?_
 unfold Qs at H
 refine wG [.u 15 (.ln _ _ fun _=>lm r1.profs (O1 .rd))] fun q5=>?_
 refine wR (fun(i6:Nat) (v6:(List Int))=>⟨[(2,iV from3),(3,iV to4),(4,.ptr 4 0),(5,.ptr 5 0),(9,.sref 12),(14,rV 1 (r1.profs.map (O1 .rd))),(15,iV (r1.profs.length:Int)),(16,iV (i6:Int))],[],[(4,(Ye .rd r1).cells),(5,(eVec need2).cells)],[(12,⟨1,v6.map eI,false⟩)]⟩) H (fun i6 x6 v6 I m k6 hxv6 hiv6 H N19=>?_) (fun v6 I m H=>?_)
 .unfold Ow at H
  refine wP ?_
  refine wt (ltT hiv6) ?_
  obtain⟨e7,h7,H⟩:=bB H
  obtain⟨y8,h8,H⟩:=bB H
  refine wG [.u 19 (.ix _ _ _ fun _=>Y0 (O1 .rd) (Q0 hxv6)),.u 24 (.ix _ _ _ fun _=>Y0 eBo h7),.g 31 [(_,true)] (.call _ _ _ _ _ (AEs.refl _) (fun q=>VQ (bT q.1 h8))),.g 32 [(e7,true)] (.call _ _ _ _ _ (AEs.refl _) (fun _=>M05 need2 y8))] fun _=>?_
  refine V0 H (fun H=>?_) fun H=>?_
  .obtain⟨xs9,h9,H⟩:=bB H
   refine wG [.u 37 (.ap _ _ _ _ fun _=>M0 eI h9),.w 38 (wi .i64 rfl hiv6 q5.1)] fun _=>?_
   exact wT (N19 _ H)
  .refine wG [.w 38 (wi .i64 rfl hiv6 q5.1)] fun _=>?_
   exact wT (N19 _ H)
 .unfold LW at H
  refine wP ?_
  refine wf (ltF r1.profs.length) ?_
  refine wP ?_
  replace H:=sI H;subst H
  exact wN [(8,.f)] [] [] [12] [] [⟨_,nw_I v6⟩]
def Z13:L :=
sR [.bx 3 0,.mv 6 (.c (.nl))]
 (sR [.bs 10 1 [] true,mV 7 10]
 (.seq (sR [mV 11 1,.ln 12 11,.mv 13 (kI 0)]
 (.blk 0 (.loop (.gw (sR [bI 14 .lss 13 12]
 (.seq (.cond 14 .skip
 (.exit 0))
 (.seq (.blk 1 (sR [iA 15 11 13 1,lF 16 15 1,mV 9 16]
 (.seq (.rq 10 [lT 17 3 2,fA 18 3 1,lF 19 18 1,mV 20 9,iA 21 19 20 4,fA 22 21 0,lF 23 22 1,cQ 24 M08 [17,23],mV 25 2,cQ 26 Z4 [24,25]])
 (.cond 26 (.reg [mV 27 7,mV 28 9,.bs 29 1 [28] false,.ap 30 27 29 1 8,mV 7 30])
 .skip))))
 (.reg [.bi 31 .add 13 (kI 1),mV 13 31]))))))))
 (sR [mV 32 7,mV 6 32]
 gR)))
def YS(t1:Topo)(s3 x5:Int)(_:Nat)(v5:(List Int))(k5:(List Int)->Option (List Int)):Option (List Int) :=
 (idx t1.nodes x5).bind fun e6=>(ZX t1 e6.leaf).bind fun y7=>(X2 y7 s3).bind fun b8=>bif b8 then((appL 8 v5 [x5]).bind fun xs9=>k5 xs9)else(k5 v5)
def M0b(v5:(List Int)):Option (List Int) :=
 some v5
def Uw(t1:Topo)(nodes2:List Int)(s3:Int):Option (List Int) :=
 rgl (YS t1 s3) M0b nodes2 0 []
theorem X0j{t1:Topo}{nodes2:List Int}{s3:Int}{r:(List Int)}(H:Uw t1 nodes2 s3=some r):Snd Tryz.prog Q08 [Y3 .rd t1,rV 1 (nodes2.map eI),iV s3] (nV 1 (r.map eI)) []:=by
 refine wS Z13 [.t 6] ?_
 unfold Uw at H
 refine wG [.u 12 (.ln _ _ fun _=>lm nodes2 eI)] fun q4=>?_
 refine wR (fun(i5:Nat) (v5:(List Int))=>⟨[(2,iV s3),(3,.ptr 3 0),(7,.sref 10),(11,rV 1 (nodes2.map eI)),(12,iV (nodes2.length:Int)),(13,iV (i5:Int))],[],[(3,(Y3 .rd t1).cells)],[(10,⟨1,v5.map eI,false⟩)]⟩) H (fun i5 x5 v5 I m k5 hxv5 hiv5 H N19=>?_) (fun v5 I m H=>?_)
 .unfold YS at H
  refine wP ?_
  refine wt (ltT hiv5) ?_
  obtain⟨e6,h6,H⟩:=bB H
  obtain⟨y7,h7,H⟩:=bB H
  obtain⟨b8,h8,H⟩:=bB H
  refine wG [.u 15 (.ix _ _ _ fun _=>Y0 eI (Q0 hxv5)),.u 21 (.ix _ _ _ fun _=>Y0 L2 h6),.c 24 (U0j h7),.c 26 (J4 h8)] fun _=>?_
  refine V0 H (fun H=>?_) fun H=>?_
  .obtain⟨xs9,h9,H⟩:=bB H
   refine wG [.u 30 (.ap _ _ _ _ fun _=>M0 eI h9),.w 31 (wi .i64 rfl hiv5 q4.1)] fun _=>?_
   exact wT (N19 _ H)
  .refine wG [.w 31 (wi .i64 rfl hiv5 q4.1)] fun _=>?_
   exact wT (N19 _ H)
 .unfold M0b at H
  refine wP ?_
  refine wf (ltF nodes2.length) ?_
  refine wP ?_
  replace H:=sI H;subst H
  exact wN [(6,.f)] [] [] [10] [] [⟨_,nw_I v5⟩]
def X0R:L :=
sR [.bx 4 0,.mv 8 (.c (.nl)),.mv 9 (cB false)]
 (sR [.mv 10 (kI (-1)),.mv 11 (kI 0),.mv 12 (kI 0)]
 (.seq (sR [fA 26 4 0,lF 27 26 1,.ln 28 27,.mv 29 (kI 0)]
 (.blk 0 (.loop (.gw (sR [bI 30 .lss 29 28]
 (.seq (.cond 30 .skip
 (.exit 0))
 (.seq (.blk 1 (sR [mV 31 29,mV 13 31]
 (sR [lT 32 4 2,mV 33 13,cQ 34 WB [32,33],mV 14 34]
 (.seq (sR [mV 35 14,mV 36 3,bI 37 .gtr 35 36]
 (.cond 37 (.exit 1)
 .skip))
 (sR [lT 38 4 2,mV 39 1,mV 40 13,cQ 41 Q08 [38,39,40],.ln 42 41,mV 15 42]
 (sR [mV 43 15,mV 44 2,bI 45 .geq 43 44,mV 46 45,gT 46 (mV 47 10),gT 46 (.bi 48 .lss 47 (kI 0)),gT 46 (mV 49 48),gF 49 (mV 50 14),gF 49 (mV 51 11),gF 49 (bI 52 .lss 50 51),gT 46 (.pk 53 49 (cB true) 52),gT 46 (mV 54 53),gF 54 (mV 55 14),gF 54 (mV 56 11),gF 54 (bI 57 .eql 55 56),gF 54 (mV 58 57),gT 58 (mV 59 15),gT 58 (mV 60 12),gT 58 (bI 61 .lss 59 60),gF 54 (.pk 62 58 61 (cB false)),gT 46 (.pk 63 54 (cB true) 62),.pk 64 46 63 (cB false)]
 (.cond 64 (.reg [mV 65 13,mV 66 14,mV 67 15,mV 10 65,mV 11 66,mV 12 67])
 .skip)))))))
 (.reg [.bi 68 .add 29 (kI 1),mV 29 68]))))))))
 (.seq (sR [mV 69 10,.bi 70 .lss 69 (kI 0)]
 (.cond 70 (sR [.mv 8 (.c (.nl)),.mv 9 (cB false)]
 gR)
 .skip))
 (sR [lT 71 4 2,mV 72 1,mV 73 10,cQ 74 Q08 [71,72,73],mV 1 74]
 (sR [fA 75 4 0,lF 76 75 1,.ln 77 76,.ms 78 1 8 [.int .i64 0] 77,.al 16 [.nl],.st 16 78 1]
 (sR [.bs 79 1 [] true,mV 17 79]
 (.seq (sR [mV 80 1,.ln 81 80,.mv 82 (kI 0)]
 (.blk 2 (.loop (.gw (sR [bI 83 .lss 82 81]
 (.seq (.cond 83 .skip
 (.exit 2))
 (.seq (.blk 3 (sR [iA 84 80 82 1,lF 85 84 1,mV 19 85]
 (sR [fA 86 4 1,lF 87 86 1,mV 88 19,iA 89 87 88 4,fA 90 89 0,lF 91 90 1,mV 20 91]
 (sR [lF 92 16 1,mV 93 20,iA 94 92 93 1,lF 95 94 1,.bi 96 .add 95 (kI 1),iA 97 92 93 1,.st 97 96 1]
 (sR [mV 98 17,mV 99 20,cQ 100 Z4 [98,99],.un 101 100]
 (.cond 101 (.reg [mV 102 17,mV 103 20,.bs 104 1 [103] false,.ap 105 102 104 1 8,mV 17 105])
 .skip))))))
 (.reg [.bi 106 .add 82 (kI 1),mV 82 106]))))))))
 (.seq (.gw (.reg [.fb 16,mV 107 17,.mf 108 YN [16],.cm 109 Qc [107,108]]))
 (sR [.bs 110 1 [] true,mV 21 110]
 (.seq (sR [mV 111 17,.ln 112 111,.mv 113 (kI 0)]
 (.blk 4 (.loop (.gw (sR [bI 114 .lss 113 112]
 (.seq (.cond 114 .skip
 (.exit 4))
 (.seq (.blk 5 (sR [iA 115 111 113 1,lF 116 115 1,mV 23 116]
 (sR [mV 117 1,.ln 118 117,.mv 119 (kI 0)]
 (.blk 6 (.loop (.gw (sR [bI 120 .lss 119 118]
 (.seq (.cond 120 .skip
 (.exit 6))
 (.seq (.blk 7 (sR [iA 121 117 119 1,lF 122 121 1,mV 25 122]
 (sR [fA 123 4 1,lF 124 123 1,mV 125 25,iA 126 124 125 4,fA 127 126 0,lF 128 127 1,mV 129 23,bI 130 .eql 128 129,mV 131 130,gT 131 (mV 132 21),gT 131 (.ln 133 132),gT 131 (mV 134 2),gT 131 (bI 135 .lss 133 134),.pk 136 131 135 (cB false)]
 (.cond 136 (.reg [mV 137 21,mV 138 25,.bs 139 1 [138] false,.ap 140 137 139 1 8,mV 21 140])
 .skip))))
 (.reg [.bi 141 .add 119 (kI 1),mV 119 141]))))))))))
 (.reg [.bi 142 .add 113 (kI 1),mV 113 142]))))))))
 (sR [mV 143 21,.cm 144 M4 [143]]
 (sR [mV 145 21,mV 8 145,.mv 9 (cB true)]
 gR))))))))))))
def Jh(t1:Topo)(n3 x20 x22:Int)(_:Nat)(v22:(List Int))(k22:(List Int)->Option ((List Int)×Bool)):Option ((List Int)×Bool) :=
 (idx t1.nodes x22).bind fun e23=>bif ((e23.leaf==x20)&&(decide ((v22.length:Int)<n3)))then((appL 8 v22 [x22]).bind fun xs24=>k22 xs24)else(k22 v22)
def OL(k20:(List Int)->Option ((List Int)×Bool))(v22:(List Int)):Option ((List Int)×Bool) :=
 k20 v22
def QD(t1:Topo)(n3:Int)(y10:(List Int))(x20:Int)(_:Nat)(v20:(List Int))(k20:(List Int)->Option ((List Int)×Bool)):Option ((List Int)×Bool) :=
 rgl (Jh t1 n3 x20) (OL k20) y10 0 v20
def UD(v20:(List Int)):Option ((List Int)×Bool) :=
 (W0X v20).bind fun xs25=>some (xs25,true)
def LL(t1:Topo)(x13:Int)(_:Nat)(v13:(List Int)×(List Int))(k13:((List Int)×(List Int))->Option ((List Int)×Bool)):Option ((List Int)×Bool) :=
 (idx t1.nodes x13).bind fun e14=>(idx v13.1 e14.leaf).bind fun e15=>(X2 v13.2 e14.leaf).bind fun b16=>bif (!b16)then((appL 8 v13.2 [e14.leaf]).bind fun xs17=>k13 ((v13.1.set e14.leaf.toNat (w64 (e15+1))),xs17))else(k13 ((v13.1.set e14.leaf.toNat (w64 (e15+1))),v13.2))
def ML(t1:Topo)(n3:Int)(y10:(List Int))(v13:(List Int)×(List Int)):Option ((List Int)×Bool) :=
 (Y09 v13.1 v13.2).bind fun xs18=>rgl (QD t1 n3 y10) UD xs18 0 []
def JL(t1:Topo)(nodes2:List Int)(n3 most4 _:Int)(i6:Nat)(v6:Int×Int×Int)(k6:(Int×Int×Int)->Option ((List Int)×Bool)):Option ((List Int)×Bool) :=
 (Up t1 (i6:Int)).bind fun n7=>bif (decide (most4<n7))then(k6 (v6.1,v6.2.1,v6.2.2))else((Uw t1 nodes2 (i6:Int)).bind fun y8=>bif ((decide (n3<=(y8.length:Int)))&&(((decide (v6.1<0))||(decide (n7<v6.2.1)))||((n7==v6.2.1)&&(decide ((y8.length:Int)<v6.2.2)))))then(k6 ((i6:Int),n7,(y8.length:Int)))else(k6 (v6.1,v6.2.1,v6.2.2)))
def O7(t1:Topo)(nodes2:List Int)(n3:Int)(v6:Int×Int×Int):Option ((List Int)×Bool) :=
 bif (decide (v6.1<0))then(some ([],false))else((Uw t1 nodes2 v6.1).bind fun y10=>(mkL 8 (t1.parents.length:Int) 0).bind fun xs11=>rgl (LL t1) (ML t1 n3 y10) y10 0 (xs11,[]))
def Jw(t1:Topo)(nodes2:List Int)(n3 most4:Int):Option ((List Int)×Bool) :=
 rgl (JL t1 nodes2 n3 most4) (O7 t1 nodes2 n3) t1.parents 0 ((-1),0,0)
theorem V0S{t1:Topo}{nodes2:List Int}{n3 most4:Int}{r:(List Int)×Bool}(H:Jw t1 nodes2 n3 most4=some r):Snd Tryz.prog X0m [Y3 .rd t1,rV 1 (nodes2.map eI),iV n3,iV most4] (.tup [nV 1 (r.1.map eI),.bool r.2]) []:=by
 refine wS X0R [.t 8,.t 9] ?_
 unfold Jw at H
 refine wG [.u 28 (.ln _ _ fun _=>lm t1.parents eI)] fun q5=>?_
 refine wR (fun(i6:Nat) (v6:Int×Int×Int)=>⟨[(1,rV 1 (nodes2.map eI)),(2,iV n3),(3,iV most4),(4,.ptr 4 0),(10,iV v6.1),(11,iV v6.2.1),(12,iV v6.2.2),(28,iV (t1.parents.length:Int)),(29,iV (i6:Int))],[],[(4,(Y3 .rd t1).cells)],[]⟩) H (fun i6 x6 v6 I m k6 hxv6 hiv6 H N29=>?_) (fun v6 I m H=>?_)
 .unfold JL at H
  refine wP ?_
  refine wt (ltT hiv6) ?_
  obtain⟨n7,h7,H⟩:=bB H
  refine wG [.c 34 (OG h7)] fun _=>?_
  refine V0 H (fun H=>?_) fun H=>?_
  .refine wG [.w 68 (wi .i64 rfl hiv6 q5.1)] fun _=>?_
   exact wT (N29 _ H)
  .obtain⟨y8,h8,H⟩:=bB H
   refine wG [.c 41 (X0j h8),.u 42 (.ln _ _ fun _=>lm y8 eI)] fun q9=>?_
   refine V0 H (fun H=>?_) fun H=>?_
   .refine wG [.w 68 (wi .i64 rfl hiv6 q5.1)] fun _=>?_
    exact wT (N29 _ H)
   .refine wG [.w 68 (wi .i64 rfl hiv6 q5.1)] fun _=>?_
    exact wT (N29 _ H)
 .unfold O7 at H
  refine wP ?_
  refine wf (ltF t1.parents.length) ?_
  refine wP ?_
  refine V0 H (fun H=>?_) fun H=>?_
  .refine wP ?_
   replace H:=sI H;subst H
   exact wN [(8,.n 1),(9,.d)] [] [] [] [] [⟨_,nw_I ([]:List Int)⟩]
  .obtain⟨y10,h10,H⟩:=bB H
   obtain⟨xs11,h11,H⟩:=bB H
   refine wG [.c 74 (X0j h10),.u 77 (.ln _ _ fun _=>lm t1.parents eI),.u 78 (.ms _ _ _ _ fun _=>O0e eI h11),.u 81 (.ln _ _ fun _=>lm y10 eI)] fun q12=>?_
   refine wR (fun(i13:Nat) (v13:(List Int)×(List Int))=>⟨[(1,nV 1 (y10.map eI)),(2,iV n3),(4,.ptr 4 0),(16,.ptr 16 0),(17,.sref 79),(80,nV 1 (y10.map eI)),(81,iV (y10.length:Int)),(82,iV (i13:Int))],[],[(4,(Y3 .rd t1).cells),(16,[.sref 78])],[(78,⟨1,v13.1.map eI,false⟩),(79,⟨1,v13.2.map eI,false⟩)]⟩) H (fun i13 x13 v13 I m k13 hxv13 hiv13 H N63=>?_) (fun v13 I m H=>?_)
   .unfold LL at H
    refine wP ?_
    refine wt (ltT hiv13) ?_
    obtain⟨e14,h14,H⟩:=bB H
    obtain⟨e15,h15,H⟩:=bB H
    obtain⟨b16,h16,H⟩:=bB H
    refine wG [.u 84 (.ix _ _ _ fun _=>Y0 eI (Q0 hxv13)),.u 89 (.ix _ _ _ fun _=>Y0 L2 h14),.u 94 (.ix _ _ _ fun _=>Y0 eI h15),.u 95 (.el _ _ _ fun _=>gm eI (L7 h15)),.u 97 (.ix _ _ _ fun _=>Y0 eI h15),.u 1000000 (.sto _ _ _ (eI (w64 (e15+1))) _ (fun _=>gm eI (L7 h15)) (fun _=>JX ..)),.c 100 (J4 h16)] fun _=>?_
    refine V0 H (fun H=>?_) fun H=>?_
    .obtain⟨xs17,h17,H⟩:=bB H
     refine wG [.u 105 (.ap _ _ _ _ fun _=>M0 eI h17),.w 106 (wi .i64 rfl hiv13 q12.2.1)] fun _=>?_
     exact wT (N63 _ H)
    .refine wG [.w 106 (wi .i64 rfl hiv13 q12.2.1)] fun _=>?_
     exact wT (N63 _ H)
   .unfold ML at H
    refine wP ?_
    refine wf (ltF y10.length) ?_
    refine wP ?_
    refine W1X [] [(16,[.f])] [78] (by kernel_rfl) ?_
    obtain⟨xs18,h18,H⟩:=bB H
    refine wG [.u 109 (.cr Qc 1 _ [.fn YN [.ept (.agg [nV 1 (v13.1.map eI)]) 0]] _ false _ (fun _=>J09 v13.2) (fun _=>by simp) (fun _=>by simp) (fun _=>O0X h18)),.u 112 (.ln _ _ fun _=>lm xs18 eI)] fun q19=>?_
    refine wR (fun(i20:Nat) (v20:(List Int))=>⟨[(1,nV 1 (y10.map eI)),(2,iV n3),(4,.ptr 4 0),(21,.sref 110),(111,.sref 79),(112,iV (xs18.length:Int)),(113,iV (i20:Int))],[],[(4,(Y3 .rd t1).cells)],[(110,⟨1,v20.map eI,false⟩),(79,⟨1,xs18.map eI,false⟩)]⟩) H (fun i20 x20 v20 I m k20 hxv20 hiv20 H N100=>?_) (fun v20 I m H=>?_)
    .unfold QD at H
     refine wP ?_
     refine wt (ltT hiv20) ?_
     refine wG [.u 115 (.ix _ _ _ fun _=>Y0 eI (Q0 hxv20)),.u 116 (.el _ _ _ fun _=>gm eI (L7 (Q0 hxv20))),.u 118 (.ln _ _ fun _=>lm y10 eI)] fun q21=>?_
     refine wR (fun(i22:Nat) (v22:(List Int))=>⟨[(1,nV 1 (y10.map eI)),(2,iV n3),(4,.ptr 4 0),(21,.sref 110),(23,iV x20),(111,.sref 79),(112,iV (xs18.length:Int)),(113,iV (i20:Int)),(117,nV 1 (y10.map eI)),(118,iV (y10.length:Int)),(119,iV (i22:Int))],[],[(4,(Y3 .rd t1).cells)],[(110,⟨1,v22.map eI,false⟩),(79,⟨1,xs18.map eI,false⟩)]⟩) H (fun i22 x22 v22 I m k22 hxv22 hiv22 H N91=>?_) (fun v22 I m H=>?_)
     .unfold Jh at H
      refine wP ?_
      refine wt (ltT hiv22) ?_
      obtain⟨e23,h23,H⟩:=bB H
      refine wG [.u 121 (.ix _ _ _ fun _=>Y0 eI (Q0 hxv22)),.u 126 (.ix _ _ _ fun _=>Y0 L2 h23),.g 133 [((e23.leaf==x20),true)] (.ln _ _ fun _=>lm v22 eI)] fun _=>?_
      refine V0 H (fun H=>?_) fun H=>?_
      .obtain⟨xs24,h24,H⟩:=bB H
       refine wG [.u 140 (.ap _ _ _ _ fun _=>M0 eI h24),.w 141 (wi .i64 rfl hiv22 q12.2.1)] fun _=>?_
       exact wT (N91 _ H)
      .refine wG [.w 141 (wi .i64 rfl hiv22 q12.2.1)] fun _=>?_
       exact wT (N91 _ H)
     .unfold OL at H
      refine wP ?_
      refine wf (ltF y10.length) ?_
      refine wG [.w 142 (wi .i64 rfl hiv20 q19.1)] fun _=>?_
      exact wT (N100 _ H)
    .unfold UD at H
     refine wP ?_
     refine wf (ltF xs18.length) ?_
     obtain⟨xs25,h25,H⟩:=bB H
     refine wG [.u 144 (.cr M4 1 _ [] [] false _ (fun _=>J09 v20) (fun _=>trivial) (fun _=>rfl) (fun _=>Q0X h25))] fun _=>?_
     replace H:=sI H;subst H
     exact wN [(8,.f),(9,.d)] [] [] [110] [] [⟨_,nw_I xs25⟩]
def U0a:L :=
.seq (rE 2 (cB false))
 (.seq (.seq (rE 3 (kI 1))
 (.blk 0 (.loop (.gw (.seq (sR [mV 4 3,mV 5 0,.ln 6 5,bI 7 .lss 4 6]
 (.cond 7 .skip
 (.exit 0)))
 (.seq (.blk 1 (.seq (.rq 10 [mV 10 0,mV 11 3,.bi 12 .sub 11 (kI 1),iA 13 10 12 1,lF 14 13 1,mV 15 0,mV 16 3,iA 17 15 16 1,lF 18 17 1,bI 19 .geq 14 18])
 (.cond 19 (.seq (rE 2 (cB false))
 gR)
 .skip)))
 (.reg [mV 8 3,.bi 9 .add 8 (kI 1),mV 3 9])))))))
 (.seq (rE 2 (cB true))
 gR))
def M7(l1:List Int)(v2:Int)(k2:Int->Option Bool):Option Bool :=
 bif (decide (v2<(l1.length:Int)))then((idx l1 (w64 (v2-1))).bind fun e4=>(idx l1 v2).bind fun e5=>bif (decide (e5<=e4))then(some false)else(k2 (w64 (v2+1))))else(some true)
def Wd(l1:List Int):Option Bool :=
 whl (M7 l1) 9223372036854775807 1
theorem Q0a{l1:List Int}{r:Bool}(H:Wd l1=some r):Snd Tryz.prog VN [rV 1 (l1.map eI)] (.bool r) []:=by
 refine wS U0a [.t 2] ?_
 unfold Wd at H
 refine wP ?_
 refine wW (fun(v2:Int)=>⟨[(0,rV 1 (l1.map eI)),(3,iV v2)],[],[],[]⟩) H (fun v2 I m k2 H N18=>?_)
 unfold M7 at H
 refine wG [.u 6 (.ln _ _ fun _=>lm l1 eI)] fun q3=>?_
 refine V0 H (fun H=>?_) fun H=>?_
 .obtain⟨e4,h4,H⟩:=bB H
  obtain⟨e5,h5,H⟩:=bB H
  refine wG [.u 13 (.ix _ _ _ fun _=>Y0 eI h4),.u 17 (.ix _ _ _ fun _=>Y0 eI h5)] fun _=>?_
  refine V0 H (fun H=>?_) fun H=>?_
  .obtain rfl:=sI H
   exact wP (wE [(2,.d)])
  .refine wP ?_
   exact wT (N18 _ H)
 .obtain rfl:=sI H
  exact wP (wE [(2,.d)])
def X0x:L :=
sR [.bx 3 0,.bx 4 1,.mv 6 (kI 0),.mv 7 (.c (.nl)),.mv 8 (cB false)]
 (.seq (sR [lT 18 3 5,cQ 19 X01 [18],.un 20 19,mV 21 20,gF 21 (lT 22 4 11),gF 21 (cQ 23 Qi [22]),gF 21 (.un 24 23),.pk 25 21 (cB true) 24,mV 26 25,gF 26 (mV 27 2),gF 26 (cQ 28 Zf [27]),gF 26 (.un 29 28),.pk 30 26 (cB true) 29]
 (.cond 30 (sR [.mv 6 (kI 0),.mv 7 (.c (.nl)),.mv 8 (cB false)]
 gR)
 .skip))
 (sR [mV 31 2,.bs 32 1 [31] true,mV 9 32]
 (.seq (sR [fA 33 3 4,lT 34 33 1,.bs 35 1 [34] true,fA 36 3 3,lF 37 36 1,.ap 38 35 37 1 24,.ln 39 38,.mv 40 (kI 0)]
 (.blk 0 (.loop (.gw (sR [bI 41 .lss 40 39]
 (.seq (.cond 41 .skip
 (.exit 0))
 (.seq (.blk 1 (sR [iA 42 38 40 1,lT 43 42 1,.al 11 [.nl],.st 11 43 1]
 (sR [fA 44 11 0,lF 45 44 1,.ln 46 45,.mv 47 (kI 0)]
 (.blk 2 (.loop (.gw (sR [bI 48 .lss 47 46]
 (.seq (.cond 48 .skip
 (.exit 2))
 (.seq (.blk 3 (sR [iA 49 45 47 4,lT 50 49 4,.al 13 [.int .i64 0,.int .i64 0,.int .i64 0,.int .i64 0],.st 13 50 4]
 (sR [fA 51 13 0,lF 52 51 1,mV 53 2,bI 54 .gtr 52 53]
 (.cond 54 (.reg [mV 55 9,fA 56 13 0,lF 57 56 1,.bs 58 1 [57] false,.ap 59 55 58 1 8,mV 9 59])
 .skip))))
 (.reg [.bi 60 .add 47 (kI 1),mV 47 60]))))))))))
 (.reg [.bi 61 .add 40 (kI 1),mV 40 61]))))))))
 (sR [mV 62 9,.cm 63 M4 [62]]
 (.seq (sR [mV 64 9,.cm 65 V6 [64],.ln 66 65,.mv 67 (kI 0)]
 (.blk 4 (.loop (.gw (sR [bI 68 .lss 67 66]
 (.seq (.cond 68 .skip
 (.exit 4))
 (.seq (.blk 5 (sR [iA 69 65 67 1,lF 70 69 1,mV 15 70]
 (.seq (sR [mV 71 15,fA 72 4 9,lF 73 72 1,bI 74 .add 71 73,.bi 75 .gtr 74 (kI 1000000000)]
 (.cond 75 (.exit 4)
 .skip))
 (.seq (.seq (.rq 12 [fA 76 4 6,lT 77 76 3,fA 78 3 4,lT 79 78 1,mV 80 15,mV 81 15,fA 82 4 9,lF 83 82 1,bI 84 .add 81 83,cQ 85 Zy [79,80,84],cQ 86 Jz [77,85],.un 87 86])
 (.cond 87 (.exit 5)
 .skip))
 (.seq (.rq 21 [fA 89 3 0,lT 90 89 2,lT 91 3 5,fA 92 4 3,lT 93 92 3,mV 94 15,mV 95 15,fA 96 4 9,lF 97 96 1,bI 98 .add 95 97,cQ 99 W08 [91,93,94,98],fA 100 4 2,lF 101 100 1,fA 102 4 10,lF 103 102 1,cQ 104 X0m [90,99,101,103],mV 88 104,eX 105 88 0,eX 106 88 1,mV 16 105,mV 17 106])
 (sR [mV 107 17]
 (.cond 107 (sR [mV 108 15,mV 109 16,mV 6 108,mV 7 109,.mv 8 (cB true)]
 gR)
 .skip)))))))
 (.reg [.bi 110 .add 67 (kI 1),mV 67 110]))))))))
 (.gw (sR [.mv 6 (kI 0),.mv 7 (.c (.nl)),.mv 8 (cB false)]
 gR)))))))
def Ox(from3:Int)(x9:Pt)(_:Nat)(v9:(List Int))(k9:(List Int)->Option (Int×(List Int)×Bool)):Option (Int×(List Int)×Bool) :=
 bif (decide (from3<x9.t))then((appL 8 v9 [x9.t]).bind fun xs10=>k9 xs10)else(k9 v9)
def Wx(k7:(List Int)->Option (Int×(List Int)×Bool))(v9:(List Int)):Option (Int×(List Int)×Bool) :=
 k7 v9
def Xk(_:Unit):Option (Int×(List Int)×Bool) :=
 some (0,[],false)
def W9(r1:Room)(j2:Job)(x13:Int)(_:Nat)(_:Unit)(k13:Unit->Option (Int×(List Int)×Bool)):Option (Int×(List Int)×Bool) :=
 bif (decide (1000000000<(w64 (x13+j2.wall))))then(Xk ())else((Md r1.lics x13 (w64 (x13+j2.wall))).bind fun y14=>bif (!(Qp j2.lic y14))then(k13 ())else((Qs r1 j2.need x13 (w64 (x13+j2.wall))).bind fun y15=>(Jw r1.topo y15 j2.nodes j2.level).bind fun y16=>bif y16.2 then(some (x13,y16.1,true))else(k13 ())))
def Jd(_:Unit):Option (Int×(List Int)×Bool) :=
 Xk ()
def Vk(from3:Int)(x7:List Pt)(_:Nat)(v7:(List Int))(k7:(List Int)->Option (Int×(List Int)×Bool)):Option (Int×(List Int)×Bool) :=
 rgl (Ox from3) (Wx k7) x7 0 v7
def Yk(r1:Room)(j2:Job)(v7:(List Int)):Option (Int×(List Int)×Bool) :=
 (W0X v7).bind fun xs11=>rgl (W9 r1 j2) Jd (L5 xs11) 0 ()
def Uk(r1:Room)(j2:Job)(from3:Int):Option (Int×(List Int)×Bool) :=
 (Vx r1).bind fun b4=>bif (((!b4)||(!(W5 j2)))||(!(J5 from3)))then(some (0,[],false))else((appL 24 [r1.lics] r1.profs).bind fun xs5=>rgl (Vk from3) (Yk r1 j2) xs5 0 [from3])
theorem V0y{r1:Room}{j2:Job}{from3:Int}{r:Int×(List Int)×Bool}(H:Uk r1 j2 from3=some r):Snd Tryz.prog L08 [Ye .rd r1,eJob j2,iV from3] (.tup [iV r.1,nV 1 (r.2.1.map eI),.bool r.2.2]) []:=by
 refine wS X0x [.t 6,.t 7,.t 8] ?_
 unfold Uk at H
 obtain⟨b4,h4,H⟩:=bB H
 refine wG [.c 19 (Y0c h4),.g 23 [((!b4),false)] (.call _ _ _ _ _ (AEs.refl _) (fun _=>Vt j2)),.g 28 [(((!b4)||(!(W5 j2))),false)] (.call _ _ _ _ _ (AEs.refl _) (fun _=>Ul from3))] fun _=>?_
 refine V0 H (fun H=>?_) fun H=>?_
 .refine wP ?_
  replace H:=sI H;subst H
  exact wN [(6,.d),(7,.n 1),(8,.d)] [] [] [] [] [⟨_,nw_I ([]:List Int)⟩]
 .obtain⟨xs5,h5,H⟩:=bB H
  refine wG [.u 38 (.ap _ _ _ _ fun _=>M0 (O1 .rd) h5),.u 39 (.ln _ _ fun _=>lm xs5 (O1 .rd))] fun q6=>?_
  refine wR (fun(i7:Nat) (v7:(List Int))=>⟨[(2,iV from3),(3,.ptr 3 0),(4,.ptr 4 0),(9,.sref 32),(38,.sref 35),(39,iV (xs5.length:Int)),(40,iV (i7:Int))],[],[(3,(Ye .rd r1).cells),(4,(eJob j2).cells)],[(32,⟨1,v7.map eI,false⟩),(35,⟨1,xs5.map (O1 .rd),false⟩)]⟩) H (fun i7 x7 v7 I m k7 hxv7 hiv7 H N41=>?_) (fun v7 I m H=>?_)
  .unfold Vk at H
   refine wP ?_
   refine wt (ltT hiv7) ?_
   refine wG [.u 42 (.ix _ _ _ fun _=>Y0 (O1 .rd) (Q0 hxv7)),.u 43 (.el _ _ _ fun _=>gm (O1 .rd) (L7 (Q0 hxv7))),.u 46 (.ln _ _ fun _=>lm x7 ePt)] fun q8=>?_
   refine wR (fun(i9:Nat) (v9:(List Int))=>⟨[(2,iV from3),(3,.ptr 3 0),(4,.ptr 4 0),(9,.sref 32),(38,.sref 35),(39,iV (xs5.length:Int)),(40,iV (i7:Int)),(45,rV 4 (x7.map ePt)),(46,iV (x7.length:Int)),(47,iV (i9:Int))],[],[(3,(Ye .rd r1).cells),(4,(eJob j2).cells)],[(32,⟨1,v9.map eI,false⟩),(35,⟨1,xs5.map (O1 .rd),false⟩)]⟩) H (fun i9 x9 v9 I m k9 hxv9 hiv9 H N32=>?_) (fun v9 I m H=>?_)
   .unfold Ox at H
    refine wP ?_
    refine wt (ltT hiv9) ?_
    refine wG [.u 49 (.ix _ _ _ fun _=>Y0 ePt (Q0 hxv9))] fun _=>?_
    refine V0 H (fun H=>?_) fun H=>?_
    .obtain⟨xs10,h10,H⟩:=bB H
     refine wG [.u 59 (.ap _ _ _ _ fun _=>M0 eI h10),.w 60 (wi .i64 rfl hiv9 q8.1)] fun _=>?_
     exact wT (N32 _ H)
    .refine wG [.w 60 (wi .i64 rfl hiv9 q8.1)] fun _=>?_
     exact wT (N32 _ H)
   .unfold Wx at H
    refine wP ?_
    refine wf (ltF x7.length) ?_
    refine wG [.w 61 (wi .i64 rfl hiv7 q6.1)] fun _=>?_
    exact wT (N41 _ H)
  .unfold Yk at H
   refine wP ?_
   refine wf (ltF xs5.length) ?_
   obtain⟨xs11,h11,H⟩:=bB H
   refine wG [.u 63 (.cr M4 1 _ [] [] false _ (fun _=>J09 v7) (fun _=>trivial) (fun _=>rfl) (fun _=>Q0X h11)),.u 65 (.cr V6 1 _ [] [] true _ (fun _=>J09 xs11) (fun _=>trivial) (fun _=>rfl) (fun _=>M0J xs11)),.u 66 (.ln _ _ fun _=>lm (L5 xs11) eI)] fun q12=>?_
   refine WZ (r:=r) Xk 0 (fun v17:Unit=>⟨[],[],[],[]⟩) (by kernel_rfl) (fun v17 H=>?_) (fun J83=>?_)
   .unfold Xk at H
    refine wP ?_
    replace H:=sI H;subst H
    exact wN [(6,.d),(7,.n 1),(8,.d)] [] [] [] [] [⟨_,nw_I ([]:List Int)⟩]
   .refine wR (fun(i13:Nat) (v13:Unit)=>⟨[(3,.ptr 3 0),(4,.ptr 4 0),(65,.sref 66000),(66,iV ((L5 xs11).length:Int)),(67,iV (i13:Int))],[],[(3,(Ye .rd r1).cells),(4,(eJob j2).cells)],[(66000,⟨1,(L5 xs11).map eI,false⟩)]⟩) H (fun i13 x13 v13 I m k13 hxv13 hiv13 H N78=>?_) (fun v13 I m H=>?_)
    .unfold W9 at H
     refine wP ?_
     refine wt (ltT hiv13) ?_
     refine wG [.u 69 (.ix _ _ _ fun _=>Y0 eI (Q0 hxv13)),.u 70 (.el _ _ _ fun _=>gm eI (L7 (Q0 hxv13)))] fun _=>?_
     refine V0 H (fun H=>?_) fun H=>?_
     .refine wP ?_
      exact wT (J83 () H)
     .obtain⟨y14,h14,H⟩:=bB H
      refine wG [.c 85 (VQ h14),.c 86 (M05 j2.lic y14)] fun _=>?_
      refine V0 H (fun H=>?_) fun H=>?_
      .refine wG [.w 110 (wi .i64 rfl hiv13 q12.1)] fun _=>?_
       exact wT (N78 () H)
      .obtain⟨y15,h15,H⟩:=bB H
       obtain⟨y16,h16,H⟩:=bB H
       refine wG [.c 99 (W0x h15),.c 104 (V0S h16)] fun _=>?_
       refine V0 H (fun H=>?_) fun H=>?_
       .refine wP ?_
        replace H:=sI H;subst H
        exact wN [(6,.d),(7,.d),(8,.d)] [] [] [] [] [⟨_,nw_I y16.1⟩]
       .refine wG [.w 110 (wi .i64 rfl hiv13 q12.1)] fun _=>?_
        exact wT (N78 () H)
    .unfold Jd at H
     refine wP ?_
     refine wf (ltF (L5 xs11).length) ?_
     refine wP ?_
     exact wT (J83 () H)
def J0e:L :=
sR [.bx 3 0,.bx 4 1,.mv 6 (cB false)]
 (.seq (sR [mV 9 2,.ln 10 9,.mv 11 (kI 0)]
 (.blk 0 (.loop (.gw (sR [bI 12 .lss 11 10]
 (.seq (.cond 12 .skip
 (.exit 0))
 (.seq (.blk 1 (sR [mV 13 11,iA 14 9 11 1,lF 15 14 1,mV 7 13,mV 8 15]
 (sR [mV 16 2,mV 17 7,.sc 18 16 none (some 17) 1,mV 19 8,cQ 20 Z4 [18,19]]
 (.cond 20 (.seq (rE 6 (cB false))
 gR)
 .skip))))
 (.reg [.bi 21 .add 11 (kI 1),mV 11 21]))))))))
 (sR [lT 22 3 2,mV 23 2,cQ 24 XN [22,23],mV 25 24,gT 25 (mV 26 2),gT 25 (.ln 27 26),gT 25 (fA 28 4 2),gT 25 (lF 29 28 1),gT 25 (bI 30 .eql 27 29),.pk 31 25 30 (cB false),mV 6 31]
 gR))
def Mk(nodes3:List Int)(x5:Int)(i5:Nat)(_:Unit)(k5:Unit->Option Bool):Option Bool :=
 (cutL nodes3 none (some (i5:Int))).bind fun xs6=>(X2 xs6 x5).bind fun b7=>bif b7 then(some false)else(k5 ())
def Wk(t1:Topo)(j2:Job)(nodes3:List Int)(_:Unit):Option Bool :=
 (Oj t1 nodes3).bind fun b8=>some (b8&&((nodes3.length:Int)==j2.nodes))
def Wf(t1:Topo)(j2:Job)(nodes3:List Int):Option Bool :=
 rgl (Mk nodes3) (Wk t1 j2 nodes3) nodes3 0 ()
theorem Z0f{t1:Topo}{j2:Job}{nodes3:List Int}{r:Bool}(H:Wf t1 j2 nodes3=some r):Snd Tryz.prog ZR [Y3 .rd t1,eJob j2,rV 1 (nodes3.map eI)] (.bool r) []:=by
 refine wS J0e [.t 6] ?_
 unfold Wf at H
 refine wG [.u 10 (.ln _ _ fun _=>lm nodes3 eI)] fun q4=>?_
 refine wR (fun(i5:Nat) (v5:Unit)=>⟨[(2,rV 1 (nodes3.map eI)),(3,.ptr 3 0),(4,.ptr 4 0),(9,rV 1 (nodes3.map eI)),(10,iV (nodes3.length:Int)),(11,iV (i5:Int))],[],[(3,(Y3 .rd t1).cells),(4,(eJob j2).cells)],[]⟩) H (fun i5 x5 v5 I m k5 hxv5 hiv5 H N20=>?_) (fun v5 I m H=>?_)
 .unfold Mk at H
  refine wP ?_
  refine wt (ltT hiv5) ?_
  obtain⟨xs6,h6,H⟩:=bB H
  obtain⟨b7,h7,H⟩:=bB H
  refine wG [.u 14 (.ix _ _ _ fun _=>Y0 eI (Q0 hxv5)),.u 18 (.sc _ _ _ _ fun _=>V0k eI h6),.c 20 (J4 h7)] fun _=>?_
  refine V0 H (fun H=>?_) fun H=>?_
  .obtain rfl:=sI H
   exact wP (wE [(6,.d)])
  .refine wG [.w 21 (wi .i64 rfl hiv5 q4.1)] fun _=>?_
   exact wT (N20 () H)
 .unfold Wk at H
  refine wP ?_
  refine wf (ltF nodes3.length) ?_
  obtain⟨b8,h8,H⟩:=bB H
  refine wG [.c 24 (Q02 h8),.g 27 [(b8,true)] (.ln _ _ fun _=>lm nodes3 eI)] fun _=>?_
  replace H:=sI H;subst H
  exact wE [(6,.d)]
def VL:L :=
sR [.bx 6 0,.bx 7 1,.al 12 [.nl,.nl,.nl,.nl,.nl],.mv 13 (cB false)]
 (.seq (sR [lT 21 6 5,cQ 22 X01 [21],.un 23 22,mV 24 23,gF 24 (lT 25 7 11),gF 24 (cQ 26 Qi [25]),gF 24 (.un 27 26),.pk 28 24 (cB true) 27,mV 29 28,gF 29 (fA 30 6 0),gF 29 (lT 31 30 2),gF 29 (lT 32 7 11),gF 29 (mV 33 4),gF 29 (cQ 34 ZR [31,32,33]),gF 29 (.un 35 34),.pk 36 29 (cB true) 35]
 (.cond 36 (sR [.bd 37 [.nl,.nl,.nl,.nl,.nl] [],.st 12 37 5,.mv 13 (cB false)]
 gR)
 .skip))
 (sR [lT 38 6 5,.cl 39 O08 [38],.al 14 [.nl,.nl,.nl,.nl,.nl],.st 14 39 5]
 (.seq (sR [mV 40 4,.ln 41 40,.mv 42 (kI 0)]
 (.blk 0 (.loop (.gw (sR [bI 43 .lss 42 41]
 (.seq (.cond 43 .skip
 (.exit 0))
 (.seq (.blk 1 (sR [iA 44 40 42 1,lF 45 44 1,mV 16 45]
 (.seq (.rz [(14,17,[.nl])] [(0,false,mV 47 5),
 (1,false,fA 48 14 3),
 (3,false,mV 50 16),
 (6,false,mV 53 2),
 (7,false,mV 54 3),
 (8,false,fA 55 7 3),
 (9,false,lT 56 55 3),
 (2,true,lF 49 48 1),
 (4,true,iA 51 49 50 1),
 (5,true,lT 52 51 1),
 (10,false,.cc 57 47 [52,53,54,56]),
 (11,false,mV 46 57),
 (12,false,eX 58 46 0),
 (13,false,eX 59 46 1)]
 [.st 17 58 1,mV 18 59])
 (.seq (sR [mV 60 18,.un 61 60]
 (.cond 61 (sR [.bd 62 [.nl,.nl,.nl,.nl,.nl] [],.st 12 62 5,.mv 13 (cB false)]
 gR)
 .skip))
 (.reg [fA 63 14 3,lF 64 63 1,mV 65 16,lT 66 17 1,iA 67 64 65 1,.st 67 66 1])))))
 (.reg [.bi 68 .add 42 (kI 1),mV 42 68]))))))))
 (sR [mV 70 5,fA 71 14 4,lT 72 71 1,mV 73 2,mV 74 3,fA 75 7 6,lT 76 75 3,.cc 77 70 [72,73,74,76],mV 69 77,eX 78 69 0,eX 79 69 1,.al 19 [.nl],.st 19 78 1,mV 20 79]
 (.seq (sR [mV 80 20,.un 81 80]
 (.cond 81 (sR [.bd 82 [.nl,.nl,.nl,.nl,.nl] [],.st 12 82 5,.mv 13 (cB false)]
 gR)
 .skip))
 (sR [lT 83 19 1,fA 84 14 4,.st 84 83 1]
 (sR [lT 85 14 5,.st 12 85 5,.mv 13 (cB true)]
 gR)))))))
def Y9(j2:Job)(from3 to4 x10:Int)(_:Nat)(v10:(List (List Pt)))(k10:(List (List Pt))->Option (Room×Bool)):Option (Room×Bool) :=
 (idx v10 x10).bind fun e11=>(Jj e11 from3 to4 j2.need).bind fun y12=>bif (!y12.2)then(some ((Room.mk (Topo.mk [] []) [] [] []),false))else(k10 (v10.set x10.toNat y12.1))
def Z9(j2:Job)(from3 to4:Int)(y8:Room)(v10:(List (List Pt))):Option (Room×Bool) :=
 (Jj y8.lics from3 to4 j2.lic).bind fun y13=>bif (!y13.2)then(some ((Room.mk (Topo.mk [] []) [] [] []),false))else(some ((Room.mk y8.topo y8.up v10 y13.1),true))
def Y6(r1:Room)(j2:Job)(from3 to4:Int)(nodes5:List Int):Option (Room×Bool) :=
 (Vx r1).bind fun b6=>(bif ((!b6)||(!(W5 j2)))then some default else(Wf r1.topo j2 nodes5)).bind fun b7=>bif (((!b6)||(!(W5 j2)))||(!b7))then(some ((Room.mk (Topo.mk [] []) [] [] []),false))else((Ms r1).bind fun y8=>rgl (Y9 j2 from3 to4) (Z9 j2 from3 to4 y8) nodes5 0 y8.profs)
theorem WL{r1:Room}{j2:Job}{from3 to4:Int}{nodes5:List Int}{r:Room×Bool}(H:Y6 r1 j2 from3 to4 nodes5=some r):Snd Tryz.prog Y0t [Ye .rd r1,eJob j2,iV from3,iV to4,rV 1 (nodes5.map eI),.fn Ui []] (.tup [Ye .nw r.1,.bool r.2]) []:=by
 refine wS VL [.c 12 5 true,.t 13] ?_
 unfold Y6 at H
 obtain⟨b6,h6,H⟩:=bB H
 obtain⟨b7,h7,H⟩:=bB H
 refine wG [.c 22 (Y0c h6),.g 26 [((!b6),false)] (.call _ _ _ _ _ (AEs.refl _) (fun _=>Vt j2)),.g 34 [(_,false)] (.call _ _ _ _ _ (AEs.refl _) (fun q=>Z0f (bF q.1 h7)))] fun _=>?_
 refine V0 H (fun H=>?_) fun H=>?_
 .refine wP ?_
  replace H:=sI H;subst H
  exact wN [(12,.d),(13,.d)] [(12,[.n 1,.n 4,.n 1,.n 1,.n 4])] [] [] [] [⟨_,nw_I ([]:List Int)⟩,⟨_,Y7 ([]:List Node)⟩,⟨_,OF ([]:List Bool)⟩,⟨_,U7 ([]:List (List Pt))⟩,⟨_,Xg ([]:List Pt)⟩]
 .obtain⟨y8,h8,H⟩:=bB H
  refine wG [.c 39 (M0x h8),.u 41 (.ln _ _ fun _=>lm nodes5 eI)] fun q9=>?_
  refine wR (fun(i10:Nat) (v10:(List (List Pt)))=>⟨[(2,iV from3),(3,iV to4),(5,.fn Ui []),(7,.ptr 7 0),(12,.ptr 12 0),(14,.ptr 14 0),(40,rV 1 (nodes5.map eI)),(41,iV (nodes5.length:Int)),(42,iV (i10:Int))],[],[(7,(eJob j2).cells),(12,[.nl,.nl,.nl,.nl,.nl]),(14,[nV 1 (y8.topo.parents.map eI),nV 4 (y8.topo.nodes.map L2),nV 1 (y8.up.map eBo),.sref 40000,nV 4 (y8.lics.map ePt)])],[(40000,⟨1,v10.map (O1 .nw),false⟩)]⟩) H (fun i10 x10 v10 I m k10 hxv10 hiv10 H N32=>?_) (fun v10 I m H=>?_)
  .unfold Y9 at H
   refine wP ?_
   refine wt (ltT hiv10) ?_
   obtain⟨e11,h11,H⟩:=bB H
   obtain⟨y12,h12,H⟩:=bB H
   refine wG [.u 44 (.ix _ _ _ fun _=>Y0 eI (Q0 hxv10)),.u 51 (.ix _ _ _ fun _=>Y0 (O1 .nw) h11),.u 52 (.el _ _ _ fun _=>gm (O1 .nw) (L7 h11)),.u 57 (.clsr _ _ _ _ _ (AEs.refl _) (by kernel_rfl) (fun _=>O02 h12))] fun _=>?_
   refine V0 H (fun H=>?_) fun H=>?_
   .refine wP ?_
    replace H:=sI H;subst H
    exact wN [(12,.d),(13,.d)] [(12,[.n 1,.n 4,.n 1,.n 1,.n 4])] [] [] [] [⟨_,nw_I ([]:List Int)⟩,⟨_,Y7 ([]:List Node)⟩,⟨_,OF ([]:List Bool)⟩,⟨_,U7 ([]:List (List Pt))⟩,⟨_,Xg ([]:List Pt)⟩]
   .refine wG [.u 67 (.ix _ _ _ fun _=>Y0 (O1 .nw) h11),.u 1000000 (.sto _ _ _ (O1 .nw y12.1) _ (fun _=>gm (O1 .nw) (L7 h11)) (fun _=>JX ..)),.w 68 (wi .i64 rfl hiv10 q9.1)] fun _=>?_
    exact wT (N32 _ H)
  .unfold Z9 at H
   refine wP ?_
   refine wf (ltF nodes5.length) ?_
   obtain⟨y13,h13,H⟩:=bB H
   refine wG [.u 77 (.clsr _ _ _ _ _ (AEs.refl _) (by kernel_rfl) (fun _=>O02 h13))] fun _=>?_
   refine V0 H (fun H=>?_) fun H=>?_
   .refine wP ?_
    replace H:=sI H;subst H
    exact wN [(12,.d),(13,.d)] [(12,[.n 1,.n 4,.n 1,.n 1,.n 4])] [] [] [] [⟨_,nw_I ([]:List Int)⟩,⟨_,Y7 ([]:List Node)⟩,⟨_,OF ([]:List Bool)⟩,⟨_,U7 ([]:List (List Pt))⟩,⟨_,Xg ([]:List Pt)⟩]
   .refine wP ?_
    replace H:=sI H;subst H
    exact wN [(12,.d),(13,.d)] [(12,[.d,.d,.d,.f,.d])] [] [40000] [] [⟨_,nw_I y8.topo.parents⟩,⟨_,Y7 y8.topo.nodes⟩,⟨_,OF y8.up⟩,⟨_,U7 v10⟩,⟨_,Xg y13.1⟩]
theorem Vs{j:Job}:O0 j=true↔(1<=j.id/\j.id<=999)/\(0<=j.prio/\j.prio<=999)/\(1<=j.nodes/\j.nodes<=24)/\X0 j.need=true/\X0 j.lic=true/\(1<=j.wall/\j.wall<=1000000)/\(0<=j.level/\j.level<=24):=by
 unfold O0
 by_cases h:(1<=j.id/\j.id<=999)/\(0<=j.prio/\j.prio<=999)/\(1<=j.nodes/\j.nodes<=24)
 .rw[show((((((decide (j.id<1))||(decide (999<j.id)))||(decide (j.prio<0)))||(decide (999<j.prio)))||(decide (j.nodes<1)))||(decide (24<j.nodes)))=false by simp;omega]
  simp only[yM,yD,yO]
  constructor
  .intro q;exact⟨h.1,h.2.1,h.2.2,q.1.1.1.1.1,q.1.1.1.1.2,⟨q.1.1.1.2,q.1.1.2⟩,q.1.2,q.2⟩
  .intro q;exact⟨⟨⟨⟨⟨q.2.2.2.1,q.2.2.2.2.1⟩,q.2.2.2.2.2.1.1⟩,q.2.2.2.2.2.1.2⟩,q.2.2.2.2.2.2.1⟩,q.2.2.2.2.2.2.2⟩
 .rw[show((((((decide (j.id<1))||(decide (999<j.id)))||(decide (j.prio<0)))||(decide (999<j.prio)))||(decide (j.nodes<1)))||(decide (24<j.nodes)))=true by
   simp only[Bool.or_eq_true,yO];omega]
  simp only[yN]
  exact Ze fun q=>h ⟨q.1,q.2.1,q.2.2.1⟩
theorem Zk(j:Job):W5 j=O0 j:=by
 rw[Bool.eq_iff_iff,Vs]
 unfold W5 Z0
 simp only[Mj,yD,yO,and_assoc]
structure RoomP(r:Room):Prop where
 topo:TopoP r.topo
 up:r.up.length=r.topo.nodes.length
 profs:r.profs.length=r.topo.nodes.length
 prof:∀p∈r.profs,ProfP p
 lics:ProfP r.lics
noncomputable def roomOk(r:Room):Bool:=topoOk r.topo&&decide (r.up.length=r.topo.nodes.length)&&decide (r.profs.length=r.topo.nodes.length)&&profOk r.lics&&r.profs.all profOk
theorem XV{r:Room}:roomOk r=true↔RoomP r:=by
 unfold roomOk
 simp only[yD,yO,List.all_eq_true,MH,XI]
 exact⟨fun h=>⟨h.1.1.1.1,h.1.1.1.2,h.1.1.2,h.2,h.1.2⟩,fun h=>⟨⟨⟨⟨h.topo,h.up⟩,h.profs⟩,h.lics⟩,h.prof⟩⟩
theorem Y10(a b:Nat):((a:Int)!=(b:Int)) = !decide (a=b):=by
 by_cases h:a=b
 .simp[h]
 .rw[show((a:Int)!=(b:Int))=true by simp;omega];simp[h]
theorem MR(r:Room):Jn r=some (roomOk r):=by
 unfold Jn roomOk
 rw[Zl,bS]
 simp only[Y10,V9]
 rw[Mh (r:=some false) (p:=fun p=>!profOk p) (fun x _ i k=>by unfold XJ;rw[V9,bS]),← List.not_all_eq_any_not]
 cases topoOk r.topo<;>cases decide (r.up.length=r.topo.nodes.length)<;>cases decide (r.profs.length=r.topo.nodes.length)<;>cases profOk r.lics<;>cases r.profs.all profOk<;>rfl
theorem X0c(r:Room):Vx r=some (roomOk r):=by
 unfold Vx roomOk
 rw[OS,Zl,bS]
 simp only[Y10]
 rw[Mh (r:=some false) (p:=fun p=>!profOk p) (fun x _ i k=>by unfold YM;rw[JS,V9,bS]),← List.not_all_eq_any_not]
 unfold ZM
 rw[JS,V9,bS]
 cases topoOk r.topo<;>cases decide (r.up.length=r.topo.nodes.length)<;>cases decide (r.profs.length=r.topo.nodes.length)<;>cases profOk r.lics<;>cases r.profs.all profOk<;>rfl
structure RoomS(r:Room):Prop where
 up:r.up.length<=1048576
 par:r.topo.parents.length<=1048576
 nodes:r.topo.nodes.length<=1048576
 profs:r.profs.length<=1048576
 prof:∀p∈r.profs,p.length<=1048576
 lics:r.lics.length<=1048576
theorem RoomP.small{r:Room}(h:RoomP r):RoomS r :=
  ⟨by have:=h.up;have:=h.topo.nodes;omega,by have:=h.topo.tree.le;omega,by have:=h.topo.nodes;omega,by have:=h.profs;have:=h.topo.nodes;omega,fun p hp=>by have:=(h.prof p hp).le;omega,by have:=h.lics.le;omega⟩
theorem L03{r:Room}(h:RoomS r):Lo r=some r:=by
 unfold Lo Oo
 have:=h.up;have:=h.lics;have:=h.par;have:=h.nodes;have:=h.profs
 rw[U0 (by simp;omega),bS,U0 (by simp;omega),bS,bS,U0 (by simp;omega),bS,U0 (by simp;omega),bS]
 rw[Z7 (bd:=Um) (bs:=24) (p:=fun _=>true) (f:=id) (fun x hx i b k=>by
  have:=h.prof x hx
  unfold Um Oo
  rw[U0 (by simp;omega),bS,bS];simp) (by simp;omega)]
 unfold XC
 simp[List.filter_eq_self.2]
theorem L0x{r:Room}(h:RoomS r):Ms r=some r:=by
 unfold Ms Lb O6 Wj
 have:=h.up;have:=h.lics;have:=h.par;have:=h.nodes;have:=h.profs
 rw[U0 (by simp;omega),bS,bS,U0 (by simp;omega),bS,bS,U0 (by simp;omega),bS,U0 (by simp;omega),bS,bS]
 rw[Z7 (bd:=Qj) (bs:=24) (p:=fun _=>true) (f:=id) (fun x hx i b k=>by
  have:=h.prof x hx
  unfold Qj Wj
  rw[U0 (by simp;omega),bS,bS];simp) (by simp;omega)]
 unfold Lw
 simp[List.filter_eq_self.2]
theorem M15{α:Type}{l:List α}{i:Nat}(h:i<=l.length):cutL l none (some (i:Int))=some (l.take i):=by
 unfold cutL bhi blo
 simp[h]
theorem Y0U{l:List Int}{i:Nat}{x:Int}(hx:l[i]?=some x):(l.take (i+1)).Nodup↔(l.take i).Nodup/\x∉l.take i:=by
 obtain⟨hi,rfl⟩:=yB hx
 rw[List.take_succ_eq_append_getElem hi,List.nodup_append]
 constructor
 .intro h;exact⟨h.1,fun hm=>h.2.2 _ hm _ (List.mem_singleton.2 rfl) rfl⟩
 .intro h;exact⟨h.1,by simp,fun a ha b hb e=>by rw[List.mem_singleton.1 hb]at e;subst e;exact h.2 ha⟩
theorem X0U{γ:Type}{bd:Int->Nat->Unit->(Unit->Option γ)->Option γ}{kk:Unit->Option γ}{r:Option γ}{l:List Int}
  (hb:∀i x k,i<=l.length->bd x i () k=bif (l.take i).contains x then r else k ()):rgl bd kk l 0 ()=bif decide l.Nodup then kk ()else r:=by
 refine Ud (fun i (_:Unit)=>(l.take i).Nodup) (fun o=>o=bif decide l.Nodup then kk ()else r) (fun i x b k hx hI hk=>?_) (fun b hI=>?_) (by simp)
 .have hil:=(yB hx).1
  rw[hb i x k (by omega)]
  cases hc:(l.take i).contains x with
  |true =>
   have hm:=List.contains_iff_mem.1 hc
   have:¬ l.Nodup:=fun q=>((Y0U hx).1 (q.sublist (List.take_sublist _ _))).2 hm
   simp[this]
  |false=>exact hk () ((Y0U hx).2 ⟨hI,fun hm=>by rw[List.contains_iff_mem.2 hm]at hc;cases hc⟩)
 .rw[List.take_of_length_le (yV _)]at hI
  simp[hI]
noncomputable def diffOk(r:Room)(j:Job)(nodes:List Int):Bool:=roomOk r&&O0 j&&decide ((nodes.length:Int)=j.nodes)&&J3 r.topo nodes&&decide nodes.Nodup
theorem O03(r:Room)(j:Job)(nodes:List Int):Mo r j nodes=some (diffOk r j nodes):=by
 unfold Mo diffOk
 rw[MR,bS]
 have e:((nodes.length:Int)!=j.nodes) = !decide ((nodes.length:Int)=j.nodes):=by
  by_cases h:(nodes.length:Int)=j.nodes<;>simp[h]
 simp only[e,Qm]
 rw[X0U (r:=some false) (fun i x k hi=>by unfold YC;rw[M15 hi,bS,X9,bS])]
 cases roomOk r<;>cases O0 j<;>cases decide ((nodes.length:Int)=j.nodes)<;>cases J3 r.topo nodes<;>cases decide nodes.Nodup<;>rfl
theorem Y0f{t:Topo}(ht:t.nodes.length<=1048576)(j:Job)(nodes:List Int):Wf t j nodes=some (decide ((nodes.length:Int)=j.nodes)&&J3 t nodes&&decide nodes.Nodup):=by
 unfold Wf
 rw[X0U (r:=some false) (fun i x k hi=>by unfold Mk;rw[M15 hi,bS,Ob,bS])]
 unfold Wk
 rw[W02 t nodes ht,bS]
 have e:((nodes.length:Int)==j.nodes)=decide ((nodes.length:Int)=j.nodes):=by
  by_cases h:(nodes.length:Int)=j.nodes<;>simp[h]
 rw[e]
 cases decide ((nodes.length:Int)=j.nodes)<;>cases J3 t nodes<;>cases decide nodes.Nodup<;>rfl
def Xr:Room×Bool:=(⟨⟨[],[]⟩,[],[],[]⟩,false)
def Z09(r:Room)(need lic:Vec)(from_ to_:Int)(nodes:List Int):Option (Room×Bool) :=
 rgl (fun x _ v k=>(idx v x).bind fun e=>(L8 e from_ to_ need).bind fun y=>bif !y.2 then some Xr else k (v.set x.toNat y.1))
  (fun v=>(L8 r.lics from_ to_ lic).bind fun y=>bif !y.2 then some Xr else some (⟨r.topo,r.up,v,y.1⟩,true)) nodes 0 r.profs
theorem W0W{r:Room}(hr:RoomP r)(need lic:Vec)(from_ to_:Int){nodes:List Int}(hn:J3 r.topo nodes=true) :
  ∃q,Z09 r need lic from_ to_ nodes=some q/\(q.2=true->RoomP q.1/\q.1.topo=r.topo/\q.1.up=r.up):=by
 have hn:=(J2.1 hn).2
 unfold Z09
 refine Ud (fun i (v:List (List Pt))=>v.length=r.topo.nodes.length/\∀p∈v,ProfP p) (fun o=>∃q:Room×Bool,o=some q/\(q.2=true->RoomP q.1/\q.1.topo=r.topo/\q.1.up=r.up)) (fun i x v k hx hI hk=>?_) (fun v hI=>?_) ⟨hr.profs,hr.prof⟩
 .have hx':=hn x (yE hx)
  obtain⟨e,q1,q2⟩:=U0z (l:=v) (i:=x) hx'.1 (by rw[hI.1];exact hx'.2)
  obtain⟨y,h1,h2⟩:=(J0f e from_ to_ need).2
  rw[q1,bS,h1,bS]
  cases hy:y.2 with
  |false=>exact⟨Xr,rfl,fun h=>by cases h⟩
  |true =>
   refine hk _ ⟨by simp[hI.1],fun p hp=>?_⟩
   rcases List.mem_or_eq_of_mem_set hp with hp|rfl
   .exact hI.2 p hp
   .exact h2 hy
 .obtain⟨y,h1,h2⟩:=(J0f r.lics from_ to_ lic).2
  rw[h1,bS]
  cases hy:y.2 with
  |false=>exact⟨Xr,rfl,fun h=>by cases h⟩
  |true=>exact⟨_,rfl,fun _=>⟨⟨hr.topo,hr.up,hI.1,hI.2,h2 hy⟩,rfl,rfl⟩⟩
theorem W0A(r:Room)(j:Job)(t:Int)(nodes:List Int):QA r j t nodes=bif diffOk r j nodes&&time t then Z09 r j.need j.lic t (w64 (t+j.wall)) nodes else some Xr:=by
 unfold QA
 rw[O03,bS,Jc]
 cases hd:diffOk r j nodes with
 |false=>rfl
 |true =>
  cases time t with
  |false=>rfl
  |true =>
   have hr:roomOk r=true:=by unfold diffOk at hd;simp only[yD]at hd;exact hd.1.1.1.1
   simp only[yL,Bool.or_self,yM,Bool.and_self,yN]
   rw[L03 (XV.1 hr).small,bS]
   rfl
theorem Mb{t:Topo}{l:List Int}(h:J3 t l=true)(hl:l.length<=1048576)(s:Nat):La t l (s:Int)=some (l.filter fun n=>hasUp t n s):=by
 unfold La
 rw[Z7 (bs:=8) (p:=fun n=>hasUp t n s) (f:=fun n=>n) (fun x hx i b k=>by
  unfold Xy
  exact J14 h hx s _) (by simp;omega)]
 unfold YR
 simp
def rise(n:Int):List Int->List Int
 |[]=>[n]
 |x::l=>if n<x then n::x::l else x::rise n l
theorem W0h(n:Int):∀l:List Int,(rise n l).length=l.length+1
 |[]=>rfl
 |x::l=>by
  unfold rise
  split
  .rfl
  .simp[W0h n l]
theorem U09(n m:Int):∀l:List Int,m∈rise n l↔m=n\/m∈l
 |[]=>by simp[rise]
 |x::l=>by
  unfold rise
  split
  .simp
  .simp only[List.mem_cons,U09 n m l]
   constructor<;>rintro(h|h|h)<;>simp[h]
theorem W1E(n x:Int)(i:Nat)(v:Bool×List Int)(k:Bool×List Int->Option (List Int)) :
  Yf n x i v k=bif (!v.1)&&decide (n<x)then(appL 8 v.2 [n]).bind fun xs5=>(appL 8 xs5 [x]).bind fun xs7=>k (true,xs7)else(appL 8 v.2 [x]).bind fun xs7=>k (v.1,xs7):=rfl
theorem Q0U{l:List Int}(n:Int)(hl:l.length<=1048576):Wo l n=some (rise n l):=by
 have key:∀(l:List Int) (i:Nat) (acc:List Int),acc.length+l.length<=1048576 ->
   rgl (Yf n) (Oa n) l i (false,acc)=some (acc++rise n l):=by
  have key2:∀(l:List Int) (i:Nat) (acc:List Int),acc.length+l.length<=1048577->rgl (Yf n) (Oa n) l i (true,acc)=some (acc++l):=by
   intro l
   induction l with
   |nil=>intro i acc _;rw[rgl];unfold Oa Ma;simp
   |cons x l ih =>
    intro i acc h
    simp only[yT]at h
    rw[rgl,W1E]
    simp only[yL,Bool.false_and,yM]
    rw[U0 (by simp;omega),bS,ih _ _ (by simp;omega)]
    simp
  intro l
  induction l with
  |nil =>
   intro i acc h
   rw[rgl]
   unfold Oa Ma
   simp only[Bool.not_false,yN]
   simp only[List.length_nil]at h
   rw[U0 (by simp;omega)]
   rfl
  |cons x l ih =>
   intro i acc h
   simp only[yT]at h
   rw[rgl,W1E]
   unfold rise
   by_cases hx:n<x
   .simp only[Bool.not_false,Bool.true_and,hx,decide_true,yN,yb]
    rw[U0 (by simp;omega),bS,U0 (by simp;omega),bS,key2 _ _ _ (by simp;omega)]
    simp
   .simp only[Bool.not_false,Bool.true_and,hx,decide_false,yM,yc]
    rw[U0 (by simp;omega),bS,ih _ _ (by simp;omega)]
    simp
 unfold Wo
 rw[key l 0 [] (by simpa using hl)]
 rfl
def M0a(n:Int)(v ys:List Int):List Int:=ys.foldl (fun v x=>if(v.length:Int)<n then rise x v else v) v
theorem U0J(n:Int):∀(ys v:List Int),(v.length:Int)<=n->((M0a n v ys).length:Int)=min n ((v.length:Int)+(ys.length:Int))
 |[],v,h=>by simp only[M0a,List.foldl_nil,List.length_nil];omega
 |y::ys,v,h=>by
  unfold M0a
  rw[List.foldl_cons]
  by_cases hv:(v.length:Int)<n
  .have:=U0J n ys (rise y v) (by rw[W0h];omega)
   unfold M0a at this
   rw[yd hv,this,W0h]
   simp only[yT];omega
  .have:=U0J n ys v h
   unfold M0a at this
   rw[ye hv,this]
   simp only[yT];omega
theorem W1b(n m:Int):∀(ys v:List Int),m∈M0a n v ys->m∈v\/m∈ys
 |[],v,h=>.inl h
 |y::ys,v,h=>by
  unfold M0a at h
  rw[List.foldl_cons]at h
  rcases W1b n m ys _ h with h|h
  .split at h
   .rcases(U09 y m v).1 h with h|h
    .exact .inr (by simp[h])
    .exact .inl h
   .exact .inl h
  .exact .inr (yH _ h)
def X1z(Q:Nat->Prop)(m:Nat)(v:Int):Prop:=(v<0->∀s,s<m->¬ Q s)/\(0<=v->∃s:Nat,v=(s:Int)/\s<m/\Q s)
def X10(t:Topo)(l taken:List Int)(s:Nat):Prop:=(l.filter fun n=>hasUp t n s)≠[]/\kids t.parents (s:Int)=[]/\(s:Int)∉taken
theorem Z1n{t:Topo}{l:List Int}(h:J3 t l=true)(hl:l.length<=1048576)(taken:List Int):∃v,Lg t l taken=some v/\X1z (X10 t l taken) t.parents.length v:=by
 have T:=(J2.1 h).1
 unfold Lg
 refine Ud (l0:=t.parents) (fun i (v:Int)=>X1z (X10 t l taken) i v) (fun o=>∃v,o=some v/\X1z (X10 t l taken) t.parents.length v) (fun i x v k hx hI hk=>?_) (fun v hI=>⟨v,rfl,hI⟩) ⟨fun _ s hs=>by omega,fun h=>by omega⟩
 have hi:=(yB hx).1
 have skip:¬ X10 t l taken i->X1z (X10 t l taken) (i+1) v:=fun hq=>by
  refine⟨fun hv s hs=>?_,fun hv=>?_⟩
  .by_cases e:s=i
   .subst e;exact hq
   .exact hI.1 hv s (by omega)
  .obtain⟨s,e,hs,q⟩:=hI.2 hv
   exact⟨s,e,by omega,q⟩
 have take:X10 t l taken i->X1z (X10 t l taken) (i+1) (i:Int):=fun hq=>⟨fun hv=>by omega,fun _=>⟨i,rfl,by omega,hq⟩⟩
 unfold Vm
 rw[Mb h hl i,bS]
 by_cases h0:(l.filter fun n=>hasUp t n i)=[]
 .simp only[h0,List.length_nil,Int.natCast_zero,beq_self_eq_true,yN,bS,Bool.true_or]
  exact hk v (skip fun q=>q.1 h0)
 .have hne:(((l.filter fun n=>hasUp t n i).length:Int)==0)=false:=by
   rw[beq_eq_false_iff_ne]
   have:=List.length_pos_iff.2 h0
   omega
  rw[hne,yM,Qq t (i:Int) (by have:=T.tree.le;omega),bS]
  by_cases hkd:kids t.parents (i:Int)=[]
  .simp only[hkd,List.map_nil,List.length_nil,Int.natCast_zero,Int.lt_irrefl,decide_false,Bool.or_self,yM,X9,bS,Bool.false_or]
   cases ht:taken.contains (i:Int)with
   |true =>
    rw[yN]
    exact hk v (skip fun q=>q.2.2 (List.contains_iff_mem.1 ht))
   |false =>
    have hq:X10 t l taken i:=⟨h0,hkd,fun hm=>by rw[List.contains_iff_mem.2 hm]at ht;cases ht⟩
    rw[yM]
    by_cases hv:v<0
    .simp only[hv,decide_true,yN,bS,Bool.true_or]
     exact hk _ (take hq)
    .obtain⟨s,e,hs,q⟩:=hI.2 (by omega)
     subst e
     rw[show decide ((s:Int)<0)=false by simp,yM,Mb h hl s,bS,Bool.false_or]
     cases decide (((l.filter fun n=>hasUp t n s).length:Int)<((l.filter fun n=>hasUp t n i).length:Int))with
     |true=>exact hk _ (take hq)
     |false=>exact hk _ ⟨fun hv=>by omega,fun _=>⟨s,rfl,by omega,q⟩⟩
  .have hpos:decide (0<(((kids t.parents (i:Int)).map fun(n:Nat)=>(n:Int)).length:Int))=true:=by
    have:=List.length_pos_iff.2 hkd
    simp;omega
   simp only[hpos,Bool.or_true,yN,bS,Bool.true_or]
   exact hk v (skip fun q=>hkd q.2.1)
section
variable{α β γ:Type}
theorem O0h{bd:α->Nat->β->(β->Option γ)->Option γ}{kk:β->Option γ}{l0:List α}{f:β->Nat->β}(I:Nat->β->Prop)(hI:∀j b,j<l0.length->I j b->I (j+1) (f b j))
  (h:∀j x b k,l0[j]?=some x->I j b->bd x j b k=k (f b j)) {b:β} (h0:I 0 b):rgl bd kk l0 0 b=kk ((List.range l0.length).foldl f b)/\I l0.length ((List.range l0.length).foldl f b):=by
 have key:∀(m i:Nat) (b:β),l0.length-i=m->i<=l0.length->I i b->rgl bd kk (l0.drop i) i b=kk ((List.range' i m).foldl f b)/\I l0.length ((List.range' i m).foldl f b):=by
  intro m
  induction m with
  |zero =>
   intro i b hm hi hb
   have:i=l0.length:=by omega
   subst this
   rw[List.drop_length]
   exact⟨rfl,hb⟩
  |succ m ih =>
   intro i b hm hi hb
   have h1:i<l0.length:=by omega
   rw[List.drop_eq_getElem_cons h1,rgl,h i _ b _ (yA h1) hb,List.range'_succ,List.foldl_cons]
   exact ih (i+1) _ (by omega) h1 (hI i b h1 hb)
 have:=key l0.length 0 b (by simp) (Nat.zero_le _) h0
 rwa [List.drop_zero,← List.range_eq_range']at this
end
def cntU(t:Topo)(l:List Int)(s:Nat):Nat:=(l.filter fun n=>hasUp t n s).length
def inR(i:Nat)(v:Int):Prop:=-1<=v/\v<(i:Int)
def Zq(t:Topo)(l:List Int)(n level v:Int)(s:Nat):Int :=
 if(cntU t l s:Int)<n\/level<lev t s then v
 else if v<0\/lev t s<lev t v.toNat\/(lev t s=lev t v.toNat/\(cntU t l s:Int)<cntU t l v.toNat)then(s:Int)else v
def swF(t:Topo)(l:List Int)(n level:Int):Int:=(List.range t.parents.length).foldl (Zq t l n level) (-1)
theorem M1a{t:Topo}{l:List Int}(h:J3 t l=true)(hl:l.length<=1048576)(n level:Int):Lk t l n level=some (swF t l n level)/\inR t.parents.length (swF t l n level):=by
 have T:=(J2.1 h).1
 unfold Lk swF
 refine(O0h (f:=Zq t l n level) inR (fun j v hj hv=>?_) (fun j x v k hx hv=>?_) ⟨by omega,by omega⟩).imp (fun e=>e) fun e=>e
 .obtain⟨v1,v2⟩:=hv
  unfold Zq inR
  split
  .omega
  .split<;>omega
 .have hj:=(yB hx).1
  obtain⟨v1,v2⟩:=hv
  unfold Vq Zq
  rw[Mb h hl j,bS,Wb T hj,bS]
  rw[show(l.filter fun n=>hasUp t n j).length=cntU t l j from rfl]
  by_cases h1:(cntU t l j:Int)<n\/level<lev t j
  .rw[yd h1,show(decide ((cntU t l j:Int)<n)||decide (level<lev t j))=true by simpa using h1,yN]
  .rw[ye h1,show(decide ((cntU t l j:Int)<n)||decide (level<lev t j))=false by
    rw[Bool.eq_false_iff];intro q;exact h1 (by simpa using q),yM]
   by_cases hv0:v<0
   .rw[yd (.inl hv0),show decide (v<0)=true by simpa using hv0]
    rfl
   .obtain⟨m,rfl⟩:∃m:Nat,v=(m:Int):=⟨v.toNat,by omega⟩
    have hm:m<t.parents.length:=by omega
    rw[show decide ((m:Int)<0)=false by simp]
    simp only[yM,Bool.false_or]
    rw[Wb T hm,bS,yZ]
    by_cases h2:lev t j<lev t m
    .rw[yd (.inr (.inl h2)),show decide (lev t j<lev t m)=true by simpa using h2]
     rfl
    .rw[show decide (lev t j<lev t m)=false by simpa using h2,yM,bS,yM]
     by_cases h3:lev t j=lev t m
     .rw[show(lev t j==lev t m)=true by simpa using h3,yN,Mb h hl m,bS]
      rw[show(l.filter fun n=>hasUp t n m).length=cntU t l m from rfl]
      by_cases h4:(cntU t l j:Int)<cntU t l m
      .rw[yd (.inr (.inr ⟨h3,h4⟩)),show decide ((cntU t l j:Int)<(cntU t l m:Int))=true by simpa using h4]
       rfl
      .rw[ye (by omega),show decide ((cntU t l j:Int)<(cntU t l m:Int))=false by simpa using h4]
       rfl
     .rw[show(lev t j==lev t m)=false by simpa using h3,yM,bS,ye (by omega)]
      rfl
def MF(t:Topo)(l taken:List Int)(v:Int)(s:Nat):Int :=
 if cntU t l s=0\/kids t.parents (s:Int)≠[]\/(s:Int)∈taken then v
 else if v<0\/cntU t l v.toNat<cntU t l s then(s:Int)else v
def W0C(t:Topo)(l taken:List Int):Int:=(List.range t.parents.length).foldl (MF t l taken) (-1)
theorem V1j{t:Topo}{l:List Int}(h:J3 t l=true)(hl:l.length<=1048576)(taken:List Int):Lg t l taken=some (W0C t l taken)/\inR t.parents.length (W0C t l taken):=by
 have T:=(J2.1 h).1
 unfold Lg W0C
 refine(O0h (f:=MF t l taken) inR (fun j v hj hv=>?_) (fun j x v k hx hv=>?_) ⟨by omega,by omega⟩).imp (fun e=>e) fun e=>e
 .obtain⟨v1,v2⟩:=hv
  unfold MF inR
  split
  .omega
  .split<;>omega
 .have hj:=(yB hx).1
  obtain⟨v1,v2⟩:=hv
  unfold Vm MF
  rw[Mb h hl j,bS]
  rw[show(l.filter fun n=>hasUp t n j).length=cntU t l j from rfl]
  by_cases h0:cntU t l j=0
  .rw[yd (.inl h0),show((cntU t l j:Int)==0)=true by simpa using h0]
   rfl
  .rw[show((cntU t l j:Int)==0)=false by simpa using h0,yM,Qq t (j:Int) (by have:=T.tree.le;omega),bS]
   by_cases hk:kids t.parents (j:Int)=[]
   .simp only[hk,List.map_nil,List.length_nil,Int.natCast_zero,Int.lt_irrefl,decide_false,Bool.or_self,yM,X9,bS,Bool.false_or]
    by_cases ht:(j:Int)∈taken
    .rw[yd (.inr (.inr ht)),List.contains_iff_mem.2 ht,yN]
    .rw[ye (by rintro(q|q|q);exact h0 q;exact q rfl;exact ht q),show taken.contains (j:Int)=false by
      rw[Bool.eq_false_iff];exact fun q=>ht (List.contains_iff_mem.1 q),yM]
     by_cases hv0:v<0
     .rw[yd (.inl hv0),show decide (v<0)=true by simpa using hv0]
      rfl
     .obtain⟨m,rfl⟩:∃m:Nat,v=(m:Int):=⟨v.toNat,by omega⟩
      rw[show decide ((m:Int)<0)=false by simp,yM,Mb h hl m,bS,Bool.false_or,yZ]
      rw[show(l.filter fun n=>hasUp t n m).length=cntU t l m from rfl]
      by_cases h4:cntU t l m<cntU t l j
      .rw[yd (.inr h4),show decide ((cntU t l m:Int)<(cntU t l j:Int))=true by simpa using h4,yN]
      .rw[ye (by omega),show decide ((cntU t l m:Int)<(cntU t l j:Int))=false by simpa using h4,yM]
   .have hpos:decide (0<(((kids t.parents (j:Int)).map fun(n:Nat)=>(n:Int)).length:Int))=true:=by
     have:=List.length_pos_iff.2 hk
     simp;omega
    rw[yd (.inr (.inl hk))]
    simp only[hpos,Bool.or_true,yN,bS,Bool.true_or]
end
def lfOf(t:Topo)(x:Int):Nat:=match idx t.nodes x with
 |some e=>e.leaf.toNat
 |none=>0
theorem X1j{t:Topo}{l:List Int}(h:J3 t l=true){x:Int}(hx:x∈l):hasUp t x (lfOf t x)=true/\lfOf t x<t.parents.length/\kids t.parents (lfOf t x:Int)=[]:=by
 obtain⟨h1,h2⟩:=J2.1 h
 obtain⟨e,q1,q2⟩:=U0z (l:=t.nodes) (i:=x) (h2 x hx).1 (h2 x hx).2
 obtain⟨a1,a2,a3,_⟩:=h1.node e (yE q2)
 have e1:lfOf t x=e.leaf.toNat:=by unfold lfOf;rw[q1]
 have e2:(lfOf t x:Int)=e.leaf:=by omega
 refine⟨?_,by omega,by rw[e2];exact a3⟩
 unfold hasUp
 rw[q1,e1]
 simp only[List.contains_iff_mem]
 exact List.mem_map.2 ⟨_,Z0h _ _,rfl⟩
theorem Q1b{α:Type}{r p q:α->Bool}:∀{l:List α},(∀x∈l,r x=true->p x=true\/q x=true)->(l.filter r).length<=(l.filter p).length+(l.filter q).length
 |[],_=>Nat.zero_le _
 |x::l,h=>by
  have ih:=Q1b fun y hy=>h y (yH _ hy)
  have hx:=h x (yJ ..)
  cases hr:r x with
  |false=>cases hp:p x<;>cases hq:q x<;>simp[hr,hp,hq]<;>omega
  |true =>
   rcases hx hr with hp|hq
   .cases hq:q x<;>simp[hr,hp,hq]<;>omega
   .cases hp:p x<;>simp[hr,hp,hq]<;>omega
def cntT(t:Topo)(l taken:List Int):Nat:=(l.filter fun x=>taken.contains (lfOf t x:Int)).length
theorem X1B{t:Topo}{l:List Int}(h:J3 t l=true)(hl:l.length<=1048576){taken:List Int}(hc:cntT t l taken<l.length):∃m:Nat,W0C t l taken=(m:Int)/\m<t.parents.length/\(m:Int)∉taken:=by
 obtain⟨v,h1,h2,h3⟩:=Z1n h hl taken
 have e:=(V1j h hl taken).1
 rw[h1]at e
 have e:v=W0C t l taken:=Option.some.inj e
 subst e
 have:∃x∈l,(lfOf t x:Int)∉taken:=by
  by_cases hx:∃x∈l,(lfOf t x:Int)∉taken
  .exact hx
  .have:l.filter (fun x=>taken.contains (lfOf t x:Int))=l:=List.filter_eq_self.2 fun x hxl=>by
    rw[List.contains_iff_mem]
    by_cases hm:(lfOf t x:Int)∈taken
    .exact hm
    .exact absurd ⟨x,hxl,hm⟩ hx
   unfold cntT at hc
   rw[this]at hc
   omega
 obtain⟨x,hx,hm⟩:=this
 obtain⟨q1,q2,q3⟩:=X1j h hx
 have hne:(l.filter fun n=>hasUp t n (lfOf t x))≠[]:=fun q=>by
  have:x∈l.filter fun n=>hasUp t n (lfOf t x):=List.mem_filter.2 ⟨hx,q1⟩
  rw[q]at this
  cases this
 have hQ:X10 t l taken (lfOf t x):=⟨hne,q3,hm⟩
 have hv:0<=W0C t l taken:=by
  by_cases hv:W0C t l taken<0
  .exact absurd hQ (h2 hv _ q2)
  .omega
 obtain⟨m,e,hm,q⟩:=h3 hv
 exact⟨m,e,hm,q.2.2⟩
theorem U15{n:Int}{k11:(List Int×List Int)->Option (List Int×Bool)}{xs:List Int}:∀(ys:List Int) (i:Nat) (v:List Int),v.length+ys.length<=1048576->rgl (Zr n) (QJ k11 xs) ys i v=k11 (M0a n v ys,xs)
 |[],_,_,_=>rfl
 |y::ys,i,v,h=>by
  simp only[yT]at h
  have e:M0a n v (y::ys)=M0a n (if(v.length:Int)<n then rise y v else v) ys:=rfl
  rw[rgl,e]
  unfold Zr
  by_cases hv:(v.length:Int)<n
  .rw[show decide ((v.length:Int)<n)=true by simpa using hv,yN,Q0U y (by omega),bS,yd hv]
   exact U15 ys _ _ (by rw[W0h];omega)
  .rw[show decide ((v.length:Int)<n)=false by simpa using hv,yM,ye hv]
   exact U15 ys _ _ (by omega)
def chL(t:Topo)(l:List Int)(n:Int):Nat->List Int->List Int->List Int
 |0,out,_=>out
 |k+1,out,taken=>if(out.length:Int)<n then chL t l n k (M0a n out (l.filter fun x=>hasUp t x (W0C t l taken).toNat)) (taken++[W0C t l taken])else out
theorem U1o{t:Topo}{l:List Int}{n:Int}(h:J3 t l=true)(hl:l.length<=24)(h0:1<=n)(hn:n<=l.length) :
    whl (Qh t n l) 9223372036854775807 ([],[])=some (chL t l n (t.parents.length+1) [] [],true)/\((chL t l n (t.parents.length+1) [] []).length:Int)=n/\∀m∈chL t l n (t.parents.length+1) [] [],m∈l:=by
  have T:=(J2.1 h).1
  have hP:=T.tree.le
  have:=Y0e (bd:=Qh t n l) (fun b o=>o=some (chL t l n (t.parents.length+1-b.2.length) b.1 b.2,true)/\((chL t l n (t.parents.length+1-b.2.length) b.1 b.2).length:Int)=n/\∀m∈chL t l n (t.parents.length+1-b.2.length) b.1 b.2,m∈l)
    (fun b=>t.parents.length-b.2.length) (fun b=>(b.1.length:Int)<=n/\(∀m∈b.1,m∈l)/\b.2.Nodup/\(∀s∈b.2,s∈(List.range t.parents.length).map fun(i:Nat)=>(i:Int))/\((b.1.length:Int)<n->cntT t l b.2<=b.1.length)) ?_ 9223372036854775807 ([],[])
    ⟨by simp;omega,by simp,List.nodup_nil,by simp,fun _=>by simp[cntT]⟩ (by simp;omega)
  · simpa using this
  rintro⟨out,taken⟩ k ⟨i1,i2,i3,i4,i5⟩ hk
  simp only at i1 i2 i3 i4 i5 hk ⊢
  have hlen:taken.length<=t.parents.length:=by simpa using i3.length_le_of_subset i4
  unfold Qh
  simp only
  rw[show t.parents.length+1-taken.length=(t.parents.length-taken.length)+1 by omega,chL]
  by_cases ho:(out.length:Int)<n
  · obtain⟨m,e,hm,hmt⟩:=X1B h (by omega) (taken:=taken) (by have:=i5 ho;omega)
    rw[show decide ((out.length:Int)<n)=true by simpa using ho,yN,(V1j h (by omega) taken).1,bS,yd ho]
    rw[e,yZ]
    rw[U0 (by simp;omega),bS,Mb h (by omega) m,bS]
    have hfl:(l.filter fun x=>hasUp t x m).length<=l.length:=List.length_filter_le ..
    rw[U15 _ _ _ (by omega)]
    have hnd:(taken++[(m:Int)]).Nodup:=by
      rw[List.nodup_append]
      exact⟨i3,by simp,fun a ha b hb q=>by simp at hb;subst hb;subst q;exact hmt ha⟩
    have hsub:∀s∈taken++[(m:Int)],s∈(List.range t.parents.length).map fun(i:Nat)=>(i:Int):=fun s hs=>by
      rcases List.mem_append.1 hs with hs|hs
      · exact i4 s hs
      · simp at hs;subst hs
        exact List.mem_map.2 ⟨m,List.mem_range.2 hm,rfl⟩
    have hlen2:taken.length+1<=t.parents.length:=by simpa using hnd.length_le_of_subset hsub
    have hfn:=U0J n (l.filter fun x=>hasUp t x m) out i1
    have:=hk (M0a n out (l.filter fun x=>hasUp t x m),taken++[(m:Int)]) ⟨by simp only;omega,fun y hy=>?_,hnd,hsub,fun hlt=>?_⟩ (by simp;omega)
    · simp only[yU,yT,List.length_nil]at this
      rw[show t.parents.length+1-(taken.length+(0+1))=t.parents.length-taken.length by omega]at this
      exact this
    · rcases W1b n y _ _ hy with hy|hy
      · exact i2 y hy
      · exact(List.mem_filter.1 hy).1
    · simp only at hlt ⊢
      have c1:=i5 ho
      have c2:cntT t l (taken++[(m:Int)])<=cntT t l taken+(l.filter fun x=>hasUp t x m).length:=Q1b fun x hx hr=>by
        rw[List.contains_iff_mem]at hr
        rcases List.mem_append.1 hr with hr|hr
        · exact .inl (List.contains_iff_mem.2 hr)
        · have hr:(lfOf t x:Int)=(m:Int):=by simpa using hr
          have hr:lfOf t x=m:=by omega
          exact .inr (hr ▸ (X1j h hx).1)
      omega
  · rw[show decide ((out.length:Int)<n)=false by simpa using ho,yM,ye ho]
    exact⟨rfl,by omega,i2⟩
theorem V1h{α γ:Type}{bd:α->Nat->Unit->(Unit->Option γ)->Option γ}{kk:Unit->Option γ}{p:α->Nat->Bool}{r:Option γ}:∀{l:List α} {i:Nat},(∀j x k,l[j]?=some x->bd x (i+j) () k=bif p x (i+j)then r else k ())->rgl bd kk l i ()=bif (l.zipIdx i).any (fun q=>p q.1 q.2)then r else kk ()
 |[],_,_=>rfl
 |x::l,i,h=>by
  have h0:=h 0 x (fun b'=>rgl bd kk l (i+1) b') rfl
  rw[Nat.add_zero]at h0
  rw[rgl,h0,List.zipIdx_cons,List.any_cons]
  cases p x i with
  |true=>rfl
  |false =>
   rw[yM,Bool.false_or]
   exact V1h fun j y k hy=>by
    have:=h (j+1) y k (by simpa using hy)
    rwa [show i+(j+1)=i+1+j by omega]at this
theorem L0j{α β:Type}(P:β->Prop){f:β->α->β}(h:∀b x,P b->P (f b x)):∀(l:List α) (b:β),P b->P (l.foldl f b)
 |[],_,hb=>hb
 |x::l,b,hb=>L0j P h l _ (h b x hb)
theorem Y1E{t:Topo}{l:List Int}{n level:Int}(h:0<=swF t l n level):n<=cntU t l (swF t l n level).toNat/\lev t (swF t l n level).toNat<=level:=by
 have:=L0j (fun v:Int=>v<0\/(n<=cntU t l v.toNat/\lev t v.toNat<=level)) (f:=Zq t l n level) (fun v s hv=>by
  unfold Zq
  split
  .exact hv
  .rename_i h1
   split
   .exact .inr (by rw[yZ];omega)
   .exact hv) (List.range t.parents.length) (-1) (.inl (by omega))
 rcases this with q|q
 .exact absurd q (by unfold swF at h;omega)
 .exact q
def M1m(l:List Int)(i:Nat):Int:=if 0<i then(l[i-1]?).getD default else default
theorem M1r{l:List Int}{i:Nat}(hi:i<l.length)(hl:l.length<=1048576):(bif decide (0<(i:Int))then idx l (w64 ((i:Int)-1))else some default)=some (M1m l i):=by
 unfold M1m
 by_cases h:0<i
 .have e:w64 ((i:Int)-1)=((i-1:Nat):Int):=by rw[Wc (by omega)];omega
  rw[show decide (0<(i:Int))=true by simpa using h,yN,e,U2,yd h,yA (by omega)]
  rfl
 .rw[show decide (0<(i:Int))=false by simpa using h,yM,ye h]
def Y1o(l:List Int):Bool:=(l.zipIdx 0).any fun q=>decide (0<(q.2:Int))&&decide (q.1<=M1m l q.2)
def Y0C(t:Topo)(l:List Int)(n level:Int):List Int:=l.filter fun x=>hasUp t x (swF t l n level).toNat
noncomputable def UZ(t:Topo)(l:List Int)(n level:Int):List Int×Bool :=
 if J3 t l=true/\1<=n/\Y1o l=false/\0<=swF t l n level then(chL t (Y0C t l n level) n (t.parents.length+1) [] [],true)else([],false)
theorem U0L{t:Topo}{l:List Int}(hl:l.length<=24)(n level:Int):MJ t l n level=some (UZ t l n level)/\((UZ t l n level).2=true->((UZ t l n level).1.length:Int)=n/\∀m∈(UZ t l n level).1,m∈l):=by
 unfold MJ UZ
 rw[Qm,bS]
 by_cases hno:J3 t l=true
 .by_cases hn:1<=n
  .rw[hno,show decide (n<1)=false by simp;omega,yL,Bool.or_self,yM]
   rw[V1h (r:=some ([],false)) (p:=fun x i=>decide (0<(i:Int))&&decide (x<=M1m l i)) (fun j x k hx=>by
    have hj:=(yB hx).1
    rw[Nat.zero_add]
    unfold OJ
    rw[M1r hj (by omega),bS])]
   rw[show((l.zipIdx 0).any fun q=>decide (0<(q.2:Int))&&decide (q.1<=M1m l q.2))=Y1o l from rfl]
   cases hf:Y1o l with
   |true =>
    rw[ye (by rintro⟨_,_,q,_⟩;cases q)]
    exact⟨rfl,fun q=>by cases q⟩
   |false =>
    rw[yM]
    unfold WJ
    obtain⟨s1,s2⟩:=M1a hno (by omega) n level
    rw[s1,bS]
    by_cases hs:0<=swF t l n level
    .rw[yd ⟨rfl,hn,rfl,hs⟩,show decide (swF t l n level<0)=false by simp;omega,yM]
     obtain⟨m,e⟩:∃m:Nat,swF t l n level=(m:Int):=⟨(swF t l n level).toNat,by omega⟩
     have e2:La t l (swF t l n level)=some (Y0C t l n level):=by
      unfold Y0C
      rw[e,yZ,Mb hno (by omega) m]
     rw[e2,bS]
     have hle:(Y0C t l n level).length<=l.length:=List.length_filter_le ..
     have hmine:J3 t (Y0C t l n level)=true:=J2.2 ⟨(J2.1 hno).1,fun x hx=>(J2.1 hno).2 x (List.mem_filter.1 hx).1⟩
     obtain⟨c1,c2,c3⟩:=U1o (n:=n) hmine (by omega) hn (Y1E hs).1
     rw[c1]
     exact⟨rfl,fun _=>⟨c2,fun x hx=>(List.mem_filter.1 (c3 x hx)).1⟩⟩
    .rw[ye fun q=>hs q.2.2.2,show decide (swF t l n level<0)=true by simp;omega,yN]
     exact⟨rfl,fun q=>by cases q⟩
  .rw[ye fun q=>hn q.2.1,show(!J3 t l||decide (n<1))=true by
    rw[show decide (n<1)=true by simp;omega,Bool.or_true],yN]
   exact⟨rfl,fun q=>by cases q⟩
 .rw[ye fun q=>hno q.1,show J3 t l=false by simpa using hno,Bool.not_false,Bool.true_or,yN]
  exact⟨rfl,fun q=>by cases q⟩
def Vu(fr:Int)(v:List Int)(x:Pt):List Int:=bif decide (fr<x.t)&&!v.contains x.t then rise x.t v else v
theorem W1l(fr:Int)(v:List Int)(x:Pt):(Vu fr v x).length<=v.length+1:=by
 unfold Vu
 cases(decide (fr<x.t)&&!v.contains x.t)with
 |true=>rw[yN,W0h];exact yV _
 |false=>rw[yM];omega
theorem M1p{fr:Int}{k:List Int->Option (List Int)}:∀(p:List Pt) (i:Nat) (v:List Int),v.length+p.length<=1048576->rgl (Oi fr) (Zv k) p i v=k (p.foldl (Vu fr) v)/\(p.foldl (Vu fr) v).length<=v.length+p.length
 |[],_,_,_=>⟨rfl,by simp⟩
 |x::p,i,v,h=>by
  simp only[yT]at h
  have hs:=W1l fr v x
  obtain⟨q1,q2⟩:=M1p (fr:=fr) (k:=k) p (i+1) (Vu fr v x) (by omega)
  refine⟨?_,by simp only[List.foldl_cons,yT];omega⟩
  rw[rgl,List.foldl_cons]
  unfold Oi
  rw[← q1]
  unfold Vu
  by_cases hx:fr<x.t
  .rw[show decide (fr<x.t)=true by simpa using hx,yN,X9,bS,Bool.true_and]
   cases v.contains x.t with
   |true=>rfl
   |false =>
    simp only[Bool.not_false,yN]
    rw[Q0U _ (by omega),bS]
    rfl
  .rw[show decide (fr<x.t)=false by simpa using hx,yM,bS,Bool.false_and,yM]
   rfl
def timesF(fr:Int)(ps:List (List Pt))(v:List Int):List Int:=ps.foldl (fun v p=>p.foldl (Vu fr) v) v
theorem O1p{fr:Int}:∀(ps:List (List Pt)) (i:Nat) (v:List Int),(∀p∈ps,p.length<=200)->v.length+200*ps.length<=1048576->rgl (Wi fr) Ju ps i v=some (timesF fr ps v)/\(timesF fr ps v).length<=v.length+200*ps.length
 |[],_,_,_,_=>⟨rfl,by simp[timesF]⟩
 |p::ps,i,v,hp,h=>by
  simp only[yT]at h
  have h1:=hp p (yJ ..)
  obtain⟨_,b2⟩:=M1p (fr:=fr) (k:=fun _=>none) p 0 v (by omega)
  obtain⟨q1,q2⟩:=O1p (fr:=fr) ps (i+1) (p.foldl (Vu fr) v) (fun q hq=>hp q (yH _ hq)) (by omega)
  have e:timesF fr (p::ps) v=timesF fr ps (p.foldl (Vu fr) v):=rfl
  refine⟨?_,by rw[e];simp only[yT];omega⟩
  rw[rgl,e,← q1]
  unfold Wi
  exact(M1p p 0 v (by omega)).1
theorem M1e{r:Room}(h:RoomP r)(fr:Int):Xq r fr=some (timesF fr (r.profs++[r.lics]) [fr]):=by
 have h1:=h.topo.nodes
 have h2:=h.profs
 unfold Xq
 rw[U0 (by simp;omega),bS,List.nil_append,U0 (by simp;omega),bS]
 rw[show lenQ (r.profs++[r.lics])=some () by unfold lenQ;rw[yd (by simp;omega)],bS]
 refine(O1p _ 0 _ (fun p hp=>?_) (by simp;omega)).1
 rcases List.mem_append.1 hp with hp|hp
 .exact(h.prof p hp).le
 .simp at hp;subst hp;exact h.lics.le
def spanOk(fr to_:Int):Bool:=time fr&&time to_&&decide (fr<to_)
def YH(r:Room)(need:Vec)(fr to_:Int)(v:List Int)(i:Nat):List Int :=
 bif (r.up[i]?).getD false&&V2 need (minV ((r.profs[i]?).getD []) fr to_)then v++[(i:Int)]else v
def W0J(r:Room)(need:Vec)(fr to_:Int):List Int:=bif spanOk fr to_ then(List.range r.profs.length).foldl (YH r need fr to_) []else[]
theorem JH{fr to_:Int}:spanOk fr to_=true↔time fr=true/\time to_=true/\fr<to_:=by simp[spanOk,and_assoc]
theorem X02{r:Room}(R:RoomP r)(need:Vec)(fr to_:Int):Jq r need fr to_=some (W0J r need fr to_)/\(W0J r need fr to_).length<=24:=by
 have h24:=R.topo.nodes
 have hpl:=R.profs
 unfold Jq W0J
 rw[MR,bS,XV.2 R,yL,yM]
 cases hs:spanOk fr to_ with
 |true =>
  obtain⟨q2,q3,q4⟩:=JH.1 hs
  rw[yN]
  refine(O0h (b:=([]:List Int)) (f:=YH r need fr to_) (fun i (v:List Int)=>v.length<=i) (fun j v hj hv=>?_) (fun j x v k hx hv=>?_) (yV 0)).imp (fun e=>e) fun e=>by omega
  .unfold YH
   cases(r.up[j]?).getD false&&V2 need (minV ((r.profs[j]?).getD []) fr to_)with
   |true=>rw[yN];simp;omega
   |false=>rw[yM];omega
  .have hj:=(yB hx).1
   obtain⟨u,hu⟩:∃u,r.up[j]?=some u:=⟨_,yA (by rw[R.up,← R.profs];exact hj)⟩
   unfold Vj YH
   rw[Mq,bS,yd ⟨XI.2 (R.prof _ (yE hx)),q2,q3,q4⟩,U2,hu,hx]
   simp only[yN,bS,Option.getD_some,Bool.true_and]
   cases(u&&V2 need (minV x fr to_))with
   |true=>rw[yN,yN,U0 (by simp;omega),bS]
   |false=>rfl
 |false =>
  have hn:¬ (time fr=true/\time to_=true/\fr<to_):=fun q=>by rw[JH.2 q]at hs;cases hs
  rw[yM]
  refine⟨?_,by simp⟩
  refine Ud (l0:=r.profs) (fun i (v:List Int)=>v=[]) (fun o=>o=some []) (fun i x v k hx hI hk=>?_) (fun v hI=>by rw[hI];rfl) rfl
  subst hI
  unfold Vj
  rw[Mq,bS,ye fun q=>hn q.2]
  exact hk _ rfl
noncomputable def canM(r:Room)(j:Job)(t:Int):List Int×Bool :=
 bif spanOk t (t+j.wall)&&V2 j.lic (minV r.lics t (t+j.wall))then UZ r.topo (W0J r j.need t (t+j.wall)) j.nodes j.level else([],false)
theorem V1u{r:Room}(R:RoomP r){j:Job}(hj:O0 j=true){t:Int}(ht:time t=true):MI r j t=some (canM r j t):=by
 have hw:=(Vs.1 hj).2.2.2.2.2.1
 have ht':=Yy.1 ht
 unfold MI canM
 rw[Wc (by omega),Mq,bS]
 by_cases hs:spanOk t (t+j.wall)=true
 .obtain⟨q2,q3,q4⟩:=JH.1 hs
  rw[yd ⟨XI.2 R.lics,q2,q3,q4⟩,hs,Bool.true_and]
  simp only[yL,Bool.false_or]
  cases V2 j.lic (minV r.lics t (t+j.wall))with
  |false=>rfl
  |true =>
   obtain⟨e1,e2⟩:=X02 R j.need t (t+j.wall)
   rw[yL,yM,yN,e1,bS,(U0L e2 j.nodes j.level).1]
   rfl
 .rw[ye fun q=>hs (JH.2 q.2),show spanOk t (t+j.wall)=false by simpa using hs]
  rfl
theorem J1D(fr m:Int):∀(p:List Pt) (v:List Int),m∈p.foldl (Vu fr) v->m∈v\/∃x∈p,m=x.t
 |[],_,h=>.inl h
 |x::p,v,h=>by
  rw[List.foldl_cons]at h
  rcases J1D fr m p _ h with h|⟨y,hy,e⟩
  .unfold Vu at h
   cases hc:(decide (fr<x.t)&&!v.contains x.t)with
   |false=>rw[hc,yM]at h;exact .inl h
   |true =>
    rw[hc,yN]at h
    rcases(U09 x.t m v).1 h with h|h
    .exact .inr ⟨x,yJ ..,h⟩
    .exact .inl h
  .exact .inr ⟨y,yH _ hy,e⟩
theorem W0m(fr m:Int):∀(ps:List (List Pt)) (v:List Int),m∈timesF fr ps v->m∈v\/∃p∈ps,∃x∈p,m=x.t
 |[],_,h=>.inl h
 |p::ps,v,h=>by
  have e:timesF fr (p::ps) v=timesF fr ps (p.foldl (Vu fr) v):=rfl
  rw[e]at h
  rcases W0m fr m ps _ h with h|⟨q,hq,x,hx,e⟩
  .rcases J1D fr m p v h with h|⟨x,hx,e⟩
   .exact .inl h
   .exact .inr ⟨p,yJ ..,x,hx,e⟩
  .exact .inr ⟨q,yH _ hq,x,hx,e⟩
theorem X1h{α γ:Type}{bd:α->Nat->Unit->(Unit->Option γ)->Option γ}{kk:Unit->Option γ}{p:α->Bool}{g:α->γ}:∀{l:List α} {i:Nat},(∀x∈l,∀i k,bd x i () k=bif p x then some (g x)else k ())->rgl bd kk l i ()=match l.find? p with
  |some x=>some (g x)
  |none=>kk ()
 |[],_,_=>rfl
 |x::l,i,h=>by
  rw[rgl,h x (yJ ..),List.find?_cons]
  cases p x with
  |true=>rfl
  |false=>exact X1h fun y hy=>h y (yH _ hy)
noncomputable def V1L(r:Room)(j:Job)(fr:Int):Int×List Int×Bool :=
 match(timesF fr (r.profs++[r.lics]) [fr]).find? (fun t=>(canM r j t).2)with
 |some t=>(t,(canM r j t).1,true)
 |none=>(0,[],false)
theorem V02(r:Room)(j:Job)(fr:Int):Uj r j fr=some (bif roomOk r&&O0 j&&time fr then V1L r j fr else(0,[],false)):=by
 unfold Uj
 rw[MR,bS,Jc]
 cases hr:roomOk r with
 |false=>rfl
 |true=>cases hj:O0 j with
  |false=>rfl
  |true=>cases ht:time fr with
   |false=>rfl
   |true =>
    have R:=XV.1 hr
    simp only[yL,Bool.or_self,yM,Bool.and_self,yN]
    rw[M1e R,bS]
    have hall:∀t∈timesF fr (r.profs++[r.lics]) [fr],time t=true:=fun t h=>by
     rcases W0m fr t _ _ h with h|⟨p,hp,x,hx,rfl⟩
     .rw[List.mem_singleton.1 h];exact ht
     .rcases List.mem_append.1 hp with hp|hp
      .exact((R.prof p hp).ok x hx).1
      .rw[List.mem_singleton.1 hp]at hx;exact(R.lics.ok x hx).1
    rw[X1h (p:=fun t=>(canM r j t).2) (g:=fun t=>(t,(canM r j t).1,true)) (fun t h i k=>by
     unfold Ov
     rw[V1u R hj (hall t h),bS])]
    unfold V1L Wv
    cases(timesF fr (r.profs++[r.lics]) [fr]).find? (fun t=>(canM r j t).2)<;>rfl
theorem Y18(n:Int):∀l:List Int,(rise n l).Perm (n::l)
 |[]=>.refl _
 |x::l=>by
  unfold rise
  split
  .exact .refl _
  .exact((Y18 n l).cons x).trans (.swap n x l)
theorem W0B(n:Int):∀{l:List Int},l.Pairwise (·<=·)->(rise n l).Pairwise (·<=·)
 |[],_=>by simp[rise]
 |x::l,h=>by
  unfold rise
  split
  .rename_i hx
   refine List.pairwise_cons.2 ⟨fun y hy=>?_,h⟩
   rcases yX hy with rfl|hy
   .omega
   .have:=(List.pairwise_cons.1 h).1 y hy;omega
  .rename_i hx
   refine List.pairwise_cons.2 ⟨fun y hy=>?_,W0B n (List.pairwise_cons.1 h).2⟩
   rcases(U09 n y l).1 hy with rfl|hy
   .omega
   .exact(List.pairwise_cons.1 h).1 y hy
def Q0g(n:Int)(v ys:List Int):List Int:=ys.foldl (fun v x=>if(v.length:Int)<n then v++[x]else v) v
theorem M0y(n:Int):∀(ys v:List Int),Q0g n v ys=v++ys.take (n.toNat-v.length)
 |[],v=>by simp[Q0g]
 |y::ys,v=>by
  have e:Q0g n v (y::ys)=Q0g n (if(v.length:Int)<n then v++[y]else v) ys:=rfl
  rw[e]
  by_cases h:(v.length:Int)<n
  .rw[yd h,M0y n ys,yU,List.length_singleton,show n.toNat-v.length=(n.toNat-(v.length+1))+1 by omega,List.take_succ_cons,List.append_assoc]
   rfl
  .rw[ye h,M0y n ys,show n.toNat-v.length=0 by omega]
   simp
theorem Z0q(n:Int):∀(ys v w:List Int),v.Perm w->v.Pairwise (·<=·)->(M0a n v ys).Perm (Q0g n w ys)/\(M0a n v ys).Pairwise (·<=·)
 |[],v,w,h,hs=>⟨h,hs⟩
 |y::ys,v,w,h,hs=>by
  have e:M0a n v (y::ys)=M0a n (if(v.length:Int)<n then rise y v else v) ys:=rfl
  have e2:Q0g n w (y::ys)=Q0g n (if(w.length:Int)<n then w++[y]else w) ys:=rfl
  rw[e,e2,← h.length_eq]
  by_cases hv:(v.length:Int)<n
  .rw[yd hv,yd hv]
   refine Z0q n ys _ _ ?_ (W0B y hs)
   exact(Y18 y v).trans ((h.cons y).trans (List.perm_append_singleton y w).symm)
  .rw[ye hv,ye hv]
   exact Z0q n ys _ _ h hs
theorem Z1m{v w:List Int}(h:v.Perm w)(hs:v.Pairwise (·<=·)):X0n w=v:=by
 have h1:(X0n w).Perm v:=(List.mergeSort_perm w _).trans h.symm
 have h2:(X0n w).Pairwise (·<=·):=by
  have:=List.pairwise_mergeSort (le:=fun(x y:Int)=>decide (x<=y)) (fun a b c h1 h2=>by simp at *;omega) (fun a b=>by simp;omega) w
  exact this.imp fun h=>by simpa using h
 exact List.Perm.eq_of_pairwise (le:=(·<=·)) (fun a b _ _ h1 h2=>Int.le_antisymm h1 h2) h2 hs h1
theorem O0m(n:Int)(grp:Int->List Int):∀(B w:List Int),B.foldl (fun w s=>Q0g n w (grp s)) w=w++(B.flatMap grp).take (n.toNat-w.length)
 |[],w=>by simp
 |s::B,w=>by
  rw[List.foldl_cons,O0m n grp B,M0y,ya,List.append_assoc,List.take_append,yU,List.length_take]
  congr 3
  omega
theorem V1B{t:Topo}{l taken:List Int}{s0:Nat}(h0:s0<t.parents.length)(ok0:¬ (cntU t l s0=0\/kids t.parents (s0:Int)≠[]\/(s0:Int)∈taken))
  (best:∀s,s<t.parents.length->¬ (cntU t l s=0\/kids t.parents (s:Int)≠[]\/(s:Int)∈taken)->s≠s0->cntU t l s<cntU t l s0\/(cntU t l s=cntU t l s0/\s0<s)):W0C t l taken=(s0:Int):=by
 have key:∀n,n<=t.parents.length->(n<=s0->((List.range n).foldl (MF t l taken) (-1)<0\/cntU t l ((List.range n).foldl (MF t l taken) (-1)).toNat<cntU t l s0))/\(s0<n->(List.range n).foldl (MF t l taken) (-1)=(s0:Int)):=by
  intro n
  induction n with
  |zero=>intro _;exact⟨fun _=>.inl (by simp),fun h=>by omega⟩
  |succ n ih =>
   intro hn
   obtain⟨i1,i2⟩:=ih (by omega)
   rw[List.range_succ,List.foldl_append,List.foldl_cons,List.foldl_nil]
   generalize (List.range n).foldl (MF t l taken) (-1)=v at i1 i2
   unfold MF
   by_cases hk:cntU t l n=0\/kids t.parents (n:Int)≠[]\/(n:Int)∈taken
   .rw[yd hk]
    refine⟨fun h=>i1 (by omega),fun h=>?_⟩
    by_cases e:n=s0
    .subst e;exact absurd hk ok0
    .exact i2 (by omega)
   .rw[ye hk]
    by_cases e:n=s0
    .subst e
     refine⟨fun h=>by omega,fun _=>?_⟩
     rw[yd (i1 (yV _))]
    .have b:=best n (by omega) hk e
     refine⟨fun h=>?_,fun h=>?_⟩
     .have q:=i1 (by omega)
      split
      .right;rw[yZ];omega
      .exact q
     .have q:=i2 (by omega)
      rw[q,ye]
      rintro(h|h)
      .omega
      .rw[yZ]at h;omega
 exact(key _ (yV _)).2 h0
noncomputable def grp(t:Topo)(l:List Int)(s:Int):List Int:=l.filter fun x=>decide ((lfOf t x:Int)=s)
theorem X1G{t:Topo}{l L:List Int}{n:Int}(hg:∀s,s<t.parents.length->kids t.parents (s:Int)=[]->(l.filter fun x=>hasUp t x s)=grp t l (s:Int))
  (hm:∀z∈L,∃s:Nat,z=(s:Int)/\s<t.parents.length/\kids t.parents (s:Int)=[]/\cntU t l s≠0) (hm2:∀s:Nat,s<t.parents.length->kids t.parents (s:Int)=[]->cntU t l s≠0->(s:Int)∈L) (hn:L.Nodup)
  (hs:L.Pairwise fun a b=>cntU t l b.toNat<cntU t l a.toNat\/(cntU t l b.toNat=cntU t l a.toNat/\a<b)) (hlen:n<=((L.flatMap (grp t l)).length:Int)) :
  ∀(B A v w:List Int) (fuel:Nat),L=A++B->B.length<fuel->v.Perm w->v.Pairwise (·<=·)->w=(A.flatMap (grp t l)).take n.toNat ->
   (chL t l n fuel v A).Perm (B.foldl (fun w s=>Q0g n w (grp t l s)) w)/\(chL t l n fuel v A).Pairwise (·<=·)
 |[],A,v,w,fuel+1,hL,hf,hp,hsv,hw=>by
  have hvl:=hp.length_eq
  rw[List.append_nil]at hL
  subst hL
  have:w.length=min n.toNat (L.flatMap (grp t l)).length:=by rw[hw,List.length_take]
  rw[chL,ye (by omega)]
  exact⟨hp,hsv⟩
 |s::B,A,v,w,fuel+1,hL,hf,hp,hsv,hw=>by
  have hvl:=hp.length_eq
  rw[chL]
  by_cases hv:(v.length:Int)<n
  .rw[yd hv]
   have hsL:s∈L:=by rw[hL];simp
   obtain⟨m,rfl,h1,h2,h3⟩:=hm s hsL
   rw[hL]at hn hs
   have e:W0C t l A=(m:Int):=by
    refine V1B h1 (by
     rintro(q|q|q)
     .exact h3 q
     .exact q h2
     .exact(List.nodup_append.1 hn).2.2 _ q _ (yJ ..) rfl) fun s' hs' ok' hne=>?_
    have hk':kids t.parents (s':Int)=[]:=Classical.byContradiction fun q=>ok' (.inr (.inl q))
    have hmem:=hm2 s' hs' hk' fun q=>ok' (.inl q)
    rw[hL]at hmem
    rcases List.mem_append.1 hmem with q|q
    .exact absurd (.inr (.inr q)) ok'
    .rcases yX q with q|q
     .omega
     .have:=(List.pairwise_cons.1 (List.pairwise_append.1 hs).2.1).1 _ q
      simp only[yZ]at this
      omega
   rw[e,yZ,hg m h1 h2]
   obtain⟨p1,p2⟩:=Z0q n (grp t l (m:Int)) v w hp hsv
   rw[List.foldl_cons]
   refine X1G hg hm hm2 (by rw[hL];exact hn) (by rw[hL];exact hs) hlen B (A++[(m:Int)]) _ _ fuel (by rw[hL];simp) (by simp at hf;omega) p1 p2 ?_
   rw[M0y,hw,List.flatMap_append,List.take_append,List.length_take,ya,List.flatMap_nil,List.append_nil]
   congr 2
   omega
  .rw[ye hv]
   refine⟨?_,hsv⟩
   rw[O0m,show n.toNat-w.length=0 by omega]
   simpa using hp
theorem L0U{t:Topo}{l:List Int}(h:J3 t l=true){x:Int}(hx:x∈l){s:Nat}(hk:kids t.parents (s:Int)=[]):hasUp t x s=decide ((lfOf t x:Int)=(s:Int)):=by
 obtain⟨q1,q2,q3⟩:=X1j h hx
 by_cases e:lfOf t x=s
 .rw[← e,q1];simp
 .rw[show decide ((lfOf t x:Int)=(s:Int))=false by simp;omega]
  rw[Bool.eq_false_iff]
  intro hu
  obtain⟨e1,m,r1,r2,r3⟩:=MA h hx
  have T:=(J2.1 h).1.tree
  have em:lfOf t x=m:=by unfold lfOf;rw[r1];simp only;omega
  unfold hasUp at hu
  rw[r1]at hu
  simp only[List.contains_iff_mem,r2,yZ]at hu
  obtain⟨a,ha,hae⟩:=yY hu
  have hae:a=s:=by omega
  subst hae
  obtain⟨c,hc,_⟩:=T.kid_of m r3 a ha (by omega)
  rw[hk]at hc
  cases hc
theorem Y15(t:Topo)(x:Int)(m:List Int)(s:Int):grp t (x::m) s=if(lfOf t x:Int)=s then x::grp t m s else grp t m s:=by
 unfold grp
 rw[List.filter_cons]
 by_cases e:(lfOf t x:Int)=s<;>simp[e]
theorem Z15(t:Topo)(x:Int)(m:List Int):∀L:List Int,(L.flatMap (grp t m)).length<=(L.flatMap (grp t (x::m))).length
 |[]=>yV _
 |s::L=>by
  have:=Z15 t x m L
  rw[ya,ya,yU,yU,Y15]
  split
  .simp only[yT];omega
  .omega
theorem X1w{t:Topo}{L:List Int}:∀{m:List Int},(∀x∈m,(lfOf t x:Int)∈L)->m.length<=(L.flatMap (grp t m)).length
 |[],_=>Nat.zero_le _
 |x::m,h=>by
  have ih:=X1w (L:=L) (m:=m) fun y hy=>h y (yH _ hy)
  obtain⟨A,B,e⟩:=List.append_of_mem (h x (yJ ..))
  have h1:=Z15 t x m A
  have h2:=Z15 t x m B
  have h3:(grp t (x::m) (lfOf t x:Int)).length=(grp t m (lfOf t x:Int)).length+1:=by rw[Y15,yd rfl];rfl
  rw[e]at ih ⊢
  simp only[List.flatMap_append,ya,yU,yT]at ih ⊢
  omega
theorem L0r{t:Topo}{l:List Int}(h:J3 t l=true)(hl:l.length<=1048576)(s:Nat):Uw t l (s:Int)=some (l.filter fun n=>hasUp t n s):=by
 rw[← Mb h hl s]
 unfold Uw La
 exact M0h (fun i x b k _=>by
  unfold YS Xy
  simp only[Q0j,Ob,X9]) fun _=>rfl
def swMk(t:Topo)(l:List Int)(v:Int):Int×Int×Int:=(v,if v<0 then 0 else lev t v.toNat,if v<0 then 0 else(cntU t l v.toNat:Int))
theorem X1y{t:Topo}{l:List Int}(h:J3 t l=true)(hl:l.length<=24)(n level:Int):Jw t l n level=O7 t l n (swMk t l (swF t l n level)):=by
 have T:=(J2.1 h).1
 unfold Jw
 refine Ud (fun i (b:Int×Int×Int)=>inR i ((List.range i).foldl (Zq t l n level) (-1))/\b=swMk t l ((List.range i).foldl (Zq t l n level) (-1))) (fun o=>o=O7 t l n (swMk t l (swF t l n level))) (fun i x b k hx hI hk=>?_) (fun b hI=>by rw[hI.2];rfl) ⟨⟨by simp,by simp⟩,rfl⟩
 obtain⟨hr,rfl⟩:=hI
 have hi:=(yB hx).1
 have hk2:∀b',inR (i+1) (Zq t l n level ((List.range i).foldl (Zq t l n level) (-1)) i)->b'=swMk t l (Zq t l n level ((List.range i).foldl (Zq t l n level) (-1)) i)->k b'=O7 t l n (swMk t l (swF t l n level)):=by
  intro b' q1 q2
  refine hk b' ?_
  rw[List.range_succ,List.foldl_append,List.foldl_cons,List.foldl_nil]
  exact⟨q1,q2⟩
 clear hk
 generalize (List.range i).foldl (Zq t l n level) (-1)=v at hr hk2 ⊢
 obtain⟨r1,r2⟩:=hr
 have keep:Zq t l n level v i=v->k (swMk t l v)=O7 t l n (swMk t l (swF t l n level)):=fun e=>hk2 _ (by rw[e];exact⟨r1,by omega⟩) (by rw[e])
 have take:Zq t l n level v i=(i:Int)->k ((i:Int),lev t i,(cntU t l i:Int))=O7 t l n (swMk t l (swF t l n level)):=fun e=>hk2 _ (by rw[e];exact⟨by omega,by omega⟩) (by
  rw[e];unfold swMk;rw[ye (by omega),ye (by omega),yZ])
 unfold JL
 rw[Us T hi,bS]
 by_cases c1:level<lev t i
 .rw[show decide (level<lev t i)=true by simpa using c1,yN]
  exact keep (by unfold Zq;rw[yd (.inr c1)])
 rw[show decide (level<lev t i)=false by simpa using c1,yM,L0r h (by omega) i,bS]
 rw[show(l.filter fun n=>hasUp t n i).length=cntU t l i from rfl]
 by_cases c2:(cntU t l i:Int)<n
 .rw[show decide (n<=(cntU t l i:Int))=false by simp;omega,Bool.false_and,yM]
  exact keep (by unfold Zq;rw[yd (.inl c2)])
 rw[show decide (n<=(cntU t l i:Int))=true by simp;omega,Bool.true_and]
 have hst:Zq t l n level v i=if v<0\/lev t i<lev t v.toNat\/(lev t i=lev t v.toNat/\(cntU t l i:Int)<cntU t l v.toNat)then(i:Int)else v:=by
  unfold Zq;rw[ye (by omega)]
 by_cases c3:v<0
 .rw[show decide ((swMk t l v).1<0)=true from decide_eq_true c3]
  simp only[Bool.true_or,yN]
  exact take (by rw[hst,yd (.inl c3)])
 .rw[show decide ((swMk t l v).1<0)=false from decide_eq_false c3,Bool.false_or]
  rw[show(swMk t l v).2.1=lev t v.toNat by unfold swMk;simp[c3],show(swMk t l v).2.2=(cntU t l v.toNat:Int) by unfold swMk;simp[c3]]
  by_cases c4:lev t i<lev t v.toNat
  .rw[show decide (lev t i<lev t v.toNat)=true by simpa using c4,Bool.true_or,yN]
   exact take (by rw[hst,yd (.inr (.inl c4))])
  .rw[show decide (lev t i<lev t v.toNat)=false by simpa using c4,Bool.false_or]
   by_cases c5:lev t i=lev t v.toNat/\(cntU t l i:Int)<cntU t l v.toNat
   .rw[show((lev t i==lev t v.toNat)&&decide ((cntU t l i:Int)<(cntU t l v.toNat:Int)))=true by simpa using c5,yN]
    exact take (by rw[hst,yd (.inr (.inr c5))])
   .rw[show((lev t i==lev t v.toNat)&&decide ((cntU t l i:Int)<(cntU t l v.toNat:Int)))=false by
     rw[Bool.eq_false_iff];intro q;exact c5 (by simpa using q),yM]
    rw[show((swMk t l v).1,lev t v.toNat,(cntU t l v.toNat:Int))=swMk t l v by unfold swMk;simp[c3]]
    refine keep (by rw[hst,ye];rintro(q|q|q)<;>first|exact c3 q|exact c4 q|exact c5 q)
def cntM(t:Topo)(m:List Int):List Int:=(List.range t.parents.length).map fun s=>((m.filter fun x=>decide (lfOf t x=s)).length:Int)
theorem Y1y(t:Topo)(m:List Int){s:Nat}(hs:s<t.parents.length):(cntM t m)[s]?=some ((m.filter fun x=>decide (lfOf t x=s)).length:Int):=by
 unfold cntM;simp[hs]
theorem M1k(t:Topo)(m:List Int){s:Nat}(hs:s<t.parents.length):(cntM t m).getD s 0=((grp t m (s:Int)).length:Int):=by
 rw[List.getD_eq_getElem?_getD,Y1y t m hs,Option.getD_some]
 unfold grp
 rw[show(fun x=>decide (lfOf t x=s))=fun x=>decide ((lfOf t x:Int)=(s:Int)) from by
  funext x;rw[decide_eq_decide];omega]
theorem Z1y(t:Topo)(m:List Int)(x:Int):cntM t (m++[x])=(cntM t m).set (lfOf t x) (((m.filter fun y=>decide (lfOf t y=lfOf t x)).length:Int)+1):=by
 apply List.ext_getElem
 .simp[cntM]
 .intro s h1 h2
  have hs:s<t.parents.length:=by simpa[cntM]using h1
  rw[List.getElem_set]
  unfold cntM
  simp only[List.getElem_map,List.getElem_range,List.filter_append,yU]
  by_cases e:lfOf t x=s
  .subst e;simp
  .rw[ye e];simp[e]
theorem W1e(cnt zs:List Int):(zs.mergeSort (Yl cnt)).Pairwise fun a b=>Yl cnt a b=true:=by
 refine List.pairwise_mergeSort (fun a b c h1 h2=>?_) (fun a b=>?_) zs
 .unfold Yl at *
  simp only[Bool.not_eq_true',decide_eq_false_iff_not]at *
  omega
 .unfold Yl
  simp only[Bool.or_eq_true,Bool.not_eq_true',decide_eq_false_iff_not]
  omega
theorem U0S{t:Topo}{l:List Int}(h:J3 t l=true)(hl:l.length<=24){n:Int}(hn:1<=n)(hf:Y1o l=false)(level:Int):Jw t l n level=some (UZ t l n level):=by
 have T:=(J2.1 h).1
 have hP:=T.tree.le
 rw[X1y h hl]
 unfold O7 UZ
 by_cases hs:0<=swF t l n level
 rotate_left
 .rw[ye fun q=>hs q.2.2.2,show decide ((swMk t l (swF t l n level)).1<0)=true from decide_eq_true (by show swF t l n level<0;omega),yN]
 rw[yd ⟨h,hn,hf,hs⟩,show decide ((swMk t l (swF t l n level)).1<0)=false from decide_eq_false (by show ¬ swF t l n level<0;omega),yM]
 have e1:Uw t l (swMk t l (swF t l n level)).1=some (Y0C t l n level):=by
  obtain⟨m,e⟩:∃m:Nat,swF t l n level=(m:Int):=⟨(swF t l n level).toNat,by omega⟩
  unfold Y0C
  rw[show(swMk t l (swF t l n level)).1=swF t l n level from rfl,e,yZ,L0r h (by omega) m]
 rw[e1,bS]
 have hle:(Y0C t l n level).length<=l.length:=List.length_filter_le ..
 have hmine:J3 t (Y0C t l n level)=true:=J2.2 ⟨(J2.1 h).1,fun x hx=>(J2.1 h).2 x (List.mem_filter.1 hx).1⟩
 have hnm:n<=(Y0C t l n level).length:=(Y1E hs).1
 generalize Y0C t l n level=m at hle hmine hnm ⊢
 rw[show mkL 8 (t.parents.length:Int) (0:Int)=some (List.replicate t.parents.length 0) by unfold mkL;rw[yd (by omega),yZ],bS]
 refine Ud (fun i (b:List Int×List Int)=>b.1=cntM t (m.take i)/\b.2.Nodup/\∀z,z∈b.2↔∃x∈m.take i,z=(lfOf t x:Int)) (fun o=>o=some (chL t m n (t.parents.length+1) [] [],true)) (fun i x b k hx hI hk=>?_) (fun b hI=>?_) ⟨?_,List.nodup_nil,fun z=>by simp⟩
 .obtain⟨i1,i2,i3⟩:=hI
  have hi:=(yB hx).1
  have hxm:x∈m:=yE hx
  obtain⟨e,s,r1,r2,r3⟩:=MA hmine hxm
  have es:lfOf t x=s:=by unfold lfOf;rw[r1];simp only;omega
  have htk:m.take (i+1)=m.take i++[x]:=by rw[List.take_succ_eq_append_getElem hi];rw[yA hi]at hx;rw[Option.some.inj hx]
  have hbnd:((m.take i).filter fun y=>decide (lfOf t y=s)).length<=24:=Nat.le_trans (List.length_filter_le ..) (by simp;omega)
  unfold LL
  rw[r1,bS,r2,i1,U2,Y1y t _ r3,bS,Ob,bS,Wc (by omega),yZ]
  have hset:(cntM t (m.take i)).set s (((m.take i).filter fun y=>decide (lfOf t y=s)).length+1:Int)=cntM t (m.take (i+1)):=by
   rw[htk,Z1y,es]
  have hbl:b.2.length<=24:=by
   have:=i2.length_le_of_subset (l₂:=(m.take i).map fun x=>(lfOf t x:Int)) fun z hz=>by
    obtain⟨y,hy,e⟩:=(i3 z).1 hz
    exact List.mem_map.2 ⟨y,hy,e.symm⟩
   simp at this;omega
  rw[hset]
  cases hc:b.2.contains (s:Int)with
  |true =>
   have hc:=List.contains_iff_mem.1 hc
   refine hk _ ⟨rfl,i2,fun z=>?_⟩
   rw[i3,htk]
   constructor
   .rintro⟨y,hy,e⟩;exact⟨y,by simp[hy],e⟩
   .rintro⟨y,hy,e⟩
    rcases List.mem_append.1 hy with hy|hy
    .exact⟨y,hy,e⟩
    .rw[List.mem_singleton.1 hy,es]at e
     rw[← i3,e];exact hc
  |false =>
   have hc:(s:Int)∉b.2:=fun q=>by rw[List.contains_iff_mem.2 q]at hc;cases hc
   simp only[Bool.not_false,yN]
   rw[U0 (by simp;omega),bS]
   refine hk _ ⟨rfl,?_,fun z=>?_⟩
   .rw[List.nodup_append]
    exact⟨i2,by simp,fun a ha c hc' q=>by rw[List.mem_singleton.1 hc']at q;exact hc (q ▸ ha)⟩
   .rw[List.mem_append,i3,htk,List.mem_singleton]
    constructor
    .rintro(⟨y,hy,e⟩|e)
     .exact⟨y,by simp[hy],e⟩
     .exact⟨x,by simp,by rw[es];exact e⟩
    .rintro⟨y,hy,e⟩
     rcases List.mem_append.1 hy with hy|hy
     .exact .inl ⟨y,hy,e⟩
     .rw[List.mem_singleton.1 hy,es]at e;exact .inr e
 .obtain⟨i1,i2,i3⟩:=hI
  rw[List.take_of_length_le (yV _)]at i1 i3
  unfold ML
  rw[i1]
  have lfP:∀z∈b.2,∃s:Nat,z=(s:Int)/\s<t.parents.length/\kids t.parents (s:Int)=[]/\cntU t m s≠0:=fun z hz=>by
   obtain⟨x,hx,e⟩:=(i3 z).1 hz
   obtain⟨q1,q2,q3⟩:=X1j hmine hx
   refine⟨lfOf t x,e,q2,q3,fun q=>?_⟩
   have:x∈m.filter fun n=>hasUp t n (lfOf t x):=List.mem_filter.2 ⟨hx,q1⟩
   have q:(m.filter fun n=>hasUp t n (lfOf t x)).length=0:=q
   rw[List.eq_nil_of_length_eq_zero q]at this
   cases this
  have hbl:b.2.length<=t.parents.length:=by
   have:=i2.length_le_of_subset (l₂:=(List.range t.parents.length).map fun(s:Nat)=>(s:Int)) fun z hz=>by
    obtain⟨s,e,hs,_⟩:=lfP z hz
    exact List.mem_map.2 ⟨s,List.mem_range.2 hs,e.symm⟩
   simpa using this
  have hin:V0z (cntM t m) b.2:=by
   refine⟨fun z hz=>?_,by simp[cntM];omega,fun c hc=>?_,by omega⟩
   .obtain⟨s,e,hs,_⟩:=lfP z hz
    simp[cntM];omega
   .obtain⟨s,_,rfl⟩:=yY hc
    have:(m.filter fun x=>decide (lfOf t x=s)).length<=m.length:=List.length_filter_le ..
    omega
  unfold Y09
  rw[yd hin,bS]
  have hg:∀s,s<t.parents.length->kids t.parents (s:Int)=[]->(m.filter fun x=>hasUp t x s)=grp t m (s:Int):=fun s _ hk=>by
   unfold grp
   exact List.filter_congr fun x hx=>L0U hmine hx hk
  have hmem:∀z,z∈b.2.mergeSort (Yl (cntM t m))↔z∈b.2:=fun z=>(List.mergeSort_perm b.2 _).mem_iff
  have hm2:∀s:Nat,s<t.parents.length->kids t.parents (s:Int)=[]->cntU t m s≠0->(s:Int)∈b.2.mergeSort (Yl (cntM t m)):=fun s hs hk hc=>by
   rw[hmem,i3]
   have:(m.filter fun n=>hasUp t n s)≠[]:=fun q=>hc (by unfold cntU;rw[q];rfl)
   obtain⟨x,hx⟩:=List.exists_mem_of_ne_nil _ this
   obtain⟨x1,x2⟩:=List.mem_filter.1 hx
   rw[L0U hmine x1 hk]at x2
   exact⟨x,x1,by simpa using(of_decide_eq_true x2).symm⟩
  have hnd:(b.2.mergeSort (Yl (cntM t m))).Nodup:=(List.mergeSort_perm b.2 _).nodup_iff.2 i2
  have hsort:(b.2.mergeSort (Yl (cntM t m))).Pairwise fun a c=>cntU t m c.toNat<cntU t m a.toNat\/(cntU t m c.toNat=cntU t m a.toNat/\a<c):=by
   refine List.Pairwise.imp_of_mem (fun{a c} ha hc q=>?_) ((W1e (cntM t m) b.2).and hnd)
   obtain⟨q,hne⟩:=q
   obtain⟨sa,ea,ha1,ha2,_⟩:=lfP a ((hmem a).1 ha)
   obtain⟨sc,ec,hc1,hc2,_⟩:=lfP c ((hmem c).1 hc)
   subst ea;subst ec
   unfold Yl at q
   rw[yZ,yZ,M1k t m ha1,M1k t m hc1,← hg sa ha1 ha2,← hg sc hc1 hc2]at q
   rw[yZ,yZ]
   unfold cntU
   simp only[Bool.not_eq_true',decide_eq_false_iff_not]at q
   omega
  have hlen:n<=(((b.2.mergeSort (Yl (cntM t m))).flatMap (grp t m)).length:Int):=by
   have:=X1w (t:=t) (L:=b.2.mergeSort (Yl (cntM t m))) (m:=m) fun x hx=>by rw[hmem,i3];exact⟨x,hx,rfl⟩
   omega
  have hll:(b.2.mergeSort (Yl (cntM t m))).length<t.parents.length+1:=by rw[List.length_mergeSort];omega
  obtain⟨p1,p2⟩:=X1G hg (fun z hz=>lfP z ((hmem z).1 hz)) hm2 hnd hsort hlen _ [] [] [] _ rfl hll (.refl _) .nil (by simp)
  have hmemI:∀z∈b.2.mergeSort (Yl (cntM t m)),∃s:Nat,z=(s:Int):=fun z hz=>by
   obtain⟨s,e,_⟩:=lfP z ((hmem z).1 hz)
   exact⟨s,e⟩
  generalize b.2.mergeSort (Yl (cntM t m))=L at p1 hmemI
  rw[JJ (f:=fun w s=>Q0g n w (grp t m s)) (fun s hs i w k=>by
   unfold QD
   have key:∀(ys:List Int) (i:Nat) (w:List Int),(∀y∈ys,y∈m)->rgl (Jh t n s) (OL k) ys i w=k (Q0g n w (grp t ys s)):=by
    intro ys
    induction ys with
    |nil=>intro i w _;rfl
    |cons y ys ih =>
     intro i w hy
     obtain⟨e,c,r1,r2,r3⟩:=MA hmine (hy y (yJ ..))
     have es:lfOf t y=c:=by unfold lfOf;rw[r1];simp only;omega
     have hb:∀k',Jh t n s y i w k'=if(c:Int)=s/\(w.length:Int)<n then k' (w++[y])else k' w:=fun k'=>by
      unfold Jh
      rw[r1,bS,r2]
      by_cases h1:(c:Int)=s
      .rw[show((c:Int)==s)=true by simpa using h1,Bool.true_and]
       by_cases h2:(w.length:Int)<n
       .rw[show decide ((w.length:Int)<n)=true by simpa using h2,yN,U0 (by simp;omega),bS,yd ⟨h1,h2⟩]
       .rw[show decide ((w.length:Int)<n)=false by simpa using h2,yM,ye fun q=>h2 q.2]
      .rw[show((c:Int)==s)=false by simpa using h1,Bool.false_and,yM,ye fun q=>h1 q.1]
     rw[rgl,hb,Y15,es]
     by_cases h1:(c:Int)=s
     .rw[yd h1]
      by_cases h2:(w.length:Int)<n
      .rw[yd ⟨h1,h2⟩,ih _ _ fun z hz=>hy z (yH _ hz)]
       congr 1
       unfold Q0g
       rw[List.foldl_cons,yd h2]
      .rw[ye fun q=>h2 q.2,ih _ _ fun z hz=>hy z (yH _ hz)]
       congr 1
       unfold Q0g
       rw[List.foldl_cons,ye h2]
     .rw[ye h1,ye fun q=>h1 q.1,ih _ _ fun z hz=>hy z (yH _ hz)]
   exact key m 0 w fun _ h=>h)]
  unfold UD W0X
  have hfl:((L.foldl (fun w s=>Q0g n w (grp t m s)) []).length:Int)<=24:=by
   rw[O0m]
   simp
   omega
  rw[yd (by omega),bS,Z1m p1 p2]
 .show List.replicate t.parents.length 0=cntM t []
  unfold cntM
  rw[eq_comm,List.eq_replicate_iff]
  exact⟨by simp,fun b hb=>by obtain⟨_,_,rfl⟩:=yY hb;rfl⟩
theorem O0x{r:Room}(R:RoomP r)(need:Vec){fr to_:Int}(hs:spanOk fr to_=true):Qs r need fr to_=some (W0J r need fr to_):=by
 have h24:=R.topo.nodes
 have hpl:=R.profs
 unfold Qs W0J
 rw[hs,yN]
 refine(O0h (b:=([]:List Int)) (f:=YH r need fr to_) (fun i (v:List Int)=>v.length<=i) (fun j v hj hv=>?_) (fun j x v k hx hv=>?_) (yV 0)).1
 .unfold YH
  cases(r.up[j]?).getD false&&V2 need (minV ((r.profs[j]?).getD []) fr to_)with
  |true=>rw[yN];simp;omega
  |false=>rw[yM];omega
 .have hj:=(yB hx).1
  obtain⟨u,hu⟩:∃u,r.up[j]?=some u:=⟨_,yA (by rw[R.up,← R.profs];exact hj)⟩
  unfold Ow YH
  rw[U2,hu,hx]
  simp only[bS,Option.getD_some,L05]
  cases u with
  |false=>rfl
  |true =>
   rw[yN,V0j (R.prof _ (yE hx)),bS,Bool.true_and]
   cases V2 need (minV x fr to_)with
   |true=>rw[yN,yN,U0 (by simp;omega),bS]
   |false=>rfl
theorem V1x{r:Room}(R:RoomP r)(need:Vec)(fr to_:Int):(W0J r need fr to_).Pairwise (· < ·)/\∀z∈W0J r need fr to_,0<=z/\z<r.topo.nodes.length:=by
 have hpl:=R.profs
 unfold W0J
 cases spanOk fr to_ with
 |false=>exact⟨List.Pairwise.nil,fun z hz=>by simp at hz⟩
 |true =>
  rw[yN,← hpl]
  generalize r.profs.length=n
  induction n with
  |zero=>exact⟨List.Pairwise.nil,fun z hz=>by simp at hz⟩
  |succ n ih =>
   obtain⟨i1,i2⟩:=ih
   rw[List.range_succ,List.foldl_append,List.foldl_cons,List.foldl_nil]
   generalize (List.range n).foldl (YH r need fr to_) []=v at i1 i2
   unfold YH
   cases(r.up[n]?).getD false&&V2 need (minV ((r.profs[n]?).getD []) fr to_)with
   |false=>exact⟨i1,fun z hz=>by have:=i2 z hz;omega⟩
   |true =>
    rw[yN]
    refine⟨List.pairwise_append.2 ⟨i1,List.pairwise_singleton ..,fun a ha b hb=>?_⟩,fun z hz=>?_⟩
    .rw[List.mem_singleton.1 hb];have:=i2 a ha;omega
    .rcases List.mem_append.1 hz with hz|hz
     .have:=i2 z hz;omega
     .rw[List.mem_singleton.1 hz];omega
theorem Z1x{l:List Int}(h:l.Pairwise (· < ·)):Y1o l=false:=by
 unfold Y1o
 rw[List.any_eq_false]
 rintro⟨x,i⟩ hq
 obtain⟨hi,e⟩:∃hi:i<l.length,x=l[i]:=by
  have hx:=List.mem_zipIdx hq
  simp only[Nat.zero_le,Nat.zero_add,Nat.sub_zero,true_and]at hx
  obtain⟨hi,e⟩:=hx
  exact⟨hi,e⟩
 clear hq
 simp only[yD,yO,not_and]
 intro h0 hle
 have h0:0<i:=by omega
 unfold M1m at hle
 rw[yd h0,yA (by omega),Option.getD_some]at hle
 subst e
 have:=List.pairwise_iff_getElem.1 h (i-1) i (by omega) hi (by omega)
 omega
theorem O0B(n:Int):∀{l:List Int},l.Pairwise (· < ·)->n∉l->(rise n l).Pairwise (· < ·)
 |[],_,_=>by simp[rise]
 |x::l,h,hn=>by
  have hx:n≠x:=fun e=>hn (by simp[e])
  unfold rise
  split
  .rename_i hlt
   refine List.pairwise_cons.2 ⟨fun y hy=>?_,h⟩
   rcases yX hy with rfl|hy
   .exact hlt
   .have:=(List.pairwise_cons.1 h).1 y hy;omega
  .refine List.pairwise_cons.2 ⟨fun y hy=>?_,O0B n (List.pairwise_cons.1 h).2 fun q=>hn (yH _ q)⟩
   rcases(U09 n y l).1 hy with rfl|hy
   .omega
   .exact(List.pairwise_cons.1 h).1 y hy
theorem Q0W(fr:Int){v:List Int}(h:v.Pairwise (· < ·))(x:Pt):(Vu fr v x).Pairwise (· < ·):=by
 unfold Vu
 cases hc:(decide (fr<x.t)&&!v.contains x.t)with
 |false=>exact h
 |true =>
  rw[yN]
  simp only[yD,Bool.not_eq_true']at hc
  exact O0B _ h fun q=>by rw[List.contains_iff_mem.2 q]at hc;cases hc.2
theorem V0g(fr:Int)(ps:List (List Pt)){v:List Int}(h:v.Pairwise (· < ·)):(timesF fr ps v).Pairwise (· < ·) :=
 L0j (fun v:List Int=>v.Pairwise (· < ·)) (fun v p hv=>L0j (fun v:List Int=>v.Pairwise (· < ·)) (fun _ x hv=>Q0W fr hv x) p v hv) ps v h
theorem Z1E(fr m:Int):∀(p:List Pt) (v:List Int),m∈p.foldl (Vu fr) v↔m∈v\/∃x∈p,fr<x.t/\m=x.t
 |[],v=>by simp
 |x::p,v=>by
  have h1:m∈Vu fr v x↔m∈v\/(fr<x.t/\m=x.t):=by
   unfold Vu
   by_cases hx:fr<x.t
   .rw[show decide (fr<x.t)=true by simpa using hx,Bool.true_and]
    cases hc:v.contains x.t with
    |true =>
     have:=List.contains_iff_mem.1 hc
     simp only[yL,yM]
     exact⟨.inl,fun q=>q.elim id fun q=>q.2 ▸ this⟩
    |false =>
     simp only[Bool.not_false,yN]
     rw[U09]
     exact⟨fun q=>q.elim (fun e=>.inr ⟨hx,e⟩) .inl,fun q=>q.elim .inr fun e=>.inl e.2⟩
   .rw[show decide (fr<x.t)=false by simpa using hx,Bool.false_and,yM]
    exact⟨.inl,fun q=>q.elim id fun q=>absurd q.1 hx⟩
  rw[List.foldl_cons,Z1E fr m p,h1]
  simp only[List.mem_cons,exists_eq_or_imp,or_assoc]
theorem U0T(fr m:Int):∀(ps:List (List Pt)) (v:List Int),m∈timesF fr ps v↔m∈v\/∃p∈ps,∃x∈p,fr<x.t/\m=x.t
 |[],v=>by simp[timesF]
 |p::ps,v=>by
  have e:timesF fr (p::ps) v=timesF fr ps (p.foldl (Vu fr) v):=rfl
  rw[e,U0T fr m ps,Z1E]
  simp only[List.mem_cons,exists_eq_or_imp,or_assoc]
def ptsF(fr:Int)(p:List Pt):List Int:=(p.filter fun x=>decide (fr<x.t)).map Pt.t
theorem V1n{r:Room}(R:RoomP r)(j:Job)(fr:Int):((appL 24 [r.lics] r.profs).bind fun xs5=>rgl (Vk fr) (Yk r j) xs5 0 [fr])=rgl (W9 r j) Jd (timesF fr (r.profs++[r.lics]) [fr]) 0 ():=by
 have h1:=R.topo.nodes
 have h2:=R.profs
 rw[U0 (by simp;omega),bS]
 have hle:∀p∈[r.lics]++r.profs,p.length<=200:=fun p hp=>by
  rcases List.mem_append.1 hp with hp|hp
  .simp at hp;subst hp;exact R.lics.le
  .exact(R.prof p hp).le
 refine Ud (l0:=[r.lics]++r.profs) (fun i (v:List Int)=>v=[fr]++(([r.lics]++r.profs).take i).flatMap (ptsF fr)/\v.length<=1+200*i) (fun o=>o=rgl (W9 r j) Jd (timesF fr (r.profs++[r.lics]) [fr]) 0 ()) (fun i p v k hx hI hk=>?_) (fun v hI=>?_) ⟨by simp,by simp⟩
 .obtain⟨i1,i2⟩:=hI
  have hi:=(yB hx).1
  have hp:=hle p (yE hx)
  simp only[yU,List.length_singleton]at hi
  unfold Vk
  rw[Z7 (bd:=Ox fr) (bs:=8) (p:=fun x:Pt=>decide (fr<x.t)) (f:=Pt.t) (fun x _ i b k=>rfl) (by omega)]
  unfold Wx
  refine hk _ ⟨?_,?_⟩
  .rw[List.take_succ_eq_append_getElem (by simp;omega),List.flatMap_append,ya,List.flatMap_nil,List.append_nil,i1,List.append_assoc]
   rw[yA (by simp;omega)]at hx
   rw[Option.some.inj hx];rfl
  .have:(p.filter fun x:Pt=>decide (fr<x.t)).length<=p.length:=List.length_filter_le ..
   simp only[yU,List.length_map];omega
 .obtain⟨i1,i2⟩:=hI
  rw[List.take_of_length_le (yV _)]at i1
  unfold Yk W0X
  have hl:v.length<4611686018427387904:=by simp at i2;omega
  rw[yd hl,bS]
  obtain⟨s1,s2⟩:=Q0T v
  obtain⟨c1,c2⟩:=W0s s1
  rw[V0n c1 (V0g fr (r.profs++[r.lics]) (v:=[fr]) (by simp)) fun x=>?_]
  rw[c2,s2,i1,U0T]
  simp only[List.mem_append,List.mem_flatMap,ptsF,List.mem_map,List.mem_filter,yO]
  constructor
  .rintro(q|⟨p,hp,y,⟨hy,hlt⟩,rfl⟩)
   .exact .inl q
   .exact .inr ⟨p,hp.symm,y,hy,hlt,rfl⟩
  .rintro(q|⟨p,hp,y,hy,hlt,rfl⟩)
   .exact .inl q
   .exact .inr ⟨p,hp.symm,y,⟨hy,hlt⟩,rfl⟩
theorem M1b{r:Room}(R:RoomP r){j:Job}(hj:O0 j=true):∀(l:List Int) (i:Nat),l.Pairwise (· < ·)->(∀t∈l,time t=true)->rgl (W9 r j) Jd l i ()=some (match l.find? (fun t=>(canM r j t).2)with
  |some t=>(t,(canM r j t).1,true)
  |none=>(0,[],false))
 |[],_,_,_=>rfl
 |t::l,i,hs,ht=>by
  have hw:=(Vs.1 hj).2.2.2.2.2.1
  have hnn:=(Vs.1 hj).2.2.1
  have ht0:=Yy.1 (ht t (yJ ..))
  obtain⟨s1,s2⟩:=List.pairwise_cons.1 hs
  rw[rgl]
  unfold W9
  rw[Wc (by omega)]
  have far:∀t',1000000000<t'+j.wall->(canM r j t').2=false:=fun t' h=>by
   have:spanOk t' (t'+j.wall)=false:=by
    rw[Bool.eq_false_iff];intro q
    have:=Yy.1 (JH.1 q).2.1
    omega
   unfold canM;rw[this];rfl
  by_cases hb:1000000000<t+j.wall
  .rw[show decide (1000000000<t+j.wall)=true by simpa using hb,yN]
   have:(t::l).find? (fun t=>(canM r j t).2)=none:=by
    rw[List.find?_eq_none]
    intro t' h'
    have:1000000000<t'+j.wall:=by
     rcases yX h' with rfl|h'
     .exact hb
     .have:=s1 t' h';omega
    rw[far t' this];simp
   rw[this];rfl
  rw[show decide (1000000000<t+j.wall)=false by simpa using hb,yM,V0j R.lics,bS,L05,List.find?_cons]
  have hspan:spanOk t (t+j.wall)=true:=JH.2 ⟨ht t (yJ ..),Yy.2 (by omega),by omega⟩
  have ih:=M1b R hj l (i+1) s2 fun t' h'=>ht t' (yH _ h')
  cases hfit:V2 j.lic (minV r.lics t (t+j.wall))with
  |false =>
   have:(canM r j t).2=false:=by unfold canM;rw[hfit,Bool.and_false];rfl
   rw[this]
   exact ih
  |true =>
   obtain⟨a1,a2⟩:=V1x R j.need t (t+j.wall)
   have hno:J3 r.topo (W0J r j.need t (t+j.wall))=true:=J2.2 ⟨R.topo,a2⟩
   have hl:=(X02 R j.need t (t+j.wall)).2
   have e:canM r j t=UZ r.topo (W0J r j.need t (t+j.wall)) j.nodes j.level:=by unfold canM;rw[hspan,hfit];rfl
   simp only[yL,yM]
   rw[O0x R j.need hspan,bS,U0S hno hl hnn.1 (Z1x a1) j.level,bS,← e]
   cases h:(canM r j t).2 with
   |true=>rfl
   |false=>exact ih
theorem U0y(r:Room)(j:Job)(fr:Int):Uk r j fr=some (bif roomOk r&&O0 j&&time fr then V1L r j fr else(0,[],false)):=by
 unfold Uk
 rw[X0c,bS,Zk,XS]
 cases hr:roomOk r with
 |false=>rfl
 |true=>cases hj:O0 j with
  |false=>rfl
  |true=>cases ht:time fr with
   |false=>rfl
   |true =>
    have R:=XV.1 hr
    simp only[yL,Bool.or_self,yM,Bool.and_self,yN]
    rw[V1n R]
    have hall:∀t∈timesF fr (r.profs++[r.lics]) [fr],time t=true:=fun t h=>by
     rcases W0m fr t _ _ h with h|⟨p,hp,x,hx,rfl⟩
     .rw[List.mem_singleton.1 h];exact ht
     .rcases List.mem_append.1 hp with hp|hp
      .exact((R.prof p hp).ok x hx).1
      .rw[List.mem_singleton.1 hp]at hx;exact(R.lics.ok x hx).1
    rw[M1b R hj _ 0 (V0g fr _ (by simp)) hall]
    rfl
theorem J1f(r:Room)(j:Job)(fr:Int):Uk r j fr=Uj r j fr:=by rw[U0y,V02]
end Go.Proofs.YtodafdoninblmaaGreat
namespace Go.Proofs.YtodafdoninblmaaGreat
open Go Go.RowKit Eng Go.Sort
theorem U0f{α:Type}{k:Nat}{enc:α->List Value}(hk:∀x,(enc x).length=k):∀(l:List α) (i c:Nat),c<k->(l.flatMap enc)[i*k+c]?=l[i]?.bind fun x=>(enc x)[c]?
 |[],i,c,_=>by simp
 |x::l,0,c,hc=>by
  rw[ya,yK (by rw[hk];omega)]
  simp
 |x::l,i+1,c,hc=>by
  rw[ya,yS (by rw[hk,Nat.succ_mul];omega),hk]
  have:(i+1)*k+c-k=i*k+c:=by rw[Nat.succ_mul];omega
  rw[this,U0f hk l i c hc]
  simp
theorem X1f{α:Type}{k:Nat}{enc:α->List Value}(hk:∀x,(enc x).length=k)(l:List α):(l.flatMap enc).length=l.length*k:=by
 induction l with
 |nil=>simp
 |cons x l ih=>rw[ya,yU,ih,hk,yT,Nat.succ_mul];omega
theorem J1n{α:Type}[Inhabited α]{k:Nat}(h0:0<k){enc:α->List Value}(hk:∀x,(enc x).length=k)(l:List α):(flatK enc k l.toArray).toList=l.flatMap enc:=by
 apply List.ext_getElem (by rw[X1f hk];simp)
 intro t h1 h2
 have ht:t<l.length*k:=by simpa using h1
 have hi:t / k<l.length:=Nat.div_lt_of_lt_mul (by rw[Nat.mul_comm];exact ht)
 have hc:t % k<k:=Nat.mod_lt _ h0
 have e:=U0f hk l (t / k) (t % k) hc
 have e2:t / k*k+t % k=t:=by rw[Nat.mul_comm];exact Nat.div_add_mod t k
 rw[e2,yA h2,yA hi]at e
 simp only[bS]at e
 rw[yA (by rw[hk];exact hc)]at e
 rw[Option.some.inj e]
 simp only[flatK,Array.toList_map,List.getElem_map,Array.getElem_toList,Array.getElem_range]
 rw[getElem!_pos l.toArray (t / k) (by simpa using hi)]
 simp only[List.getElem_toArray]
 rw[getElem!_pos _ (t % k) (by rw[hk];exact hc)]
theorem O1n{w:World}{b:Nat}{cur F:Array Value}{ty:TypeId}(h1:w.heap[b]?=some (.cells cur ty (0,0)))(h5:cur.toList.take F.size=F.toList):Holds id w b 0 F:=by
 intro j hj
 refine⟨?_,frozen_of_row w b (0+j) cur ty h1⟩
 have hc:cur[j]?=some F[j]:=by
  have:=congrArg (·[j]?) h5
  simp only[List.getElem?_take,hj,yb,Array.getElem?_toList,Array.getElem?_eq_getElem hj]at this
  exact this
 simp only[World.cell?,h1,Option.isSome_none,yG,yc,Nat.zero_add]
 rw[hc]
 simp[hj]
theorem Z1e{w:World}{b:Nat}{cur F:Array Value}{ty:TypeId}(h1:w.heap[b]?=some (.cells cur ty (0,0)))(h2:F.size<=cur.size)(n:Nat)(os:Array Obj) :
  ∃cur':Array Value,(grow (putRow id (Sort.ahead w n) b 0 F) os).heap[b]?=some (.cells cur' ty (0,0))/\cur'.size=cur.size/\cur'.toList.take F.size=F.toList /\
   w.heap.size<=(grow (putRow id (Sort.ahead w n) b 0 F) os).heap.size/\∀k,k<w.heap.size->k≠b->(grow (putRow id (Sort.ahead w n) b 0 F) os).heap[k]?=w.heap[k]?:=by
 have hb:b<w.heap.size:=(Array.getElem?_eq_some_iff.1 h1).1
 have hg:∀k,k<w.heap.size->(grow (putRow id (Sort.ahead w n) b 0 F) os).heap[k]?=(w.heap.modify b (onCells (putCells id 0 F)))[k]?:=by
  intro k hk
  simp only[grow,putRow,mapBlock,Sort.ahead]
  rw[Array.getElem?_append_left (by simpa using hk)]
 refine⟨putCells id 0 F cur,?_,?_,?_,?_,fun k hk hne=>?_⟩
 .rw[hg b hb,Array.getElem?_modify];simp only[yb,h1];rfl
 .simp[putCells]
 .apply List.ext_getElem
  .simp[putCells];omega
  .intro j q1 q2
   have hj:j<F.size:=by simpa using q2
   simp[putCells,hj]
 .simp[grow,putRow,mapBlock,Sort.ahead]
 .rw[hg k hk,Array.getElem?_modify,ye (fun e=>hne e.symm)]
def M1u(l:List Job):Prop:=(l.map (·.id)).Nodup/\(∀j∈l,-2305843009213693952<=j.prio/\j.prio<=2305843009213693952/\-2305843009213693952<=j.id/\j.id<=2305843009213693952)/\l.length<4611686018427387904
instance(l:List Job):Decidable (M1u l):=by unfold M1u;infer_instance
end Go.Proofs.YtodafdoninblmaaGreat
namespace Go.Proofs.YtodafdoninblmaaGreat
open Go Go.RowKit Eng
def Y0G:L :=
.seq (rE 2 (cB false))
 (.seq (sR [mV 6 0,.ln 7 6,.bi 8 .gtr 7 (kI 60)]
 (.cond 8 (.seq (rE 2 (cB false))
 gR)
 .skip))
 (.seq (sR [mV 9 0,.ln 10 9,.mv 11 (kI 0)]
 (.blk 0 (.loop (.gw (sR [bI 12 .lss 11 10]
 (.seq (.cond 12 .skip
 (.exit 0))
 (.seq (.blk 1 (sR [mV 13 11,iA 14 9 11 11,lT 15 14 11,.al 4 [.int .i64 0,.int .i64 0,.int .i64 0,.int .i64 0,.int .i64 0,.int .i64 0,.int .i64 0,.int .i64 0,.int .i64 0,.int .i64 0,.int .i64 0],mV 3 13,.st 4 15 11]
 (.seq (sR [lT 16 4 11,cQ 17 Mp [16],.un 18 17]
 (.cond 18 (.seq (rE 2 (cB false))
 gR)
 .skip))
 (.seq (rE 5 (kI 0))
 (.blk 2 (.loop (.gw (.seq (sR [mV 19 5,mV 20 3,bI 21 .lss 19 20]
 (.cond 21 .skip
 (.exit 2)))
 (.seq (.blk 3 (.seq (.rq 8 [mV 24 0,mV 25 5,iA 26 24 25 11,fA 27 26 0,lF 28 27 1,fA 29 4 0,lF 30 29 1,bI 31 .eql 28 30])
 (.cond 31 (.seq (rE 2 (cB false))
 gR)
 .skip)))
 (.reg [mV 22 5,.bi 23 .add 22 (kI 1),mV 5 23]))))))))))
 (.reg [.bi 32 .add 11 (kI 1),mV 11 32]))))))))
 (.seq (rE 2 (cB true))
 gR)))
def Vf(l1:List Job)(i4:Nat)(x4:Job)(k4:Unit->Option Bool)(v5:Int)(k5:Int->Option Bool):Option Bool :=
 bif (decide (v5<(i4:Int)))then((idx l1 v5).bind fun e6=>bif (e6.id==x4.id)then(some false)else(k5 (w64 (v5+1))))else(k4 ())
def JC(l1:List Job)(x4:Job)(i4:Nat)(_:Unit)(k4:Unit->Option Bool):Option Bool :=
 bif (!(O0 x4))then(some false)else(whl (Vf l1 i4 x4 k4) 9223372036854775807 0)
def LC(_:Unit):Option Bool :=
 some true
def WA(l1:List Job):Option Bool :=
 bif (decide (60<(l1.length:Int)))then(some false)else(rgl (JC l1) LC l1 0 ())
theorem O0A{l1:List Job}{r:Bool}(H:WA l1=some r):Snd Tryz.prog V0d [rV 11 (l1.map eJob)] (.bool r) []:=by
 refine wS Y0G [.t 2] ?_
 unfold WA at H
 refine wG [.u 7 (.ln _ _ fun _=>lm l1 eJob)] fun q2=>?_
 refine V0 H (fun H=>?_) fun H=>?_
 .obtain rfl:=sI H
  exact wP (wE [(2,.d)])
 .refine wG [.u 10 (.ln _ _ fun _=>lm l1 eJob)] fun q3=>?_
  refine wR (fun(i4:Nat) (v4:Unit)=>⟨[(0,rV 11 (l1.map eJob)),(9,rV 11 (l1.map eJob)),(10,iV (l1.length:Int)),(11,iV (i4:Int))],[],[],[]⟩) H (fun i4 x4 v4 I m k4 hxv4 hiv4 H N48=>?_) (fun v4 I m H=>?_)
  .unfold JC at H
   refine wP ?_
   refine wt (ltT hiv4) ?_
   refine wG [.u 14 (.ix _ _ _ fun _=>Y0 eJob (Q0 hxv4)),.c 17 (QF x4)] fun _=>?_
   refine V0 H (fun H=>?_) fun H=>?_
   .obtain rfl:=sI H
    exact wP (wE [(2,.d)])
   .refine wP ?_
    refine wW (fun(v5:Int)=>⟨[(0,rV 11 (l1.map eJob)),(3,iV (i4:Int)),(4,.ptr 4 0),(5,iV v5),(9,rV 11 (l1.map eJob)),(10,iV (l1.length:Int)),(11,iV (i4:Int))],[],[(4,(eJob x4).cells)],[]⟩) H (fun v5 I m k5 H N38=>?_)
    unfold Vf at H
    refine wP ?_
    refine V0 H (fun H=>?_) fun H=>?_
    .obtain⟨e6,h6,H⟩:=bB H
     refine wG [.u 26 (.ix _ _ _ fun _=>Y0 eJob h6)] fun _=>?_
     refine V0 H (fun H=>?_) fun H=>?_
     .obtain rfl:=sI H
      exact wP (wE [(2,.d)])
     .refine wP ?_
      exact wT (N38 _ H)
    .refine wG [.w 32 (wi .i64 rfl hiv4 q2.1)] fun _=>?_
     exact wT (N48 () H)
  .unfold LC at H
   refine wP ?_
   refine wf (ltF l1.length) ?_
   obtain rfl:=sI H
   exact wP (wE [(2,.d)])
def Z0F:L :=
sR [.al 4 [.int .i64 0,.int .i64 0,.int .i64 0,.int .i64 0,.int .i64 0,.int .i64 0,.int .i64 0,.int .i64 0,.int .i64 0,.int .i64 0,.int .i64 0],.mv 5 (cB false)]
 (.seq (sR [mV 8 0,.ln 9 8,.mv 10 (kI 0)]
 (.blk 0 (.loop (.gw (sR [bI 11 .lss 10 9]
 (.seq (.cond 11 .skip
 (.exit 0))
 (.seq (.blk 1 (sR [iA 12 8 10 11,lT 13 12 11,.al 7 [.int .i64 0,.int .i64 0,.int .i64 0,.int .i64 0,.int .i64 0,.int .i64 0,.int .i64 0,.int .i64 0,.int .i64 0,.int .i64 0,.int .i64 0],.st 7 13 11]
 (sR [fA 14 7 0,lF 15 14 1,mV 16 1,bI 17 .eql 15 16]
 (.cond 17 (sR [lT 18 7 11,.st 4 18 11,.mv 5 (cB true)]
 gR)
 .skip))))
 (.reg [.bi 19 .add 10 (kI 1),mV 10 19]))))))))
 (sR [.bd 20 [.int .i64 0,.int .i64 0,.int .i64 0,.int .i64 0,.int .i64 0,.int .i64 0,.int .i64 0,.int .i64 0,.int .i64 0,.int .i64 0,.int .i64 0] [],.st 4 20 11,.mv 5 (cB false)]
 gR))
def ZC(id2:Int)(x4:Job)(_:Nat)(_:Unit)(k4:Unit->Option (Job×Bool)):Option (Job×Bool) :=
 bif (x4.id==id2)then(some (x4,true))else(k4 ())
def Q01(_:Unit):Option (Job×Bool) :=
 some ((Job.mk 0 0 0 (Vec.mk 0 0 0) (Vec.mk 0 0 0) 0 0),false)
def UA(l1:List Job)(id2:Int):Option (Job×Bool) :=
 rgl (ZC id2) Q01 l1 0 ()
theorem Z0A{l1:List Job}{id2:Int}{r:Job×Bool}(H:UA l1 id2=some r):Snd Tryz.prog J0c [rV 11 (l1.map eJob),iV id2] (.tup [eJob r.1,.bool r.2]) []:=by
 refine wS Z0F [.c 4 11 true,.t 5] ?_
 unfold UA at H
 refine wG [.u 9 (.ln _ _ fun _=>lm l1 eJob)] fun q3=>?_
 refine wR (fun(i4:Nat) (v4:Unit)=>⟨[(1,iV id2),(4,.ptr 4 0),(8,rV 11 (l1.map eJob)),(9,iV (l1.length:Int)),(10,iV (i4:Int))],[],[(4,(eJob (Job.mk 0 0 0 (Vec.mk 0 0 0) (Vec.mk 0 0 0) 0 0)).cells)],[]⟩) H (fun i4 x4 v4 I m k4 hxv4 hiv4 H N20=>?_) (fun v4 I m H=>?_)
 .unfold ZC at H
  refine wP ?_
  refine wt (ltT hiv4) ?_
  refine wG [.u 12 (.ix _ _ _ fun _=>Y0 eJob (Q0 hxv4))] fun _=>?_
  refine V0 H (fun H=>?_) fun H=>?_
  .refine wP ?_
   replace H:=sI H;subst H
   exact wN [(4,.d),(5,.d)] [(4,[])] [] [] [] []
  .refine wG [.w 19 (wi .i64 rfl hiv4 q3.1)] fun _=>?_
   exact wT (N20 () H)
 .unfold Q01 at H
  refine wP ?_
  refine wf (ltF l1.length) ?_
  refine wP ?_
  replace H:=sI H;subst H
  exact wN [(4,.d),(5,.d)] [(4,[])] [] [] [] []
def Y0p:L :=
sR [.bx 2 0,.mv 3 (cB false)]
 (sR [fA 4 2 0,lF 5 4 1,fA 6 1 0,lF 7 6 1,bI 8 .eql 5 7,mV 3 8]
 gR)
def On(k1 x2:Job):Option Bool :=
 some (k1.id==x2.id)
theorem V0f{k1 x2:Job}{r:Bool}(H:On k1 x2=some r):Snd Tryz.prog Vb [eJob k1,.ept (eJob x2) 0] (.bool r) []:=by
 refine wS Y0p [.t 3] ?_
 unfold On at H
 obtain rfl:=sI H
 exact wP (wE [(3,.d)])
def Ol(k1 x2:Job):Bool :=
 (k1.id==x2.id)
theorem X0y(k1 x2:Job):On k1 x2=some (Ol k1 x2):=by
 unfold On Ol
 first|rfl|simp only[Z2]
theorem O0p(k1 x2:Job):Snd Tryz.prog Vb [eJob k1,.ept (eJob x2) 0] (.bool (Ol k1 x2)) []:=V0f (X0y k1 x2)
def Q9:L :=
.seq (rE 4 (kI 0))
 (.seq (sR [mV 6 0,.ln 7 6,.mv 8 (kI 0)]
 (.blk 0 (.loop (.gw (sR [bI 9 .lss 8 7]
 (.seq (.cond 9 .skip
 (.exit 0))
 (.seq (.blk 1 (sR [mV 10 8,mV 5 10]
 (sR [mV 11 1,mV 12 0,mV 13 5,iA 14 12 13 11,lT 15 14 11,.cc 16 11 [15]]
 (.cond 16 (sR [mV 17 5,mV 4 17]
 gR)
 .skip))))
 (.reg [.bi 18 .add 8 (kI 1),mV 8 18]))))))))
 (.seq (rE 4 (kI (-1)))
 gR))
def Z1(c2 x4:Job)(i4:Nat)(_:Unit)(k4:Unit->Option Int):Option Int :=
 bif (Ol x4 c2)then(some (i4:Int))else(k4 ())
def Y2(_:Unit):Option Int :=
 some (-1)
def U1(s1:List Job)(c2:Job):Option Int :=
 rgl (Z1 c2) Y2 s1 0 ()
theorem U9{s1:List Job}{c2:Job}{r:Int}(H:U1 s1 c2=some r):Snd Tryz.prog O3 [rV 11 (s1.map eJob),.fn Vb [.ept (eJob c2) 0]] (iV r) []:=by
 refine wS Q9 [.t 4] ?_
 unfold U1 at H
 refine wG [.u 7 (.ln _ _ fun _=>lm s1 eJob)] fun q3=>?_
 refine wR (fun(i4:Nat) (v4:Unit)=>⟨[(0,rV 11 (s1.map eJob)),(1,.fn Vb [.ept (eJob c2) 0]),(7,iV (s1.length:Int)),(8,iV (i4:Int))],[],[],[]⟩) H (fun i4 x4 v4 I m k4 hxv4 hiv4 H N20=>?_) (fun v4 I m H=>?_)
 .unfold Z1 at H
  refine wP ?_
  refine wt (ltT hiv4) ?_
  refine wG [.u 14 (.ix _ _ _ fun _=>Y0 eJob (Q0 hxv4)),.u 16 (.clsr _ _ _ _ _ (AEs.refl _) (by kernel_rfl) (fun _=>O0p x4 c2))] fun _=>?_
  refine V0 H (fun H=>?_) fun H=>?_
  .refine wP ?_
   replace H:=sI H;subst H
   exact wE [(4,.d)]
  .refine wG [.w 18 (wi .i64 rfl hiv4 q3.1)] fun _=>?_
   exact wT (N20 () H)
 .unfold Y2 at H
  refine wP ?_
  refine wf (ltF s1.length) ?_
  obtain rfl:=sI H
  exact wP (wE [(4,.d)])
def O8:L :=
.seq (rE 4 (cB false))
 (sR [mV 5 0,mV 6 1,cQ 7 O3 [5,6],.bi 8 .geq 7 (kI 0),mV 4 8]
 gR)
def W0(s1:List Job)(c2:Job):Option Bool :=
 (U1 s1 c2).bind fun n3=>some (decide (0<=n3))
theorem Q8{s1:List Job}{c2:Job}{r:Bool}(H:W0 s1 c2=some r):Snd Tryz.prog J7 [rV 11 (s1.map eJob),.fn Vb [.ept (eJob c2) 0]] (.bool r) []:=by
 refine wS O8 [.t 4] ?_
 unfold W0 at H
 obtain⟨n3,h3,H⟩:=bB H
 refine wG [.c 7 (U9 h3)] fun _=>?_
 replace H:=sI H;subst H
 exact wE [(4,.d)]
def O0H:L :=
.seq (rE 2 (cB false))
 (.seq (sR [mV 5 0,.ln 6 5,.mv 7 (kI 0)]
 (.blk 0 (.loop (.gw (sR [bI 8 .lss 7 6]
 (.seq (.cond 8 .skip
 (.exit 0))
 (.seq (.blk 1 (sR [mV 9 7,iA 10 5 7 11,lT 11 10 11,.al 4 [.int .i64 0,.int .i64 0,.int .i64 0,.int .i64 0,.int .i64 0,.int .i64 0,.int .i64 0,.int .i64 0,.int .i64 0,.int .i64 0,.int .i64 0],mV 3 9,.st 4 11 11]
 (sR [.fb 4,lT 12 4 11,cQ 13 Qi [12],.un 14 13,mV 15 14,gF 15 (mV 16 0),gF 15 (mV 17 3),gF 15 (.sc 18 16 none (some 17) 11),gF 15 (.mf 19 Vb [4]),gF 15 (cQ 20 J7 [18,19]),.pk 21 15 (cB true) 20]
 (.cond 21 (.seq (rE 2 (cB false))
 gR)
 .skip))))
 (.reg [.bi 22 .add 7 (kI 1),mV 7 22]))))))))
 (sR [mV 23 0,.ln 24 23,.bi 25 .leq 24 (kI 60),mV 2 25]
 gR))
def ZE(l1:List Job)(x3:Job)(i3:Nat)(_:Unit)(k3:Unit->Option Bool):Option Bool :=
 (bif (!(W5 x3))then some default else(cutL l1 none (some (i3:Int)))).bind fun xs4=>(bif (!(W5 x3))then some default else(W0 xs4 x3)).bind fun b5=>bif ((!(W5 x3))||b5)then(some false)else(k3 ())
def JD(l1:List Job)(_:Unit):Option Bool :=
 some (decide ((l1.length:Int)<=60))
def QB(l1:List Job):Option Bool :=
 rgl (ZE l1) (JD l1) l1 0 ()
theorem V0I{l1:List Job}{r:Bool}(H:QB l1=some r):Snd Tryz.prog L0d [rV 11 (l1.map eJob)] (.bool r) []:=by
 refine wS O0H [.t 2] ?_
 unfold QB at H
 refine wG [.u 6 (.ln _ _ fun _=>lm l1 eJob)] fun q2=>?_
 refine wR (fun(i3:Nat) (v3:Unit)=>⟨[(0,rV 11 (l1.map eJob)),(5,rV 11 (l1.map eJob)),(6,iV (l1.length:Int)),(7,iV (i3:Int))],[],[],[]⟩) H (fun i3 x3 v3 I m k3 hxv3 hiv3 H N20=>?_) (fun v3 I m H=>?_)
 .unfold ZE at H
  refine wP ?_
  refine wt (ltT hiv3) ?_
  obtain⟨xs4,h4,H⟩:=bB H
  obtain⟨b5,h5,H⟩:=bB H
  refine wG [.u 10 (.ix _ _ _ fun _=>Y0 eJob (Q0 hxv3)),.c 13 (Vt x3),.g 18 [(_,false)] (.sc _ _ _ _ fun q=>V0k eJob (bF q.1 h4)),.g 20 [(_,false)] (.call _ _ _ _ _ (AEs.refl _) (fun q=>Q8 (bF q.1 h5)))] fun _=>?_
  refine V0 H (fun H=>?_) fun H=>?_
  .obtain rfl:=sI H
   exact wP (wE [(2,.d)])
  .refine wG [.w 22 (wi .i64 rfl hiv3 q2.1)] fun _=>?_
   exact wT (N20 () H)
 .unfold JD at H
  refine wP ?_
  refine wf (ltF l1.length) ?_
  refine wG [.u 24 (.ln _ _ fun _=>lm l1 eJob)] fun q6=>?_
  replace H:=sI H;subst H
  exact wE [(2,.d)]
def V0H:L :=
sR [.bx 2 0,.mv 3 (cB false)]
 (sR [fA 4 2 0,lF 5 4 1,lF 6 1 1,bI 7 .eql 5 6,mV 3 7]
 gR)
def Zz(j1:Job)(x2:Int):Option Bool :=
 some (j1.id==x2)
theorem U0p{j1:Job}{x2:Int}{r:Bool}(H:Zz j1 x2=some r):Snd Tryz.prog Zm [eJob j1,.ept (.agg [iV x2]) 0] (.bool r) []:=by
 refine wS V0H [.t 3] ?_
 unfold Zz at H
 obtain rfl:=sI H
 exact wP (wE [(3,.d)])
def UB(j1:Job)(x2:Int):Bool :=
 (j1.id==x2)
theorem Z0S(j1:Job)(x2:Int):Zz j1 x2=some (UB j1 x2):=by
 unfold Zz UB
 first|rfl|simp only[Z2]
theorem Z0I(j1:Job)(x2:Int):Snd Tryz.prog Zm [eJob j1,.ept (.agg [iV x2]) 0] (.bool (UB j1 x2)) []:=U0p (Z0S j1 x2)
def Xa:L :=
.seq (rE 4 (kI 0))
 (.seq (sR [mV 6 0,.ln 7 6,.mv 8 (kI 0)]
 (.blk 0 (.loop (.gw (sR [bI 9 .lss 8 7]
 (.seq (.cond 9 .skip
 (.exit 0))
 (.seq (.blk 1 (sR [mV 10 8,mV 5 10]
 (sR [mV 11 1,mV 12 0,mV 13 5,iA 14 12 13 11,lT 15 14 11,.cc 16 11 [15]]
 (.cond 16 (sR [mV 17 5,mV 4 17]
 gR)
 .skip))))
 (.reg [.bi 18 .add 8 (kI 1),mV 8 18]))))))))
 (.seq (rE 4 (kI (-1)))
 gR))
def Y1(c2:Int)(x4:Job)(i4:Nat)(_:Unit)(k4:Unit->Option Int):Option Int :=
 bif (UB x4 c2)then(some (i4:Int))else(k4 ())
def M2(_:Unit):Option Int :=
 some (-1)
def J1(s1:List Job)(c2:Int):Option Int :=
 rgl (Y1 c2) M2 s1 0 ()
theorem Ya{s1:List Job}{c2 r:Int}(H:J1 s1 c2=some r):Snd Tryz.prog O3 [rV 11 (s1.map eJob),.fn Zm [.ept (.agg [iV c2]) 0]] (iV r) []:=by
 refine wS Xa [.t 4] ?_
 unfold J1 at H
 refine wG [.u 7 (.ln _ _ fun _=>lm s1 eJob)] fun q3=>?_
 refine wR (fun(i4:Nat) (v4:Unit)=>⟨[(0,rV 11 (s1.map eJob)),(1,.fn Zm [.ept (.agg [iV c2]) 0]),(7,iV (s1.length:Int)),(8,iV (i4:Int))],[],[],[]⟩) H (fun i4 x4 v4 I m k4 hxv4 hiv4 H N20=>?_) (fun v4 I m H=>?_)
 .unfold Y1 at H
  refine wP ?_
  refine wt (ltT hiv4) ?_
  refine wG [.u 14 (.ix _ _ _ fun _=>Y0 eJob (Q0 hxv4)),.u 16 (.clsr _ _ _ _ _ (AEs.refl _) (by kernel_rfl) (fun _=>Z0I x4 c2))] fun _=>?_
  refine V0 H (fun H=>?_) fun H=>?_
  .refine wP ?_
   replace H:=sI H;subst H
   exact wE [(4,.d)]
  .refine wG [.w 18 (wi .i64 rfl hiv4 q3.1)] fun _=>?_
   exact wT (N20 () H)
 .unfold M2 at H
  refine wP ?_
  refine wf (ltF s1.length) ?_
  obtain rfl:=sI H
  exact wP (wE [(4,.d)])
def X13:L :=
sR [.bx 3 1,.mv 4 (kI 0)]
 (sR [.fb 3,mV 5 0,.mf 6 Zm [3],cQ 7 O3 [5,6],mV 4 7]
 gR)
def OW(l1:List Job)(id2:Int):Option Int :=
 (J1 l1 id2).bind fun n3=>some n3
theorem X14{l1:List Job}{id2 r:Int}(H:OW l1 id2=some r):Snd Tryz.prog X0t [rV 11 (l1.map eJob),iV id2] (iV r) []:=by
 refine wS X13 [.t 4] ?_
 unfold OW at H
 obtain⟨n3,h3,H⟩:=bB H
 refine wG [.c 7 (Ya h3)] fun _=>?_
 replace H:=sI H;subst H
 exact wE [(4,.d)]
end Go.Proofs.YtodafdoninblmaaGreat
