/-
  Lemmas, part 11: the engine that steps through the code, the walks of functions, and the laws of what they compute.
-/
import Derived.Test.YtodafdoninblmaaGreatMS10
import Derived.Test.YtodafdoninblmaaGreatMS1
namespace Go.Proofs.YtodafdoninblmaaGreat
open Go Go.RowKit Go.Sort Go.Lib
theorem Zw9{α:Type}[Inhabited α](enc:α->Value){w:World}{blk off m:Nat}(dk:Array α)(os:Array Obj){a:Addr}{v:Value}(hb:a.block≠blk)(h:w.cell? a=some v):(sortWorld enc w blk off m dk os).cell? a=some v:=by
 have hlt:a.block<w.heap.size:=by
  rcases Nat.lt_or_ge a.block w.heap.size with hl|hl
  .exact hl
  .simp only[World.cell?,Array.getElem?_eq_none hl]at h
   cases h
 unfold sortWorld
 rw[cell?_grow _ _ _ (by simpa[putRow,mapBlock,Sort.ahead]using hlt),cell?_putRow_other _ _ _ _ _ _ (.inl hb)]
 exact h
def Zko{n:Nat}(x:Fin n):Value:=.int .i64 (x.val:Int)
theorem Zpn{cnt:List Int}[Inhabited (Fin cnt.length)](hl:cnt.length<=24){w:World}{b ob r o cap blk size:Nat}(hb:b≠blk)(hr:r≠blk)(hbox:w.cell? ⟨b,ob,none⟩=some (.slice (some ⟨r,o,none⟩) cnt.length cap))
  (hc:∀(j:Nat) (x:Int),cnt[j]?=some x->w.cell? ⟨r,o+j,none⟩=some (.int .i64 x)):CmpReads Tryz.prog 232 #[.pointer (some ⟨b,ob,none⟩)] (Zko (n:=cnt.length)) (Zva cnt) blk 0 size w:=by
 intro m os dk _ x y
 exact Zso x.val y.val cnt[x] cnt[y] b ob r o cnt.length cap _ hl x.isLt y.isLt (Zw9 _ _ _ hb hbox) (Zw9 _ _ _ hr (hc x.val _ (yA x.isLt))) (Zw9 _ _ _ hr (hc y.val _ (yA y.isLt)))
theorem Zyn{cnt:List Int}[Inhabited (Fin cnt.length)](hl:cnt.length<=24)(hc:∀c∈cnt,0<=c/\c<=1000000){w:World}{b ob r o cap0 blk cap:Nat}(hb:b≠blk)(hr:r≠blk)(hbox:w.cell? ⟨b,ob,none⟩=some (.slice (some ⟨r,o,none⟩) cnt.length cap0))
  (hcs:∀(j:Nat) (x:Int),cnt[j]?=some x->w.cell? ⟨r,o+j,none⟩=some (.int .i64 x)) (d:Array (Fin cnt.length)) (hH:Holds Zko w blk 0 d) (hblk:blk<w.heap.size) (hsz:d.size<4611686018427387904) :
  Calls Tryz.prog 231 #[.slice (some ⟨blk,0,none⟩) d.size cap,.func (.func 232) #[] #[.pointer (some ⟨b,ob,none⟩)]] w fun e w' =>
   e=.returned (.tuple #[])/\∃n os,w'=sortWorld Zko w blk 0 n (d.toList.mergeSort fun x y=>!(ltOf (Zva cnt)) y x).toArray os:=by
 have eg:∀args w,(callFunc 232 args).run Tryz.prog w=.ok (.enter 232 args) w:=enters_of Tryz.func232 (by kernel_rfl) rfl
 exact Any.slices_SortFunc_total Tryz.sortFI Zko (fun _=>rfl) (Zva cnt) (ZOo hl hc) 232 #[.pointer (some ⟨b,ob,none⟩)] blk 0 cap d w eg (Zpn hl hb hr hbox hcs).lays hH hblk hsz (Zem hl hc)
end Go.Proofs.YtodafdoninblmaaGreat
namespace Go.Proofs.YtodafdoninblmaaGreat
open Go Go.RowKit Eng
section
def ZY3(cnt:List Int)(x y:Int):Bool:=!decide (cnt.getD x.toNat 0<cnt.getD y.toNat 0\/(cnt.getD y.toNat 0=cnt.getD x.toNat 0/\y<x))
def Zzh(cnt zs:List Int):Prop:=(∀z∈zs,0<=z/\z<(cnt.length:Int))/\cnt.length<=24/\(∀c∈cnt,0<=c/\c<=1000000)/\zs.length<4611686018427387904
instance(cnt zs:List Int):Decidable (Zzh cnt zs):=by unfold Zzh;infer_instance
def ZMc(cnt zs:List Int):Option (List Int):=if Zzh cnt zs then some (zs.mergeSort (ZY3 cnt))else none
theorem ZBs{w:World}{g:Gh}{s:St}{f:Nat}{e:AV}{v:Value}(h:Gv w g s (.fn f [.ept e 0]) v):Rd w g.S g.T (.fn f [.ept e 0]) v:=by
 cases h with
 |data _ _ h=>exact h
 |fn _ _ vs hl h =>
  refine .fn _ _ vs hl fun i a u ha hu=>?_
  have q:=h i a u ha hu
  match i with
  |0 =>
   cases ha
   cases q with
   |data _ _ q=>exact q
  |i+1=>simp at ha
def Z6l(n:Nat)(h:0<n)(z:Int):Fin n:=if h2:z.toNat<n then⟨z.toNat,h2⟩else⟨0,h⟩
theorem Z0m{n:Nat}(dk:List (Fin n))(c:Array Value)[Inhabited (Fin n)]:Go.Sort.putCells Zko 0 dk.toArray c=Go.Sort.putCells (Value.int .i64) 0 (dk.map fun(x:Fin n)=>(x.val:Int)).toArray c:=by
 unfold Go.Sort.putCells
 apply Array.ext
 .simp
 .intro i h1 h2
  simp only[Array.getElem_mapIdx,List.size_toArray,List.length_map,Nat.zero_le,true_and,Nat.zero_add,Nat.sub_zero]
  by_cases hi:i<dk.length
  .rw[yd hi,yd hi]
   simp[Zko,hi]
  .rw[ye hi,ye hi]
theorem ZSl{cnt zs r:List Int}(h:ZMc cnt zs=some r):ZRe Tryz.prog Zh2 1 (zs.map eI) [.fn ZN8 [.ept (.agg [.sl .rd 1 (cnt.map eI)]) 0]] false (r.map eI):=by
 unfold ZMc at h
 split at h
 .rename_i hl
  obtain⟨l1,l2,l3,l4⟩:=hl
  cases h
  refine ZGn (zs:=zs) (zs':=zs.mergeSort (ZY3 cnt)) (fun e=>by subst e;simp) (fun _=>by simp) ?_
  intro w g n0 us H hul hus
  refine⟨?_,fun b cap cur ty h1 h2 h3 h4 h5 h6=>?_⟩
  .match us,hul with
   |[u],_ =>
   exact(AnyF.slices_SortFunc_none { Tryz.sortFI with } none 0 u w).mono fun e w' h=>⟨by simp[h.1],h.2⟩
  .match us,hul with
   |[u],_ =>
   have hb:b<w.heap.size:=(Array.getElem?_eq_some_iff.1 h1).1
   by_cases hz:zs=[]
   .subst hz
    refine(AnyF.slices_SortFunc_none { Tryz.sortFI with } (some ⟨b,0,none⟩) cap u w).mono fun e w' h=>?_
    obtain⟨he,rfl⟩:=h
    refine⟨by simp[he],cur,h1,h4,by simp[i64v],by simp,rfl,rfl,rfl,yV _,fun _ _ _=>rfl⟩
   .have hn:0<cnt.length:=by
     obtain⟨z,hz⟩:=List.exists_mem_of_ne_nil _ hz
     have:=l1 z hz
     omega
    haveI:Inhabited (Fin cnt.length):=⟨⟨0,hn⟩⟩
    have hd:=ZBs (hus 0 _ u rfl rfl)
    obtain⟨bb,ob,br,o,capr,hu,hbox,hS1,hcs⟩:=Rd.cap1_inv hd hn
    subst hu
    have n1:bb≠b:=fun e=>h6 _ (e ▸ hS1)
    have n2:br≠b:=fun e=>by
     obtain⟨_,q⟩:=hcs 0 cnt[0] (yA hn)
     exact h6 _ (e ▸ q)
    have hval:∀z∈zs,((Z6l cnt.length hn z).val:Int)=z:=fun z hz=>by
     have:=l1 z hz
     unfold Z6l
     rw[dif_pos (by omega)]
     simp only
     omega
    have hmap:(zs.map (Z6l cnt.length hn)).map (fun(x:Fin cnt.length)=>(x.val:Int))=zs:=by
     rw[List.map_map]
     exact(List.map_congr_left (fun z hz=>hval z hz)).trans (List.map_id _)
    have hH:Go.Sort.Holds Zko w b 0 (zs.map (Z6l cnt.length hn)).toArray:=by
     intro j hj
     have hj':j<zs.length:=by simpa using hj
     have:=Zgj h1 h5 j (by simpa using hj')
     refine⟨?_,this.2⟩
     rw[this.1]
     simp[Zko,hj',hval]
    have e1:((zs.map (Z6l cnt.length hn)).mergeSort fun x y=>!(ltOf (Zva cnt)) y x).map (fun(x:Fin cnt.length)=>(x.val:Int))=zs.mergeSort (ZY3 cnt):=by
     rw[List.map_mergeSort (s:=ZY3 cnt),hmap]
     intro x _ y _
     rw[Z7a l2 l3]
     unfold ZY3
     simp
    have:=Zyn (w:=w) (b:=bb) (ob:=ob) (r:=br) (o:=o) (cap0:=capr) (blk:=b) (cap:=cap) l2 l3 n1 n2 hbox (fun j x hx=>(hcs j x hx).1) (zs.map (Z6l cnt.length hn)).toArray hH hb (by simpa using l4)
    simp only[List.size_toArray,List.length_map]at this
    refine this.mono fun e w' h=>?_
    obtain⟨he,n,os,hw⟩:=h
    have hw2:w'=Go.Sort.grow (Go.Sort.putRow (Value.int .i64) (Go.Sort.ahead w n) b 0 (zs.mergeSort (ZY3 cnt)).toArray) os:=by
     rw[hw]
     unfold sortWorld Go.Sort.putRow
     congr 2
     funext c
     rw[Z0m,e1]
    rw[hw2]
    obtain⟨cur',q1,q2,q3,q4,q5⟩:=Zpf (zs:=zs.mergeSort (ZY3 cnt)) h1 h4 (by simpa using h2) n os
    exact⟨by simp[he],cur',q1,q2,q3,by simpa using h2,rfl,rfl,rfl,q4,q5⟩
 .cases h
def ZCm:L :=
sR [.bx 1 (.t 0),.mv 2 (cB false)]
 (.seq (sR [fA 3 1 0,lD 4 3 1 false,.bi 5 .lss (.t 4) (kI 1),mV 6 5,.g 6 false (fA 7 1 0),.g 6 false (lD 8 7 1 false),.g 6 false (.bi 9 .gtr (.t 8) (kI 999)),.pk 10 (.t 6) (cB true) (.t 9),mV 11 10,.g 11 false (fA 12 1 1),.g 11 false (lD 13 12 1 false),.g 11 false (.bi 14 .lss (.t 13) (kI 0)),.pk 15 (.t 11) (cB true) (.t 14),mV 16 15,.g 16 false (fA 17 1 1),.g 16 false (lD 18 17 1 false),.g 16 false (.bi 19 .gtr (.t 18) (kI 999)),.pk 20 (.t 16) (cB true) (.t 19),mV 21 20,.g 21 false (fA 22 1 2),.g 21 false (lD 23 22 1 false),.g 21 false (.bi 24 .lss (.t 23) (kI 1)),.pk 25 (.t 21) (cB true) (.t 24),mV 26 25,.g 26 false (fA 27 1 2),.g 26 false (lD 28 27 1 false),.g 26 false (.bi 29 .gtr (.t 28) (kI 24)),.pk 30 (.t 26) (cB true) (.t 29)]
 (.cond (.t 30) (.seq (rE 2 (cB false))
 gR)
 .skip))
 (sR [fA 31 1 3,lD 32 31 3 true,cQ 33 ZR [32],mV 34 33,.g 34 true (fA 35 1 6),.g 34 true (lD 36 35 3 true),.g 34 true (cQ 37 ZR [36]),.pk 38 (.t 34) (.t 37) (cB false),mV 39 38,.g 39 true (fA 40 1 9),.g 39 true (lD 41 40 1 false),.g 39 true (.bi 42 .geq (.t 41) (kI 1)),.pk 43 (.t 39) (.t 42) (cB false),mV 44 43,.g 44 true (fA 45 1 9),.g 44 true (lD 46 45 1 false),.g 44 true (.bi 47 .leq (.t 46) (kI 1000000)),.pk 48 (.t 44) (.t 47) (cB false),mV 49 48,.g 49 true (fA 50 1 10),.g 49 true (lD 51 50 1 false),.g 49 true (.bi 52 .geq (.t 51) (kI 0)),.pk 53 (.t 49) (.t 52) (cB false),mV 54 53,.g 54 true (fA 55 1 10),.g 54 true (lD 56 55 1 false),.g 54 true (.bi 57 .leq (.t 56) (kI 24)),.pk 58 (.t 54) (.t 57) (cB false),mV 2 58]
 gR))
def ZY8(j1:Job):Option Bool :=
 bif ((((((decide (j1.id<1))||(decide (999<j1.id)))||(decide (j1.prio<0)))||(decide (999<j1.prio)))||(decide (j1.nodes<1)))||(decide (24<j1.nodes)))then(some false)else(some ((((((Z2 j1.need)&&(Z2 j1.lic))&&(decide (1<=j1.wall)))&&(decide (j1.wall<=1000000)))&&(decide (0<=j1.level)))&&(decide (j1.level<=24))))
theorem ZNh{j1:Job}{r:Bool}(H:ZY8 j1=some r):Snd Tryz.prog ZU6 [eJob j1] (.bool r) []:=by
 refine wS ZCm [.t 2] ?_
 unfold ZY8 at H
 refine wP ?_
 refine Z3 H (fun H=>?_) fun H=>?_
 .refine wP ?_
  replace H:=sI H;subst H
  exact wE [(2,.d)]
 .refine wG [.c 33 (ZT j1.need),.g 37 [((Z2 j1.need),true)] (.call _ _ _ _ _ (AEs.refl _) (fun _=>ZT j1.lic))] fun _=>?_
  replace H:=sI H;subst H
  exact wE [(2,.d)]
def Z9(j1:Job):Bool :=
 bif ((((((decide (j1.id<1))||(decide (999<j1.id)))||(decide (j1.prio<0)))||(decide (999<j1.prio)))||(decide (j1.nodes<1)))||(decide (24<j1.nodes)))then(false)else(((((((Z2 j1.need)&&(Z2 j1.lic))&&(decide (1<=j1.wall)))&&(decide (j1.wall<=1000000)))&&(decide (0<=j1.level)))&&(decide (j1.level<=24))))
theorem Zxn(j1:Job):ZY8 j1=some (Z9 j1):=by
 unfold ZY8 Z9
 first|rfl|simp only[Zl]
theorem Zpa(j1:Job):Snd Tryz.prog ZU6 [eJob j1] (.bool (Z9 j1)) []:=ZNh (Zxn j1)
def Zik:L :=
sR [.bx 1 (.t 0),.mv 2 (cB false)]
 (.seq (sR [fA 5 1 0,lD 6 5 2 true,cQ 7 ZQ7 [6],.un 8 (.t 7),mV 9 8,.g 9 false (fA 10 1 2),.g 9 false (lD 11 10 1 false),.g 9 false (.ln 12 (.t 11)),.g 9 false (fA 13 1 0),.g 9 false (fA 14 13 1),.g 9 false (lD 15 14 1 false),.g 9 false (.ln 16 (.t 15)),.g 9 false (bI 17 .neq 12 16),.pk 18 (.t 9) (cB true) (.t 17),mV 19 18,.g 19 false (fA 20 1 3),.g 19 false (lD 21 20 1 false),.g 19 false (.ln 22 (.t 21)),.g 19 false (fA 23 1 0),.g 19 false (fA 24 23 1),.g 19 false (lD 25 24 1 false),.g 19 false (.ln 26 (.t 25)),.g 19 false (bI 27 .neq 22 26),.pk 28 (.t 19) (cB true) (.t 27),mV 29 28,.g 29 false (fA 30 1 4),.g 29 false (lD 31 30 1 true),.g 29 false (cQ 32 ZA5 [31]),.g 29 false (.un 33 (.t 32)),.pk 34 (.t 29) (cB true) (.t 33)]
 (.cond (.t 34) (.seq (rE 2 (cB false))
 gR)
 .skip))
 (.seq (sR [fA 35 1 3,lD 36 35 1 false,.ln 37 (.t 36),.mv 38 (kI 0)]
 (.blk 0 (.loop (.gw (sR [bI 39 .lss 38 37]
 (.seq (.cond (.t 39) .skip
 (.exit 0))
 (.seq (.blk 1 (sR [iA 40 36 38 1,lD 41 40 1 true,.al 4 [.nl],.st (.t 4) (.t 41) 1]
 (sR [lD 42 4 1 true,cQ 43 ZA5 [42],.un 44 (.t 43)]
 (.cond (.t 44) (.seq (rE 2 (cB false))
 gR)
 .skip))))
 (.reg [.bi 45 .add (.t 38) (kI 1),mV 38 45]))))))))
 (.seq (rE 2 (cB true))
 gR)))
def Zb8(x5:List Pt)(_:Nat)(_:Unit)(k5:Unit->Option Bool):Option Bool :=
 (Zz1 x5).bind fun b6=>bif (!b6)then(some false)else(k5 ())
def ZMb(_:Unit):Option Bool :=
 some true
def Z43(r1:Room):Option Bool :=
 (Zc2 r1.topo).bind fun b2=>(bif (((!b2)||((r1.up.length:Int)!=(r1.topo.nodes.length:Int)))||((r1.profs.length:Int)!=(r1.topo.nodes.length:Int)))then some default else(Zz1 r1.lics)).bind fun b3=>bif ((((!b2)||((r1.up.length:Int)!=(r1.topo.nodes.length:Int)))||((r1.profs.length:Int)!=(r1.topo.nodes.length:Int)))||(!b3))then(some false)else(rgl Zb8 ZMb r1.profs 0 ())
theorem Zn6{r1:Room}{r:Bool}(H:Z43 r1=some r):Snd Tryz.prog Zz5 [Zq1 .rd r1] (.bool r) []:=by
 refine wS Zik [.t 2] ?_
 unfold Z43 at H
 obtain⟨b2,h2,H⟩:=bB H
 obtain⟨b3,h3,H⟩:=bB H
 refine wG [.c 7 (Zu9 h2),.g 12 [((!b2),false)] (.ln _ _ fun _=>lm r1.up eBo),.g 16 [((!b2),false)] (.ln _ _ fun _=>lm r1.topo.nodes Zf),.g 22 [(((!b2)||((r1.up.length:Int)!=(r1.topo.nodes.length:Int))),false)] (.ln _ _ fun _=>lm r1.profs (Zg .rd)),.g 26 [(((!b2)||((r1.up.length:Int)!=(r1.topo.nodes.length:Int))),false)] (.ln _ _ fun _=>lm r1.topo.nodes Zf),.g 32 [(_,false)] (.call _ _ _ _ _ (AEs.refl _) (fun q=>Zo6 (bF q.1 h3)))] fun _=>?_
 refine Z3 H (fun H=>?_) fun H=>?_
 .refine wP ?_
  replace H:=sI H;subst H
  exact wE [(2,.d)]
 .refine wG [.u 37 (.ln _ _ fun _=>lm r1.profs (Zg .rd))] fun q4=>?_
  refine wR (fun(i5:Nat) (v5:Unit)=>⟨[(36,.sl .rd 1 (r1.profs.map (Zg .rd))),(37,.int .i64 (r1.profs.length:Int)),(38,.int .i64 (i5:Int))],[],[],[]⟩) H (fun i5 x5 v5 I m k5 hxv5 hiv5 H N27=>?_) (fun v5 I m H=>?_)
  .unfold Zb8 at H
   refine wP ?_
   refine wt (ltT hiv5) ?_
   obtain⟨b6,h6,H⟩:=bB H
   refine wG [.u 40 (.ix _ _ _ fun _=>Z1 (Zg .rd) (Z5 hxv5)),.c 43 (Zo6 h6)] fun _=>?_
   refine Z3 H (fun H=>?_) fun H=>?_
   .refine wP ?_
    replace H:=sI H;subst H
    exact wE [(2,.d)]
   .refine wG [.w 45 (wi .i64 rfl hiv5 q4.1)] fun _=>?_
    exact wT (N27 () H)
  .unfold ZMb at H
   refine wP ?_
   refine wf (ltF r1.profs.length) ?_
   refine wP ?_
   replace H:=sI H;subst H
   exact wE [(2,.d)]
def Z2h:L :=
sR [.bx 4 (.t 0),.bx 5 (.t 1),.mv 8 (.c (.nl))]
 (sR [.bs 13 1 [] true,mV 9 13]
 (.seq (sR [lD 14 4 5 true,cQ 15 Zz5 [14],.un 16 (.t 15)]
 (.cond (.t 16) (sR [mV 17 9,mV 8 17]
 gR)
 .skip))
 (.seq (sR [fA 18 4 3,lD 19 18 1 false,.ln 20 (.t 19),.mv 21 (kI 0)]
 (.blk 0 (.loop (.gw (sR [bI 22 .lss 21 20]
 (.seq (.cond (.t 22) .skip
 (.exit 0))
 (.seq (.blk 1 (sR [mV 23 21,mV 10 23]
 (sR [fA 25 4 3,lD 26 25 1 false,mV 27 10,iA 28 26 27 1,lD 29 28 1 true,mV 30 2,mV 31 3,cQ 32 ZE6 [29,30,31],mV 24 32,eX 33 24 0,eX 34 24 1,.al 11 [.int .i64 0,.int .i64 0,.int .i64 0],.st (.t 11) (.t 33) 3,mV 12 34]
 (sR [mV 35 12,mV 36 35,.g 36 true (fA 37 4 2),.g 36 true (lD 38 37 1 false),.g 36 true (mV 39 10),.g 36 true (iA 40 38 39 1),.g 36 true (lD 41 40 1 false),.pk 42 (.t 36) (.t 41) (cB false),mV 43 42,.g 43 true (lD 44 5 3 true),.g 43 true (lD 45 11 3 true),.g 43 true (cQ 46 Z74 [44,45]),.pk 47 (.t 43) (.t 46) (cB false)]
 (.cond (.t 47) (.reg [mV 48 9,mV 49 10,.bs 50 1 [(.t 49)] false,.ap 51 (.t 48) (.t 50) 1 8,mV 9 51])
 .skip)))))
 (.reg [.bi 52 .add (.t 21) (kI 1),mV 21 52]))))))))
 (sR [mV 53 9,mV 8 53]
 gR))))
def Zx3(r1:Room)(need2:Vec)(from3:Int)(to4:Int)(x7:List Pt)(i7:Nat)(v7:(List Int))(k7:(List Int)->Option (List Int)):Option (List Int) :=
 (Z63 x7 from3 to4).bind fun y8=>(bif y8.2 then(idx r1.up (i7:Int))else some default).bind fun e9=>bif ((y8.2&&e9)&&(Zp need2 y8.1))then((appL 8 v7 [(i7:Int)]).bind fun xs10=>k7 xs10)else(k7 v7)
def Z3a(v7:(List Int)):Option (List Int) :=
 some v7
def Z95(r1:Room)(need2:Vec)(from3:Int)(to4:Int):Option (List Int) :=
 (Z43 r1).bind fun b5=>bif (!b5)then(some [])else(rgl (Zx3 r1 need2 from3 to4) Z3a r1.profs 0 [])
theorem ZHg{r1:Room}{need2:Vec}{from3:Int}{to4:Int}{r:(List Int)}(H:Z95 r1 need2 from3 to4=some r):Snd Tryz.prog Zyc [Zq1 .rd r1,eVec need2,.int .i64 from3,.int .i64 to4] (.sl .nw 1 (r.map eI)) []:=by
 refine wS Z2h [.t 8] ?_
 unfold Z95 at H
 obtain⟨b5,h5,H⟩:=bB H
 refine wG [.c 15 (Zn6 h5)] fun _=>?_
 refine Z3 H (fun H=>?_) fun H=>?_
 .refine wP ?_
  replace H:=sI H;subst H
  exact wN [(8,.f)] [] [] [13] [] [⟨_,nw_I ([]:List Int)⟩]
 .refine wG [.u 20 (.ln _ _ fun _=>lm r1.profs (Zg .rd))] fun q6=>?_
  refine wR (fun(i7:Nat) (v7:(List Int))=>⟨[(2,.int .i64 from3),(3,.int .i64 to4),(4,.ptr 4 0),(5,.ptr 5 0),(9,.sref 13),(20,.int .i64 (r1.profs.length:Int)),(21,.int .i64 (i7:Int))],[],[(4,(Zq1 .rd r1).cells),(5,(eVec need2).cells)],[(13,⟨1,v7.map eI,false⟩)]⟩) H (fun i7 x7 v7 I m k7 hxv7 hiv7 H N28=>?_) (fun v7 I m H=>?_)
  .unfold Zx3 at H
   refine wP ?_
   refine wt (ltT hiv7) ?_
   obtain⟨y8,h8,H⟩:=bB H
   obtain⟨e9,h9,H⟩:=bB H
   refine wG [.u 28 (.ix _ _ _ fun _=>Z1 (Zg .rd) (Z5 hxv7)),.c 32 (Zf8 h8),.g 40 [(_,true)] (.ix _ _ _ fun q=>Z1 eBo (bT q.1 h9)),.g 46 [((y8.2&&e9),true)] (.call _ _ _ _ _ (AEs.refl _) (fun _=>Z98 need2 y8.1))] fun _=>?_
   refine Z3 H (fun H=>?_) fun H=>?_
   .obtain⟨xs10,h10,H⟩:=bB H
    refine wG [.u 51 (.ap _ _ _ _ fun _=>Z6 eI h10),.w 52 (wi .i64 rfl hiv7 q6.1)] fun _=>?_
    exact wT (N28 _ H)
   .refine wG [.w 52 (wi .i64 rfl hiv7 q6.1)] fun _=>?_
    exact wT (N28 _ H)
  .unfold Z3a at H
   refine wP ?_
   refine wf (ltF r1.profs.length) ?_
   refine wP ?_
   replace H:=sI H;subst H
   exact wN [(8,.f)] [] [] [13] [] [⟨_,nw_I v7⟩]
def Zwm:L :=
sR [.bx 3 (.t 0),.mv 6 (.c (.nl))]
 (sR [.bs 10 1 [] true,mV 7 10]
 (.seq (sR [mV 11 1,.ln 12 (.t 11),.mv 13 (kI 0)]
 (.blk 0 (.loop (.gw (sR [bI 14 .lss 13 12]
 (.seq (.cond (.t 14) .skip
 (.exit 0))
 (.seq (.blk 1 (sR [iA 15 11 13 1,lD 16 15 1 false,mV 9 16]
 (.seq (.rq 10 [lD 17 3 2 true,fA 18 3 1,lD 19 18 1 false,mV 20 9,iA 21 19 20 4,fA 22 21 0,lD 23 22 1 false,cQ 24 Zwc [17,23],mV 25 2,cQ 26 ZK3 [24,25]])
 (.cond (.t 26) (.reg [mV 27 7,mV 28 9,.bs 29 1 [(.t 28)] false,.ap 30 (.t 27) (.t 29) 1 8,mV 7 30])
 .skip))))
 (.reg [.bi 31 .add (.t 13) (kI 1),mV 13 31]))))))))
 (sR [mV 32 7,mV 6 32]
 gR)))
def Zj6(t1:Topo)(s3:Int)(x5:Int)(_:Nat)(v5:(List Int))(k5:(List Int)->Option (List Int)):Option (List Int) :=
 (idx t1.nodes x5).bind fun e6=>(ZH4 t1 e6.leaf).bind fun y7=>(Zb2 y7 s3).bind fun b8=>bif b8 then((appL 8 v5 [x5]).bind fun xs9=>k5 xs9)else(k5 v5)
def Zo9(v5:(List Int)):Option (List Int) :=
 some v5
def ZY1(t1:Topo)(nodes2:List Int)(s3:Int):Option (List Int) :=
 rgl (Zj6 t1 s3) Zo9 nodes2 0 []
theorem Zr3{t1:Topo}{nodes2:List Int}{s3:Int}{r:(List Int)}(H:ZY1 t1 nodes2 s3=some r):Snd Tryz.prog Zo3 [Zy .rd t1,.sl .rd 1 (nodes2.map eI),.int .i64 s3] (.sl .nw 1 (r.map eI)) []:=by
 refine wS Zwm [.t 6] ?_
 unfold ZY1 at H
 refine wG [.u 12 (.ln _ _ fun _=>lm nodes2 eI)] fun q4=>?_
 refine wR (fun(i5:Nat) (v5:(List Int))=>⟨[(2,.int .i64 s3),(3,.ptr 3 0),(7,.sref 10),(11,.sl .rd 1 (nodes2.map eI)),(12,.int .i64 (nodes2.length:Int)),(13,.int .i64 (i5:Int))],[],[(3,(Zy .rd t1).cells)],[(10,⟨1,v5.map eI,false⟩)]⟩) H (fun i5 x5 v5 I m k5 hxv5 hiv5 H N19=>?_) (fun v5 I m H=>?_)
 .unfold Zj6 at H
  refine wP ?_
  refine wt (ltT hiv5) ?_
  obtain⟨e6,h6,H⟩:=bB H
  obtain⟨y7,h7,H⟩:=bB H
  obtain⟨b8,h8,H⟩:=bB H
  refine wG [.u 15 (.ix _ _ _ fun _=>Z1 eI (Z5 hxv5)),.u 21 (.ix _ _ _ fun _=>Z1 Zf h6),.c 24 (Z2e h7),.c 26 (ZT3 h8)] fun _=>?_
  refine Z3 H (fun H=>?_) fun H=>?_
  .obtain⟨xs9,h9,H⟩:=bB H
   refine wG [.u 30 (.ap _ _ _ _ fun _=>Z6 eI h9),.w 31 (wi .i64 rfl hiv5 q4.1)] fun _=>?_
   exact wT (N19 _ H)
  .refine wG [.w 31 (wi .i64 rfl hiv5 q4.1)] fun _=>?_
   exact wT (N19 _ H)
 .unfold Zo9 at H
  refine wP ?_
  refine wf (ltF nodes2.length) ?_
  refine wP ?_
  replace H:=sI H;subst H
  exact wN [(6,.f)] [] [] [10] [] [⟨_,nw_I v5⟩]
def ZEf:L :=
sR [.bx 4 (.t 0),.mv 8 (kI 0)]
 (.seq (rE 9 (kI (-1)))
 (.seq (sR [fA 13 4 0,lD 14 13 1 false,.ln 15 (.t 14),.mv 16 (kI 0)]
 (.blk 0 (.loop (.gw (sR [bI 17 .lss 16 15]
 (.seq (.cond (.t 17) .skip
 (.exit 0))
 (.seq (.blk 1 (sR [mV 18 16,mV 10 18]
 (sR [lD 19 4 2 true,mV 20 1,mV 21 10,cQ 22 Zo3 [19,20,21],.ln 23 (.t 22),mV 11 23]
 (sR [lD 24 4 2 true,mV 25 10,cQ 26 Z11 [24,25],mV 12 26]
 (.seq (sR [mV 27 11,mV 28 2,bI 29 .lss 27 28,mV 30 29,.g 30 false (mV 31 12),.g 30 false (mV 32 3),.g 30 false (bI 33 .gtr 31 32),.pk 34 (.t 30) (cB true) (.t 33)]
 (.cond (.t 34) (.exit 1)
 .skip))
 (sR [mV 35 9,.bi 36 .lss (.t 35) (kI 0),mV 37 36,.g 37 false (mV 38 12),.g 37 false (lD 39 4 2 true),.g 37 false (mV 40 9),.g 37 false (cQ 41 Z11 [39,40]),.g 37 false (bI 42 .lss 38 41),.pk 43 (.t 37) (cB true) (.t 42),mV 44 43,.g 44 false (mV 45 12),.g 44 false (lD 46 4 2 true),.g 44 false (mV 47 9),.g 44 false (cQ 48 Z11 [46,47]),.g 44 false (bI 49 .eql 45 48),.g 44 false (mV 50 49),.g 50 true (mV 51 11),.g 50 true (lD 52 4 2 true),.g 50 true (mV 53 1),.g 50 true (mV 54 9),.g 50 true (cQ 55 Zo3 [52,53,54]),.g 50 true (.ln 56 (.t 55)),.g 50 true (bI 57 .lss 51 56),.g 44 false (.pk 58 (.t 50) (.t 57) (cB false)),.pk 59 (.t 44) (cB true) (.t 58)]
 (.cond (.t 59) (.reg [mV 60 10,mV 9 60])
 .skip)))))))
 (.reg [.bi 61 .add (.t 16) (kI 1),mV 16 61]))))))))
 (sR [mV 62 9,mV 8 62]
 gR)))
def Z05(t1:Topo)(nodes2:List Int)(n3:Int)(level4:Int)(_:Int)(i6:Nat)(v6:Int)(k6:Int->Option Int):Option Int :=
 (ZY1 t1 nodes2 (i6:Int)).bind fun y7=>(Zm1 t1 (i6:Int)).bind fun n8=>bif ((decide ((y7.length:Int)<n3))||(decide (level4<n8)))then(k6 v6)else((bif (decide (v6<0))then some default else(Zm1 t1 v6)).bind fun n10=>(bif ((decide (v6<0))||(decide (n8<n10)))then some default else(Zm1 t1 v6)).bind fun n11=>(bif ((decide (v6<0))||(decide (n8<n10)))then some default else(bif (n8==n11)then(ZY1 t1 nodes2 v6)else some default)).bind fun y12=>bif (((decide (v6<0))||(decide (n8<n10)))||((n8==n11)&&(decide ((y7.length:Int)<(y12.length:Int)))))then(k6 (i6:Int))else(k6 v6))
def ZW8(v6:Int):Option Int :=
 some v6
def ZR3(t1:Topo)(nodes2:List Int)(n3:Int)(level4:Int):Option Int :=
 rgl (Z05 t1 nodes2 n3 level4) ZW8 t1.parents 0 (-1)
theorem Zff{t1:Topo}{nodes2:List Int}{n3:Int}{level4:Int}{r:Int}(H:ZR3 t1 nodes2 n3 level4=some r):Snd Tryz.prog Zub [Zy .rd t1,.sl .rd 1 (nodes2.map eI),.int .i64 n3,.int .i64 level4] (.int .i64 r) []:=by
 refine wS ZEf [.t 8] ?_
 unfold ZR3 at H
 refine wG [.u 15 (.ln _ _ fun _=>lm t1.parents eI)] fun q5=>?_
 refine wR (fun(i6:Nat) (v6:Int)=>⟨[(1,.sl .rd 1 (nodes2.map eI)),(2,.int .i64 n3),(3,.int .i64 level4),(4,.ptr 4 0),(9,.int .i64 v6),(15,.int .i64 (t1.parents.length:Int)),(16,.int .i64 (i6:Int))],[],[(4,(Zy .rd t1).cells)],[]⟩) H (fun i6 x6 v6 I m k6 hxv6 hiv6 H N29=>?_) (fun v6 I m H=>?_)
 .unfold Z05 at H
  refine wP ?_
  refine wt (ltT hiv6) ?_
  obtain⟨y7,h7,H⟩:=bB H
  obtain⟨n8,h8,H⟩:=bB H
  refine wG [.c 22 (Zr3 h7),.u 23 (.ln _ _ fun _=>lm y7 eI),.c 26 (Zx1 h8)] fun q9=>?_
  refine Z3 H (fun H=>?_) fun H=>?_
  .refine wG [.w 61 (wi .i64 rfl hiv6 q5.1)] fun _=>?_
   exact wT (N29 _ H)
  .obtain⟨n10,h10,H⟩:=bB H
   obtain⟨n11,h11,H⟩:=bB H
   obtain⟨y12,h12,H⟩:=bB H
   refine wG [.g 41 [(_,false)] (.call _ _ _ _ _ (AEs.refl _) (fun q=>Zx1 (bF q.1 h10))),.g 48 [(_,false)] (.call _ _ _ _ _ (AEs.refl _) (fun q=>Zx1 (bF q.1 h11))),.g 55 [(_,true),(_,false)] (.call _ _ _ _ _ (AEs.refl _) (fun q=>Zr3 (bT q.1 (bF q.2.1 h12)))),.g 56 [((n8==n11),true),(((decide (v6<0))||(decide (n8<n10))),false)] (.ln _ _ fun _=>lm y12 eI)] fun _=>?_
   refine Z3 H (fun H=>?_) fun H=>?_
   .refine wG [.w 61 (wi .i64 rfl hiv6 q5.1)] fun _=>?_
    exact wT (N29 _ H)
   .refine wG [.w 61 (wi .i64 rfl hiv6 q5.1)] fun _=>?_
    exact wT (N29 _ H)
 .unfold ZW8 at H
  refine wP ?_
  refine wf (ltF t1.parents.length) ?_
  refine wP ?_
  replace H:=sI H;subst H
  exact wE [(8,.d)]
def ZCi:L :=
sR [.bx 3 (.t 0),.mv 6 (kI 0)]
 (.seq (rE 7 (kI (-1)))
 (.seq (sR [fA 10 3 0,lD 11 10 1 false,.ln 12 (.t 11),.mv 13 (kI 0)]
 (.blk 0 (.loop (.gw (sR [bI 14 .lss 13 12]
 (.seq (.cond (.t 14) .skip
 (.exit 0))
 (.seq (.blk 1 (sR [mV 15 13,mV 8 15]
 (sR [lD 16 3 2 true,mV 17 1,mV 18 8,cQ 19 Zo3 [16,17,18],.ln 20 (.t 19),mV 9 20]
 (.seq (sR [mV 21 9,.bi 22 .eql (.t 21) (kI 0),mV 23 22,.g 23 false (lD 24 3 2 true),.g 23 false (mV 25 8),.g 23 false (cQ 26 ZB6 [24,25]),.g 23 false (.ln 27 (.t 26)),.g 23 false (.bi 28 .gtr (.t 27) (kI 0)),.pk 29 (.t 23) (cB true) (.t 28),mV 30 29,.g 30 false (mV 31 2),.g 30 false (mV 32 8),.g 30 false (cQ 33 ZK3 [31,32]),.pk 34 (.t 30) (cB true) (.t 33)]
 (.cond (.t 34) (.exit 1)
 .skip))
 (sR [mV 35 7,.bi 36 .lss (.t 35) (kI 0),mV 37 36,.g 37 false (mV 38 9),.g 37 false (lD 39 3 2 true),.g 37 false (mV 40 1),.g 37 false (mV 41 7),.g 37 false (cQ 42 Zo3 [39,40,41]),.g 37 false (.ln 43 (.t 42)),.g 37 false (bI 44 .gtr 38 43),.pk 45 (.t 37) (cB true) (.t 44)]
 (.cond (.t 45) (.reg [mV 46 8,mV 7 46])
 .skip))))))
 (.reg [.bi 47 .add (.t 13) (kI 1),mV 13 47]))))))))
 (sR [mV 48 7,mV 6 48]
 gR)))
def Zc4(t1:Topo)(nodes2:List Int)(taken3:List Int)(_:Int)(i5:Nat)(v5:Int)(k5:Int->Option Int):Option Int :=
 (ZY1 t1 nodes2 (i5:Int)).bind fun y6=>(bif ((y6.length:Int)==0)then some default else(Z13 t1 (i5:Int))).bind fun y7=>(bif (((y6.length:Int)==0)||(decide (0<(y7.length:Int))))then some default else(Zb2 taken3 (i5:Int))).bind fun b8=>bif ((((y6.length:Int)==0)||(decide (0<(y7.length:Int))))||b8)then(k5 v5)else((bif (decide (v5<0))then some default else(ZY1 t1 nodes2 v5)).bind fun y10=>bif ((decide (v5<0))||(decide ((y10.length:Int)<(y6.length:Int))))then(k5 (i5:Int))else(k5 v5))
def Zbb(v5:Int):Option Int :=
 some v5
def Z03(t1:Topo)(nodes2:List Int)(taken3:List Int):Option Int :=
 rgl (Zc4 t1 nodes2 taken3) Zbb t1.parents 0 (-1)
theorem ZLh{t1:Topo}{nodes2:List Int}{taken3:List Int}{r:Int}(H:Z03 t1 nodes2 taken3=some r):Snd Tryz.prog Zsd [Zy .rd t1,.sl .rd 1 (nodes2.map eI),.sl .rd 1 (taken3.map eI)] (.int .i64 r) []:=by
 refine wS ZCi [.t 6] ?_
 unfold Z03 at H
 refine wG [.u 12 (.ln _ _ fun _=>lm t1.parents eI)] fun q4=>?_
 refine wR (fun(i5:Nat) (v5:Int)=>⟨[(1,.sl .rd 1 (nodes2.map eI)),(2,.sl .rd 1 (taken3.map eI)),(3,.ptr 3 0),(7,.int .i64 v5),(12,.int .i64 (t1.parents.length:Int)),(13,.int .i64 (i5:Int))],[],[(3,(Zy .rd t1).cells)],[]⟩) H (fun i5 x5 v5 I m k5 hxv5 hiv5 H N27=>?_) (fun v5 I m H=>?_)
 .unfold Zc4 at H
  refine wP ?_
  refine wt (ltT hiv5) ?_
  obtain⟨y6,h6,H⟩:=bB H
  obtain⟨y7,h7,H⟩:=bB H
  obtain⟨b8,h8,H⟩:=bB H
  refine wG [.c 19 (Zr3 h6),.u 20 (.ln _ _ fun _=>lm y6 eI),.g 26 [(_,false)] (.call _ _ _ _ _ (AEs.refl _) (fun q=>Z78 (bF q.1 h7))),.g 27 [(((y6.length:Int)==0),false)] (.ln _ _ fun _=>lm y7 eI),.g 33 [(_,false)] (.call _ _ _ _ _ (AEs.refl _) (fun q=>ZT3 (bF q.1 h8)))] fun q9=>?_
  refine Z3 H (fun H=>?_) fun H=>?_
  .refine wG [.w 47 (wi .i64 rfl hiv5 q4.1)] fun _=>?_
   exact wT (N27 _ H)
  .obtain⟨y10,h10,H⟩:=bB H
   refine wG [.g 42 [(_,false)] (.call _ _ _ _ _ (AEs.refl _) (fun q=>Zr3 (bF q.1 h10))),.g 43 [((decide (v5<0)),false)] (.ln _ _ fun _=>lm y10 eI)] fun _=>?_
   refine Z3 H (fun H=>?_) fun H=>?_
   .refine wG [.w 47 (wi .i64 rfl hiv5 q4.1)] fun _=>?_
    exact wT (N27 _ H)
   .refine wG [.w 47 (wi .i64 rfl hiv5 q4.1)] fun _=>?_
    exact wT (N27 _ H)
 .unfold Zbb at H
  refine wP ?_
  refine wf (ltF t1.parents.length) ?_
  refine wP ?_
  replace H:=sI H;subst H
  exact wE [(6,.d)]
def ZAi:L :=
sR [.mv 4 (.c (.nl))]
 (sR [.bs 9 1 [] true,mV 5 9]
 (.seq (rE 6 (cB false))
 (.seq (sR [mV 10 0,.ln 11 (.t 10),.mv 12 (kI 0)]
 (.blk 0 (.loop (.gw (sR [bI 13 .lss 12 11]
 (.seq (.cond (.t 13) .skip
 (.exit 0))
 (.seq (.blk 1 (sR [iA 14 10 12 1,lD 15 14 1 false,mV 8 15]
 (.seq (sR [mV 16 6,.un 17 (.t 16),mV 18 17,.g 18 true (mV 19 1),.g 18 true (mV 20 8),.g 18 true (bI 21 .lss 19 20),.pk 22 (.t 18) (.t 21) (cB false)]
 (.cond (.t 22) (sR [mV 23 5,mV 24 1,.bs 25 1 [(.t 24)] false,.ap 26 (.t 23) (.t 25) 1 8,mV 5 26]
 (rE 6 (cB true)))
 .skip))
 (.gw (.reg [mV 27 5,mV 28 8,.bs 29 1 [(.t 28)] false,.ap 30 (.t 27) (.t 29) 1 8,mV 5 30])))))
 (.reg [.bi 31 .add (.t 12) (kI 1),mV 12 31]))))))))
 (.seq (sR [mV 32 6,.un 33 (.t 32)]
 (.cond (.t 33) (.reg [mV 34 5,mV 35 1,.bs 36 1 [(.t 35)] false,.ap 37 (.t 34) (.t 36) 1 8,mV 5 37])
 .skip))
 (.gw (sR [mV 38 5,mV 4 38]
 gR))))))
def Zb4(x4:Int)(k4:(Bool×(List Int))->Option (List Int))(v6:Bool×(List Int)):Option (List Int) :=
 (appL 8 v6.2 [x4]).bind fun xs7=>k4 (v6.1,xs7)
def ZX1(v9:(List Int)):Option (List Int) :=
 some v9
def ZL2(n2:Int)(x4:Int)(_:Nat)(v4:Bool×(List Int))(k4:(Bool×(List Int))->Option (List Int)):Option (List Int) :=
 bif ((!v4.1)&&(decide (n2<x4)))then((appL 8 v4.2 [n2]).bind fun xs5=>(Zb4 x4 k4) (true,xs5))else((Zb4 x4 k4) (v4.1,v4.2))
def ZW1(n2:Int)(v4:Bool×(List Int)):Option (List Int) :=
 bif (!v4.1)then((appL 8 v4.2 [n2]).bind fun xs8=>ZX1 xs8)else(ZX1 v4.2)
def ZD4(l1:List Int)(n2:Int):Option (List Int) :=
 rgl (ZL2 n2) (ZW1 n2) l1 0 (false,[])
theorem ZDb{l1:List Int}{n2:Int}{r:(List Int)}(H:ZD4 l1 n2=some r):Snd Tryz.prog ZM9 [.sl .rd 1 (l1.map eI),.int .i64 n2] (.sl .nw 1 (r.map eI)) []:=by
 refine wS ZAi [.t 4] ?_
 unfold ZD4 at H
 refine wG [.u 11 (.ln _ _ fun _=>lm l1 eI)] fun q3=>?_
 refine wR (fun(i4:Nat) (v4:Bool×(List Int))=>⟨[(1,.int .i64 n2),(5,.sref 9),(6,.bool v4.1),(10,.sl .rd 1 (l1.map eI)),(11,.int .i64 (l1.length:Int)),(12,.int .i64 (i4:Int))],[],[],[(9,⟨1,v4.2.map eI,false⟩)]⟩) H (fun i4 x4 v4 I m k4 hxv4 hiv4 H N24=>?_) (fun v4 I m H=>?_)
 .unfold ZL2 at H
  refine wP ?_
  refine wt (ltT hiv4) ?_
  refine wG [.u 14 (.ix _ _ _ fun _=>Z1 eI (Z5 hxv4))] fun _=>?_
  refine Zqc (r:=r) (Zb4 x4 k4) 0 (fun v6:Bool×(List Int)=>⟨[(1,.int .i64 n2),(5,.sref 9),(6,.bool v6.1),(8,.int .i64 x4),(10,.sl .rd 1 (l1.map eI)),(11,.int .i64 (l1.length:Int)),(12,.int .i64 (i4:Int))],[],[],[(9,⟨1,v6.2.map eI,false⟩)]⟩) (by kernel_rfl) (fun v6 H=>?_) (fun J16=>?_)
  .unfold Zb4 at H
   obtain⟨xs7,h7,H⟩:=bB H
   refine wG [.u 30 (.ap _ _ _ _ fun _=>Z6 eI h7),.w 31 (wi .i64 rfl hiv4 q3.1)] fun _=>?_
   exact wT (N24 _ H)
  .refine Z3 H (fun H=>?_) fun H=>?_
   .obtain⟨xs5,h5,H⟩:=bB H
    refine wG [.u 26 (.ap _ _ _ _ fun _=>Z6 eI h5)] fun _=>?_
    exact wT (J16 _ H)
   .refine wP ?_
    exact wT (J16 _ H)
 .unfold ZW1 at H
  refine wP ?_
  refine wf (ltF l1.length) ?_
  refine wP ?_
  refine Zqc (r:=r) ZX1 0 (fun v9:(List Int)=>⟨[(5,.sref 9)],[],[],[(9,⟨1,v9.map eI,false⟩)]⟩) (by kernel_rfl) (fun v9 H=>?_) (fun J34=>?_)
  .unfold ZX1 at H
   refine wP ?_
   replace H:=sI H;subst H
   exact wN [(4,.f)] [] [] [9] [] [⟨_,nw_I v9⟩]
  .refine Z3 H (fun H=>?_) fun H=>?_
   .obtain⟨xs8,h8,H⟩:=bB H
    refine wG [.u 37 (.ap _ _ _ _ fun _=>Z6 eI h8)] fun _=>?_
    exact wT (J34 _ H)
   .refine wP ?_
    exact wT (J34 _ H)
def Zmk:L :=
sR [.bx 4 (.t 0),.mv 8 (.c (.nl)),.mv 9 (cB false)]
 (.seq (sR [lD 18 4 2 true,mV 19 1,cQ 20 Zw5 [18,19],.un 21 (.t 20),mV 22 21,.g 22 false (mV 23 2),.g 22 false (.bi 24 .lss (.t 23) (kI 1)),.pk 25 (.t 22) (cB true) (.t 24)]
 (.cond (.t 25) (sR [.mv 8 (.c (.nl)),.mv 9 (cB false)]
 gR)
 .skip))
 (.seq (sR [mV 26 1,.ln 27 (.t 26),.mv 28 (kI 0)]
 (.blk 0 (.loop (.gw (sR [bI 29 .lss 28 27]
 (.seq (.cond (.t 29) .skip
 (.exit 0))
 (.seq (.blk 1 (sR [mV 30 28,mV 10 30]
 (.seq (.rq 14 [mV 31 10,.bi 32 .gtr (.t 31) (kI 0),mV 33 32,.g 33 true (mV 34 1),.g 33 true (mV 35 10),.g 33 true (.bi 36 .sub (.t 35) (kI 1)),.g 33 true (iA 37 34 36 1),.g 33 true (lD 38 37 1 false),.g 33 true (mV 39 1),.g 33 true (mV 40 10),.g 33 true (iA 41 39 40 1),.g 33 true (lD 42 41 1 false),.g 33 true (bI 43 .geq 38 42),.pk 44 (.t 33) (.t 43) (cB false)])
 (.cond (.t 44) (sR [.mv 8 (.c (.nl)),.mv 9 (cB false)]
 gR)
 .skip))))
 (.reg [.bi 45 .add (.t 28) (kI 1),mV 28 45]))))))))
 (sR [lD 46 4 2 true,mV 47 1,mV 48 2,mV 49 3,cQ 50 Zub [46,47,48,49],mV 11 50]
 (.seq (sR [mV 51 11,.bi 52 .lss (.t 51) (kI 0)]
 (.cond (.t 52) (sR [.mv 8 (.c (.nl)),.mv 9 (cB false)]
 gR)
 .skip))
 (sR [lD 53 4 2 true,mV 54 1,mV 55 11,cQ 56 Zo3 [53,54,55],mV 12 56]
 (sR [.bs 57 1 [] true,mV 13 57]
 (sR [.bs 58 1 [] true,mV 14 58]
 (.seq (.blk 2 (.loop (.gw (.seq (sR [mV 59 13,.ln 60 (.t 59),mV 61 2,bI 62 .lss 60 61]
 (.cond (.t 62) .skip
 (.exit 2)))
 (.blk 3 (sR [lD 63 4 2 true,mV 64 12,mV 65 14,cQ 66 Zsd [63,64,65],mV 15 66]
 (sR [mV 67 14,mV 68 15,.bs 69 1 [(.t 68)] false,.ap 70 (.t 67) (.t 69) 1 8,mV 14 70]
 (sR [lD 71 4 2 true,mV 72 12,mV 73 15,cQ 74 Zo3 [71,72,73],.ln 75 (.t 74),.mv 76 (kI 0)]
 (.blk 4 (.loop (.gw (sR [bI 77 .lss 76 75]
 (.seq (.cond (.t 77) .skip
 (.exit 4))
 (.seq (.blk 5 (sR [iA 78 74 76 1,lD 79 78 1 false,mV 17 79]
 (sR [mV 80 13,.ln 81 (.t 80),mV 82 2,bI 83 .lss 81 82]
 (.cond (.t 83) (.reg [mV 84 13,mV 85 17,cQ 86 ZM9 [84,85],mV 13 86])
 .skip))))
 (.reg [.bi 87 .add (.t 76) (kI 1),mV 76 87])))))))))))))))
 (sR [mV 88 13,mV 8 88,.mv 9 (cB true)]
 gR)))))))))
def Za5(n3:Int)(x17:Int)(_:Nat)(v17:(List Int))(k17:(List Int)->Option ((List Int)×Bool)):Option ((List Int)×Bool) :=
 bif (decide ((v17.length:Int)<n3))then((ZD4 v17 x17).bind fun y19=>k17 y19)else(k17 v17)
def Zg8(k11:((List Int)×(List Int))->Option ((List Int)×Bool))(xs14:List Int)(v17:(List Int)):Option ((List Int)×Bool) :=
 k11 (v17,xs14)
def Z83(t1:Topo)(n3:Int)(y10:(List Int))(v11:(List Int)×(List Int))(k11:((List Int)×(List Int))->Option ((List Int)×Bool)):Option ((List Int)×Bool) :=
 bif (decide ((v11.1.length:Int)<n3))then((Z03 t1 y10 v11.2).bind fun n13=>(appL 8 v11.2 [n13]).bind fun xs14=>(ZY1 t1 y10 n13).bind fun y15=>rgl (Za5 n3) (Zg8 k11 xs14) y15 0 v11.1)else(some (v11.1,true))
def Zi8(nodes2:List Int)(x7:Int)(i7:Nat)(_:Unit)(k7:Unit->Option ((List Int)×Bool)):Option ((List Int)×Bool) :=
 (bif (decide (0<(i7:Int)))then(idx nodes2 (w64 ((i7:Int)-1)))else some default).bind fun e8=>bif ((decide (0<(i7:Int)))&&(decide (x7<=e8)))then(some ([],false))else(k7 ())
def Zh8(t1:Topo)(nodes2:List Int)(n3:Int)(level4:Int)(_:Unit):Option ((List Int)×Bool) :=
 (ZR3 t1 nodes2 n3 level4).bind fun n9=>bif (decide (n9<0))then(some ([],false))else((ZY1 t1 nodes2 n9).bind fun y10=>whl (Z83 t1 n3 y10) 9223372036854775807 ([],[]))
def Zj8(t1:Topo)(nodes2:List Int)(n3:Int)(level4:Int):Option ((List Int)×Bool) :=
 (Z32 t1 nodes2).bind fun b5=>bif ((!b5)||(decide (n3<1)))then(some ([],false))else(rgl (Zi8 nodes2) (Zh8 t1 nodes2 n3 level4) nodes2 0 ())
theorem ZHj{t1:Topo}{nodes2:List Int}{n3:Int}{level4:Int}{r:(List Int)×Bool}(H:Zj8 t1 nodes2 n3 level4=some r):Snd Tryz.prog ZWe [Zy .rd t1,.sl .rd 1 (nodes2.map eI),.int .i64 n3,.int .i64 level4] (.tup [.sl .nw 1 (r.1.map eI),.bool r.2]) []:=by
 refine wS Zmk [.t 8,.t 9] ?_
 unfold Zj8 at H
 obtain⟨b5,h5,H⟩:=bB H
 refine wG [.c 20 (Z57 h5)] fun _=>?_
 refine Z3 H (fun H=>?_) fun H=>?_
 .refine wP ?_
  replace H:=sI H;subst H
  exact wN [(8,.n 1),(9,.d)] [] [] [] [] [⟨_,nw_I ([]:List Int)⟩]
 .refine wG [.u 27 (.ln _ _ fun _=>lm nodes2 eI)] fun q6=>?_
  refine wR (fun(i7:Nat) (v7:Unit)=>⟨[(1,.sl .rd 1 (nodes2.map eI)),(2,.int .i64 n3),(3,.int .i64 level4),(4,.ptr 4 0),(27,.int .i64 (nodes2.length:Int)),(28,.int .i64 (i7:Int))],[],[(4,(Zy .rd t1).cells)],[]⟩) H (fun i7 x7 v7 I m k7 hxv7 hiv7 H N27=>?_) (fun v7 I m H=>?_)
  .unfold Zi8 at H
   refine wP ?_
   refine wt (ltT hiv7) ?_
   obtain⟨e8,h8,H⟩:=bB H
   refine wG [.g 37 [(_,true)] (.ix _ _ _ fun q=>Z1 eI (bT q.1 h8)),.g 41 [((decide (0<(i7:Int))),true)] (.ix _ _ _ fun _=>Z1 eI (Z5 hxv7))] fun _=>?_
   refine Z3 H (fun H=>?_) fun H=>?_
   .refine wP ?_
    replace H:=sI H;subst H
    exact wN [(8,.n 1),(9,.d)] [] [] [] [] [⟨_,nw_I ([]:List Int)⟩]
   .refine wG [.w 45 (wi .i64 rfl hiv7 q6.1)] fun _=>?_
    exact wT (N27 () H)
  .unfold Zh8 at H
   refine wP ?_
   refine wf (ltF nodes2.length) ?_
   obtain⟨n9,h9,H⟩:=bB H
   refine wG [.c 50 (Zff h9)] fun _=>?_
   refine Z3 H (fun H=>?_) fun H=>?_
   .refine wP ?_
    replace H:=sI H;subst H
    exact wN [(8,.n 1),(9,.d)] [] [] [] [] [⟨_,nw_I ([]:List Int)⟩]
   .obtain⟨y10,h10,H⟩:=bB H
    refine wG [.c 56 (Zr3 h10)] fun _=>?_
    refine Z1q (fun(v11:(List Int)×(List Int))=>⟨[(2,.int .i64 n3),(4,.ptr 4 0),(12,.sl .nw 1 (y10.map eI)),(13,.sl .nw 1 (v11.1.map eI)),(14,.sref 58)],[],[(4,(Zy .rd t1).cells)],[(58,⟨1,v11.2.map eI,false⟩)]⟩) [(13,.f)] [] [] [57] (by kernel_rfl) (by kernel_rfl) H (fun v11 I m k11 H N72=>?_)
    unfold Z83 at H
    refine wG [.u 60 (.ln _ _ fun _=>lm v11.1 eI)] fun q12=>?_
    refine Z3 H (fun H=>?_) fun H=>?_
    .obtain⟨n13,h13,H⟩:=bB H
     obtain⟨xs14,h14,H⟩:=bB H
     obtain⟨y15,h15,H⟩:=bB H
     refine wG [.c 66 (ZLh h13),.u 70 (.ap _ _ _ _ fun _=>Z6 eI h14),.c 74 (Zr3 h15),.u 75 (.ln _ _ fun _=>lm y15 eI)] fun q16=>?_
     refine wR (fun(i17:Nat) (v17:(List Int))=>⟨[(2,.int .i64 n3),(4,.ptr 4 0),(12,.sl .nw 1 (y10.map eI)),(13,.sl .nw 1 (v17.map eI)),(14,.sref 58),(74,.sl .nw 1 (y15.map eI)),(75,.int .i64 (y15.length:Int)),(76,.int .i64 (i17:Int))],[],[(4,(Zy .rd t1).cells)],[(58,⟨1,xs14.map eI,false⟩)]⟩) H (fun i17 x17 v17 I m k17 hxv17 hiv17 H N65=>?_) (fun v17 I m H=>?_)
     .unfold Za5 at H
      refine wP ?_
      refine wt (ltT hiv17) ?_
      refine wG [.u 78 (.ix _ _ _ fun _=>Z1 eI (Z5 hxv17)),.u 81 (.ln _ _ fun _=>lm v17 eI)] fun q18=>?_
      refine Z3 H (fun H=>?_) fun H=>?_
      .obtain⟨y19,h19,H⟩:=bB H
       refine wG [.c 86 (ZDb h19),.w 87 (wi .i64 rfl hiv17 q16.1)] fun _=>?_
       exact wT (N65 _ H)
      .refine wG [.w 87 (wi .i64 rfl hiv17 q16.1)] fun _=>?_
       exact wT (N65 _ H)
     .unfold Zg8 at H
      refine wP ?_
      refine wf (ltF y15.length) ?_
      refine wP ?_
      exact wT (N72 _ H)
    .refine wP ?_
     replace H:=sI H;subst H
     exact wN [(8,.d),(9,.d)] [] [] [] [] [⟨_,nw_I v11.1⟩]
def ZWg:L :=
sR [.bx 2 (.t 0),.mv 4 (.c (.nl))]
 (sR [mV 10 1,.bs 11 1 [(.t 10)] true,mV 5 11]
 (.seq (.seq (.rz [] [(1,false,fA 13 2 3),
 (2,false,lD 14 13 1 false),
 (4,false,fA 16 2 4),
 (5,false,lD 17 16 1 true),
 (6,false,.bs 18 1 [(.t 17)] false),
 (9,false,.mv 21 (kI 0)),
 (0,true,.bs 12 1 [] true),
 (3,true,.ap 15 (.t 12) (.t 14) 1 24),
 (7,true,.ap 19 (.t 15) (.t 18) 1 24),
 (8,true,.ln 20 (.t 19))]
 [])
 (.blk 0 (.loop (.gw (sR [bI 22 .lss 21 20]
 (.seq (.cond (.t 22) .skip
 (.exit 0))
 (.seq (.blk 1 (sR [iA 23 19 21 1,lD 24 23 1 true,.al 7 [.nl],.st (.t 7) (.t 24) 1]
 (sR [fA 25 7 0,lD 26 25 1 false,.ln 27 (.t 26),.mv 28 (kI 0)]
 (.blk 2 (.loop (.gw (sR [bI 29 .lss 28 27]
 (.seq (.cond (.t 29) .skip
 (.exit 2))
 (.seq (.blk 3 (sR [iA 30 26 28 4,lD 31 30 4 true,.al 9 [.int .i64 0,.int .i64 0,.int .i64 0,.int .i64 0],.st (.t 9) (.t 31) 4]
 (sR [fA 32 9 0,lD 33 32 1 false,mV 34 1,bI 35 .gtr 33 34,mV 36 35,.g 36 true (mV 37 5),.g 36 true (fA 38 9 0),.g 36 true (lD 39 38 1 false),.g 36 true (cQ 40 ZK3 [37,39]),.g 36 true (.un 41 (.t 40)),.pk 42 (.t 36) (.t 41) (cB false)]
 (.cond (.t 42) (.reg [mV 43 5,fA 44 9 0,lD 45 44 1 false,cQ 46 ZM9 [43,45],mV 5 46])
 .skip))))
 (.reg [.bi 47 .add (.t 28) (kI 1),mV 28 47]))))))))))
 (.reg [.bi 48 .add (.t 21) (kI 1),mV 21 48]))))))))
 (sR [mV 49 5,mV 4 49]
 gR)))
def Zq3(from2:Int)(x8:Pt)(_:Nat)(v8:(List Int))(k8:(List Int)->Option (List Int)):Option (List Int) :=
 (bif (decide (from2<x8.t))then(Zb2 v8 x8.t)else some default).bind fun b9=>bif ((decide (from2<x8.t))&&(!b9))then((ZD4 v8 x8.t).bind fun y10=>k8 y10)else(k8 v8)
def ZH5(k6:(List Int)->Option (List Int))(v8:(List Int)):Option (List Int) :=
 k6 v8
def Zp3(from2:Int)(x6:List Pt)(_:Nat)(v6:(List Int))(k6:(List Int)->Option (List Int)):Option (List Int) :=
 rgl (Zq3 from2) (ZH5 k6) x6 0 v6
def ZG5(v6:(List Int)):Option (List Int) :=
 some v6
def ZZ4(r1:Room)(from2:Int):Option (List Int) :=
 (appL 24 ([]:List (List Pt)) r1.profs).bind fun xs3=>(appL 24 xs3 [r1.lics]).bind fun xs4=>(lenQ xs4).bind fun _=>rgl (Zp3 from2) ZG5 xs4 0 [from2]
theorem Zxg{r1:Room}{from2:Int}{r:(List Int)}(H:ZZ4 r1 from2=some r):Snd Tryz.prog Ztc [Zq1 .rd r1,.int .i64 from2] (.sl .nw 1 (r.map eI)) []:=by
 refine wS ZWg [.t 4] ?_
 unfold ZZ4 at H
 obtain⟨xs3,h3,H⟩:=bB H
 obtain⟨xs4,h4,H⟩:=bB H
 obtain⟨u5,h5,H⟩:=bB H
 refine wG [.u 15 (.ap _ _ _ _ fun _=>Z6 (Zg .rd) h3),.u 19 (.ap _ _ _ _ fun _=>Z6 (Zg .rd) h4),.u 20 (.le _ _ (fun _=>lm xs4 (Zg .rd)) (fun _=>Zmr h5))] fun _=>?_
 refine Zpc (fun(i6:Nat) (v6:(List Int))=>⟨[(1,.int .i64 from2),(5,.sl .nw 1 (v6.map eI)),(19,.sref 12),(20,.int .i64 (xs4.length:Int)),(21,.int .i64 (i6:Int))],[],[],[(12,⟨1,xs4.map (Zg .rd),false⟩)]⟩) [(5,.f)] [] [] [11] (by kernel_rfl) (by kernel_rfl) H (fun i6 x6 v6 I m k6 hxv6 hiv6 H N34=>?_) (fun v6 I m H=>?_)
 .unfold Zp3 at H
  refine wP ?_
  refine wt (ltT hiv6) ?_
  refine wG [.u 23 (.ix _ _ _ fun _=>Z1 (Zg .rd) (Z5 hxv6)),.u 24 (.el _ _ _ fun _=>gm (Zg .rd) (Zk1 (Z5 hxv6))),.u 27 (.ln _ _ fun _=>lm x6 ePt)] fun q7=>?_
  refine wR (fun(i8:Nat) (v8:(List Int))=>⟨[(1,.int .i64 from2),(5,.sl .nw 1 (v8.map eI)),(19,.sref 12),(20,.int .i64 (xs4.length:Int)),(21,.int .i64 (i6:Int)),(26,.sl .rd 4 (x6.map ePt)),(27,.int .i64 (x6.length:Int)),(28,.int .i64 (i8:Int))],[],[],[(12,⟨1,xs4.map (Zg .rd),false⟩)]⟩) H (fun i8 x8 v8 I m k8 hxv8 hiv8 H N25=>?_) (fun v8 I m H=>?_)
  .unfold Zq3 at H
   refine wP ?_
   refine wt (ltT hiv8) ?_
   obtain⟨b9,h9,H⟩:=bB H
   refine wG [.u 30 (.ix _ _ _ fun _=>Z1 ePt (Z5 hxv8)),.g 40 [(_,true)] (.call _ _ _ _ _ (AEs.refl _) (fun q=>ZT3 (bT q.1 h9)))] fun _=>?_
   refine Z3 H (fun H=>?_) fun H=>?_
   .obtain⟨y10,h10,H⟩:=bB H
    refine wG [.c 46 (ZDb h10),.w 47 (wi .i64 rfl hiv8 q7.1)] fun _=>?_
    exact wT (N25 _ H)
   .refine wG [.w 47 (wi .i64 rfl hiv8 q7.1)] fun _=>?_
    exact wT (N25 _ H)
  .unfold ZH5 at H
   refine wP ?_
   refine wf (ltF x6.length) ?_
   refine wG [.w 48 (wi .i64 rfl hiv6 (Zmr h5))] fun _=>?_
   exact wT (N34 _ H)
 .unfold ZG5 at H
  refine wP ?_
  refine wf (ltF xs4.length) ?_
  refine wP ?_
  replace H:=sI H;subst H
  exact wN [(4,.d)] [] [] [] [] [⟨_,nw_I v6⟩]
def Zak:L :=
sR [.bx 3 (.t 0),.bx 4 (.t 1),.mv 6 (.c (.nl)),.mv 7 (cB false)]
 (sR [fA 11 3 4,lD 12 11 1 true,mV 13 2,mV 14 2,fA 15 4 9,lD 16 15 1 false,bI 17 .add 14 16,cQ 18 ZE6 [12,13,17],mV 10 18,eX 19 10 0,eX 20 10 1,.al 8 [.int .i64 0,.int .i64 0,.int .i64 0],.st (.t 8) (.t 19) 3,mV 9 20]
 (.seq (sR [mV 21 9,.un 22 (.t 21),mV 23 22,.g 23 false (fA 24 4 6),.g 23 false (lD 25 24 3 true),.g 23 false (lD 26 8 3 true),.g 23 false (cQ 27 Z74 [25,26]),.g 23 false (.un 28 (.t 27)),.pk 29 (.t 23) (cB true) (.t 28)]
 (.cond (.t 29) (sR [.mv 6 (.c (.nl)),.mv 7 (cB false)]
 gR)
 .skip))
 (.seq (.rq 20 [fA 30 3 0,lD 31 30 2 true,lD 32 3 5 true,fA 33 4 3,lD 34 33 3 true,mV 35 2,mV 36 2,fA 37 4 9,lD 38 37 1 false,bI 39 .add 36 38,cQ 40 Zyc [32,34,35,39],fA 41 4 2,lD 42 41 1 false,fA 43 4 10,lD 44 43 1 false,cQ 45 ZWe [31,40,42,44],eX 46 45 0,eX 47 45 1,mV 6 46,mV 7 47])
 gR)))
def Z68(r1:Room)(j2:Job)(t3:Int):Option ((List Int)×Bool) :=
 (Z63 r1.lics t3 (w64 (t3+j2.wall))).bind fun y4=>bif ((!y4.2)||(!(Zp j2.lic y4.1)))then(some ([],false))else((Z95 r1 j2.need t3 (w64 (t3+j2.wall))).bind fun y5=>(Zj8 r1.topo y5 j2.nodes j2.level).bind fun y6=>some (y6.1,y6.2))
theorem Zzj{r1:Room}{j2:Job}{t3:Int}{r:(List Int)×Bool}(H:Z68 r1 j2 t3=some r):Snd Tryz.prog ZUe [Zq1 .rd r1,eJob j2,.int .i64 t3] (.tup [.sl .nw 1 (r.1.map eI),.bool r.2]) []:=by
 refine wS Zak [.t 6,.t 7] ?_
 unfold Z68 at H
 obtain⟨y4,h4,H⟩:=bB H
 refine wG [.c 18 (Zf8 h4),.g 27 [((!y4.2),false)] (.call _ _ _ _ _ (AEs.refl _) (fun _=>Z98 j2.lic y4.1))] fun _=>?_
 refine Z3 H (fun H=>?_) fun H=>?_
 .refine wP ?_
  replace H:=sI H;subst H
  exact wN [(6,.n 1),(7,.d)] [] [] [] [] [⟨_,nw_I ([]:List Int)⟩]
 .obtain⟨y5,h5,H⟩:=bB H
  obtain⟨y6,h6,H⟩:=bB H
  refine wG [.c 40 (ZHg h5),.c 45 (ZHj h6)] fun _=>?_
  replace H:=sI H;subst H
  exact wN [(6,.d),(7,.d)] [] [] [] [] [⟨_,nw_I y6.1⟩]
def Z3h:L :=
sR [.bx 3 (.t 0),.bx 4 (.t 1),.mv 6 (kI 0),.mv 7 (.c (.nl)),.mv 8 (cB false)]
 (.seq (sR [lD 13 3 5 true,cQ 14 Zz5 [13],.un 15 (.t 14),mV 16 15,.g 16 false (lD 17 4 11 true),.g 16 false (cQ 18 ZU6 [17]),.g 16 false (.un 19 (.t 18)),.pk 20 (.t 16) (cB true) (.t 19),mV 21 20,.g 21 false (mV 22 2),.g 21 false (cQ 23 Z21 [22]),.g 21 false (.un 24 (.t 23)),.pk 25 (.t 21) (cB true) (.t 24)]
 (.cond (.t 25) (sR [.mv 6 (kI 0),.mv 7 (.c (.nl)),.mv 8 (cB false)]
 gR)
 .skip))
 (.seq (sR [lD 26 3 5 true,mV 27 2,cQ 28 Ztc [26,27],.ln 29 (.t 28),.mv 30 (kI 0)]
 (.blk 0 (.loop (.gw (sR [bI 31 .lss 30 29]
 (.seq (.cond (.t 31) .skip
 (.exit 0))
 (.seq (.blk 1 (sR [iA 32 28 30 1,lD 33 32 1 false,mV 10 33]
 (sR [lD 35 3 5 true,lD 36 4 11 true,mV 37 10,cQ 38 ZUe [35,36,37],mV 34 38,eX 39 34 0,eX 40 34 1,mV 11 39,mV 12 40]
 (sR [mV 41 12]
 (.cond (.t 41) (sR [mV 42 10,mV 43 11,mV 6 42,mV 7 43,.mv 8 (cB true)]
 gR)
 .skip)))))
 (.reg [.bi 44 .add (.t 30) (kI 1),mV 30 44]))))))))
 (sR [.mv 6 (kI 0),.mv 7 (.c (.nl)),.mv 8 (cB false)]
 gR)))
def ZQ5(r1:Room)(j2:Job)(x7:Int)(_:Nat)(_:Unit)(k7:Unit->Option (Int×(List Int)×Bool)):Option (Int×(List Int)×Bool) :=
 (Z68 r1 j2 x7).bind fun y8=>bif y8.2 then(some (x7,y8.1,true))else(k7 ())
def ZP5(_:Unit):Option (Int×(List Int)×Bool) :=
 some (0,[],false)
def Zy3(r1:Room)(j2:Job)(from3:Int):Option (Int×(List Int)×Bool) :=
 (Z43 r1).bind fun b4=>bif (((!b4)||(!(Z9 j2)))||(!(Zo from3)))then(some (0,[],false))else((ZZ4 r1 from3).bind fun y5=>rgl (ZQ5 r1 j2) ZP5 y5 0 ())
theorem ZIg{r1:Room}{j2:Job}{from3:Int}{r:Int×(List Int)×Bool}(H:Zy3 r1 j2 from3=some r):Snd Tryz.prog Zzc [Zq1 .rd r1,eJob j2,.int .i64 from3] (.tup [.int .i64 r.1,.sl .nw 1 (r.2.1.map eI),.bool r.2.2]) []:=by
 refine wS Z3h [.t 6,.t 7,.t 8] ?_
 unfold Zy3 at H
 obtain⟨b4,h4,H⟩:=bB H
 refine wG [.c 14 (Zn6 h4),.g 18 [((!b4),false)] (.call _ _ _ _ _ (AEs.refl _) (fun _=>Zpa j2)),.g 23 [(((!b4)||(!(Z9 j2))),false)] (.call _ _ _ _ _ (AEs.refl _) (fun _=>Za1 from3))] fun _=>?_
 refine Z3 H (fun H=>?_) fun H=>?_
 .refine wP ?_
  replace H:=sI H;subst H
  exact wN [(6,.d),(7,.n 1),(8,.d)] [] [] [] [] [⟨_,nw_I ([]:List Int)⟩]
 .obtain⟨y5,h5,H⟩:=bB H
  refine wG [.c 28 (Zxg h5),.u 29 (.ln _ _ fun _=>lm y5 eI)] fun q6=>?_
  refine wR (fun(i7:Nat) (v7:Unit)=>⟨[(3,.ptr 3 0),(4,.ptr 4 0),(28,.sl .nw 1 (y5.map eI)),(29,.int .i64 (y5.length:Int)),(30,.int .i64 (i7:Int))],[],[(3,(Zq1 .rd r1).cells),(4,(eJob j2).cells)],[]⟩) H (fun i7 x7 v7 I m k7 hxv7 hiv7 H N29=>?_) (fun v7 I m H=>?_)
  .unfold ZQ5 at H
   refine wP ?_
   refine wt (ltT hiv7) ?_
   obtain⟨y8,h8,H⟩:=bB H
   refine wG [.u 32 (.ix _ _ _ fun _=>Z1 eI (Z5 hxv7)),.c 38 (Zzj h8)] fun _=>?_
   refine Z3 H (fun H=>?_) fun H=>?_
   .refine wP ?_
    replace H:=sI H;subst H
    exact wN [(6,.d),(7,.d),(8,.d)] [] [] [] [] [⟨_,nw_I y8.1⟩]
   .refine wG [.w 44 (wi .i64 rfl hiv7 q6.1)] fun _=>?_
    exact wT (N29 () H)
  .unfold ZP5 at H
   refine wP ?_
   refine wf (ltF y5.length) ?_
   refine wP ?_
   replace H:=sI H;subst H
   exact wN [(6,.d),(7,.n 1),(8,.d)] [] [] [] [] [⟨_,nw_I ([]:List Int)⟩]
def ZBi:L :=
sR [.bx 1 (.t 0),.al 2 [.nl]]
 (sR [.bs 3 4 [] true,fA 4 1 0,lD 5 4 1 false,.ap 6 (.t 3) (.t 5) 4 32,.bd 7 [.nl] [(0,1,(.t 6))],.st (.t 2) (.t 7) 1]
 gR)
def ZE4(p1:List Pt):Option (List Pt) :=
 (appL 32 ([]:List Pt) p1).bind fun xs2=>some xs2
theorem ZEb{p1:List Pt}{r:(List Pt)}(H:ZE4 p1=some r):Snd Tryz.prog ZN9 [.agg [.sl .rd 4 (p1.map ePt)]] (Zg .nw r) []:=by
 refine wS ZBi [.c 2 1 true] ?_
 unfold ZE4 at H
 obtain⟨xs2,h2,H⟩:=bB H
 refine wG [.u 6 (.ap _ _ _ _ fun _=>Z6 ePt h2)] fun _=>?_
 replace H:=sI H;subst H
 exact wN [(2,.d)] [(2,[.f])] [] [3] [] [⟨_,ZH2 xs2⟩]
def ZEi:L :=
sR [.bx 1 (.t 0),.al 2 [.nl,.nl,.nl,.nl,.nl]]
 (.seq (.rz [(8,3,[.nl,.nl,.nl,.nl,.nl])] [(1,false,fA 7 1 2),
 (2,false,lD 8 7 1 false),
 (4,false,fA 10 1 4),
 (5,false,lD 11 10 1 true),
 (0,true,.bs 6 1 [] true),
 (3,true,.ap 9 (.t 6) (.t 8) 1 1),
 (6,false,cQ 12 ZN9 [11]),
 (7,true,.bd 13 [.nl,.nl,.nl,.nl,.nl] [(2,1,(.t 9)),(4,1,(.t 12))])]
 [.st (.t 3) (.t 13) 5])
 (.seq (.rq 12 [.be 14,fA 15 1 0,fA 16 15 0,lD 17 16 1 false,.ae 18 (.t 14) (.t 17) 1 8,.be 19,fA 20 1 0,fA 21 20 1,lD 22 21 1 false,.ae 23 (.t 19) (.t 22) 4 32,.bd 24 [.nl,.nl] [(0,1,(.t 18)),(1,1,(.t 23))],fA 25 3 0,.st (.t 25) (.t 24) 2])
 (.seq (sR [fA 26 1 3,lD 27 26 1 false,.ln 28 (.t 27),.mv 29 (kI 0)]
 (.blk 0 (.loop (.gw (sR [bI 30 .lss 29 28]
 (.seq (.cond (.t 30) .skip
 (.exit 0))
 (.seq (.blk 1 (sR [iA 31 27 29 1,lD 32 31 1 true,.al 5 [.nl],.st (.t 5) (.t 32) 1]
 (.rq 5 [fA 33 3 3,lD 34 33 1 false,lD 35 5 1 true,cQ 36 ZN9 [35],.bs 37 1 [(.t 36)] false,.ap 38 (.t 34) (.t 37) 1 24,fA 39 3 3,.st (.t 39) (.t 38) 1])))
 (.reg [.bi 40 .add (.t 29) (kI 1),mV 29 40]))))))))
 (sR [lD 41 3 5 true,.st (.t 2) (.t 41) 5]
 gR))))
def Zd4(x7:List Pt)(_:Nat)(v7:(List (List Pt)))(k7:(List (List Pt))->Option Room):Option Room :=
 (ZE4 x7).bind fun y8=>(appL 24 v7 [y8]).bind fun xs9=>k7 xs9
def Z47(xs2:List Bool)(y3:(List Pt))(xs4:List Int)(xs5:List Node)(v7:(List (List Pt))):Option Room :=
 some (Room.mk (Topo.mk xs4 xs5) xs2 v7 y3)
def ZG4(r1:Room):Option Room :=
 (appL 1 ([]:List Bool) r1.up).bind fun xs2=>(ZE4 r1.lics).bind fun y3=>(appL 8 ([]:List Int) r1.topo.parents).bind fun xs4=>(appL 32 ([]:List Node) r1.topo.nodes).bind fun xs5=>rgl Zd4 (Z47 xs2 y3 xs4 xs5) r1.profs 0 []
theorem ZHb{r1:Room}{r:Room}(H:ZG4 r1=some r):Snd Tryz.prog ZP9 [Zq1 .rd r1] (.agg [.sl .nw 1 (r.topo.parents.map eI),.sl .nw 4 (r.topo.nodes.map Zf),.sref 0,.sref 1,.sl .nw 4 (r.lics.map ePt)]) [⟨1,r.up.map eBo,false⟩,⟨1,r.profs.map (Zg .nw),false⟩]:=by
 refine wS ZEi [.c 2 5 true] ?_
 unfold ZG4 at H
 obtain⟨xs2,h2,H⟩:=bB H
 obtain⟨y3,h3,H⟩:=bB H
 obtain⟨xs4,h4,H⟩:=bB H
 obtain⟨xs5,h5,H⟩:=bB H
 refine wG [.u 9 (.ap _ _ _ _ fun _=>Z6 eBo h2),.c 12 (ZEb h3),.u 18 (.ap _ _ _ _ fun _=>Z6 eI h4),.u 23 (.ap _ _ _ _ fun _=>Z6 Zf h5),.u 28 (.ln _ _ fun _=>lm r1.profs (Zg .rd))] fun q6=>?_
 refine Zpc (fun(i7:Nat) (v7:(List (List Pt)))=>⟨[(2,.ptr 2 0),(3,.ptr 3 0),(27,.sl .rd 1 (r1.profs.map (Zg .rd))),(28,.int .i64 (r1.profs.length:Int)),(29,.int .i64 (i7:Int))],[],[(2,[.nl,.nl,.nl,.nl,.nl]),(3,[.sl .nw 1 (xs4.map eI),.sl .nw 4 (xs5.map Zf),.sref 6,.sref 386001,.sl .nw 4 (y3.map ePt)])],[(6,⟨1,xs2.map eBo,false⟩),(386001,⟨1,v7.map (Zg .nw),false⟩)]⟩) [] [(3,[.d,.d,.d,.z 386001,.d])] [(386001,(none,1))] [] (by kernel_rfl) (by kernel_rfl) H (fun i7 x7 v7 I m k7 hxv7 hiv7 H N16=>?_) (fun v7 I m H=>?_)
 .unfold Zd4 at H
  refine wP ?_
  refine wt (ltT hiv7) ?_
  obtain⟨y8,h8,H⟩:=bB H
  obtain⟨xs9,h9,H⟩:=bB H
  refine wG [.u 31 (.ix _ _ _ fun _=>Z1 (Zg .rd) (Z5 hxv7)),.c 36 (ZEb h8),.u 38 (.ap _ _ _ _ fun _=>Z6 (Zg .nw) h9),.w 40 (wi .i64 rfl hiv7 q6.1)] fun _=>?_
  exact wT (N16 _ H)
 .unfold Z47 at H
  refine wP ?_
  refine wf (ltF r1.profs.length) ?_
  refine wP ?_
  replace H:=sI H;subst H
  exact wN [(2,.d)] [(2,[])] [(6,some 6,0),(386001,some 386001,0)] [] [some 6,some 386001] [⟨_,nw_I xs4⟩,⟨_,Zx xs5⟩,⟨_,ZH2 y3⟩,⟨_,ZI2 xs2⟩,⟨_,Zb1 v7⟩]
def ZDi:L :=
sR [.bx 3 (.t 0),.bx 4 (.t 1),.mv 6 (cB false)]
 (.seq (sR [lD 9 3 5 true,cQ 10 Zz5 [9],.un 11 (.t 10),mV 12 11,.g 12 false (lD 13 4 11 true),.g 12 false (cQ 14 ZU6 [13]),.g 12 false (.un 15 (.t 14)),.pk 16 (.t 12) (cB true) (.t 15),mV 17 16,.g 17 false (mV 18 2),.g 17 false (.ln 19 (.t 18)),.g 17 false (fA 20 4 2),.g 17 false (lD 21 20 1 false),.g 17 false (bI 22 .neq 19 21),.pk 23 (.t 17) (cB true) (.t 22),mV 24 23,.g 24 false (fA 25 3 0),.g 24 false (lD 26 25 2 true),.g 24 false (mV 27 2),.g 24 false (cQ 28 Zw5 [26,27]),.g 24 false (.un 29 (.t 28)),.pk 30 (.t 24) (cB true) (.t 29)]
 (.cond (.t 30) (.seq (rE 6 (cB false))
 gR)
 .skip))
 (.seq (sR [mV 31 2,.ln 32 (.t 31),.mv 33 (kI 0)]
 (.blk 0 (.loop (.gw (sR [bI 34 .lss 33 32]
 (.seq (.cond (.t 34) .skip
 (.exit 0))
 (.seq (.blk 1 (sR [mV 35 33,iA 36 31 33 1,lD 37 36 1 false,mV 7 35,mV 8 37]
 (sR [mV 38 2,mV 39 7,.sc 40 (.t 38) none (some (.t 39)) 1,mV 41 8,cQ 42 ZK3 [40,41]]
 (.cond (.t 42) (.seq (rE 6 (cB false))
 gR)
 .skip))))
 (.reg [.bi 43 .add (.t 33) (kI 1),mV 33 43]))))))))
 (.seq (rE 6 (cB true))
 gR)))
def Z37(nodes3:List Int)(x7:Int)(i7:Nat)(_:Unit)(k7:Unit->Option Bool):Option Bool :=
 (cutL nodes3 none (some (i7:Int))).bind fun xs8=>(Zb2 xs8 x7).bind fun b9=>bif b9 then(some false)else(k7 ())
def Zcb(_:Unit):Option Bool :=
 some true
def ZF4(r1:Room)(j2:Job)(nodes3:List Int):Option Bool :=
 (Z43 r1).bind fun b4=>(bif (((!b4)||(!(Z9 j2)))||((nodes3.length:Int)!=j2.nodes))then some default else(Z32 r1.topo nodes3)).bind fun b5=>bif ((((!b4)||(!(Z9 j2)))||((nodes3.length:Int)!=j2.nodes))||(!b5))then(some false)else(rgl (Z37 nodes3) Zcb nodes3 0 ())
theorem ZFb{r1:Room}{j2:Job}{nodes3:List Int}{r:Bool}(H:ZF4 r1 j2 nodes3=some r):Snd Tryz.prog ZO9 [Zq1 .rd r1,eJob j2,.sl .rd 1 (nodes3.map eI)] (.bool r) []:=by
 refine wS ZDi [.t 6] ?_
 unfold ZF4 at H
 obtain⟨b4,h4,H⟩:=bB H
 obtain⟨b5,h5,H⟩:=bB H
 refine wG [.c 10 (Zn6 h4),.g 14 [((!b4),false)] (.call _ _ _ _ _ (AEs.refl _) (fun _=>Zpa j2)),.g 19 [(((!b4)||(!(Z9 j2))),false)] (.ln _ _ fun _=>lm nodes3 eI),.g 28 [(_,false)] (.call _ _ _ _ _ (AEs.refl _) (fun q=>Z57 (bF q.1 h5)))] fun _=>?_
 refine Z3 H (fun H=>?_) fun H=>?_
 .refine wP ?_
  replace H:=sI H;subst H
  exact wE [(6,.d)]
 .refine wG [.u 32 (.ln _ _ fun _=>lm nodes3 eI)] fun q6=>?_
  refine wR (fun(i7:Nat) (v7:Unit)=>⟨[(2,.sl .rd 1 (nodes3.map eI)),(31,.sl .rd 1 (nodes3.map eI)),(32,.int .i64 (nodes3.length:Int)),(33,.int .i64 (i7:Int))],[],[],[]⟩) H (fun i7 x7 v7 I m k7 hxv7 hiv7 H N27=>?_) (fun v7 I m H=>?_)
  .unfold Z37 at H
   refine wP ?_
   refine wt (ltT hiv7) ?_
   obtain⟨xs8,h8,H⟩:=bB H
   obtain⟨b9,h9,H⟩:=bB H
   refine wG [.u 36 (.ix _ _ _ fun _=>Z1 eI (Z5 hxv7)),.u 40 (.sc _ _ _ _ fun _=>Zon eI h8),.c 42 (ZT3 h9)] fun _=>?_
   refine Z3 H (fun H=>?_) fun H=>?_
   .refine wP ?_
    replace H:=sI H;subst H
    exact wE [(6,.d)]
   .refine wG [.w 43 (wi .i64 rfl hiv7 q6.1)] fun _=>?_
    exact wT (N27 () H)
  .unfold Zcb at H
   refine wP ?_
   refine wf (ltF nodes3.length) ?_
   refine wP ?_
   replace H:=sI H;subst H
   exact wE [(6,.d)]
def ZJi:L :=
sR [.bx 4 (.t 0),.bx 5 (.t 1),.al 8 [.nl,.nl,.nl,.nl,.nl],.mv 9 (cB false)]
 (.seq (sR [lD 17 4 5 true,lD 18 5 11 true,mV 19 3,cQ 20 ZO9 [17,18,19],.un 21 (.t 20),mV 22 21,.g 22 false (mV 23 2),.g 22 false (cQ 24 Z21 [23]),.g 22 false (.un 25 (.t 24)),.pk 26 (.t 22) (cB true) (.t 25)]
 (.cond (.t 26) (sR [.bd 27 [.nl,.nl,.nl,.nl,.nl] [],.st (.t 8) (.t 27) 5,.mv 9 (cB false)]
 gR)
 .skip))
 (sR [lD 28 4 5 true,.cl 29 ZP9 [(.t 28)],.al 10 [.nl,.nl,.nl,.nl,.nl],.st (.t 10) (.t 29) 5]
 (.seq (sR [mV 30 3,.ln 31 (.t 30),.mv 32 (kI 0)]
 (.blk 0 (.loop (.gw (sR [bI 33 .lss 32 31]
 (.seq (.cond (.t 33) .skip
 (.exit 0))
 (.seq (.blk 1 (sR [iA 34 30 32 1,lD 35 34 1 false,mV 12 35]
 (.seq (.rz [(16,13,[.nl])] [(0,false,fA 37 10 3),
 (2,false,mV 39 12),
 (5,false,mV 42 2),
 (6,false,mV 43 2),
 (7,false,fA 44 5 9),
 (8,false,lD 45 44 1 false),
 (9,false,bI 46 .add 43 45),
 (10,false,fA 47 5 3),
 (11,false,lD 48 47 3 true),
 (1,true,lD 38 37 1 false),
 (3,true,iA 40 38 39 1),
 (4,true,lD 41 40 1 true),
 (12,false,cQ 49 ZK8 [41,42,46,48]),
 (13,false,mV 36 49),
 (14,false,eX 50 36 0),
 (15,false,eX 51 36 1)]
 [.st (.t 13) (.t 50) 1,mV 14 51])
 (.seq (sR [mV 52 14,.un 53 (.t 52)]
 (.cond (.t 53) (sR [.bd 54 [.nl,.nl,.nl,.nl,.nl] [],.st (.t 8) (.t 54) 5,.mv 9 (cB false)]
 gR)
 .skip))
 (.reg [fA 55 10 3,lD 56 55 1 false,mV 57 12,lD 58 13 1 true,iA 59 56 57 1,.st (.t 59) (.t 58) 1])))))
 (.reg [.bi 60 .add (.t 32) (kI 1),mV 32 60]))))))))
 (sR [fA 62 10 4,lD 63 62 1 true,mV 64 2,mV 65 2,fA 66 5 9,lD 67 66 1 false,bI 68 .add 65 67,fA 69 5 6,lD 70 69 3 true,cQ 71 ZK8 [63,64,68,70],mV 61 71,eX 72 61 0,eX 73 61 1,.al 15 [.nl],.st (.t 15) (.t 72) 1,mV 16 73]
 (.seq (sR [mV 74 16,.un 75 (.t 74)]
 (.cond (.t 75) (sR [.bd 76 [.nl,.nl,.nl,.nl,.nl] [],.st (.t 8) (.t 76) 5,.mv 9 (cB false)]
 gR)
 .skip))
 (sR [lD 77 15 1 true,fA 78 10 4,.st (.t 78) (.t 77) 1]
 (sR [lD 79 10 5 true,.st (.t 8) (.t 79) 5,.mv 9 (cB true)]
 gR)))))))
def Zfb(j2:Job)(at3:Int)(x8:Int)(_:Nat)(v8:(List (List Pt)))(k8:(List (List Pt))->Option (Room×Bool)):Option (Room×Bool) :=
 (idx v8 x8).bind fun e9=>(ZF1 e9 at3 (w64 (at3+j2.wall)) j2.need).bind fun y10=>bif (!y10.2)then(some ((Room.mk (Topo.mk [] []) [] [] []),false))else(k8 (v8.set x8.toNat y10.1))
def Zeb(j2:Job)(at3:Int)(y6:Room)(v8:(List (List Pt))):Option (Room×Bool) :=
 (ZF1 y6.lics at3 (w64 (at3+j2.wall)) j2.lic).bind fun y11=>bif (!y11.2)then(some ((Room.mk (Topo.mk [] []) [] [] []),false))else(some ((Room.mk y6.topo y6.up v8 y11.1),true))
def ZB2(r1:Room)(j2:Job)(at3:Int)(nodes4:List Int):Option (Room×Bool) :=
 (ZF4 r1 j2 nodes4).bind fun b5=>bif ((!b5)||(!(Zo at3)))then(some ((Room.mk (Topo.mk [] []) [] [] []),false))else((ZG4 r1).bind fun y6=>rgl (Zfb j2 at3) (Zeb j2 at3 y6) nodes4 0 y6.profs)
theorem ZOb{r1:Room}{j2:Job}{at3:Int}{nodes4:List Int}{r:Room×Bool}(H:ZB2 r1 j2 at3 nodes4=some r):Snd Tryz.prog ZR9 [Zq1 .rd r1,eJob j2,.int .i64 at3,.sl .rd 1 (nodes4.map eI)] (.tup [Zq1 .nw r.1,.bool r.2]) []:=by
 refine wS ZJi [.c 8 5 true,.t 9] ?_
 unfold ZB2 at H
 obtain⟨b5,h5,H⟩:=bB H
 refine wG [.c 20 (ZFb h5),.g 24 [((!b5),false)] (.call _ _ _ _ _ (AEs.refl _) (fun _=>Za1 at3))] fun _=>?_
 refine Z3 H (fun H=>?_) fun H=>?_
 .refine wP ?_
  replace H:=sI H;subst H
  exact wN [(8,.d),(9,.d)] [(8,[.n 1,.n 4,.n 1,.n 1,.n 4])] [] [] [] [⟨_,nw_I ([]:List Int)⟩,⟨_,Zx ([]:List Node)⟩,⟨_,ZI2 ([]:List Bool)⟩,⟨_,Zb1 ([]:List (List Pt))⟩,⟨_,ZH2 ([]:List Pt)⟩]
 .obtain⟨y6,h6,H⟩:=bB H
  refine wG [.c 29 (ZHb h6),.u 31 (.ln _ _ fun _=>lm nodes4 eI)] fun q7=>?_
  refine wR (fun(i8:Nat) (v8:(List (List Pt)))=>⟨[(2,.int .i64 at3),(5,.ptr 5 0),(8,.ptr 8 0),(10,.ptr 10 0),(30,.sl .rd 1 (nodes4.map eI)),(31,.int .i64 (nodes4.length:Int)),(32,.int .i64 (i8:Int))],[],[(5,(eJob j2).cells),(8,[.nl,.nl,.nl,.nl,.nl]),(10,[.sl .nw 1 (y6.topo.parents.map eI),.sl .nw 4 (y6.topo.nodes.map Zf),.sref 30000,.sref 30001,.sl .nw 4 (y6.lics.map ePt)])],[(30000,⟨1,y6.up.map eBo,false⟩),(30001,⟨1,v8.map (Zg .nw),false⟩)]⟩) H (fun i8 x8 v8 I m k8 hxv8 hiv8 H N32=>?_) (fun v8 I m H=>?_)
  .unfold Zfb at H
   refine wP ?_
   refine wt (ltT hiv8) ?_
   obtain⟨e9,h9,H⟩:=bB H
   obtain⟨y10,h10,H⟩:=bB H
   refine wG [.u 34 (.ix _ _ _ fun _=>Z1 eI (Z5 hxv8)),.u 40 (.ix _ _ _ fun _=>Z1 (Zg .nw) h9),.u 41 (.el _ _ _ fun _=>gm (Zg .nw) (Zk1 h9)),.c 49 (Zgb h10)] fun _=>?_
   refine Z3 H (fun H=>?_) fun H=>?_
   .refine wP ?_
    replace H:=sI H;subst H
    exact wN [(8,.d),(9,.d)] [(8,[.n 1,.n 4,.n 1,.n 1,.n 4])] [] [] [] [⟨_,nw_I ([]:List Int)⟩,⟨_,Zx ([]:List Node)⟩,⟨_,ZI2 ([]:List Bool)⟩,⟨_,Zb1 ([]:List (List Pt))⟩,⟨_,ZH2 ([]:List Pt)⟩]
   .refine wG [.u 59 (.ix _ _ _ fun _=>Z1 (Zg .nw) h9),.u 1000000 (.sto _ _ _ (Zg .nw y10.1) _ (fun _=>gm (Zg .nw) (Zk1 h9)) (fun _=>Zra ..)),.w 60 (wi .i64 rfl hiv8 q7.1)] fun _=>?_
    exact wT (N32 _ H)
  .unfold Zeb at H
   refine wP ?_
   refine wf (ltF nodes4.length) ?_
   obtain⟨y11,h11,H⟩:=bB H
   refine wG [.c 71 (Zgb h11)] fun _=>?_
   refine Z3 H (fun H=>?_) fun H=>?_
   .refine wP ?_
    replace H:=sI H;subst H
    exact wN [(8,.d),(9,.d)] [(8,[.n 1,.n 4,.n 1,.n 1,.n 4])] [] [] [] [⟨_,nw_I ([]:List Int)⟩,⟨_,Zx ([]:List Node)⟩,⟨_,ZI2 ([]:List Bool)⟩,⟨_,Zb1 ([]:List (List Pt))⟩,⟨_,ZH2 ([]:List Pt)⟩]
   .refine wP ?_
    replace H:=sI H;subst H
    exact wN [(8,.d),(9,.d)] [(8,[.d,.d,.f,.f,.d])] [] [30000,30001] [] [⟨_,nw_I y6.topo.parents⟩,⟨_,Zx y6.topo.nodes⟩,⟨_,ZI2 y6.up⟩,⟨_,Zb1 v8⟩,⟨_,ZH2 y11.1⟩]
def Z6h:L :=
sR [.bx 1 (.t 0),.al 2 [.nl,.nl,.nl,.nl,.nl]]
 (.seq (.rz [(10,3,[.nl,.nl,.nl,.nl,.nl])] [(0,false,fA 6 1 0),
 (1,false,lD 7 6 2 true),
 (2,false,cQ 8 ZB5 [7]),
 (3,false,fA 9 1 2),
 (4,false,lD 10 9 1 false),
 (6,false,fA 12 1 4),
 (7,false,lD 13 12 1 true),
 (5,true,.ap 11 (.c (.nl)) (.t 10) 1 1),
 (8,false,cQ 14 ZL8 [13]),
 (9,true,.bd 15 [.nl,.nl,.nl,.nl,.nl] [(0,2,(.t 8)),(2,1,(.t 11)),(4,1,(.t 14))])]
 [.st (.t 3) (.t 15) 5])
 (.seq (sR [fA 16 1 3,lD 17 16 1 false,.ln 18 (.t 17),.mv 19 (kI 0)]
 (.blk 0 (.loop (.gw (sR [bI 20 .lss 19 18]
 (.seq (.cond (.t 20) .skip
 (.exit 0))
 (.seq (.blk 1 (sR [iA 21 17 19 1,lD 22 21 1 true,.al 5 [.nl],.st (.t 5) (.t 22) 1]
 (.rq 5 [fA 23 3 3,lD 24 23 1 false,lD 25 5 1 true,cQ 26 ZL8 [25],.bs 27 1 [(.t 26)] false,.ap 28 (.t 24) (.t 27) 1 24,fA 29 3 3,.st (.t 29) (.t 28) 1])))
 (.reg [.bi 30 .add (.t 19) (kI 1),mV 19 30]))))))))
 (sR [lD 31 3 5 true,.st (.t 2) (.t 31) 5]
 gR)))
def Zz3(x6:List Pt)(_:Nat)(v6:(List (List Pt)))(k6:(List (List Pt))->Option Room):Option Room :=
 (ZA3 x6).bind fun y7=>(appL 24 v6 [y7]).bind fun xs8=>k6 xs8
def Z56(y2:Topo)(xs3:List Bool)(y4:(List Pt))(v6:(List (List Pt))):Option Room :=
 some (Room.mk y2 xs3 v6 y4)
def Zn5(r1:Room):Option Room :=
 (Z72 r1.topo).bind fun y2=>(appL 1 ([]:List Bool) r1.up).bind fun xs3=>(ZA3 r1.lics).bind fun y4=>rgl Zz3 (Z56 y2 xs3 y4) r1.profs 0 []
theorem Zih{r1:Room}{r:Room}(H:Zn5 r1=some r):Snd Tryz.prog ZGc [Zq1 .rd r1] (.agg [.sl .nw 1 (r.topo.parents.map eI),.sl .nw 4 (r.topo.nodes.map Zf),.sl .nw 1 (r.up.map eBo),.sref 0,.sl .nw 4 (r.lics.map ePt)]) [⟨1,r.profs.map (Zg .nw),false⟩]:=by
 refine wS Z6h [.c 2 5 true] ?_
 unfold Zn5 at H
 obtain⟨y2,h2,H⟩:=bB H
 obtain⟨xs3,h3,H⟩:=bB H
 obtain⟨y4,h4,H⟩:=bB H
 refine wG [.c 8 (Ze7 h2),.u 11 (.ap _ _ _ _ fun _=>Z6 eBo h3),.c 14 (Zob h4),.u 18 (.ln _ _ fun _=>lm r1.profs (Zg .rd))] fun q5=>?_
 refine Zpc (fun(i6:Nat) (v6:(List (List Pt)))=>⟨[(2,.ptr 2 0),(3,.ptr 3 0),(17,.sl .rd 1 (r1.profs.map (Zg .rd))),(18,.int .i64 (r1.profs.length:Int)),(19,.int .i64 (i6:Int))],[],[(2,[.nl,.nl,.nl,.nl,.nl]),(3,[.sl .nw 1 (y2.parents.map eI),.sl .nw 4 (y2.nodes.map Zf),.sref 11,.sref 386001,.sl .nw 4 (y4.map ePt)])],[(11,⟨1,xs3.map eBo,false⟩),(386001,⟨1,v6.map (Zg .nw),false⟩)]⟩) [] [(3,[.d,.d,.d,.z 386001,.d])] [(386001,(none,1))] [] (by kernel_rfl) (by kernel_rfl) H (fun i6 x6 v6 I m k6 hxv6 hiv6 H N15=>?_) (fun v6 I m H=>?_)
 .unfold Zz3 at H
  refine wP ?_
  refine wt (ltT hiv6) ?_
  obtain⟨y7,h7,H⟩:=bB H
  obtain⟨xs8,h8,H⟩:=bB H
  refine wG [.u 21 (.ix _ _ _ fun _=>Z1 (Zg .rd) (Z5 hxv6)),.c 26 (Zob h7),.u 28 (.ap _ _ _ _ fun _=>Z6 (Zg .nw) h8),.w 30 (wi .i64 rfl hiv6 q5.1)] fun _=>?_
  exact wT (N15 _ H)
 .unfold Z56 at H
  refine wP ?_
  refine wf (ltF r1.profs.length) ?_
  refine wP ?_
  replace H:=sI H;subst H
  exact wN [(2,.d)] [(2,[.d,.d,.f,.d,.d])] [(386001,some 386001,0)] [11] [some 386001] [⟨_,nw_I y2.parents⟩,⟨_,Zx y2.nodes⟩,⟨_,ZI2 xs3⟩,⟨_,ZH2 y4⟩,⟨_,Zb1 v6⟩]
def ZYm:L :=
sR [.bx 1 (.t 0),.mv 2 (cB false)]
 (sR [fA 3 1 0,lD 4 3 1 false,.cq 5 Ze [(.t 4),(kI 1),(kI 999)],mV 6 5,.g 6 true (fA 7 1 1),.g 6 true (lD 8 7 1 false),.g 6 true (.cq 9 Ze [(.t 8),(kI 0),(kI 999)]),.pk 10 (.t 6) (.t 9) (cB false),mV 11 10,.g 11 true (fA 12 1 2),.g 11 true (lD 13 12 1 false),.g 11 true (.cq 14 Ze [(.t 13),(kI 1),(kI 24)]),.pk 15 (.t 11) (.t 14) (cB false),mV 16 15,.g 16 true (fA 17 1 3),.g 16 true (lD 18 17 3 true),.g 16 true (cQ 19 ZZ [18]),.pk 20 (.t 16) (.t 19) (cB false),mV 21 20,.g 21 true (fA 22 1 6),.g 21 true (lD 23 22 3 true),.g 21 true (cQ 24 ZZ [23]),.pk 25 (.t 21) (.t 24) (cB false),mV 26 25,.g 26 true (fA 27 1 9),.g 26 true (lD 28 27 1 false),.g 26 true (.cq 29 Ze [(.t 28),(kI 1),(kI 1000000)]),.pk 30 (.t 26) (.t 29) (cB false),mV 31 30,.g 31 true (fA 32 1 10),.g 31 true (lD 33 32 1 false),.g 31 true (.cq 34 Ze [(.t 33),(kI 0),(kI 24)]),.pk 35 (.t 31) (.t 34) (cB false),mV 2 35]
 gR)
def Zh9(j1:Job):Option Bool :=
 some (((((((Z0 j1.id 1 999)&&(Z0 j1.prio 0 999))&&(Z0 j1.nodes 1 24))&&(Zb j1.need))&&(Zb j1.lic))&&(Z0 j1.wall 1 1000000))&&(Z0 j1.level 0 24))
theorem Zej{j1:Job}{r:Bool}(H:Zh9 j1=some r):Snd Tryz.prog ZU4 [eJob j1] (.bool r) []:=by
 refine wS ZYm [.t 2] ?_
 unfold Zh9 at H
 refine wG [.c 5 (Zc j1.id 1 999),.g 9 [((Z0 j1.id 1 999),true)] (.call _ _ _ _ _ (AEs.refl _) (fun _=>Zc j1.prio 0 999)),.g 14 [(((Z0 j1.id 1 999)&&(Z0 j1.prio 0 999)),true)] (.call _ _ _ _ _ (AEs.refl _) (fun _=>Zc j1.nodes 1 24)),.g 19 [((((Z0 j1.id 1 999)&&(Z0 j1.prio 0 999))&&(Z0 j1.nodes 1 24)),true)] (.call _ _ _ _ _ (AEs.refl _) (fun _=>Z41 j1.need)),.g 24 [(((((Z0 j1.id 1 999)&&(Z0 j1.prio 0 999))&&(Z0 j1.nodes 1 24))&&(Zb j1.need)),true)] (.call _ _ _ _ _ (AEs.refl _) (fun _=>Z41 j1.lic)),.g 29 [((((((Z0 j1.id 1 999)&&(Z0 j1.prio 0 999))&&(Z0 j1.nodes 1 24))&&(Zb j1.need))&&(Zb j1.lic)),true)] (.call _ _ _ _ _ (AEs.refl _) (fun _=>Zc j1.wall 1 1000000)),.g 34 [(((((((Z0 j1.id 1 999)&&(Z0 j1.prio 0 999))&&(Z0 j1.nodes 1 24))&&(Zb j1.need))&&(Zb j1.lic))&&(Z0 j1.wall 1 1000000)),true)] (.call _ _ _ _ _ (AEs.refl _) (fun _=>Zc j1.level 0 24))] fun _=>?_
 replace H:=sI H;subst H
 exact wE [(2,.d)]
def Zj1(j1:Job):Bool :=
 (((((((Z0 j1.id 1 999)&&(Z0 j1.prio 0 999))&&(Z0 j1.nodes 1 24))&&(Zb j1.need))&&(Zb j1.lic))&&(Z0 j1.wall 1 1000000))&&(Z0 j1.level 0 24))
theorem Zbo(j1:Job):Zh9 j1=some (Zj1 j1):=by
 unfold Zh9 Zj1
 first|rfl|simp only[Zl]
theorem ZN7(j1:Job):Snd Tryz.prog ZU4 [eJob j1] (.bool (Zj1 j1)) []:=Zej (Zbo j1)
def ZNk:L :=
sR [.bx 1 (.t 0),.mv 2 (cB false)]
 (.seq (sR [fA 5 1 0,lD 6 5 2 true,cQ 7 ZS7 [6],.un 8 (.t 7),mV 9 8,.g 9 false (fA 10 1 2),.g 9 false (lD 11 10 1 false),.g 9 false (.ln 12 (.t 11)),.g 9 false (fA 13 1 0),.g 9 false (fA 14 13 1),.g 9 false (lD 15 14 1 false),.g 9 false (.ln 16 (.t 15)),.g 9 false (bI 17 .neq 12 16),.pk 18 (.t 9) (cB true) (.t 17),mV 19 18,.g 19 false (fA 20 1 3),.g 19 false (lD 21 20 1 false),.g 19 false (.ln 22 (.t 21)),.g 19 false (fA 23 1 0),.g 19 false (fA 24 23 1),.g 19 false (lD 25 24 1 false),.g 19 false (.ln 26 (.t 25)),.g 19 false (bI 27 .neq 22 26),.pk 28 (.t 19) (cB true) (.t 27)]
 (.cond (.t 28) (.seq (rE 2 (cB false))
 gR)
 .skip))
 (.seq (sR [fA 29 1 3,lD 30 29 1 false,.ln 31 (.t 30),.mv 32 (kI 0)]
 (.blk 0 (.loop (.gw (sR [bI 33 .lss 32 31]
 (.seq (.cond (.t 33) .skip
 (.exit 0))
 (.seq (.blk 1 (sR [iA 34 30 32 1,lD 35 34 1 true,.al 4 [.nl],.st (.t 4) (.t 35) 1]
 (sR [lD 36 4 1 true,cQ 37 ZU7 [36],.un 38 (.t 37)]
 (.cond (.t 38) (.seq (rE 2 (cB false))
 gR)
 .skip))))
 (.reg [.bi 39 .add (.t 32) (kI 1),mV 32 39]))))))))
 (sR [fA 40 1 4,lD 41 40 1 true,cQ 42 ZU7 [41],mV 2 42]
 gR)))
def ZF8(x4:List Pt)(_:Nat)(_:Unit)(k4:Unit->Option Bool):Option Bool :=
 (Zw4 x4).bind fun b5=>bif (!b5)then(some false)else(k4 ())
def ZE8(r1:Room)(_:Unit):Option Bool :=
 (Zw4 r1.lics).bind fun b6=>some b6
def Zu4(r1:Room):Option Bool :=
 (Zk3 r1.topo).bind fun b2=>bif (((!b2)||((r1.up.length:Int)!=(r1.topo.nodes.length:Int)))||((r1.profs.length:Int)!=(r1.topo.nodes.length:Int)))then(some false)else(rgl ZF8 (ZE8 r1) r1.profs 0 ())
theorem ZG9{r1:Room}{r:Bool}(H:Zu4 r1=some r):Snd Tryz.prog ZT7 [Zq1 .rd r1] (.bool r) []:=by
 refine wS ZNk [.t 2] ?_
 unfold Zu4 at H
 obtain⟨b2,h2,H⟩:=bB H
 refine wG [.c 7 (ZE9 h2),.g 12 [((!b2),false)] (.ln _ _ fun _=>lm r1.up eBo),.g 16 [((!b2),false)] (.ln _ _ fun _=>lm r1.topo.nodes Zf),.g 22 [(((!b2)||((r1.up.length:Int)!=(r1.topo.nodes.length:Int))),false)] (.ln _ _ fun _=>lm r1.profs (Zg .rd)),.g 26 [(((!b2)||((r1.up.length:Int)!=(r1.topo.nodes.length:Int))),false)] (.ln _ _ fun _=>lm r1.topo.nodes Zf)] fun _=>?_
 refine Z3 H (fun H=>?_) fun H=>?_
 .refine wP ?_
  replace H:=sI H;subst H
  exact wE [(2,.d)]
 .refine wG [.u 31 (.ln _ _ fun _=>lm r1.profs (Zg .rd))] fun q3=>?_
  refine wR (fun(i4:Nat) (v4:Unit)=>⟨[(1,.ptr 1 0),(30,.sl .rd 1 (r1.profs.map (Zg .rd))),(31,.int .i64 (r1.profs.length:Int)),(32,.int .i64 (i4:Int))],[],[(1,(Zq1 .rd r1).cells)],[]⟩) H (fun i4 x4 v4 I m k4 hxv4 hiv4 H N27=>?_) (fun v4 I m H=>?_)
  .unfold ZF8 at H
   refine wP ?_
   refine wt (ltT hiv4) ?_
   obtain⟨b5,h5,H⟩:=bB H
   refine wG [.u 34 (.ix _ _ _ fun _=>Z1 (Zg .rd) (Z5 hxv4)),.c 37 (ZI9 h5)] fun _=>?_
   refine Z3 H (fun H=>?_) fun H=>?_
   .refine wP ?_
    replace H:=sI H;subst H
    exact wE [(2,.d)]
   .refine wG [.w 39 (wi .i64 rfl hiv4 q3.1)] fun _=>?_
    exact wT (N27 () H)
  .unfold ZE8 at H
   refine wP ?_
   refine wf (ltF r1.profs.length) ?_
   obtain⟨b6,h6,H⟩:=bB H
   refine wG [.c 42 (ZI9 h6)] fun _=>?_
   replace H:=sI H;subst H
   exact wE [(2,.d)]
def Z4h:L :=
sR [.bx 4 (.t 0),.bx 5 (.t 1),.mv 8 (.c (.nl))]
 (sR [.bs 12 1 [] true,mV 9 12]
 (.seq (sR [fA 13 4 3,lD 14 13 1 false,.ln 15 (.t 14),.mv 16 (kI 0)]
 (.blk 0 (.loop (.gw (sR [bI 17 .lss 16 15]
 (.seq (.cond (.t 17) .skip
 (.exit 0))
 (.seq (.blk 1 (sR [mV 18 16,iA 19 14 16 1,lD 20 19 1 true,.al 11 [.nl],mV 10 18,.st (.t 11) (.t 20) 1]
 (.seq (.rq 13 [fA 21 4 2,lD 22 21 1 false,mV 23 10,iA 24 22 23 1,lD 25 24 1 false,mV 26 25,.g 26 true (lD 27 5 3 true),.g 26 true (lD 28 11 1 true),.g 26 true (mV 29 2),.g 26 true (mV 30 3),.g 26 true (cQ 31 Zi6 [28,29,30]),.g 26 true (cQ 32 ZG6 [27,31]),.pk 33 (.t 26) (.t 32) (cB false)])
 (.cond (.t 33) (.reg [mV 34 9,mV 35 10,.bs 36 1 [(.t 35)] false,.ap 37 (.t 34) (.t 36) 1 8,mV 9 37])
 .skip))))
 (.reg [.bi 38 .add (.t 16) (kI 1),mV 16 38]))))))))
 (sR [mV 39 9,mV 8 39]
 gR)))
def Z26(r1:Room)(need2:Vec)(from3:Int)(to4:Int)(x6:List Pt)(i6:Nat)(v6:(List Int))(k6:(List Int)->Option (List Int)):Option (List Int) :=
 (idx r1.up (i6:Int)).bind fun e7=>(bif e7 then(Zt2 x6 from3 to4)else some default).bind fun y8=>bif (e7&&(ZP4 need2 y8))then((appL 8 v6 [(i6:Int)]).bind fun xs9=>k6 xs9)else(k6 v6)
def Zea(v6:(List Int)):Option (List Int) :=
 some v6
def Zl5(r1:Room)(need2:Vec)(from3:Int)(to4:Int):Option (List Int) :=
 rgl (Z26 r1 need2 from3 to4) Zea r1.profs 0 []
theorem Zgh{r1:Room}{need2:Vec}{from3:Int}{to4:Int}{r:(List Int)}(H:Zl5 r1 need2 from3 to4=some r):Snd Tryz.prog ZFc [Zq1 .rd r1,eVec need2,.int .i64 from3,.int .i64 to4] (.sl .nw 1 (r.map eI)) []:=by
 refine wS Z4h [.t 8] ?_
 unfold Zl5 at H
 refine wG [.u 15 (.ln _ _ fun _=>lm r1.profs (Zg .rd))] fun q5=>?_
 refine wR (fun(i6:Nat) (v6:(List Int))=>⟨[(2,.int .i64 from3),(3,.int .i64 to4),(4,.ptr 4 0),(5,.ptr 5 0),(9,.sref 12),(14,.sl .rd 1 (r1.profs.map (Zg .rd))),(15,.int .i64 (r1.profs.length:Int)),(16,.int .i64 (i6:Int))],[],[(4,(Zq1 .rd r1).cells),(5,(eVec need2).cells)],[(12,⟨1,v6.map eI,false⟩)]⟩) H (fun i6 x6 v6 I m k6 hxv6 hiv6 H N19=>?_) (fun v6 I m H=>?_)
 .unfold Z26 at H
  refine wP ?_
  refine wt (ltT hiv6) ?_
  obtain⟨e7,h7,H⟩:=bB H
  obtain⟨y8,h8,H⟩:=bB H
  refine wG [.u 19 (.ix _ _ _ fun _=>Z1 (Zg .rd) (Z5 hxv6)),.u 24 (.ix _ _ _ fun _=>Z1 eBo h7),.g 31 [(_,true)] (.call _ _ _ _ _ (AEs.refl _) (fun q=>Ze9 (bT q.1 h8))),.g 32 [(e7,true)] (.call _ _ _ _ _ (AEs.refl _) (fun _=>Z8c need2 y8))] fun _=>?_
  refine Z3 H (fun H=>?_) fun H=>?_
  .obtain⟨xs9,h9,H⟩:=bB H
   refine wG [.u 37 (.ap _ _ _ _ fun _=>Z6 eI h9),.w 38 (wi .i64 rfl hiv6 q5.1)] fun _=>?_
   exact wT (N19 _ H)
  .refine wG [.w 38 (wi .i64 rfl hiv6 q5.1)] fun _=>?_
   exact wT (N19 _ H)
 .unfold Zea at H
  refine wP ?_
  refine wf (ltF r1.profs.length) ?_
  refine wP ?_
  replace H:=sI H;subst H
  exact wN [(8,.f)] [] [] [12] [] [⟨_,nw_I v6⟩]
def ZOm:L :=
sR [.bx 3 (.t 0),.mv 6 (.c (.nl))]
 (sR [.bs 10 1 [] true,mV 7 10]
 (.seq (sR [mV 11 1,.ln 12 (.t 11),.mv 13 (kI 0)]
 (.blk 0 (.loop (.gw (sR [bI 14 .lss 13 12]
 (.seq (.cond (.t 14) .skip
 (.exit 0))
 (.seq (.blk 1 (sR [iA 15 11 13 1,lD 16 15 1 false,mV 9 16]
 (.seq (.rq 10 [lD 17 3 2 true,fA 18 3 1,lD 19 18 1 false,mV 20 9,iA 21 19 20 4,fA 22 21 0,lD 23 22 1 false,cQ 24 ZHc [17,23],mV 25 2,cQ 26 Z31 [24,25]])
 (.cond (.t 26) (.reg [mV 27 7,mV 28 9,.bs 29 1 [(.t 28)] false,.ap 30 (.t 27) (.t 29) 1 8,mV 7 30])
 .skip))))
 (.reg [.bi 31 .add (.t 13) (kI 1),mV 13 31]))))))))
 (sR [mV 32 7,mV 6 32]
 gR)))
def Zy9(t1:Topo)(s3:Int)(x5:Int)(_:Nat)(v5:(List Int))(k5:(List Int)->Option (List Int)):Option (List Int) :=
 (idx t1.nodes x5).bind fun e6=>(Zga t1 e6.leaf).bind fun y7=>(Zu y7 s3).bind fun b8=>bif b8 then((appL 8 v5 [x5]).bind fun xs9=>k5 xs9)else(k5 v5)
def Zid(v5:(List Int)):Option (List Int) :=
 some v5
def ZZ5(t1:Topo)(nodes2:List Int)(s3:Int):Option (List Int) :=
 rgl (Zy9 t1 s3) Zid nodes2 0 []
theorem Zwe{t1:Topo}{nodes2:List Int}{s3:Int}{r:(List Int)}(H:ZZ5 t1 nodes2 s3=some r):Snd Tryz.prog ZDc [Zy .rd t1,.sl .rd 1 (nodes2.map eI),.int .i64 s3] (.sl .nw 1 (r.map eI)) []:=by
 refine wS ZOm [.t 6] ?_
 unfold ZZ5 at H
 refine wG [.u 12 (.ln _ _ fun _=>lm nodes2 eI)] fun q4=>?_
 refine wR (fun(i5:Nat) (v5:(List Int))=>⟨[(2,.int .i64 s3),(3,.ptr 3 0),(7,.sref 10),(11,.sl .rd 1 (nodes2.map eI)),(12,.int .i64 (nodes2.length:Int)),(13,.int .i64 (i5:Int))],[],[(3,(Zy .rd t1).cells)],[(10,⟨1,v5.map eI,false⟩)]⟩) H (fun i5 x5 v5 I m k5 hxv5 hiv5 H N19=>?_) (fun v5 I m H=>?_)
 .unfold Zy9 at H
  refine wP ?_
  refine wt (ltT hiv5) ?_
  obtain⟨e6,h6,H⟩:=bB H
  obtain⟨y7,h7,H⟩:=bB H
  obtain⟨b8,h8,H⟩:=bB H
  refine wG [.u 15 (.ix _ _ _ fun _=>Z1 eI (Z5 hxv5)),.u 21 (.ix _ _ _ fun _=>Z1 Zf h6),.c 24 (Zze h7),.c 26 (Zg1 h8)] fun _=>?_
  refine Z3 H (fun H=>?_) fun H=>?_
  .obtain⟨xs9,h9,H⟩:=bB H
   refine wG [.u 30 (.ap _ _ _ _ fun _=>Z6 eI h9),.w 31 (wi .i64 rfl hiv5 q4.1)] fun _=>?_
   exact wT (N19 _ H)
  .refine wG [.w 31 (wi .i64 rfl hiv5 q4.1)] fun _=>?_
   exact wT (N19 _ H)
 .unfold Zid at H
  refine wP ?_
  refine wf (ltF nodes2.length) ?_
  refine wP ?_
  replace H:=sI H;subst H
  exact wN [(6,.f)] [] [] [10] [] [⟨_,nw_I v5⟩]
def ZJk:L :=
sR [.bx 4 (.t 0),.mv 8 (.c (.nl)),.mv 9 (cB false)]
 (sR [.mv 10 (kI (-1)),.mv 11 (kI 0),.mv 12 (kI 0)]
 (.seq (sR [fA 26 4 0,lD 27 26 1 false,.ln 28 (.t 27),.mv 29 (kI 0)]
 (.blk 0 (.loop (.gw (sR [bI 30 .lss 29 28]
 (.seq (.cond (.t 30) .skip
 (.exit 0))
 (.seq (.blk 1 (sR [mV 31 29,mV 13 31]
 (sR [lD 32 4 2 true,mV 33 13,cQ 34 ZV6 [32,33],mV 14 34]
 (.seq (sR [mV 35 14,mV 36 3,bI 37 .gtr 35 36]
 (.cond (.t 37) (.exit 1)
 .skip))
 (sR [lD 38 4 2 true,mV 39 1,mV 40 13,cQ 41 ZDc [38,39,40],.ln 42 (.t 41),mV 15 42]
 (sR [mV 43 15,mV 44 2,bI 45 .geq 43 44,mV 46 45,.g 46 true (mV 47 10),.g 46 true (.bi 48 .lss (.t 47) (kI 0)),.g 46 true (mV 49 48),.g 49 false (mV 50 14),.g 49 false (mV 51 11),.g 49 false (bI 52 .lss 50 51),.g 46 true (.pk 53 (.t 49) (cB true) (.t 52)),.g 46 true (mV 54 53),.g 54 false (mV 55 14),.g 54 false (mV 56 11),.g 54 false (bI 57 .eql 55 56),.g 54 false (mV 58 57),.g 58 true (mV 59 15),.g 58 true (mV 60 12),.g 58 true (bI 61 .lss 59 60),.g 54 false (.pk 62 (.t 58) (.t 61) (cB false)),.g 46 true (.pk 63 (.t 54) (cB true) (.t 62)),.pk 64 (.t 46) (.t 63) (cB false)]
 (.cond (.t 64) (.reg [mV 65 13,mV 66 14,mV 67 15,mV 10 65,mV 11 66,mV 12 67])
 .skip)))))))
 (.reg [.bi 68 .add (.t 29) (kI 1),mV 29 68]))))))))
 (.seq (sR [mV 69 10,.bi 70 .lss (.t 69) (kI 0)]
 (.cond (.t 70) (sR [.mv 8 (.c (.nl)),.mv 9 (cB false)]
 gR)
 .skip))
 (sR [lD 71 4 2 true,mV 72 1,mV 73 10,cQ 74 ZDc [71,72,73],mV 1 74]
 (sR [fA 75 4 0,lD 76 75 1 false,.ln 77 (.t 76),.ms 78 1 8 [.int .i64 0] (.t 77),.al 16 [.nl],.st (.t 16) (.t 78) 1]
 (sR [.bs 79 1 [] true,mV 17 79]
 (.seq (sR [mV 80 1,.ln 81 (.t 80),.mv 82 (kI 0)]
 (.blk 2 (.loop (.gw (sR [bI 83 .lss 82 81]
 (.seq (.cond (.t 83) .skip
 (.exit 2))
 (.seq (.blk 3 (sR [iA 84 80 82 1,lD 85 84 1 false,mV 19 85]
 (sR [fA 86 4 1,lD 87 86 1 false,mV 88 19,iA 89 87 88 4,fA 90 89 0,lD 91 90 1 false,mV 20 91]
 (sR [lD 92 16 1 false,mV 93 20,iA 94 92 93 1,lD 95 94 1 false,.bi 96 .add (.t 95) (kI 1),iA 97 92 93 1,.st (.t 97) (.t 96) 1]
 (sR [mV 98 17,mV 99 20,cQ 100 Z31 [98,99],.un 101 (.t 100)]
 (.cond (.t 101) (.reg [mV 102 17,mV 103 20,.bs 104 1 [(.t 103)] false,.ap 105 (.t 102) (.t 104) 1 8,mV 17 105])
 .skip))))))
 (.reg [.bi 106 .add (.t 82) (kI 1),mV 82 106]))))))))
 (.seq (.gw (.reg [.fb 16,mV 107 17,.mf 108 ZN8 [(.t 16)],.cm 109 Zh2 [(.t 107),(.t 108)]]))
 (sR [.bs 110 1 [] true,mV 21 110]
 (.seq (sR [mV 111 17,.ln 112 (.t 111),.mv 113 (kI 0)]
 (.blk 4 (.loop (.gw (sR [bI 114 .lss 113 112]
 (.seq (.cond (.t 114) .skip
 (.exit 4))
 (.seq (.blk 5 (sR [iA 115 111 113 1,lD 116 115 1 false,mV 23 116]
 (sR [mV 117 1,.ln 118 (.t 117),.mv 119 (kI 0)]
 (.blk 6 (.loop (.gw (sR [bI 120 .lss 119 118]
 (.seq (.cond (.t 120) .skip
 (.exit 6))
 (.seq (.blk 7 (sR [iA 121 117 119 1,lD 122 121 1 false,mV 25 122]
 (sR [fA 123 4 1,lD 124 123 1 false,mV 125 25,iA 126 124 125 4,fA 127 126 0,lD 128 127 1 false,mV 129 23,bI 130 .eql 128 129,mV 131 130,.g 131 true (mV 132 21),.g 131 true (.ln 133 (.t 132)),.g 131 true (mV 134 2),.g 131 true (bI 135 .lss 133 134),.pk 136 (.t 131) (.t 135) (cB false)]
 (.cond (.t 136) (.reg [mV 137 21,mV 138 25,.bs 139 1 [(.t 138)] false,.ap 140 (.t 137) (.t 139) 1 8,mV 21 140])
 .skip))))
 (.reg [.bi 141 .add (.t 119) (kI 1),mV 119 141]))))))))))
 (.reg [.bi 142 .add (.t 113) (kI 1),mV 113 142]))))))))
 (sR [mV 143 21,.cm 144 ZS [(.t 143)]]
 (sR [mV 145 21,mV 8 145,.mv 9 (cB true)]
 gR))))))))))))
def Zi3(t1:Topo)(n3:Int)(x20:Int)(x22:Int)(_:Nat)(v22:(List Int))(k22:(List Int)->Option ((List Int)×Bool)):Option ((List Int)×Bool) :=
 (idx t1.nodes x22).bind fun e23=>bif ((e23.leaf==x20)&&(decide ((v22.length:Int)<n3)))then((appL 8 v22 [x22]).bind fun xs24=>k22 xs24)else(k22 v22)
def ZA8(k20:(List Int)->Option ((List Int)×Bool))(v22:(List Int)):Option ((List Int)×Bool) :=
 k20 v22
def Zg7(t1:Topo)(n3:Int)(y10:(List Int))(x20:Int)(_:Nat)(v20:(List Int))(k20:(List Int)->Option ((List Int)×Bool)):Option ((List Int)×Bool) :=
 rgl (Zi3 t1 n3 x20) (ZA8 k20) y10 0 v20
def Zf7(v20:(List Int)):Option ((List Int)×Bool) :=
 (ZRl v20).bind fun xs25=>some (xs25,true)
def ZC8(t1:Topo)(x13:Int)(_:Nat)(v13:(List Int)×(List Int))(k13:((List Int)×(List Int))->Option ((List Int)×Bool)):Option ((List Int)×Bool) :=
 (idx t1.nodes x13).bind fun e14=>(idx v13.1 e14.leaf).bind fun e15=>(Zu v13.2 e14.leaf).bind fun b16=>bif (!b16)then((appL 8 v13.2 [e14.leaf]).bind fun xs17=>k13 ((v13.1.set e14.leaf.toNat (w64 (e15+1))),xs17))else(k13 ((v13.1.set e14.leaf.toNat (w64 (e15+1))),v13.2))
def ZB8(t1:Topo)(n3:Int)(y10:(List Int))(v13:(List Int)×(List Int)):Option ((List Int)×Bool) :=
 (ZMc v13.1 v13.2).bind fun xs18=>rgl (Zg7 t1 n3 y10) Zf7 xs18 0 []
def ZD8(t1:Topo)(nodes2:List Int)(n3:Int)(most4:Int)(_:Int)(i6:Nat)(v6:Int×Int×Int)(k6:(Int×Int×Int)->Option ((List Int)×Bool)):Option ((List Int)×Bool) :=
 (ZO4 t1 (i6:Int)).bind fun n7=>bif (decide (most4<n7))then(k6 (v6.1,v6.2.1,v6.2.2))else((ZZ5 t1 nodes2 (i6:Int)).bind fun y8=>bif ((decide (n3<=(y8.length:Int)))&&(((decide (v6.1<0))||(decide (n7<v6.2.1)))||((n7==v6.2.1)&&(decide ((y8.length:Int)<v6.2.2)))))then(k6 ((i6:Int),n7,(y8.length:Int)))else(k6 (v6.1,v6.2.1,v6.2.2)))
def Zo1(t1:Topo)(nodes2:List Int)(n3:Int)(v6:Int×Int×Int):Option ((List Int)×Bool) :=
 bif (decide (v6.1<0))then(some ([],false))else((ZZ5 t1 nodes2 v6.1).bind fun y10=>(mkL 8 (t1.parents.length:Int) 0).bind fun xs11=>rgl (ZC8 t1) (ZB8 t1 n3 y10) y10 0 (xs11,[]))
def Z66(t1:Topo)(nodes2:List Int)(n3:Int)(most4:Int):Option ((List Int)×Bool) :=
 rgl (ZD8 t1 nodes2 n3 most4) (Zo1 t1 nodes2 n3) t1.parents 0 ((-1),0,0)
theorem ZVk{t1:Topo}{nodes2:List Int}{n3:Int}{most4:Int}{r:(List Int)×Bool}(H:Z66 t1 nodes2 n3 most4=some r):Snd Tryz.prog Z7f [Zy .rd t1,.sl .rd 1 (nodes2.map eI),.int .i64 n3,.int .i64 most4] (.tup [.sl .nw 1 (r.1.map eI),.bool r.2]) []:=by
 refine wS ZJk [.t 8,.t 9] ?_
 unfold Z66 at H
 refine wG [.u 28 (.ln _ _ fun _=>lm t1.parents eI)] fun q5=>?_
 refine wR (fun(i6:Nat) (v6:Int×Int×Int)=>⟨[(1,.sl .rd 1 (nodes2.map eI)),(2,.int .i64 n3),(3,.int .i64 most4),(4,.ptr 4 0),(10,.int .i64 v6.1),(11,.int .i64 v6.2.1),(12,.int .i64 v6.2.2),(28,.int .i64 (t1.parents.length:Int)),(29,.int .i64 (i6:Int))],[],[(4,(Zy .rd t1).cells)],[]⟩) H (fun i6 x6 v6 I m k6 hxv6 hiv6 H N29=>?_) (fun v6 I m H=>?_)
 .unfold ZD8 at H
  refine wP ?_
  refine wt (ltT hiv6) ?_
  obtain⟨n7,h7,H⟩:=bB H
  refine wG [.c 34 (ZI7 h7)] fun _=>?_
  refine Z3 H (fun H=>?_) fun H=>?_
  .refine wG [.w 68 (wi .i64 rfl hiv6 q5.1)] fun _=>?_
   exact wT (N29 _ H)
  .obtain⟨y8,h8,H⟩:=bB H
   refine wG [.c 41 (Zwe h8),.u 42 (.ln _ _ fun _=>lm y8 eI)] fun q9=>?_
   refine Z3 H (fun H=>?_) fun H=>?_
   .refine wG [.w 68 (wi .i64 rfl hiv6 q5.1)] fun _=>?_
    exact wT (N29 _ H)
   .refine wG [.w 68 (wi .i64 rfl hiv6 q5.1)] fun _=>?_
    exact wT (N29 _ H)
 .unfold Zo1 at H
  refine wP ?_
  refine wf (ltF t1.parents.length) ?_
  refine wP ?_
  refine Z3 H (fun H=>?_) fun H=>?_
  .refine wP ?_
   replace H:=sI H;subst H
   exact wN [(8,.n 1),(9,.d)] [] [] [] [] [⟨_,nw_I ([]:List Int)⟩]
  .obtain⟨y10,h10,H⟩:=bB H
   obtain⟨xs11,h11,H⟩:=bB H
   refine wG [.c 74 (Zwe h10),.u 77 (.ln _ _ fun _=>lm t1.parents eI),.u 78 (.ms _ _ _ _ fun _=>ZKd eI h11),.u 81 (.ln _ _ fun _=>lm y10 eI)] fun q12=>?_
   refine wR (fun(i13:Nat) (v13:(List Int)×(List Int))=>⟨[(1,.sl .nw 1 (y10.map eI)),(2,.int .i64 n3),(4,.ptr 4 0),(16,.ptr 16 0),(17,.sref 79),(80,.sl .nw 1 (y10.map eI)),(81,.int .i64 (y10.length:Int)),(82,.int .i64 (i13:Int))],[],[(4,(Zy .rd t1).cells),(16,[.sref 78])],[(78,⟨1,v13.1.map eI,false⟩),(79,⟨1,v13.2.map eI,false⟩)]⟩) H (fun i13 x13 v13 I m k13 hxv13 hiv13 H N63=>?_) (fun v13 I m H=>?_)
   .unfold ZC8 at H
    refine wP ?_
    refine wt (ltT hiv13) ?_
    obtain⟨e14,h14,H⟩:=bB H
    obtain⟨e15,h15,H⟩:=bB H
    obtain⟨b16,h16,H⟩:=bB H
    refine wG [.u 84 (.ix _ _ _ fun _=>Z1 eI (Z5 hxv13)),.u 89 (.ix _ _ _ fun _=>Z1 Zf h14),.u 94 (.ix _ _ _ fun _=>Z1 eI h15),.u 95 (.el _ _ _ fun _=>gm eI (Zk1 h15)),.u 97 (.ix _ _ _ fun _=>Z1 eI h15),.u 1000000 (.sto _ _ _ (eI (w64 (e15+1))) _ (fun _=>gm eI (Zk1 h15)) (fun _=>Zra ..)),.c 100 (Zg1 h16)] fun _=>?_
    refine Z3 H (fun H=>?_) fun H=>?_
    .obtain⟨xs17,h17,H⟩:=bB H
     refine wG [.u 105 (.ap _ _ _ _ fun _=>Z6 eI h17),.w 106 (wi .i64 rfl hiv13 q12.2.1)] fun _=>?_
     exact wT (N63 _ H)
    .refine wG [.w 106 (wi .i64 rfl hiv13 q12.2.1)] fun _=>?_
     exact wT (N63 _ H)
   .unfold ZB8 at H
    refine wP ?_
    refine wf (ltF y10.length) ?_
    refine wP ?_
    refine Z7w [] [(16,[.f])] [78] (by kernel_rfl) ?_
    obtain⟨xs18,h18,H⟩:=bB H
    refine wG [.u 109 (.cr Zh2 1 _ [.fn ZN8 [.ept (.agg [.sl .nw 1 (v13.1.map eI)]) 0]] _ false _ (fun _=>ZYc v13.2) (fun _=>by simp) (fun _=>by simp) (fun _=>ZSl h18)),.u 112 (.ln _ _ fun _=>lm xs18 eI)] fun q19=>?_
    refine wR (fun(i20:Nat) (v20:(List Int))=>⟨[(1,.sl .nw 1 (y10.map eI)),(2,.int .i64 n3),(4,.ptr 4 0),(21,.sref 110),(111,.sref 79),(112,.int .i64 (xs18.length:Int)),(113,.int .i64 (i20:Int))],[],[(4,(Zy .rd t1).cells)],[(110,⟨1,v20.map eI,false⟩),(79,⟨1,xs18.map eI,false⟩)]⟩) H (fun i20 x20 v20 I m k20 hxv20 hiv20 H N100=>?_) (fun v20 I m H=>?_)
    .unfold Zg7 at H
     refine wP ?_
     refine wt (ltT hiv20) ?_
     refine wG [.u 115 (.ix _ _ _ fun _=>Z1 eI (Z5 hxv20)),.u 116 (.el _ _ _ fun _=>gm eI (Zk1 (Z5 hxv20))),.u 118 (.ln _ _ fun _=>lm y10 eI)] fun q21=>?_
     refine wR (fun(i22:Nat) (v22:(List Int))=>⟨[(1,.sl .nw 1 (y10.map eI)),(2,.int .i64 n3),(4,.ptr 4 0),(21,.sref 110),(23,.int .i64 x20),(111,.sref 79),(112,.int .i64 (xs18.length:Int)),(113,.int .i64 (i20:Int)),(117,.sl .nw 1 (y10.map eI)),(118,.int .i64 (y10.length:Int)),(119,.int .i64 (i22:Int))],[],[(4,(Zy .rd t1).cells)],[(110,⟨1,v22.map eI,false⟩),(79,⟨1,xs18.map eI,false⟩)]⟩) H (fun i22 x22 v22 I m k22 hxv22 hiv22 H N91=>?_) (fun v22 I m H=>?_)
     .unfold Zi3 at H
      refine wP ?_
      refine wt (ltT hiv22) ?_
      obtain⟨e23,h23,H⟩:=bB H
      refine wG [.u 121 (.ix _ _ _ fun _=>Z1 eI (Z5 hxv22)),.u 126 (.ix _ _ _ fun _=>Z1 Zf h23),.g 133 [((e23.leaf==x20),true)] (.ln _ _ fun _=>lm v22 eI)] fun _=>?_
      refine Z3 H (fun H=>?_) fun H=>?_
      .obtain⟨xs24,h24,H⟩:=bB H
       refine wG [.u 140 (.ap _ _ _ _ fun _=>Z6 eI h24),.w 141 (wi .i64 rfl hiv22 q12.2.1)] fun _=>?_
       exact wT (N91 _ H)
      .refine wG [.w 141 (wi .i64 rfl hiv22 q12.2.1)] fun _=>?_
       exact wT (N91 _ H)
     .unfold ZA8 at H
      refine wP ?_
      refine wf (ltF y10.length) ?_
      refine wG [.w 142 (wi .i64 rfl hiv20 q19.1)] fun _=>?_
      exact wT (N100 _ H)
    .unfold Zf7 at H
     refine wP ?_
     refine wf (ltF xs18.length) ?_
     obtain⟨xs25,h25,H⟩:=bB H
     refine wG [.u 144 (.cr ZS 1 _ [] [] false _ (fun _=>ZYc v20) (fun _=>trivial) (fun _=>rfl) (fun _=>ZQl h25))] fun _=>?_
     replace H:=sI H;subst H
     exact wN [(8,.f),(9,.d)] [] [] [110] [] [⟨_,nw_I xs25⟩]
def Z3d:L :=
.seq (rE 2 (cB false))
 (.seq (.seq (rE 3 (kI 1))
 (.blk 0 (.loop (.gw (.seq (sR [mV 4 3,mV 5 0,.ln 6 (.t 5),bI 7 .lss 4 6]
 (.cond (.t 7) .skip
 (.exit 0)))
 (.seq (.blk 1 (.seq (.rq 10 [mV 10 0,mV 11 3,.bi 12 .sub (.t 11) (kI 1),iA 13 10 12 1,lD 14 13 1 false,mV 15 0,mV 16 3,iA 17 15 16 1,lD 18 17 1 false,bI 19 .geq 14 18])
 (.cond (.t 19) (.seq (rE 2 (cB false))
 gR)
 .skip)))
 (.reg [mV 8 3,.bi 9 .add (.t 8) (kI 1),mV 3 9])))))))
 (.seq (rE 2 (cB true))
 gR))
def Zp1(l1:List Int)(v2:Int)(k2:Int->Option Bool):Option Bool :=
 bif (decide (v2<(l1.length:Int)))then((idx l1 (w64 (v2-1))).bind fun e4=>(idx l1 v2).bind fun e5=>bif (decide (e5<=e4))then(some false)else(k2 (w64 (v2+1))))else(some true)
def Zs2(l1:List Int):Option Bool :=
 whl (Zp1 l1) 9223372036854775807 1
theorem Z4d{l1:List Int}{r:Bool}(H:Zs2 l1=some r):Snd Tryz.prog ZP8 [.sl .rd 1 (l1.map eI)] (.bool r) []:=by
 refine wS Z3d [.t 2] ?_
 unfold Zs2 at H
 refine wP ?_
 refine wW (fun(v2:Int)=>⟨[(0,.sl .rd 1 (l1.map eI)),(3,.int .i64 v2)],[],[],[]⟩) H (fun v2 I m k2 H N18=>?_)
 unfold Zp1 at H
 refine wG [.u 6 (.ln _ _ fun _=>lm l1 eI)] fun q3=>?_
 refine Z3 H (fun H=>?_) fun H=>?_
 .obtain⟨e4,h4,H⟩:=bB H
  obtain⟨e5,h5,H⟩:=bB H
  refine wG [.u 13 (.ix _ _ _ fun _=>Z1 eI h4),.u 17 (.ix _ _ _ fun _=>Z1 eI h5)] fun _=>?_
  refine Z3 H (fun H=>?_) fun H=>?_
  .refine wP ?_
   replace H:=sI H;subst H
   exact wE [(2,.d)]
  .refine wP ?_
   exact wT (N18 _ H)
 .refine wP ?_
  replace H:=sI H;subst H
  exact wE [(2,.d)]
def Zch:L :=
sR [.bx 3 (.t 0),.bx 4 (.t 1),.mv 6 (kI 0),.mv 7 (.c (.nl)),.mv 8 (cB false)]
 (.seq (sR [lD 18 3 5 true,cQ 19 ZT7 [18],.un 20 (.t 19),mV 21 20,.g 21 false (lD 22 4 11 true),.g 21 false (cQ 23 ZU4 [22]),.g 21 false (.un 24 (.t 23)),.pk 25 (.t 21) (cB true) (.t 24),mV 26 25,.g 26 false (mV 27 2),.g 26 false (cQ 28 ZJ1 [27]),.g 26 false (.un 29 (.t 28)),.pk 30 (.t 26) (cB true) (.t 29)]
 (.cond (.t 30) (sR [.mv 6 (kI 0),.mv 7 (.c (.nl)),.mv 8 (cB false)]
 gR)
 .skip))
 (sR [mV 31 2,.bs 32 1 [(.t 31)] true,mV 9 32]
 (.seq (sR [fA 33 3 4,lD 34 33 1 true,.bs 35 1 [(.t 34)] true,fA 36 3 3,lD 37 36 1 false,.ap 38 (.t 35) (.t 37) 1 24,.ln 39 (.t 38),.mv 40 (kI 0)]
 (.blk 0 (.loop (.gw (sR [bI 41 .lss 40 39]
 (.seq (.cond (.t 41) .skip
 (.exit 0))
 (.seq (.blk 1 (sR [iA 42 38 40 1,lD 43 42 1 true,.al 11 [.nl],.st (.t 11) (.t 43) 1]
 (sR [fA 44 11 0,lD 45 44 1 false,.ln 46 (.t 45),.mv 47 (kI 0)]
 (.blk 2 (.loop (.gw (sR [bI 48 .lss 47 46]
 (.seq (.cond (.t 48) .skip
 (.exit 2))
 (.seq (.blk 3 (sR [iA 49 45 47 4,lD 50 49 4 true,.al 13 [.int .i64 0,.int .i64 0,.int .i64 0,.int .i64 0],.st (.t 13) (.t 50) 4]
 (sR [fA 51 13 0,lD 52 51 1 false,mV 53 2,bI 54 .gtr 52 53]
 (.cond (.t 54) (.reg [mV 55 9,fA 56 13 0,lD 57 56 1 false,.bs 58 1 [(.t 57)] false,.ap 59 (.t 55) (.t 58) 1 8,mV 9 59])
 .skip))))
 (.reg [.bi 60 .add (.t 47) (kI 1),mV 47 60]))))))))))
 (.reg [.bi 61 .add (.t 40) (kI 1),mV 40 61]))))))))
 (sR [mV 62 9,.cm 63 ZS [(.t 62)]]
 (.seq (sR [mV 64 9,.cm 65 Z81 [(.t 64)],.ln 66 (.t 65),.mv 67 (kI 0)]
 (.blk 4 (.loop (.gw (sR [bI 68 .lss 67 66]
 (.seq (.cond (.t 68) .skip
 (.exit 4))
 (.seq (.blk 5 (sR [iA 69 65 67 1,lD 70 69 1 false,mV 15 70]
 (.seq (sR [mV 71 15,fA 72 4 9,lD 73 72 1 false,bI 74 .add 71 73,.bi 75 .gtr (.t 74) (kI 1000000000)]
 (.cond (.t 75) (.exit 4)
 .skip))
 (.seq (.seq (.rq 12 [fA 76 4 6,lD 77 76 3 true,fA 78 3 4,lD 79 78 1 true,mV 80 15,mV 81 15,fA 82 4 9,lD 83 82 1 false,bI 84 .add 81 83,cQ 85 Zi6 [79,80,84],cQ 86 ZG6 [77,85],.un 87 (.t 86)])
 (.cond (.t 87) (.exit 5)
 .skip))
 (.seq (.rq 21 [fA 89 3 0,lD 90 89 2 true,lD 91 3 5 true,fA 92 4 3,lD 93 92 3 true,mV 94 15,mV 95 15,fA 96 4 9,lD 97 96 1 false,bI 98 .add 95 97,cQ 99 ZFc [91,93,94,98],fA 100 4 2,lD 101 100 1 false,fA 102 4 10,lD 103 102 1 false,cQ 104 Z7f [90,99,101,103],mV 88 104,eX 105 88 0,eX 106 88 1,mV 16 105,mV 17 106])
 (sR [mV 107 17]
 (.cond (.t 107) (sR [mV 108 15,mV 109 16,mV 6 108,mV 7 109,.mv 8 (cB true)]
 gR)
 .skip)))))))
 (.reg [.bi 110 .add (.t 67) (kI 1),mV 67 110]))))))))
 (.gw (sR [.mv 6 (kI 0),.mv 7 (.c (.nl)),.mv 8 (cB false)]
 gR)))))))
def Ze6(from3:Int)(x9:Pt)(_:Nat)(v9:(List Int))(k9:(List Int)->Option (Int×(List Int)×Bool)):Option (Int×(List Int)×Bool) :=
 bif (decide (from3<x9.t))then((appL 8 v9 [x9.t]).bind fun xs10=>k9 xs10)else(k9 v9)
def Zd6(k7:(List Int)->Option (Int×(List Int)×Bool))(v9:(List Int)):Option (Int×(List Int)×Bool) :=
 k7 v9
def ZG3(_:Unit):Option (Int×(List Int)×Bool) :=
 some (0,[],false)
def ZP1(r1:Room)(j2:Job)(x13:Int)(_:Nat)(_:Unit)(k13:Unit->Option (Int×(List Int)×Bool)):Option (Int×(List Int)×Bool) :=
 bif (decide (1000000000<(w64 (x13+j2.wall))))then(ZG3 ())else((Zt2 r1.lics x13 (w64 (x13+j2.wall))).bind fun y14=>bif (!(ZP4 j2.lic y14))then(k13 ())else((Zl5 r1 j2.need x13 (w64 (x13+j2.wall))).bind fun y15=>(Z66 r1.topo y15 j2.nodes j2.level).bind fun y16=>bif y16.2 then(some (x13,y16.1,true))else(k13 ())))
def Zw2(_:Unit):Option (Int×(List Int)×Bool) :=
 ZG3 ()
def ZH3(from3:Int)(x7:List Pt)(_:Nat)(v7:(List Int))(k7:(List Int)->Option (Int×(List Int)×Bool)):Option (Int×(List Int)×Bool) :=
 rgl (Ze6 from3) (Zd6 k7) x7 0 v7
def ZF3(r1:Room)(j2:Job)(v7:(List Int)):Option (Int×(List Int)×Bool) :=
 (ZRl v7).bind fun xs11=>rgl (ZP1 r1 j2) Zw2 (Z51 xs11) 0 ()
def ZI3(r1:Room)(j2:Job)(from3:Int):Option (Int×(List Int)×Bool) :=
 (Zu4 r1).bind fun b4=>bif (((!b4)||(!(Zj1 j2)))||(!(ZK from3)))then(some (0,[],false))else((appL 24 [r1.lics] r1.profs).bind fun xs5=>rgl (ZH3 from3) (ZF3 r1 j2) xs5 0 [from3])
theorem Zoh{r1:Room}{j2:Job}{from3:Int}{r:Int×(List Int)×Bool}(H:ZI3 r1 j2 from3=some r):Snd Tryz.prog ZJc [Zq1 .rd r1,eJob j2,.int .i64 from3] (.tup [.int .i64 r.1,.sl .nw 1 (r.2.1.map eI),.bool r.2.2]) []:=by
 refine wS Zch [.t 6,.t 7,.t 8] ?_
 unfold ZI3 at H
 obtain⟨b4,h4,H⟩:=bB H
 refine wG [.c 19 (ZG9 h4),.g 23 [((!b4),false)] (.call _ _ _ _ _ (AEs.refl _) (fun _=>ZN7 j2)),.g 28 [(((!b4)||(!(Zj1 j2))),false)] (.call _ _ _ _ _ (AEs.refl _) (fun _=>Ze2 from3))] fun _=>?_
 refine Z3 H (fun H=>?_) fun H=>?_
 .refine wP ?_
  replace H:=sI H;subst H
  exact wN [(6,.d),(7,.n 1),(8,.d)] [] [] [] [] [⟨_,nw_I ([]:List Int)⟩]
 .obtain⟨xs5,h5,H⟩:=bB H
  refine wG [.u 38 (.ap _ _ _ _ fun _=>Z6 (Zg .rd) h5),.u 39 (.ln _ _ fun _=>lm xs5 (Zg .rd))] fun q6=>?_
  refine wR (fun(i7:Nat) (v7:(List Int))=>⟨[(2,.int .i64 from3),(3,.ptr 3 0),(4,.ptr 4 0),(9,.sref 32),(38,.sref 35),(39,.int .i64 (xs5.length:Int)),(40,.int .i64 (i7:Int))],[],[(3,(Zq1 .rd r1).cells),(4,(eJob j2).cells)],[(32,⟨1,v7.map eI,false⟩),(35,⟨1,xs5.map (Zg .rd),false⟩)]⟩) H (fun i7 x7 v7 I m k7 hxv7 hiv7 H N41=>?_) (fun v7 I m H=>?_)
  .unfold ZH3 at H
   refine wP ?_
   refine wt (ltT hiv7) ?_
   refine wG [.u 42 (.ix _ _ _ fun _=>Z1 (Zg .rd) (Z5 hxv7)),.u 43 (.el _ _ _ fun _=>gm (Zg .rd) (Zk1 (Z5 hxv7))),.u 46 (.ln _ _ fun _=>lm x7 ePt)] fun q8=>?_
   refine wR (fun(i9:Nat) (v9:(List Int))=>⟨[(2,.int .i64 from3),(3,.ptr 3 0),(4,.ptr 4 0),(9,.sref 32),(38,.sref 35),(39,.int .i64 (xs5.length:Int)),(40,.int .i64 (i7:Int)),(45,.sl .rd 4 (x7.map ePt)),(46,.int .i64 (x7.length:Int)),(47,.int .i64 (i9:Int))],[],[(3,(Zq1 .rd r1).cells),(4,(eJob j2).cells)],[(32,⟨1,v9.map eI,false⟩),(35,⟨1,xs5.map (Zg .rd),false⟩)]⟩) H (fun i9 x9 v9 I m k9 hxv9 hiv9 H N32=>?_) (fun v9 I m H=>?_)
   .unfold Ze6 at H
    refine wP ?_
    refine wt (ltT hiv9) ?_
    refine wG [.u 49 (.ix _ _ _ fun _=>Z1 ePt (Z5 hxv9))] fun _=>?_
    refine Z3 H (fun H=>?_) fun H=>?_
    .obtain⟨xs10,h10,H⟩:=bB H
     refine wG [.u 59 (.ap _ _ _ _ fun _=>Z6 eI h10),.w 60 (wi .i64 rfl hiv9 q8.1)] fun _=>?_
     exact wT (N32 _ H)
    .refine wG [.w 60 (wi .i64 rfl hiv9 q8.1)] fun _=>?_
     exact wT (N32 _ H)
   .unfold Zd6 at H
    refine wP ?_
    refine wf (ltF x7.length) ?_
    refine wG [.w 61 (wi .i64 rfl hiv7 q6.1)] fun _=>?_
    exact wT (N41 _ H)
  .unfold ZF3 at H
   refine wP ?_
   refine wf (ltF xs5.length) ?_
   obtain⟨xs11,h11,H⟩:=bB H
   refine wG [.u 63 (.cr ZS 1 _ [] [] false _ (fun _=>ZYc v7) (fun _=>trivial) (fun _=>rfl) (fun _=>ZQl h11)),.u 65 (.cr Z81 1 _ [] [] true _ (fun _=>ZYc xs11) (fun _=>trivial) (fun _=>rfl) (fun _=>Zrj xs11)),.u 66 (.ln _ _ fun _=>lm (Z51 xs11) eI)] fun q12=>?_
   refine Zqc (r:=r) ZG3 0 (fun v17:Unit=>⟨[],[],[],[]⟩) (by kernel_rfl) (fun v17 H=>?_) (fun J83=>?_)
   .unfold ZG3 at H
    refine wP ?_
    replace H:=sI H;subst H
    exact wN [(6,.d),(7,.n 1),(8,.d)] [] [] [] [] [⟨_,nw_I ([]:List Int)⟩]
   .refine wR (fun(i13:Nat) (v13:Unit)=>⟨[(3,.ptr 3 0),(4,.ptr 4 0),(65,.sref 66000),(66,.int .i64 ((Z51 xs11).length:Int)),(67,.int .i64 (i13:Int))],[],[(3,(Zq1 .rd r1).cells),(4,(eJob j2).cells)],[(66000,⟨1,(Z51 xs11).map eI,false⟩)]⟩) H (fun i13 x13 v13 I m k13 hxv13 hiv13 H N78=>?_) (fun v13 I m H=>?_)
    .unfold ZP1 at H
     refine wP ?_
     refine wt (ltT hiv13) ?_
     refine wG [.u 69 (.ix _ _ _ fun _=>Z1 eI (Z5 hxv13)),.u 70 (.el _ _ _ fun _=>gm eI (Zk1 (Z5 hxv13)))] fun _=>?_
     refine Z3 H (fun H=>?_) fun H=>?_
     .refine wP ?_
      exact wT (J83 () H)
     .obtain⟨y14,h14,H⟩:=bB H
      refine wG [.c 85 (Ze9 h14),.c 86 (Z8c j2.lic y14)] fun _=>?_
      refine Z3 H (fun H=>?_) fun H=>?_
      .refine wG [.w 110 (wi .i64 rfl hiv13 q12.1)] fun _=>?_
       exact wT (N78 () H)
      .obtain⟨y15,h15,H⟩:=bB H
       obtain⟨y16,h16,H⟩:=bB H
       refine wG [.c 99 (Zgh h15),.c 104 (ZVk h16)] fun _=>?_
       refine Z3 H (fun H=>?_) fun H=>?_
       .refine wP ?_
        replace H:=sI H;subst H
        exact wN [(6,.d),(7,.d),(8,.d)] [] [] [] [] [⟨_,nw_I y16.1⟩]
       .refine wG [.w 110 (wi .i64 rfl hiv13 q12.1)] fun _=>?_
        exact wT (N78 () H)
    .unfold Zw2 at H
     refine wP ?_
     refine wf (ltF (Z51 xs11).length) ?_
     refine wP ?_
     exact wT (J83 () H)
def ZPd:L :=
sR [.bx 3 (.t 0),.bx 4 (.t 1),.mv 6 (cB false)]
 (.seq (sR [mV 9 2,.ln 10 (.t 9),.mv 11 (kI 0)]
 (.blk 0 (.loop (.gw (sR [bI 12 .lss 11 10]
 (.seq (.cond (.t 12) .skip
 (.exit 0))
 (.seq (.blk 1 (sR [mV 13 11,iA 14 9 11 1,lD 15 14 1 false,mV 7 13,mV 8 15]
 (sR [mV 16 2,mV 17 7,.sc 18 (.t 16) none (some (.t 17)) 1,mV 19 8,cQ 20 Z31 [18,19]]
 (.cond (.t 20) (.seq (rE 6 (cB false))
 gR)
 .skip))))
 (.reg [.bi 21 .add (.t 11) (kI 1),mV 11 21]))))))))
 (sR [lD 22 3 2 true,mV 23 2,cQ 24 ZO8 [22,23],mV 25 24,.g 25 true (mV 26 2),.g 25 true (.ln 27 (.t 26)),.g 25 true (fA 28 4 2),.g 25 true (lD 29 28 1 false),.g 25 true (bI 30 .eql 27 29),.pk 31 (.t 25) (.t 30) (cB false),mV 6 31]
 gR))
def ZN3(nodes3:List Int)(x5:Int)(i5:Nat)(_:Unit)(k5:Unit->Option Bool):Option Bool :=
 (cutL nodes3 none (some (i5:Int))).bind fun xs6=>(Zu xs6 x5).bind fun b7=>bif b7 then(some false)else(k5 ())
def ZM3(t1:Topo)(j2:Job)(nodes3:List Int)(_:Unit):Option Bool :=
 (ZB3 t1 nodes3).bind fun b8=>some (b8&&((nodes3.length:Int)==j2.nodes))
def ZP2(t1:Topo)(j2:Job)(nodes3:List Int):Option Bool :=
 rgl (ZN3 nodes3) (ZM3 t1 j2 nodes3) nodes3 0 ()
theorem ZQd{t1:Topo}{j2:Job}{nodes3:List Int}{r:Bool}(H:ZP2 t1 j2 nodes3=some r):Snd Tryz.prog Zn9 [Zy .rd t1,eJob j2,.sl .rd 1 (nodes3.map eI)] (.bool r) []:=by
 refine wS ZPd [.t 6] ?_
 unfold ZP2 at H
 refine wG [.u 10 (.ln _ _ fun _=>lm nodes3 eI)] fun q4=>?_
 refine wR (fun(i5:Nat) (v5:Unit)=>⟨[(2,.sl .rd 1 (nodes3.map eI)),(3,.ptr 3 0),(4,.ptr 4 0),(9,.sl .rd 1 (nodes3.map eI)),(10,.int .i64 (nodes3.length:Int)),(11,.int .i64 (i5:Int))],[],[(3,(Zy .rd t1).cells),(4,(eJob j2).cells)],[]⟩) H (fun i5 x5 v5 I m k5 hxv5 hiv5 H N20=>?_) (fun v5 I m H=>?_)
 .unfold ZN3 at H
  refine wP ?_
  refine wt (ltT hiv5) ?_
  obtain⟨xs6,h6,H⟩:=bB H
  obtain⟨b7,h7,H⟩:=bB H
  refine wG [.u 14 (.ix _ _ _ fun _=>Z1 eI (Z5 hxv5)),.u 18 (.sc _ _ _ _ fun _=>Zon eI h6),.c 20 (Zg1 h7)] fun _=>?_
  refine Z3 H (fun H=>?_) fun H=>?_
  .refine wP ?_
   replace H:=sI H;subst H
   exact wE [(6,.d)]
  .refine wG [.w 21 (wi .i64 rfl hiv5 q4.1)] fun _=>?_
   exact wT (N20 () H)
 .unfold ZM3 at H
  refine wP ?_
  refine wf (ltF nodes3.length) ?_
  obtain⟨b8,h8,H⟩:=bB H
  refine wG [.c 24 (Zqb h8),.g 27 [(b8,true)] (.ln _ _ fun _=>lm nodes3 eI)] fun _=>?_
  replace H:=sI H;subst H
  exact wE [(6,.d)]
def Zy8:L :=
sR [.bx 6 (.t 0),.bx 7 (.t 1),.al 12 [.nl,.nl,.nl,.nl,.nl],.mv 13 (cB false)]
 (.seq (sR [lD 21 6 5 true,cQ 22 ZT7 [21],.un 23 (.t 22),mV 24 23,.g 24 false (lD 25 7 11 true),.g 24 false (cQ 26 ZU4 [25]),.g 24 false (.un 27 (.t 26)),.pk 28 (.t 24) (cB true) (.t 27),mV 29 28,.g 29 false (fA 30 6 0),.g 29 false (lD 31 30 2 true),.g 29 false (lD 32 7 11 true),.g 29 false (mV 33 4),.g 29 false (cQ 34 Zn9 [31,32,33]),.g 29 false (.un 35 (.t 34)),.pk 36 (.t 29) (cB true) (.t 35)]
 (.cond (.t 36) (sR [.bd 37 [.nl,.nl,.nl,.nl,.nl] [],.st (.t 12) (.t 37) 5,.mv 13 (cB false)]
 gR)
 .skip))
 (sR [lD 38 6 5 true,.cl 39 ZGc [(.t 38)],.al 14 [.nl,.nl,.nl,.nl,.nl],.st (.t 14) (.t 39) 5]
 (.seq (sR [mV 40 4,.ln 41 (.t 40),.mv 42 (kI 0)]
 (.blk 0 (.loop (.gw (sR [bI 43 .lss 42 41]
 (.seq (.cond (.t 43) .skip
 (.exit 0))
 (.seq (.blk 1 (sR [iA 44 40 42 1,lD 45 44 1 false,mV 16 45]
 (.seq (.rz [(14,17,[.nl])] [(0,false,mV 47 5),
 (1,false,fA 48 14 3),
 (3,false,mV 50 16),
 (6,false,mV 53 2),
 (7,false,mV 54 3),
 (8,false,fA 55 7 3),
 (9,false,lD 56 55 3 true),
 (2,true,lD 49 48 1 false),
 (4,true,iA 51 49 50 1),
 (5,true,lD 52 51 1 true),
 (10,false,.cc 57 (.t 47) [(.t 52),(.t 53),(.t 54),(.t 56)]),
 (11,false,mV 46 57),
 (12,false,eX 58 46 0),
 (13,false,eX 59 46 1)]
 [.st (.t 17) (.t 58) 1,mV 18 59])
 (.seq (sR [mV 60 18,.un 61 (.t 60)]
 (.cond (.t 61) (sR [.bd 62 [.nl,.nl,.nl,.nl,.nl] [],.st (.t 12) (.t 62) 5,.mv 13 (cB false)]
 gR)
 .skip))
 (.reg [fA 63 14 3,lD 64 63 1 false,mV 65 16,lD 66 17 1 true,iA 67 64 65 1,.st (.t 67) (.t 66) 1])))))
 (.reg [.bi 68 .add (.t 42) (kI 1),mV 42 68]))))))))
 (sR [mV 70 5,fA 71 14 4,lD 72 71 1 true,mV 73 2,mV 74 3,fA 75 7 6,lD 76 75 3 true,.cc 77 (.t 70) [(.t 72),(.t 73),(.t 74),(.t 76)],mV 69 77,eX 78 69 0,eX 79 69 1,.al 19 [.nl],.st (.t 19) (.t 78) 1,mV 20 79]
 (.seq (sR [mV 80 20,.un 81 (.t 80)]
 (.cond (.t 81) (sR [.bd 82 [.nl,.nl,.nl,.nl,.nl] [],.st (.t 12) (.t 82) 5,.mv 13 (cB false)]
 gR)
 .skip))
 (sR [lD 83 19 1 true,fA 84 14 4,.st (.t 84) (.t 83) 1]
 (sR [lD 85 14 5 true,.st (.t 12) (.t 85) 5,.mv 13 (cB true)]
 gR)))))))
def ZI1(j2:Job)(from3:Int)(to4:Int)(x10:Int)(_:Nat)(v10:(List (List Pt)))(k10:(List (List Pt))->Option (Room×Bool)):Option (Room×Bool) :=
 (idx v10 x10).bind fun e11=>(ZE3 e11 from3 to4 j2.need).bind fun y12=>bif (!y12.2)then(some ((Room.mk (Topo.mk [] []) [] [] []),false))else(k10 (v10.set x10.toNat y12.1))
def ZH1(j2:Job)(from3:Int)(to4:Int)(y8:Room)(v10:(List (List Pt))):Option (Room×Bool) :=
 (ZE3 y8.lics from3 to4 j2.lic).bind fun y13=>bif (!y13.2)then(some ((Room.mk (Topo.mk [] []) [] [] []),false))else(some ((Room.mk y8.topo y8.up v10 y13.1),true))
def ZQ(r1:Room)(j2:Job)(from3:Int)(to4:Int)(nodes5:List Int):Option (Room×Bool) :=
 (Zu4 r1).bind fun b6=>(bif ((!b6)||(!(Zj1 j2)))then some default else(ZP2 r1.topo j2 nodes5)).bind fun b7=>bif (((!b6)||(!(Zj1 j2)))||(!b7))then(some ((Room.mk (Topo.mk [] []) [] [] []),false))else((Zn5 r1).bind fun y8=>rgl (ZI1 j2 from3 to4) (ZH1 j2 from3 to4 y8) nodes5 0 y8.profs)
theorem Zf3{r1:Room}{j2:Job}{from3:Int}{to4:Int}{nodes5:List Int}{r:Room×Bool}(H:ZQ r1 j2 from3 to4 nodes5=some r):Snd Tryz.prog ZEc [Zq1 .rd r1,eJob j2,.int .i64 from3,.int .i64 to4,.sl .rd 1 (nodes5.map eI),.fn Zy2 []] (.tup [Zq1 .nw r.1,.bool r.2]) []:=by
 refine wS Zy8 [.c 12 5 true,.t 13] ?_
 unfold ZQ at H
 obtain⟨b6,h6,H⟩:=bB H
 obtain⟨b7,h7,H⟩:=bB H
 refine wG [.c 22 (ZG9 h6),.g 26 [((!b6),false)] (.call _ _ _ _ _ (AEs.refl _) (fun _=>ZN7 j2)),.g 34 [(_,false)] (.call _ _ _ _ _ (AEs.refl _) (fun q=>ZQd (bF q.1 h7)))] fun _=>?_
 refine Z3 H (fun H=>?_) fun H=>?_
 .refine wP ?_
  replace H:=sI H;subst H
  exact wN [(12,.d),(13,.d)] [(12,[.n 1,.n 4,.n 1,.n 1,.n 4])] [] [] [] [⟨_,nw_I ([]:List Int)⟩,⟨_,Zx ([]:List Node)⟩,⟨_,ZI2 ([]:List Bool)⟩,⟨_,Zb1 ([]:List (List Pt))⟩,⟨_,ZH2 ([]:List Pt)⟩]
 .obtain⟨y8,h8,H⟩:=bB H
  refine wG [.c 39 (Zih h8),.u 41 (.ln _ _ fun _=>lm nodes5 eI)] fun q9=>?_
  refine wR (fun(i10:Nat) (v10:(List (List Pt)))=>⟨[(2,.int .i64 from3),(3,.int .i64 to4),(5,.fn Zy2 []),(7,.ptr 7 0),(12,.ptr 12 0),(14,.ptr 14 0),(40,.sl .rd 1 (nodes5.map eI)),(41,.int .i64 (nodes5.length:Int)),(42,.int .i64 (i10:Int))],[],[(7,(eJob j2).cells),(12,[.nl,.nl,.nl,.nl,.nl]),(14,[.sl .nw 1 (y8.topo.parents.map eI),.sl .nw 4 (y8.topo.nodes.map Zf),.sl .nw 1 (y8.up.map eBo),.sref 40000,.sl .nw 4 (y8.lics.map ePt)])],[(40000,⟨1,v10.map (Zg .nw),false⟩)]⟩) H (fun i10 x10 v10 I m k10 hxv10 hiv10 H N32=>?_) (fun v10 I m H=>?_)
  .unfold ZI1 at H
   refine wP ?_
   refine wt (ltT hiv10) ?_
   obtain⟨e11,h11,H⟩:=bB H
   obtain⟨y12,h12,H⟩:=bB H
   refine wG [.u 44 (.ix _ _ _ fun _=>Z1 eI (Z5 hxv10)),.u 51 (.ix _ _ _ fun _=>Z1 (Zg .nw) h11),.u 52 (.el _ _ _ fun _=>gm (Zg .nw) (Zk1 h11)),.u 57 (.clsr _ _ _ _ _ (AEs.refl _) (by kernel_rfl) (fun _=>Zsb h12))] fun _=>?_
   refine Z3 H (fun H=>?_) fun H=>?_
   .refine wP ?_
    replace H:=sI H;subst H
    exact wN [(12,.d),(13,.d)] [(12,[.n 1,.n 4,.n 1,.n 1,.n 4])] [] [] [] [⟨_,nw_I ([]:List Int)⟩,⟨_,Zx ([]:List Node)⟩,⟨_,ZI2 ([]:List Bool)⟩,⟨_,Zb1 ([]:List (List Pt))⟩,⟨_,ZH2 ([]:List Pt)⟩]
   .refine wG [.u 67 (.ix _ _ _ fun _=>Z1 (Zg .nw) h11),.u 1000000 (.sto _ _ _ (Zg .nw y12.1) _ (fun _=>gm (Zg .nw) (Zk1 h11)) (fun _=>Zra ..)),.w 68 (wi .i64 rfl hiv10 q9.1)] fun _=>?_
    exact wT (N32 _ H)
  .unfold ZH1 at H
   refine wP ?_
   refine wf (ltF nodes5.length) ?_
   obtain⟨y13,h13,H⟩:=bB H
   refine wG [.u 77 (.clsr _ _ _ _ _ (AEs.refl _) (by kernel_rfl) (fun _=>Zsb h13))] fun _=>?_
   refine Z3 H (fun H=>?_) fun H=>?_
   .refine wP ?_
    replace H:=sI H;subst H
    exact wN [(12,.d),(13,.d)] [(12,[.n 1,.n 4,.n 1,.n 1,.n 4])] [] [] [] [⟨_,nw_I ([]:List Int)⟩,⟨_,Zx ([]:List Node)⟩,⟨_,ZI2 ([]:List Bool)⟩,⟨_,Zb1 ([]:List (List Pt))⟩,⟨_,ZH2 ([]:List Pt)⟩]
   .refine wP ?_
    replace H:=sI H;subst H
    exact wN [(12,.d),(13,.d)] [(12,[.d,.d,.d,.f,.d])] [] [40000] [] [⟨_,nw_I y8.topo.parents⟩,⟨_,Zx y8.topo.nodes⟩,⟨_,ZI2 y8.up⟩,⟨_,Zb1 v10⟩,⟨_,ZH2 y13.1⟩]
def Z2j:L :=
sR [.bx 4 (.t 0),.bx 5 (.t 1),.al 8 [.nl,.nl,.nl,.nl,.nl],.mv 9 (cB false)]
 (.seq (sR [mV 10 2,cQ 11 ZJ1 [10],.un 12 (.t 11)]
 (.cond (.t 12) (sR [.bd 13 [.nl,.nl,.nl,.nl,.nl] [],.st (.t 8) (.t 13) 5,.mv 9 (cB false)]
 gR)
 .skip))
 (sR [lD 14 4 5 true,lD 15 5 11 true,mV 16 2,mV 17 2,fA 18 5 9,lD 19 18 1 false,bI 20 .add 17 19,mV 21 3,.cq 22 ZEc [(.t 14),(.t 15),(.t 16),(.t 20),(.t 21),(.c (.fn Zy2 []))],eX 23 22 0,eX 24 22 1,.st (.t 8) (.t 23) 5,mV 9 24]
 gR))
def ZS6(r1:Room)(j2:Job)(at3:Int)(nodes4:List Int):Option (Room×Bool) :=
 bif (!(ZK at3))then(some ((Room.mk (Topo.mk [] []) [] [] []),false))else((ZQ r1 j2 at3 (w64 (at3+j2.wall)) nodes4).bind fun y5=>some (y5.1,y5.2))
theorem Zcj{r1:Room}{j2:Job}{at3:Int}{nodes4:List Int}{r:Room×Bool}(H:ZS6 r1 j2 at3 nodes4=some r):Snd Tryz.prog ZAd [Zq1 .rd r1,eJob j2,.int .i64 at3,.sl .rd 1 (nodes4.map eI)] (.tup [Zq1 .nw r.1,.bool r.2]) []:=by
 refine wS Z2j [.c 8 5 true,.t 9] ?_
 unfold ZS6 at H
 refine wG [.c 11 (Ze2 at3)] fun _=>?_
 refine Z3 H (fun H=>?_) fun H=>?_
 .refine wP ?_
  replace H:=sI H;subst H
  exact wN [(8,.d),(9,.d)] [(8,[.n 1,.n 4,.n 1,.n 1,.n 4])] [] [] [] [⟨_,nw_I ([]:List Int)⟩,⟨_,Zx ([]:List Node)⟩,⟨_,ZI2 ([]:List Bool)⟩,⟨_,Zb1 ([]:List (List Pt))⟩,⟨_,ZH2 ([]:List Pt)⟩]
 .obtain⟨y5,h5,H⟩:=bB H
  refine wG [.c 22 (Zf3 h5)] fun _=>?_
  replace H:=sI H;subst H
  exact wN [(8,.d),(9,.d)] [(8,[])] [] [] [] [⟨_,nw_I y5.1.topo.parents⟩,⟨_,Zx y5.1.topo.nodes⟩,⟨_,ZI2 y5.1.up⟩,⟨_,Zb1 y5.1.profs⟩,⟨_,ZH2 y5.1.lics⟩]
theorem ZO2{j:Job}:Z9 j=true↔(1<=j.id/\j.id<=999)/\(0<=j.prio/\j.prio<=999)/\(1<=j.nodes/\j.nodes<=24)/\Z2 j.need=true/\Z2 j.lic=true/\(1<=j.wall/\j.wall<=1000000)/\(0<=j.level/\j.level<=24):=by
 unfold Z9
 by_cases h:(1<=j.id/\j.id<=999)/\(0<=j.prio/\j.prio<=999)/\(1<=j.nodes/\j.nodes<=24)
 .rw[show((((((decide (j.id<1))||(decide (999<j.id)))||(decide (j.prio<0)))||(decide (999<j.prio)))||(decide (j.nodes<1)))||(decide (24<j.nodes)))=false by simp;omega]
  simp only[yM,yD,yO]
  constructor
  .intro q;exact⟨h.1,h.2.1,h.2.2,q.1.1.1.1.1,q.1.1.1.1.2,⟨q.1.1.1.2,q.1.1.2⟩,q.1.2,q.2⟩
  .intro q;exact⟨⟨⟨⟨⟨q.2.2.2.1,q.2.2.2.2.1⟩,q.2.2.2.2.2.1.1⟩,q.2.2.2.2.2.1.2⟩,q.2.2.2.2.2.2.1⟩,q.2.2.2.2.2.2.2⟩
 .rw[show((((((decide (j.id<1))||(decide (999<j.id)))||(decide (j.prio<0)))||(decide (999<j.prio)))||(decide (j.nodes<1)))||(decide (24<j.nodes)))=true by
   simp only[Bool.or_eq_true,yO];omega]
  simp only[yN]
  exact Zx2 fun q=>h ⟨q.1,q.2.1,q.2.2.1⟩
theorem ZO7(j:Job):Zj1 j=Z9 j:=by
 rw[Bool.eq_iff_iff,ZO2]
 unfold Zj1 Z0
 simp only[ZC3,yD,yO,and_assoc]
structure RoomP(r:Room):Prop where
 topo:TopoP r.topo
 up:r.up.length=r.topo.nodes.length
 profs:r.profs.length=r.topo.nodes.length
 prof:∀p∈r.profs,ProfP p
 lics:ProfP r.lics
noncomputable def roomOk(r:Room):Bool:=topoOk r.topo&&decide (r.up.length=r.topo.nodes.length)&&decide (r.profs.length=r.topo.nodes.length)&&profOk r.lics&&r.profs.all profOk
theorem ZZ7{r:Room}:roomOk r=true↔RoomP r:=by
 unfold roomOk
 simp only[yD,yO,List.all_eq_true,ZV7,Z08]
 exact⟨fun h=>⟨h.1.1.1.1,h.1.1.1.2,h.1.1.2,h.2,h.1.2⟩,fun h=>⟨⟨⟨⟨h.topo,h.up⟩,h.profs⟩,h.lics⟩,h.prof⟩⟩
theorem Zcm(a b:Nat):((a:Int)!=(b:Int)) = !decide (a=b):=by
 by_cases h:a=b
 .simp[h]
 .rw[show((a:Int)!=(b:Int))=true by simp;omega];simp[h]
theorem ZW3(r:Room):Z43 r=some (roomOk r):=by
 unfold Z43 roomOk
 rw[ZV3,bS]
 simp only[Zcm,ZK1]
 rw[ZU2 (r:=some false) (p:=fun p=>!profOk p) (fun x _ i k=>by unfold Zb8;rw[ZK1,bS]),← List.not_all_eq_any_not]
 cases topoOk r.topo<;>cases decide (r.up.length=r.topo.nodes.length)<;>cases decide (r.profs.length=r.topo.nodes.length)<;>cases profOk r.lics<;>cases r.profs.all profOk<;>rfl
theorem ZH9(r:Room):Zu4 r=some (roomOk r):=by
 unfold Zu4 roomOk
 rw[ZF9,ZV3,bS]
 simp only[Zcm]
 rw[ZU2 (r:=some false) (p:=fun p=>!profOk p) (fun x _ i k=>by unfold ZF8;rw[ZJ9,ZK1,bS]),← List.not_all_eq_any_not]
 unfold ZE8
 rw[ZJ9,ZK1,bS]
 cases topoOk r.topo<;>cases decide (r.up.length=r.topo.nodes.length)<;>cases decide (r.profs.length=r.topo.nodes.length)<;>cases profOk r.lics<;>cases r.profs.all profOk<;>rfl
structure RoomS(r:Room):Prop where
 up:r.up.length<=1048576
 par:r.topo.parents.length<=1048576
 nodes:r.topo.nodes.length<=1048576
 profs:r.profs.length<=1048576
 prof:∀p∈r.profs,p.length<=1048576
 lics:r.lics.length<=1048576
theorem RoomP.small{r:Room}(h:RoomP r):RoomS r :=
  ⟨by have:=h.up;have:=h.topo.nodes;omega,by have:=h.topo.tree.le;omega,by have:=h.topo.nodes;omega,by have:=h.profs;have:=h.topo.nodes;omega,fun p hp=>by have:=(h.prof p hp).le;omega,by have:=h.lics.le;omega⟩
theorem ZIb{r:Room}(h:RoomS r):ZG4 r=some r:=by
 unfold ZG4 ZE4
 have:=h.up;have:=h.lics;have:=h.par;have:=h.nodes;have:=h.profs
 rw[Z4 (by simp;omega),bS,Z4 (by simp;omega),bS,bS,Z4 (by simp;omega),bS,Z4 (by simp;omega),bS]
 rw[Z71 (bd:=Zd4) (bs:=24) (p:=fun _=>true) (f:=id) (fun x hx i b k=>by
  have:=h.prof x hx
  unfold Zd4 ZE4
  rw[Z4 (by simp;omega),bS,bS];simp) (by simp;omega)]
 unfold Z47
 simp[List.filter_eq_self.2]
theorem Zjh{r:Room}(h:RoomS r):Zn5 r=some r:=by
 unfold Zn5 Z72 Z82 ZA3
 have:=h.up;have:=h.lics;have:=h.par;have:=h.nodes;have:=h.profs
 rw[Z4 (by simp;omega),bS,bS,Z4 (by simp;omega),bS,bS,Z4 (by simp;omega),bS,Z4 (by simp;omega),bS,bS]
 rw[Z71 (bd:=Zz3) (bs:=24) (p:=fun _=>true) (f:=id) (fun x hx i b k=>by
  have:=h.prof x hx
  unfold Zz3 ZA3
  rw[Z4 (by simp;omega),bS,bS];simp) (by simp;omega)]
 unfold Z56
 simp[List.filter_eq_self.2]
theorem Znn{α:Type}{l:List α}{i:Nat}(h:i<=l.length):cutL l none (some (i:Int))=some (l.take i):=by
 unfold cutL bhi blo
 simp[h]
theorem Zel{l:List Int}{i:Nat}{x:Int}(hx:l[i]?=some x):(l.take (i+1)).Nodup↔(l.take i).Nodup/\x∉l.take i:=by
 obtain⟨hi,rfl⟩:=yB hx
 rw[List.take_succ_eq_append_getElem hi,List.nodup_append]
 constructor
 .intro h;exact⟨h.1,fun hm=>h.2.2 _ hm _ (List.mem_singleton.2 rfl) rfl⟩
 .intro h;exact⟨h.1,by simp,fun a ha b hb e=>by rw[List.mem_singleton.1 hb]at e;subst e;exact h.2 ha⟩
theorem Zfl{γ:Type}{bd:Int->Nat->Unit->(Unit->Option γ)->Option γ}{kk:Unit->Option γ}{r:Option γ}{l:List Int}
  (hb:∀i x k,i<=l.length->bd x i () k=bif (l.take i).contains x then r else k ()):rgl bd kk l 0 ()=bif decide l.Nodup then kk ()else r:=by
 refine ZG2 (fun i (_:Unit)=>(l.take i).Nodup) (fun o=>o=bif decide l.Nodup then kk ()else r) (fun i x b k hx hI hk=>?_) (fun b hI=>?_) (by simp)
 .have hil:=(yB hx).1
  rw[hb i x k (by omega)]
  cases hc:(l.take i).contains x with
  |true =>
   have hm:=List.contains_iff_mem.1 hc
   have:¬ l.Nodup:=fun q=>((Zel hx).1 (q.sublist (List.take_sublist _ _))).2 hm
   simp[this]
  |false=>exact hk () ((Zel hx).2 ⟨hI,fun hm=>by rw[List.contains_iff_mem.2 hm]at hc;cases hc⟩)
 .rw[List.take_of_length_le (yV _)]at hI
  simp[hI]
noncomputable def diffOk(r:Room)(j:Job)(nodes:List Int):Bool:=roomOk r&&Z9 j&&decide ((nodes.length:Int)=j.nodes)&&ZJ r.topo nodes&&decide nodes.Nodup
theorem ZGb(r:Room)(j:Job)(nodes:List Int):ZF4 r j nodes=some (diffOk r j nodes):=by
 unfold ZF4 diffOk
 rw[ZW3,bS]
 have e:((nodes.length:Int)!=j.nodes) = !decide ((nodes.length:Int)=j.nodes):=by
  by_cases h:(nodes.length:Int)=j.nodes<;>simp[h]
 simp only[e,Ze4]
 rw[Zfl (r:=some false) (fun i x k hi=>by unfold Z37;rw[Znn hi,bS,Za2,bS])]
 cases roomOk r<;>cases Z9 j<;>cases decide ((nodes.length:Int)=j.nodes)<;>cases ZJ r.topo nodes<;>cases decide nodes.Nodup<;>rfl
theorem ZRd{t:Topo}(ht:t.nodes.length<=1048576)(j:Job)(nodes:List Int):ZP2 t j nodes=some (decide ((nodes.length:Int)=j.nodes)&&ZJ t nodes&&decide nodes.Nodup):=by
 unfold ZP2
 rw[Zfl (r:=some false) (fun i x k hi=>by unfold ZN3;rw[Znn hi,bS,ZX2,bS])]
 unfold ZM3
 rw[Zrb t nodes ht,bS]
 have e:((nodes.length:Int)==j.nodes)=decide ((nodes.length:Int)=j.nodes):=by
  by_cases h:(nodes.length:Int)=j.nodes<;>simp[h]
 rw[e]
 cases decide ((nodes.length:Int)=j.nodes)<;>cases ZJ t nodes<;>cases decide nodes.Nodup<;>rfl
def noRoom:Room×Bool:=(⟨⟨[],[]⟩,[],[],[]⟩,false)
def takeRoom(r:Room)(need lic:Vec)(from_ to_:Int)(nodes:List Int):Option (Room×Bool) :=
 rgl (fun x _ v k=>(idx v x).bind fun e=>(ZF1 e from_ to_ need).bind fun y=>bif !y.2 then some noRoom else k (v.set x.toNat y.1))
  (fun v=>(ZF1 r.lics from_ to_ lic).bind fun y=>bif !y.2 then some noRoom else some (⟨r.topo,r.up,v,y.1⟩,true)) nodes 0 r.profs
theorem ZZd{r:Room}(hr:RoomP r)(need lic:Vec)(from_ to_:Int){nodes:List Int}(hn:ZJ r.topo nodes=true) :
  ∃q,takeRoom r need lic from_ to_ nodes=some q/\(q.2=true->RoomP q.1/\q.1.topo=r.topo/\q.1.up=r.up):=by
 have hn:=(Zv.1 hn).2
 unfold takeRoom
 refine ZG2 (fun i (v:List (List Pt))=>v.length=r.topo.nodes.length/\∀p∈v,ProfP p) (fun o=>∃q:Room×Bool,o=some q/\(q.2=true->RoomP q.1/\q.1.topo=r.topo/\q.1.up=r.up)) (fun i x v k hx hI hk=>?_) (fun v hI=>?_) ⟨hr.profs,hr.prof⟩
 .have hx':=hn x (yE hx)
  obtain⟨e,q1,q2⟩:=ZAh (l:=v) (i:=x) hx'.1 (by rw[hI.1];exact hx'.2)
  obtain⟨y,h1,h2⟩:=(ZUd e from_ to_ need).2
  rw[q1,bS,h1,bS]
  cases hy:y.2 with
  |false=>exact⟨noRoom,rfl,fun h=>by cases h⟩
  |true =>
   refine hk _ ⟨by simp[hI.1],fun p hp=>?_⟩
   rcases List.mem_or_eq_of_mem_set hp with hp|rfl
   .exact hI.2 p hp
   .exact h2 hy
 .obtain⟨y,h1,h2⟩:=(ZUd r.lics from_ to_ lic).2
  rw[h1,bS]
  cases hy:y.2 with
  |false=>exact⟨noRoom,rfl,fun h=>by cases h⟩
  |true=>exact⟨_,rfl,fun _=>⟨⟨hr.topo,hr.up,hI.1,hI.2,h2 hy⟩,rfl,rfl⟩⟩
theorem Zc8(r:Room)(j:Job)(t:Int)(nodes:List Int):ZB2 r j t nodes=bif diffOk r j nodes&&time t then takeRoom r j.need j.lic t (w64 (t+j.wall)) nodes else some noRoom:=by
 unfold ZB2
 rw[ZGb,bS,ZQ1]
 cases hd:diffOk r j nodes with
 |false=>rfl
 |true =>
  cases time t with
  |false=>rfl
  |true =>
   have hr:roomOk r=true:=by unfold diffOk at hd;simp only[yD]at hd;exact hd.1.1.1.1
   simp only[yL,Bool.or_self,yM,Bool.and_self,yN]
   rw[ZIb (ZZ7.1 hr).small,bS]
   rfl
theorem Z62{t:Topo}{l:List Int}(h:ZJ t l=true)(hl:l.length<=1048576)(s:Nat):ZY1 t l (s:Int)=some (l.filter fun n=>hasUp t n s):=by
 unfold ZY1
 rw[Z71 (bs:=8) (p:=fun n=>hasUp t n s) (f:=fun n=>n) (fun x hx i b k=>by
  unfold Zj6
  exact Zfn h hx s _) (by simp;omega)]
 unfold Zo9
 simp
def rise(n:Int):List Int->List Int
 |[]=>[n]
 |x::l=>if n<x then n::x::l else x::rise n l
theorem Zee(n:Int):∀l:List Int,(rise n l).length=l.length+1
 |[]=>rfl
 |x::l=>by
  unfold rise
  split
  .rfl
  .simp[Zee n l]
theorem ZPc(n m:Int):∀l:List Int,m∈rise n l↔m=n\/m∈l
 |[]=>by simp[rise]
 |x::l=>by
  unfold rise
  split
  .simp
  .simp only[List.mem_cons,ZPc n m l]
   constructor<;>rintro(h|h|h)<;>simp[h]
theorem Z9t(n x:Int)(i:Nat)(v:Bool×List Int)(k:Bool×List Int->Option (List Int)) :
  ZL2 n x i v k=bif (!v.1)&&decide (n<x)then(appL 8 v.2 [n]).bind fun xs5=>(appL 8 xs5 [x]).bind fun xs7=>k (true,xs7)else(appL 8 v.2 [x]).bind fun xs7=>k (v.1,xs7):=rfl
theorem Zjl{l:List Int}(n:Int)(hl:l.length<=1048576):ZD4 l n=some (rise n l):=by
 have key:∀(l:List Int) (i:Nat) (acc:List Int),acc.length+l.length<=1048576 ->
   rgl (ZL2 n) (ZW1 n) l i (false,acc)=some (acc++rise n l):=by
  have key2:∀(l:List Int) (i:Nat) (acc:List Int),acc.length+l.length<=1048577->rgl (ZL2 n) (ZW1 n) l i (true,acc)=some (acc++l):=by
   intro l
   induction l with
   |nil=>intro i acc _;rw[rgl];unfold ZW1 ZX1;simp
   |cons x l ih =>
    intro i acc h
    simp only[yT]at h
    rw[rgl,Z9t]
    simp only[yL,Bool.false_and,yM]
    rw[Z4 (by simp;omega),bS,ih _ _ (by simp;omega)]
    simp
  intro l
  induction l with
  |nil =>
   intro i acc h
   rw[rgl]
   unfold ZW1 ZX1
   simp only[Bool.not_false,yN]
   simp only[List.length_nil]at h
   rw[Z4 (by simp;omega)]
   rfl
  |cons x l ih =>
   intro i acc h
   simp only[yT]at h
   rw[rgl,Z9t]
   unfold rise
   by_cases hx:n<x
   .simp only[Bool.not_false,Bool.true_and,hx,decide_true,yN,yb]
    rw[Z4 (by simp;omega),bS,Z4 (by simp;omega),bS,key2 _ _ _ (by simp;omega)]
    simp
   .simp only[Bool.not_false,Bool.true_and,hx,decide_false,yM,yc]
    rw[Z4 (by simp;omega),bS,ih _ _ (by simp;omega)]
    simp
 unfold ZD4
 rw[key l 0 [] (by simpa using hl)]
 rfl
def Z7d(n:Int)(v ys:List Int):List Int:=ys.foldl (fun v x=>if(v.length:Int)<n then rise x v else v) v
theorem Zmj(n:Int):∀(ys v:List Int),(v.length:Int)<=n->((Z7d n v ys).length:Int)=min n ((v.length:Int)+(ys.length:Int))
 |[],v,h=>by simp only[Z7d,List.foldl_nil,List.length_nil];omega
 |y::ys,v,h=>by
  unfold Z7d
  rw[List.foldl_cons]
  by_cases hv:(v.length:Int)<n
  .have:=Zmj n ys (rise y v) (by rw[Zee];omega)
   unfold Z7d at this
   rw[yd hv,this,Zee]
   simp only[yT];omega
  .have:=Zmj n ys v h
   unfold Z7d at this
   rw[ye hv,this]
   simp only[yT];omega
theorem Zjo(n m:Int):∀(ys v:List Int),m∈Z7d n v ys->m∈v\/m∈ys
 |[],v,h=>.inl h
 |y::ys,v,h=>by
  unfold Z7d at h
  rw[List.foldl_cons]at h
  rcases Zjo n m ys _ h with h|h
  .split at h
   .rcases(ZPc y m v).1 h with h|h
    .exact .inr (by simp[h])
    .exact .inl h
   .exact .inl h
  .exact .inr (yH _ h)
def Z8s(Q:Nat->Prop)(m:Nat)(v:Int):Prop:=(v<0->∀s,s<m->¬ Q s)/\(0<=v->∃s:Nat,v=(s:Int)/\s<m/\Q s)
def Zdm(t:Topo)(l taken:List Int)(s:Nat):Prop:=(l.filter fun n=>hasUp t n s)≠[]/\kids t.parents (s:Int)=[]/\(s:Int)∉taken
theorem Zfq{t:Topo}{l:List Int}(h:ZJ t l=true)(hl:l.length<=1048576)(taken:List Int):∃v,Z03 t l taken=some v/\Z8s (Zdm t l taken) t.parents.length v:=by
 have T:=(Zv.1 h).1
 unfold Z03
 refine ZG2 (l0:=t.parents) (fun i (v:Int)=>Z8s (Zdm t l taken) i v) (fun o=>∃v,o=some v/\Z8s (Zdm t l taken) t.parents.length v) (fun i x v k hx hI hk=>?_) (fun v hI=>⟨v,rfl,hI⟩) ⟨fun _ s hs=>by omega,fun h=>by omega⟩
 have hi:=(yB hx).1
 have skip:¬ Zdm t l taken i->Z8s (Zdm t l taken) (i+1) v:=fun hq=>by
  refine⟨fun hv s hs=>?_,fun hv=>?_⟩
  .by_cases e:s=i
   .subst e;exact hq
   .exact hI.1 hv s (by omega)
  .obtain⟨s,e,hs,q⟩:=hI.2 hv
   exact⟨s,e,by omega,q⟩
 have take:Zdm t l taken i->Z8s (Zdm t l taken) (i+1) (i:Int):=fun hq=>⟨fun hv=>by omega,fun _=>⟨i,rfl,by omega,hq⟩⟩
 unfold Zc4
 rw[Z62 h hl i,bS]
 by_cases h0:(l.filter fun n=>hasUp t n i)=[]
 .simp only[h0,List.length_nil,Int.natCast_zero,beq_self_eq_true,yN,bS,Bool.true_or]
  exact hk v (skip fun q=>q.1 h0)
 .have hne:(((l.filter fun n=>hasUp t n i).length:Int)==0)=false:=by
   rw[beq_eq_false_iff_ne]
   have:=List.length_pos_iff.2 h0
   omega
  rw[hne,yM,Z25 t (i:Int) (by have:=T.tree.le;omega),bS]
  by_cases hkd:kids t.parents (i:Int)=[]
  .simp only[hkd,List.map_nil,List.length_nil,Int.natCast_zero,Int.lt_irrefl,decide_false,Bool.or_self,yM,Za2,bS,Bool.false_or]
   cases ht:taken.contains (i:Int)with
   |true =>
    rw[yN]
    exact hk v (skip fun q=>q.2.2 (List.contains_iff_mem.1 ht))
   |false =>
    have hq:Zdm t l taken i:=⟨h0,hkd,fun hm=>by rw[List.contains_iff_mem.2 hm]at ht;cases ht⟩
    rw[yM]
    by_cases hv:v<0
    .simp only[hv,decide_true,yN,bS,Bool.true_or]
     exact hk _ (take hq)
    .obtain⟨s,e,hs,q⟩:=hI.2 (by omega)
     subst e
     rw[show decide ((s:Int)<0)=false by simp,yM,Z62 h hl s,bS,Bool.false_or]
     cases decide (((l.filter fun n=>hasUp t n s).length:Int)<((l.filter fun n=>hasUp t n i).length:Int))with
     |true=>exact hk _ (take hq)
     |false=>exact hk _ ⟨fun hv=>by omega,fun _=>⟨s,rfl,by omega,q⟩⟩
  .have hpos:decide (0<(((kids t.parents (i:Int)).map fun(n:Nat)=>(n:Int)).length:Int))=true:=by
    have:=List.length_pos_iff.2 hkd
    simp;omega
   simp only[hpos,Bool.or_true,yN,bS,Bool.true_or]
   exact hk v (skip fun q=>hkd q.2.1)
section
variable{α β γ:Type}
theorem Zfe{bd:α->Nat->β->(β->Option γ)->Option γ}{kk:β->Option γ}{l0:List α}{f:β->Nat->β}(I:Nat->β->Prop)(hI:∀j b,j<l0.length->I j b->I (j+1) (f b j))
  (h:∀j x b k,l0[j]?=some x->I j b->bd x j b k=k (f b j)) {b:β} (h0:I 0 b):rgl bd kk l0 0 b=kk ((List.range l0.length).foldl f b)/\I l0.length ((List.range l0.length).foldl f b):=by
 have key:∀(m i:Nat) (b:β),l0.length-i=m->i<=l0.length->I i b->rgl bd kk (l0.drop i) i b=kk ((List.range' i m).foldl f b)/\I l0.length ((List.range' i m).foldl f b):=by
  intro m
  induction m with
  |zero =>
   intro i b hm hi hb
   have:i=l0.length:=by omega
   subst this
   rw[List.drop_length]
   exact⟨rfl,hb⟩
  |succ m ih =>
   intro i b hm hi hb
   have h1:i<l0.length:=by omega
   rw[List.drop_eq_getElem_cons h1,rgl,h i _ b _ (yA h1) hb,List.range'_succ,List.foldl_cons]
   exact ih (i+1) _ (by omega) h1 (hI i b h1 hb)
 have:=key l0.length 0 b (by simp) (Nat.zero_le _) h0
 rwa [List.drop_zero,← List.range_eq_range']at this
end
def cntU(t:Topo)(l:List Int)(s:Nat):Nat:=(l.filter fun n=>hasUp t n s).length
def inR(i:Nat)(v:Int):Prop:=-1<=v/\v<(i:Int)
def ZV4(t:Topo)(l:List Int)(n level:Int)(v:Int)(s:Nat):Int :=
 if(cntU t l s:Int)<n\/level<lev t s then v
 else if v<0\/lev t s<lev t v.toNat\/(lev t s=lev t v.toNat/\(cntU t l s:Int)<cntU t l v.toNat)then(s:Int)else v
def swF(t:Topo)(l:List Int)(n level:Int):Int:=(List.range t.parents.length).foldl (ZV4 t l n level) (-1)
theorem Z6o{t:Topo}{l:List Int}(h:ZJ t l=true)(hl:l.length<=1048576)(n level:Int):ZR3 t l n level=some (swF t l n level)/\inR t.parents.length (swF t l n level):=by
 have T:=(Zv.1 h).1
 unfold ZR3 swF
 refine(Zfe (f:=ZV4 t l n level) inR (fun j v hj hv=>?_) (fun j x v k hx hv=>?_) ⟨by omega,by omega⟩).imp (fun e=>e) fun e=>e
 .obtain⟨v1,v2⟩:=hv
  unfold ZV4 inR
  split
  .omega
  .split<;>omega
 .have hj:=(yB hx).1
  obtain⟨v1,v2⟩:=hv
  unfold Z05 ZV4
  rw[Z62 h hl j,bS,Z42 T hj,bS]
  rw[show(l.filter fun n=>hasUp t n j).length=cntU t l j from rfl]
  by_cases h1:(cntU t l j:Int)<n\/level<lev t j
  .rw[yd h1,show(decide ((cntU t l j:Int)<n)||decide (level<lev t j))=true by simpa using h1,yN]
  .rw[ye h1,show(decide ((cntU t l j:Int)<n)||decide (level<lev t j))=false by
    rw[Bool.eq_false_iff];intro q;exact h1 (by simpa using q),yM]
   by_cases hv0:v<0
   .rw[yd (.inl hv0),show decide (v<0)=true by simpa using hv0]
    rfl
   .obtain⟨m,rfl⟩:∃m:Nat,v=(m:Int):=⟨v.toNat,by omega⟩
    have hm:m<t.parents.length:=by omega
    rw[show decide ((m:Int)<0)=false by simp]
    simp only[yM,Bool.false_or]
    rw[Z42 T hm,bS,yZ]
    by_cases h2:lev t j<lev t m
    .rw[yd (.inr (.inl h2)),show decide (lev t j<lev t m)=true by simpa using h2]
     rfl
    .rw[show decide (lev t j<lev t m)=false by simpa using h2,yM,bS,yM]
     by_cases h3:lev t j=lev t m
     .rw[show(lev t j==lev t m)=true by simpa using h3,yN,Z62 h hl m,bS]
      rw[show(l.filter fun n=>hasUp t n m).length=cntU t l m from rfl]
      by_cases h4:(cntU t l j:Int)<cntU t l m
      .rw[yd (.inr (.inr ⟨h3,h4⟩)),show decide ((cntU t l j:Int)<(cntU t l m:Int))=true by simpa using h4]
       rfl
      .rw[ye (by omega),show decide ((cntU t l j:Int)<(cntU t l m:Int))=false by simpa using h4]
       rfl
     .rw[show(lev t j==lev t m)=false by simpa using h3,yM,bS,ye (by omega)]
      rfl
def Zy7(t:Topo)(l taken:List Int)(v:Int)(s:Nat):Int :=
 if cntU t l s=0\/kids t.parents (s:Int)≠[]\/(s:Int)∈taken then v
 else if v<0\/cntU t l v.toNat<cntU t l s then(s:Int)else v
def Z6i(t:Topo)(l taken:List Int):Int:=(List.range t.parents.length).foldl (Zy7 t l taken) (-1)
theorem ZGp{t:Topo}{l:List Int}(h:ZJ t l=true)(hl:l.length<=1048576)(taken:List Int):Z03 t l taken=some (Z6i t l taken)/\inR t.parents.length (Z6i t l taken):=by
 have T:=(Zv.1 h).1
 unfold Z03 Z6i
 refine(Zfe (f:=Zy7 t l taken) inR (fun j v hj hv=>?_) (fun j x v k hx hv=>?_) ⟨by omega,by omega⟩).imp (fun e=>e) fun e=>e
 .obtain⟨v1,v2⟩:=hv
  unfold Zy7 inR
  split
  .omega
  .split<;>omega
 .have hj:=(yB hx).1
  obtain⟨v1,v2⟩:=hv
  unfold Zc4 Zy7
  rw[Z62 h hl j,bS]
  rw[show(l.filter fun n=>hasUp t n j).length=cntU t l j from rfl]
  by_cases h0:cntU t l j=0
  .rw[yd (.inl h0),show((cntU t l j:Int)==0)=true by simpa using h0]
   rfl
  .rw[show((cntU t l j:Int)==0)=false by simpa using h0,yM,Z25 t (j:Int) (by have:=T.tree.le;omega),bS]
   by_cases hk:kids t.parents (j:Int)=[]
   .simp only[hk,List.map_nil,List.length_nil,Int.natCast_zero,Int.lt_irrefl,decide_false,Bool.or_self,yM,Za2,bS,Bool.false_or]
    by_cases ht:(j:Int)∈taken
    .rw[yd (.inr (.inr ht)),List.contains_iff_mem.2 ht,yN]
    .rw[ye (by rintro(q|q|q);exact h0 q;exact q rfl;exact ht q),show taken.contains (j:Int)=false by
      rw[Bool.eq_false_iff];exact fun q=>ht (List.contains_iff_mem.1 q),yM]
     by_cases hv0:v<0
     .rw[yd (.inl hv0),show decide (v<0)=true by simpa using hv0]
      rfl
     .obtain⟨m,rfl⟩:∃m:Nat,v=(m:Int):=⟨v.toNat,by omega⟩
      rw[show decide ((m:Int)<0)=false by simp,yM,Z62 h hl m,bS,Bool.false_or,yZ]
      rw[show(l.filter fun n=>hasUp t n m).length=cntU t l m from rfl]
      by_cases h4:cntU t l m<cntU t l j
      .rw[yd (.inr h4),show decide ((cntU t l m:Int)<(cntU t l j:Int))=true by simpa using h4,yN]
      .rw[ye (by omega),show decide ((cntU t l m:Int)<(cntU t l j:Int))=false by simpa using h4,yM]
   .have hpos:decide (0<(((kids t.parents (j:Int)).map fun(n:Nat)=>(n:Int)).length:Int))=true:=by
     have:=List.length_pos_iff.2 hk
     simp;omega
    rw[yd (.inr (.inl hk))]
    simp only[hpos,Bool.or_true,yN,bS,Bool.true_or]
end
def lfOf(t:Topo)(x:Int):Nat:=match idx t.nodes x with
 |some e=>e.leaf.toNat
 |none=>0
theorem ZFp{t:Topo}{l:List Int}(h:ZJ t l=true){x:Int}(hx:x∈l):hasUp t x (lfOf t x)=true/\lfOf t x<t.parents.length/\kids t.parents (lfOf t x:Int)=[]:=by
 obtain⟨h1,h2⟩:=Zv.1 h
 obtain⟨e,q1,q2⟩:=ZAh (l:=t.nodes) (i:=x) (h2 x hx).1 (h2 x hx).2
 obtain⟨a1,a2,a3,_⟩:=h1.node e (yE q2)
 have e1:lfOf t x=e.leaf.toNat:=by unfold lfOf;rw[q1]
 have e2:(lfOf t x:Int)=e.leaf:=by omega
 refine⟨?_,by omega,by rw[e2];exact a3⟩
 unfold hasUp
 rw[q1,e1]
 simp only[List.contains_iff_mem]
 exact List.mem_map.2 ⟨_,Z7e _ _,rfl⟩
theorem Zio{α:Type}{r p q:α->Bool}:∀{l:List α},(∀x∈l,r x=true->p x=true\/q x=true)->(l.filter r).length<=(l.filter p).length+(l.filter q).length
 |[],_=>Nat.zero_le _
 |x::l,h=>by
  have ih:=Zio fun y hy=>h y (yH _ hy)
  have hx:=h x (yJ ..)
  cases hr:r x with
  |false=>cases hp:p x<;>cases hq:q x<;>simp[hr,hp,hq]<;>omega
  |true =>
   rcases hx hr with hp|hq
   .cases hq:q x<;>simp[hr,hp,hq]<;>omega
   .cases hp:p x<;>simp[hr,hp,hq]<;>omega
def cntT(t:Topo)(l taken:List Int):Nat:=(l.filter fun x=>taken.contains (lfOf t x:Int)).length
theorem Zvs{t:Topo}{l:List Int}(h:ZJ t l=true)(hl:l.length<=1048576){taken:List Int}(hc:cntT t l taken<l.length):∃m:Nat,Z6i t l taken=(m:Int)/\m<t.parents.length/\(m:Int)∉taken:=by
 obtain⟨v,h1,h2,h3⟩:=Zfq h hl taken
 have e:=(ZGp h hl taken).1
 rw[h1]at e
 have e:v=Z6i t l taken:=Option.some.inj e
 subst e
 have:∃x∈l,(lfOf t x:Int)∉taken:=by
  by_cases hx:∃x∈l,(lfOf t x:Int)∉taken
  .exact hx
  .have:l.filter (fun x=>taken.contains (lfOf t x:Int))=l:=List.filter_eq_self.2 fun x hxl=>by
    rw[List.contains_iff_mem]
    by_cases hm:(lfOf t x:Int)∈taken
    .exact hm
    .exact absurd ⟨x,hxl,hm⟩ hx
   unfold cntT at hc
   rw[this]at hc
   omega
 obtain⟨x,hx,hm⟩:=this
 obtain⟨q1,q2,q3⟩:=ZFp h hx
 have hne:(l.filter fun n=>hasUp t n (lfOf t x))≠[]:=fun q=>by
  have:x∈l.filter fun n=>hasUp t n (lfOf t x):=List.mem_filter.2 ⟨hx,q1⟩
  rw[q]at this
  cases this
 have hQ:Zdm t l taken (lfOf t x):=⟨hne,q3,hm⟩
 have hv:0<=Z6i t l taken:=by
  by_cases hv:Z6i t l taken<0
  .exact absurd hQ (h2 hv _ q2)
  .omega
 obtain⟨m,e,hm,q⟩:=h3 hv
 exact⟨m,e,hm,q.2.2⟩
theorem Zkn{n:Int}{k11:(List Int×List Int)->Option (List Int×Bool)}{xs:List Int}:∀(ys:List Int) (i:Nat) (v:List Int),v.length+ys.length<=1048576->rgl (Za5 n) (Zg8 k11 xs) ys i v=k11 (Z7d n v ys,xs)
 |[],_,_,_=>rfl
 |y::ys,i,v,h=>by
  simp only[yT]at h
  have e:Z7d n v (y::ys)=Z7d n (if(v.length:Int)<n then rise y v else v) ys:=rfl
  rw[rgl,e]
  unfold Za5
  by_cases hv:(v.length:Int)<n
  .rw[show decide ((v.length:Int)<n)=true by simpa using hv,yN,Zjl y (by omega),bS,yd hv]
   exact Zkn ys _ _ (by rw[Zee];omega)
  .rw[show decide ((v.length:Int)<n)=false by simpa using hv,yM,ye hv]
   exact Zkn ys _ _ (by omega)
def chL(t:Topo)(l:List Int)(n:Int):Nat->List Int->List Int->List Int
 |0,out,_=>out
 |k+1,out,taken=>if(out.length:Int)<n then chL t l n k (Z7d n out (l.filter fun x=>hasUp t x (Z6i t l taken).toNat)) (taken++[Z6i t l taken])else out
theorem Zvq{t:Topo}{l:List Int}{n:Int}(h:ZJ t l=true)(hl:l.length<=24)(h0:1<=n)(hn:n<=l.length) :
    whl (Z83 t n l) 9223372036854775807 ([],[])=some (chL t l n (t.parents.length+1) [] [],true)/\((chL t l n (t.parents.length+1) [] []).length:Int)=n/\∀m∈chL t l n (t.parents.length+1) [] [],m∈l:=by
  have T:=(Zv.1 h).1
  have hP:=T.tree.le
  have:=ZDd (bd:=Z83 t n l) (fun b o=>o=some (chL t l n (t.parents.length+1-b.2.length) b.1 b.2,true)/\((chL t l n (t.parents.length+1-b.2.length) b.1 b.2).length:Int)=n/\∀m∈chL t l n (t.parents.length+1-b.2.length) b.1 b.2,m∈l)
    (fun b=>t.parents.length-b.2.length) (fun b=>(b.1.length:Int)<=n/\(∀m∈b.1,m∈l)/\b.2.Nodup/\(∀s∈b.2,s∈(List.range t.parents.length).map fun(i:Nat)=>(i:Int))/\((b.1.length:Int)<n->cntT t l b.2<=b.1.length)) ?_ 9223372036854775807 ([],[])
    ⟨by simp;omega,by simp,List.nodup_nil,by simp,fun _=>by simp[cntT]⟩ (by simp;omega)
  · simpa using this
  rintro⟨out,taken⟩ k ⟨i1,i2,i3,i4,i5⟩ hk
  simp only at i1 i2 i3 i4 i5 hk ⊢
  have hlen:taken.length<=t.parents.length:=by simpa using i3.length_le_of_subset i4
  unfold Z83
  simp only
  rw[show t.parents.length+1-taken.length=(t.parents.length-taken.length)+1 by omega,chL]
  by_cases ho:(out.length:Int)<n
  · obtain⟨m,e,hm,hmt⟩:=Zvs h (by omega) (taken:=taken) (by have:=i5 ho;omega)
    rw[show decide ((out.length:Int)<n)=true by simpa using ho,yN,(ZGp h (by omega) taken).1,bS,yd ho]
    rw[e,yZ]
    rw[Z4 (by simp;omega),bS,Z62 h (by omega) m,bS]
    have hfl:(l.filter fun x=>hasUp t x m).length<=l.length:=List.length_filter_le ..
    rw[Zkn _ _ _ (by omega)]
    have hnd:(taken++[(m:Int)]).Nodup:=by
      rw[List.nodup_append]
      exact⟨i3,by simp,fun a ha b hb q=>by simp at hb;subst hb;subst q;exact hmt ha⟩
    have hsub:∀s∈taken++[(m:Int)],s∈(List.range t.parents.length).map fun(i:Nat)=>(i:Int):=fun s hs=>by
      rcases List.mem_append.1 hs with hs|hs
      · exact i4 s hs
      · simp at hs;subst hs
        exact List.mem_map.2 ⟨m,List.mem_range.2 hm,rfl⟩
    have hlen2:taken.length+1<=t.parents.length:=by simpa using hnd.length_le_of_subset hsub
    have hfn:=Zmj n (l.filter fun x=>hasUp t x m) out i1
    have:=hk (Z7d n out (l.filter fun x=>hasUp t x m),taken++[(m:Int)]) ⟨by simp only;omega,fun y hy=>?_,hnd,hsub,fun hlt=>?_⟩ (by simp;omega)
    · simp only[yU,yT,List.length_nil]at this
      rw[show t.parents.length+1-(taken.length+(0+1))=t.parents.length-taken.length by omega]at this
      exact this
    · rcases Zjo n y _ _ hy with hy|hy
      · exact i2 y hy
      · exact(List.mem_filter.1 hy).1
    · simp only at hlt ⊢
      have c1:=i5 ho
      have c2:cntT t l (taken++[(m:Int)])<=cntT t l taken+(l.filter fun x=>hasUp t x m).length:=Zio fun x hx hr=>by
        rw[List.contains_iff_mem]at hr
        rcases List.mem_append.1 hr with hr|hr
        · exact .inl (List.contains_iff_mem.2 hr)
        · have hr:(lfOf t x:Int)=(m:Int):=by simpa using hr
          have hr:lfOf t x=m:=by omega
          exact .inr (hr ▸ (ZFp h hx).1)
      omega
  · rw[show decide ((out.length:Int)<n)=false by simpa using ho,yM,ye ho]
    exact⟨rfl,by omega,i2⟩
theorem Zjp{α γ:Type}{bd:α->Nat->Unit->(Unit->Option γ)->Option γ}{kk:Unit->Option γ}{p:α->Nat->Bool}{r:Option γ}:∀{l:List α} {i:Nat},(∀j x k,l[j]?=some x->bd x (i+j) () k=bif p x (i+j)then r else k ())->rgl bd kk l i ()=bif (l.zipIdx i).any (fun q=>p q.1 q.2)then r else kk ()
 |[],_,_=>rfl
 |x::l,i,h=>by
  have h0:=h 0 x (fun b'=>rgl bd kk l (i+1) b') rfl
  rw[Nat.add_zero]at h0
  rw[rgl,h0,List.zipIdx_cons,List.any_cons]
  cases p x i with
  |true=>rfl
  |false =>
   rw[yM,Bool.false_or]
   exact Zjp fun j y k hy=>by
    have:=h (j+1) y k (by simpa using hy)
    rwa [show i+(j+1)=i+1+j by omega]at this
theorem ZFe{α β:Type}(P:β->Prop){f:β->α->β}(h:∀b x,P b->P (f b x)):∀(l:List α) (b:β),P b->P (l.foldl f b)
 |[],_,hb=>hb
 |x::l,b,hb=>ZFe P h l _ (h b x hb)
theorem Z4t{t:Topo}{l:List Int}{n level:Int}(h:0<=swF t l n level):n<=cntU t l (swF t l n level).toNat/\lev t (swF t l n level).toNat<=level:=by
 have:=ZFe (fun v:Int=>v<0\/(n<=cntU t l v.toNat/\lev t v.toNat<=level)) (f:=ZV4 t l n level) (fun v s hv=>by
  unfold ZV4
  split
  .exact hv
  .rename_i h1
   split
   .exact .inr (by rw[yZ];omega)
   .exact hv) (List.range t.parents.length) (-1) (.inl (by omega))
 rcases this with q|q
 .exact absurd q (by unfold swF at h;omega)
 .exact q
def Zdq(l:List Int)(i:Nat):Int:=if 0<i then(l[i-1]?).getD default else default
theorem ZYq{l:List Int}{i:Nat}(hi:i<l.length)(hl:l.length<=1048576):(bif decide (0<(i:Int))then idx l (w64 ((i:Int)-1))else some default)=some (Zdq l i):=by
 unfold Zdq
 by_cases h:0<i
 .have e:w64 ((i:Int)-1)=((i-1:Nat):Int):=by rw[ZV1 (by omega)];omega
  rw[show decide (0<(i:Int))=true by simpa using h,yN,e,Zq,yd h,yA (by omega)]
  rfl
 .rw[show decide (0<(i:Int))=false by simpa using h,yM,ye h]
def Zqq(l:List Int):Bool:=(l.zipIdx 0).any fun q=>decide (0<(q.2:Int))&&decide (q.1<=Zdq l q.2)
def Z1i(t:Topo)(l:List Int)(n level:Int):List Int:=l.filter fun x=>hasUp t x (swF t l n level).toNat
noncomputable def ZMa(t:Topo)(l:List Int)(n level:Int):List Int×Bool :=
 if ZJ t l=true/\1<=n/\Zqq l=false/\0<=swF t l n level then(chL t (Z1i t l n level) n (t.parents.length+1) [] [],true)else([],false)
theorem ZIj{t:Topo}{l:List Int}(hl:l.length<=24)(n level:Int):Zj8 t l n level=some (ZMa t l n level)/\((ZMa t l n level).2=true->((ZMa t l n level).1.length:Int)=n/\∀m∈(ZMa t l n level).1,m∈l):=by
 unfold Zj8 ZMa
 rw[Ze4,bS]
 by_cases hno:ZJ t l=true
 .by_cases hn:1<=n
  .rw[hno,show decide (n<1)=false by simp;omega,yL,Bool.or_self,yM]
   rw[Zjp (r:=some ([],false)) (p:=fun x i=>decide (0<(i:Int))&&decide (x<=Zdq l i)) (fun j x k hx=>by
    have hj:=(yB hx).1
    rw[Nat.zero_add]
    unfold Zi8
    rw[ZYq hj (by omega),bS])]
   rw[show((l.zipIdx 0).any fun q=>decide (0<(q.2:Int))&&decide (q.1<=Zdq l q.2))=Zqq l from rfl]
   cases hf:Zqq l with
   |true =>
    rw[ye (by rintro⟨_,_,q,_⟩;cases q)]
    exact⟨rfl,fun q=>by cases q⟩
   |false =>
    rw[yM]
    unfold Zh8
    obtain⟨s1,s2⟩:=Z6o hno (by omega) n level
    rw[s1,bS]
    by_cases hs:0<=swF t l n level
    .rw[yd ⟨rfl,hn,rfl,hs⟩,show decide (swF t l n level<0)=false by simp;omega,yM]
     obtain⟨m,e⟩:∃m:Nat,swF t l n level=(m:Int):=⟨(swF t l n level).toNat,by omega⟩
     have e2:ZY1 t l (swF t l n level)=some (Z1i t l n level):=by
      unfold Z1i
      rw[e,yZ,Z62 hno (by omega) m]
     rw[e2,bS]
     have hle:(Z1i t l n level).length<=l.length:=List.length_filter_le ..
     have hmine:ZJ t (Z1i t l n level)=true:=Zv.2 ⟨(Zv.1 hno).1,fun x hx=>(Zv.1 hno).2 x (List.mem_filter.1 hx).1⟩
     obtain⟨c1,c2,c3⟩:=Zvq (n:=n) hmine (by omega) hn (Z4t hs).1
     rw[c1]
     exact⟨rfl,fun _=>⟨c2,fun x hx=>(List.mem_filter.1 (c3 x hx)).1⟩⟩
    .rw[ye fun q=>hs q.2.2.2,show decide (swF t l n level<0)=true by simp;omega,yN]
     exact⟨rfl,fun q=>by cases q⟩
  .rw[ye fun q=>hn q.2.1,show(!ZJ t l||decide (n<1))=true by
    rw[show decide (n<1)=true by simp;omega,Bool.or_true],yN]
   exact⟨rfl,fun q=>by cases q⟩
 .rw[ye fun q=>hno q.1,show ZJ t l=false by simpa using hno,Bool.not_false,Bool.true_or,yN]
  exact⟨rfl,fun q=>by cases q⟩
def ZC5(fr:Int)(v:List Int)(x:Pt):List Int:=bif decide (fr<x.t)&&!v.contains x.t then rise x.t v else v
theorem Z5q(fr:Int)(v:List Int)(x:Pt):(ZC5 fr v x).length<=v.length+1:=by
 unfold ZC5
 cases(decide (fr<x.t)&&!v.contains x.t)with
 |true=>rw[yN,Zee];exact yV _
 |false=>rw[yM];omega
theorem ZJq{fr:Int}{k:List Int->Option (List Int)}:∀(p:List Pt) (i:Nat) (v:List Int),v.length+p.length<=1048576->rgl (Zq3 fr) (ZH5 k) p i v=k (p.foldl (ZC5 fr) v)/\(p.foldl (ZC5 fr) v).length<=v.length+p.length
 |[],_,_,_=>⟨rfl,by simp⟩
 |x::p,i,v,h=>by
  simp only[yT]at h
  have hs:=Z5q fr v x
  obtain⟨q1,q2⟩:=ZJq (fr:=fr) (k:=k) p (i+1) (ZC5 fr v x) (by omega)
  refine⟨?_,by simp only[List.foldl_cons,yT];omega⟩
  rw[rgl,List.foldl_cons]
  unfold Zq3
  rw[← q1]
  unfold ZC5
  by_cases hx:fr<x.t
  .rw[show decide (fr<x.t)=true by simpa using hx,yN,Za2,bS,Bool.true_and]
   cases v.contains x.t with
   |true=>rfl
   |false =>
    simp only[Bool.not_false,yN]
    rw[Zjl _ (by omega),bS]
    rfl
  .rw[show decide (fr<x.t)=false by simpa using hx,yM,bS,Bool.false_and,yM]
   rfl
def timesF(fr:Int)(ps:List (List Pt))(v:List Int):List Int:=ps.foldl (fun v p=>p.foldl (ZC5 fr) v) v
theorem ZIq{fr:Int}:∀(ps:List (List Pt)) (i:Nat) (v:List Int),(∀p∈ps,p.length<=200)->v.length+200*ps.length<=1048576->rgl (Zp3 fr) ZG5 ps i v=some (timesF fr ps v)/\(timesF fr ps v).length<=v.length+200*ps.length
 |[],_,_,_,_=>⟨rfl,by simp[timesF]⟩
 |p::ps,i,v,hp,h=>by
  simp only[yT]at h
  have h1:=hp p (yJ ..)
  obtain⟨_,b2⟩:=ZJq (fr:=fr) (k:=fun _=>none) p 0 v (by omega)
  obtain⟨q1,q2⟩:=ZIq (fr:=fr) ps (i+1) (p.foldl (ZC5 fr) v) (fun q hq=>hp q (yH _ hq)) (by omega)
  have e:timesF fr (p::ps) v=timesF fr ps (p.foldl (ZC5 fr) v):=rfl
  refine⟨?_,by rw[e];simp only[yT];omega⟩
  rw[rgl,e,← q1]
  unfold Zp3
  exact(ZJq p 0 v (by omega)).1
theorem ZPo{r:Room}(h:RoomP r)(fr:Int):ZZ4 r fr=some (timesF fr (r.profs++[r.lics]) [fr]):=by
 have h1:=h.topo.nodes
 have h2:=h.profs
 unfold ZZ4
 rw[Z4 (by simp;omega),bS,List.nil_append,Z4 (by simp;omega),bS]
 rw[show lenQ (r.profs++[r.lics])=some () by unfold lenQ;rw[yd (by simp;omega)],bS]
 refine(ZIq _ 0 _ (fun p hp=>?_) (by simp;omega)).1
 rcases List.mem_append.1 hp with hp|hp
 .exact(h.prof p hp).le
 .simp at hp;subst hp;exact h.lics.le
def spanOk(fr to_:Int):Bool:=time fr&&time to_&&decide (fr<to_)
def ZP7(r:Room)(need:Vec)(fr to_:Int)(v:List Int)(i:Nat):List Int :=
 bif (r.up[i]?).getD false&&Zp need (minV ((r.profs[i]?).getD []) fr to_)then v++[(i:Int)]else v
def Zoj(r:Room)(need:Vec)(fr to_:Int):List Int:=bif spanOk fr to_ then(List.range r.profs.length).foldl (ZP7 r need fr to_) []else[]
theorem ZX7{fr to_:Int}:spanOk fr to_=true↔time fr=true/\time to_=true/\fr<to_:=by simp[spanOk,and_assoc]
theorem Zib{r:Room}(R:RoomP r)(need:Vec)(fr to_:Int):Z95 r need fr to_=some (Zoj r need fr to_)/\(Zoj r need fr to_).length<=24:=by
 have h24:=R.topo.nodes
 have hpl:=R.profs
 unfold Z95 Zoj
 rw[ZW3,bS,ZZ7.2 R,yL,yM]
 cases hs:spanOk fr to_ with
 |true =>
  obtain⟨q2,q3,q4⟩:=ZX7.1 hs
  rw[yN]
  refine(Zfe (b:=([]:List Int)) (f:=ZP7 r need fr to_) (fun i (v:List Int)=>v.length<=i) (fun j v hj hv=>?_) (fun j x v k hx hv=>?_) (yV 0)).imp (fun e=>e) fun e=>by omega
  .unfold ZP7
   cases(r.up[j]?).getD false&&Zp need (minV ((r.profs[j]?).getD []) fr to_)with
   |true=>rw[yN];simp;omega
   |false=>rw[yM];omega
  .have hj:=(yB hx).1
   obtain⟨u,hu⟩:∃u,r.up[j]?=some u:=⟨_,yA (by rw[R.up,← R.profs];exact hj)⟩
   unfold Zx3 ZP7
   rw[Z65,bS,yd ⟨Z08.2 (R.prof _ (yE hx)),q2,q3,q4⟩,Zq,hu,hx]
   simp only[yN,bS,Option.getD_some,Bool.true_and]
   cases(u&&Zp need (minV x fr to_))with
   |true=>rw[yN,yN,Z4 (by simp;omega),bS]
   |false=>rfl
 |false =>
  have hn:¬ (time fr=true/\time to_=true/\fr<to_):=fun q=>by rw[ZX7.2 q]at hs;cases hs
  rw[yM]
  refine⟨?_,by simp⟩
  refine ZG2 (l0:=r.profs) (fun i (v:List Int)=>v=[]) (fun o=>o=some []) (fun i x v k hx hI hk=>?_) (fun v hI=>by rw[hI];rfl) rfl
  subst hI
  unfold Zx3
  rw[Z65,bS,ye fun q=>hn q.2]
  exact hk _ rfl
noncomputable def canM(r:Room)(j:Job)(t:Int):List Int×Bool :=
 bif spanOk t (t+j.wall)&&Zp j.lic (minV r.lics t (t+j.wall))then ZMa r.topo (Zoj r j.need t (t+j.wall)) j.nodes j.level else([],false)
theorem Zor{r:Room}(R:RoomP r){j:Job}(hj:Z9 j=true){t:Int}(ht:time t=true):Z68 r j t=some (canM r j t):=by
 have hw:=(ZO2.1 hj).2.2.2.2.2.1
 have ht':=ZE1.1 ht
 unfold Z68 canM
 rw[ZV1 (by omega),Z65,bS]
 by_cases hs:spanOk t (t+j.wall)=true
 .obtain⟨q2,q3,q4⟩:=ZX7.1 hs
  rw[yd ⟨Z08.2 R.lics,q2,q3,q4⟩,hs,Bool.true_and]
  simp only[yL,Bool.false_or]
  cases Zp j.lic (minV r.lics t (t+j.wall))with
  |false=>rfl
  |true =>
   obtain⟨e1,e2⟩:=Zib R j.need t (t+j.wall)
   rw[yL,yM,yN,e1,bS,(ZIj e2 j.nodes j.level).1]
   rfl
 .rw[ye fun q=>hs (ZX7.2 q.2),show spanOk t (t+j.wall)=false by simpa using hs]
  rfl
theorem Z2t(fr m:Int):∀(p:List Pt) (v:List Int),m∈p.foldl (ZC5 fr) v->m∈v\/∃x∈p,m=x.t
 |[],_,h=>.inl h
 |x::p,v,h=>by
  rw[List.foldl_cons]at h
  rcases Z2t fr m p _ h with h|⟨y,hy,e⟩
  .unfold ZC5 at h
   cases hc:(decide (fr<x.t)&&!v.contains x.t)with
   |false=>rw[hc,yM]at h;exact .inl h
   |true =>
    rw[hc,yN]at h
    rcases(ZPc x.t m v).1 h with h|h
    .exact .inr ⟨x,yJ ..,h⟩
    .exact .inl h
  .exact .inr ⟨y,yH _ hy,e⟩
theorem Zaf(fr m:Int):∀(ps:List (List Pt)) (v:List Int),m∈timesF fr ps v->m∈v\/∃p∈ps,∃x∈p,m=x.t
 |[],_,h=>.inl h
 |p::ps,v,h=>by
  have e:timesF fr (p::ps) v=timesF fr ps (p.foldl (ZC5 fr) v):=rfl
  rw[e]at h
  rcases Zaf fr m ps _ h with h|⟨q,hq,x,hx,e⟩
  .rcases Z2t fr m p v h with h|⟨x,hx,e⟩
   .exact .inl h
   .exact .inr ⟨p,yJ ..,x,hx,e⟩
  .exact .inr ⟨q,yH _ hq,x,hx,e⟩
theorem Zip{α γ:Type}{bd:α->Nat->Unit->(Unit->Option γ)->Option γ}{kk:Unit->Option γ}{p:α->Bool}{g:α->γ}:∀{l:List α} {i:Nat},(∀x∈l,∀i k,bd x i () k=bif p x then some (g x)else k ())->rgl bd kk l i ()=match l.find? p with
  |some x=>some (g x)
  |none=>kk ()
 |[],_,_=>rfl
 |x::l,i,h=>by
  rw[rgl,h x (yJ ..),List.find?_cons]
  cases p x with
  |true=>rfl
  |false=>exact Zip fun y hy=>h y (yH _ hy)
noncomputable def ZLs(r:Room)(j:Job)(fr:Int):Int×List Int×Bool :=
 match(timesF fr (r.profs++[r.lics]) [fr]).find? (fun t=>(canM r j t).2)with
 |some t=>(t,(canM r j t).1,true)
 |none=>(0,[],false)
theorem Zjb(r:Room)(j:Job)(fr:Int):Zy3 r j fr=some (bif roomOk r&&Z9 j&&time fr then ZLs r j fr else(0,[],false)):=by
 unfold Zy3
 rw[ZW3,bS,ZQ1]
 cases hr:roomOk r with
 |false=>rfl
 |true=>cases hj:Z9 j with
  |false=>rfl
  |true=>cases ht:time fr with
   |false=>rfl
   |true =>
    have R:=ZZ7.1 hr
    simp only[yL,Bool.or_self,yM,Bool.and_self,yN]
    rw[ZPo R,bS]
    have hall:∀t∈timesF fr (r.profs++[r.lics]) [fr],time t=true:=fun t h=>by
     rcases Zaf fr t _ _ h with h|⟨p,hp,x,hx,rfl⟩
     .rw[List.mem_singleton.1 h];exact ht
     .rcases List.mem_append.1 hp with hp|hp
      .exact((R.prof p hp).ok x hx).1
      .rw[List.mem_singleton.1 hp]at hx;exact(R.lics.ok x hx).1
    rw[Zip (p:=fun t=>(canM r j t).2) (g:=fun t=>(t,(canM r j t).1,true)) (fun t h i k=>by
     unfold ZQ5
     rw[Zor R hj (hall t h),bS])]
    unfold ZLs ZP5
    cases(timesF fr (r.profs++[r.lics]) [fr]).find? (fun t=>(canM r j t).2)<;>rfl
theorem ZHn(n:Int):∀l:List Int,(rise n l).Perm (n::l)
 |[]=>.refl _
 |x::l=>by
  unfold rise
  split
  .exact .refl _
  .exact((ZHn n l).cons x).trans (.swap n x l)
theorem ZTh(n:Int):∀{l:List Int},l.Pairwise (·<=·)->(rise n l).Pairwise (·<=·)
 |[],_=>by simp[rise]
 |x::l,h=>by
  unfold rise
  split
  .rename_i hx
   refine List.pairwise_cons.2 ⟨fun y hy=>?_,h⟩
   rcases yX hy with rfl|hy
   .omega
   .have:=(List.pairwise_cons.1 h).1 y hy;omega
  .rename_i hx
   refine List.pairwise_cons.2 ⟨fun y hy=>?_,ZTh n (List.pairwise_cons.1 h).2⟩
   rcases(ZPc n y l).1 hy with rfl|hy
   .omega
   .exact(List.pairwise_cons.1 h).1 y hy
def Z0e(n:Int)(v ys:List Int):List Int:=ys.foldl (fun v x=>if(v.length:Int)<n then v++[x]else v) v
theorem Zrh(n:Int):∀(ys v:List Int),Z0e n v ys=v++ys.take (n.toNat-v.length)
 |[],v=>by simp[Z0e]
 |y::ys,v=>by
  have e:Z0e n v (y::ys)=Z0e n (if(v.length:Int)<n then v++[y]else v) ys:=rfl
  rw[e]
  by_cases h:(v.length:Int)<n
  .rw[yd h,Zrh n ys,yU,List.length_singleton,show n.toNat-v.length=(n.toNat-(v.length+1))+1 by omega,List.take_succ_cons,List.append_assoc]
   rfl
  .rw[ye h,Zrh n ys,show n.toNat-v.length=0 by omega]
   simp
theorem ZTf(n:Int):∀(ys v w:List Int),v.Perm w->v.Pairwise (·<=·)->(Z7d n v ys).Perm (Z0e n w ys)/\(Z7d n v ys).Pairwise (·<=·)
 |[],v,w,h,hs=>⟨h,hs⟩
 |y::ys,v,w,h,hs=>by
  have e:Z7d n v (y::ys)=Z7d n (if(v.length:Int)<n then rise y v else v) ys:=rfl
  have e2:Z0e n w (y::ys)=Z0e n (if(w.length:Int)<n then w++[y]else w) ys:=rfl
  rw[e,e2,← h.length_eq]
  by_cases hv:(v.length:Int)<n
  .rw[yd hv,yd hv]
   refine ZTf n ys _ _ ?_ (ZTh y hs)
   exact(ZHn y v).trans ((h.cons y).trans (List.perm_append_singleton y w).symm)
  .rw[ye hv,ye hv]
   exact ZTf n ys _ _ h hs
theorem Z9q{v w:List Int}(h:v.Perm w)(hs:v.Pairwise (·<=·)):Zlf w=v:=by
 have h1:(Zlf w).Perm v:=(List.mergeSort_perm w _).trans h.symm
 have h2:(Zlf w).Pairwise (·<=·):=by
  have:=List.pairwise_mergeSort (le:=fun(x y:Int)=>decide (x<=y)) (fun a b c h1 h2=>by simp at *;omega) (fun a b=>by simp;omega) w
  exact this.imp fun h=>by simpa using h
 exact List.Perm.eq_of_pairwise (le:=(·<=·)) (fun a b _ _ h1 h2=>Int.le_antisymm h1 h2) h2 hs h1
theorem Zbf(n:Int)(grp:Int->List Int):∀(B:List Int) (w:List Int),B.foldl (fun w s=>Z0e n w (grp s)) w=w++(B.flatMap grp).take (n.toNat-w.length)
 |[],w=>by simp
 |s::B,w=>by
  rw[List.foldl_cons,Zbf n grp B,Zrh,ya,List.append_assoc,List.take_append,yU,List.length_take]
  congr 3
  omega
theorem Zws{t:Topo}{l taken:List Int}{s0:Nat}(h0:s0<t.parents.length)(ok0:¬ (cntU t l s0=0\/kids t.parents (s0:Int)≠[]\/(s0:Int)∈taken))
  (best:∀s,s<t.parents.length->¬ (cntU t l s=0\/kids t.parents (s:Int)≠[]\/(s:Int)∈taken)->s≠s0->cntU t l s<cntU t l s0\/(cntU t l s=cntU t l s0/\s0<s)):Z6i t l taken=(s0:Int):=by
 have key:∀n,n<=t.parents.length->(n<=s0->((List.range n).foldl (Zy7 t l taken) (-1)<0\/cntU t l ((List.range n).foldl (Zy7 t l taken) (-1)).toNat<cntU t l s0))/\(s0<n->(List.range n).foldl (Zy7 t l taken) (-1)=(s0:Int)):=by
  intro n
  induction n with
  |zero=>intro _;exact⟨fun _=>.inl (by simp),fun h=>by omega⟩
  |succ n ih =>
   intro hn
   obtain⟨i1,i2⟩:=ih (by omega)
   rw[List.range_succ,List.foldl_append,List.foldl_cons,List.foldl_nil]
   generalize (List.range n).foldl (Zy7 t l taken) (-1)=v at i1 i2
   unfold Zy7
   by_cases hk:cntU t l n=0\/kids t.parents (n:Int)≠[]\/(n:Int)∈taken
   .rw[yd hk]
    refine⟨fun h=>i1 (by omega),fun h=>?_⟩
    by_cases e:n=s0
    .subst e;exact absurd hk ok0
    .exact i2 (by omega)
   .rw[ye hk]
    by_cases e:n=s0
    .subst e
     refine⟨fun h=>by omega,fun _=>?_⟩
     rw[yd (i1 (yV _))]
    .have b:=best n (by omega) hk e
     refine⟨fun h=>?_,fun h=>?_⟩
     .have q:=i1 (by omega)
      split
      .right;rw[yZ];omega
      .exact q
     .have q:=i2 (by omega)
      rw[q,ye]
      rintro(h|h)
      .omega
      .rw[yZ]at h;omega
 exact(key _ (yV _)).2 h0
noncomputable def grp(t:Topo)(l:List Int)(s:Int):List Int:=l.filter fun x=>decide ((lfOf t x:Int)=s)
theorem Ztt{t:Topo}{l L:List Int}{n:Int}(hg:∀s,s<t.parents.length->kids t.parents (s:Int)=[]->(l.filter fun x=>hasUp t x s)=grp t l (s:Int))
  (hm:∀z∈L,∃s:Nat,z=(s:Int)/\s<t.parents.length/\kids t.parents (s:Int)=[]/\cntU t l s≠0) (hm2:∀s:Nat,s<t.parents.length->kids t.parents (s:Int)=[]->cntU t l s≠0->(s:Int)∈L) (hn:L.Nodup)
  (hs:L.Pairwise fun a b=>cntU t l b.toNat<cntU t l a.toNat\/(cntU t l b.toNat=cntU t l a.toNat/\a<b)) (hlen:n<=((L.flatMap (grp t l)).length:Int)) :
  ∀(B A v w:List Int) (fuel:Nat),L=A++B->B.length<fuel->v.Perm w->v.Pairwise (·<=·)->w=(A.flatMap (grp t l)).take n.toNat ->
   (chL t l n fuel v A).Perm (B.foldl (fun w s=>Z0e n w (grp t l s)) w)/\(chL t l n fuel v A).Pairwise (·<=·)
 |[],A,v,w,fuel+1,hL,hf,hp,hsv,hw=>by
  have hvl:=hp.length_eq
  rw[List.append_nil]at hL
  subst hL
  have:w.length=min n.toNat (L.flatMap (grp t l)).length:=by rw[hw,List.length_take]
  rw[chL,ye (by omega)]
  exact⟨hp,hsv⟩
 |s::B,A,v,w,fuel+1,hL,hf,hp,hsv,hw=>by
  have hvl:=hp.length_eq
  rw[chL]
  by_cases hv:(v.length:Int)<n
  .rw[yd hv]
   have hsL:s∈L:=by rw[hL];simp
   obtain⟨m,rfl,h1,h2,h3⟩:=hm s hsL
   rw[hL]at hn hs
   have e:Z6i t l A=(m:Int):=by
    refine Zws h1 (by
     rintro(q|q|q)
     .exact h3 q
     .exact q h2
     .exact(List.nodup_append.1 hn).2.2 _ q _ (yJ ..) rfl) fun s' hs' ok' hne=>?_
    have hk':kids t.parents (s':Int)=[]:=Classical.byContradiction fun q=>ok' (.inr (.inl q))
    have hmem:=hm2 s' hs' hk' fun q=>ok' (.inl q)
    rw[hL]at hmem
    rcases List.mem_append.1 hmem with q|q
    .exact absurd (.inr (.inr q)) ok'
    .rcases yX q with q|q
     .omega
     .have:=(List.pairwise_cons.1 (List.pairwise_append.1 hs).2.1).1 _ q
      simp only[yZ]at this
      omega
   rw[e,yZ,hg m h1 h2]
   obtain⟨p1,p2⟩:=ZTf n (grp t l (m:Int)) v w hp hsv
   rw[List.foldl_cons]
   refine Ztt hg hm hm2 (by rw[hL];exact hn) (by rw[hL];exact hs) hlen B (A++[(m:Int)]) _ _ fuel (by rw[hL];simp) (by simp at hf;omega) p1 p2 ?_
   rw[Zrh,hw,List.flatMap_append,List.take_append,List.length_take,ya,List.flatMap_nil,List.append_nil]
   congr 2
   omega
  .rw[ye hv]
   refine⟨?_,hsv⟩
   rw[Zbf,show n.toNat-w.length=0 by omega]
   simpa using hp
theorem Zpl{t:Topo}{l:List Int}(h:ZJ t l=true){x:Int}(hx:x∈l){s:Nat}(hk:kids t.parents (s:Int)=[]):hasUp t x s=decide ((lfOf t x:Int)=(s:Int)):=by
 obtain⟨q1,q2,q3⟩:=ZFp h hx
 by_cases e:lfOf t x=s
 .rw[← e,q1];simp
 .rw[show decide ((lfOf t x:Int)=(s:Int))=false by simp;omega]
  rw[Bool.eq_false_iff]
  intro hu
  obtain⟨e1,m,r1,r2,r3⟩:=ZL6 h hx
  have T:=(Zv.1 h).1.tree
  have em:lfOf t x=m:=by unfold lfOf;rw[r1];simp only;omega
  unfold hasUp at hu
  rw[r1]at hu
  simp only[List.contains_iff_mem,r2,yZ]at hu
  obtain⟨a,ha,hae⟩:=yY hu
  have hae:a=s:=by omega
  subst hae
  obtain⟨c,hc,_⟩:=T.kid_of m r3 a ha (by omega)
  rw[hk]at hc
  cases hc
theorem Zhn(t:Topo)(x:Int)(m:List Int)(s:Int):grp t (x::m) s=if(lfOf t x:Int)=s then x::grp t m s else grp t m s:=by
 unfold grp
 rw[List.filter_cons]
 by_cases e:(lfOf t x:Int)=s<;>simp[e]
theorem Zgn(t:Topo)(x:Int)(m:List Int):∀L:List Int,(L.flatMap (grp t m)).length<=(L.flatMap (grp t (x::m))).length
 |[]=>yV _
 |s::L=>by
  have:=Zgn t x m L
  rw[ya,ya,yU,yU,Zhn]
  split
  .simp only[yT];omega
  .omega
theorem ZGr{t:Topo}{L:List Int}:∀{m:List Int},(∀x∈m,(lfOf t x:Int)∈L)->m.length<=(L.flatMap (grp t m)).length
 |[],_=>Nat.zero_le _
 |x::m,h=>by
  have ih:=ZGr (L:=L) (m:=m) fun y hy=>h y (yH _ hy)
  obtain⟨A,B,e⟩:=List.append_of_mem (h x (yJ ..))
  have h1:=Zgn t x m A
  have h2:=Zgn t x m B
  have h3:(grp t (x::m) (lfOf t x:Int)).length=(grp t m (lfOf t x:Int)).length+1:=by rw[Zhn,yd rfl];rfl
  rw[e]at ih ⊢
  simp only[List.flatMap_append,ya,yU,yT]at ih ⊢
  omega
theorem Z7g{t:Topo}{l:List Int}(h:ZJ t l=true)(hl:l.length<=1048576)(s:Nat):ZZ5 t l (s:Int)=some (l.filter fun n=>hasUp t n s):=by
 rw[← Z62 h hl s]
 unfold ZZ5 ZY1
 exact ZWb (fun i x b k _=>by
  unfold Zy9 Zj6
  simp only[ZAe,ZX2,Za2]) fun _=>rfl
def swMk(t:Topo)(l:List Int)(v:Int):Int×Int×Int:=(v,if v<0 then 0 else lev t v.toNat,if v<0 then 0 else(cntU t l v.toNat:Int))
theorem ZYr{t:Topo}{l:List Int}(h:ZJ t l=true)(hl:l.length<=24)(n level:Int):Z66 t l n level=Zo1 t l n (swMk t l (swF t l n level)):=by
 have T:=(Zv.1 h).1
 unfold Z66
 refine ZG2 (fun i (b:Int×Int×Int)=>inR i ((List.range i).foldl (ZV4 t l n level) (-1))/\b=swMk t l ((List.range i).foldl (ZV4 t l n level) (-1))) (fun o=>o=Zo1 t l n (swMk t l (swF t l n level))) (fun i x b k hx hI hk=>?_) (fun b hI=>by rw[hI.2];rfl) ⟨⟨by simp,by simp⟩,rfl⟩
 obtain⟨hr,rfl⟩:=hI
 have hi:=(yB hx).1
 have hk2:∀b',inR (i+1) (ZV4 t l n level ((List.range i).foldl (ZV4 t l n level) (-1)) i)->b'=swMk t l (ZV4 t l n level ((List.range i).foldl (ZV4 t l n level) (-1)) i)->k b'=Zo1 t l n (swMk t l (swF t l n level)):=by
  intro b' q1 q2
  refine hk b' ?_
  rw[List.range_succ,List.foldl_append,List.foldl_cons,List.foldl_nil]
  exact⟨q1,q2⟩
 clear hk
 generalize (List.range i).foldl (ZV4 t l n level) (-1)=v at hr hk2 ⊢
 obtain⟨r1,r2⟩:=hr
 have keep:ZV4 t l n level v i=v->k (swMk t l v)=Zo1 t l n (swMk t l (swF t l n level)):=fun e=>hk2 _ (by rw[e];exact⟨r1,by omega⟩) (by rw[e])
 have take:ZV4 t l n level v i=(i:Int)->k ((i:Int),lev t i,(cntU t l i:Int))=Zo1 t l n (swMk t l (swF t l n level)):=fun e=>hk2 _ (by rw[e];exact⟨by omega,by omega⟩) (by
  rw[e];unfold swMk;rw[ye (by omega),ye (by omega),yZ])
 unfold ZD8
 rw[Zk5 T hi,bS]
 by_cases c1:level<lev t i
 .rw[show decide (level<lev t i)=true by simpa using c1,yN]
  exact keep (by unfold ZV4;rw[yd (.inr c1)])
 rw[show decide (level<lev t i)=false by simpa using c1,yM,Z7g h (by omega) i,bS]
 rw[show(l.filter fun n=>hasUp t n i).length=cntU t l i from rfl]
 by_cases c2:(cntU t l i:Int)<n
 .rw[show decide (n<=(cntU t l i:Int))=false by simp;omega,Bool.false_and,yM]
  exact keep (by unfold ZV4;rw[yd (.inl c2)])
 rw[show decide (n<=(cntU t l i:Int))=true by simp;omega,Bool.true_and]
 have hst:ZV4 t l n level v i=if v<0\/lev t i<lev t v.toNat\/(lev t i=lev t v.toNat/\(cntU t l i:Int)<cntU t l v.toNat)then(i:Int)else v:=by
  unfold ZV4;rw[ye (by omega)]
 by_cases c3:v<0
 .rw[show decide ((swMk t l v).1<0)=true from decide_eq_true c3]
  simp only[Bool.true_or,yN]
  exact take (by rw[hst,yd (.inl c3)])
 .rw[show decide ((swMk t l v).1<0)=false from decide_eq_false c3,Bool.false_or]
  rw[show(swMk t l v).2.1=lev t v.toNat by unfold swMk;simp[c3],show(swMk t l v).2.2=(cntU t l v.toNat:Int) by unfold swMk;simp[c3]]
  by_cases c4:lev t i<lev t v.toNat
  .rw[show decide (lev t i<lev t v.toNat)=true by simpa using c4,Bool.true_or,yN]
   exact take (by rw[hst,yd (.inr (.inl c4))])
  .rw[show decide (lev t i<lev t v.toNat)=false by simpa using c4,Bool.false_or]
   by_cases c5:lev t i=lev t v.toNat/\(cntU t l i:Int)<cntU t l v.toNat
   .rw[show((lev t i==lev t v.toNat)&&decide ((cntU t l i:Int)<(cntU t l v.toNat:Int)))=true by simpa using c5,yN]
    exact take (by rw[hst,yd (.inr (.inr c5))])
   .rw[show((lev t i==lev t v.toNat)&&decide ((cntU t l i:Int)<(cntU t l v.toNat:Int)))=false by
     rw[Bool.eq_false_iff];intro q;exact c5 (by simpa using q),yM]
    rw[show((swMk t l v).1,lev t v.toNat,(cntU t l v.toNat:Int))=swMk t l v by unfold swMk;simp[c3]]
    refine keep (by rw[hst,ye];rintro(q|q|q)<;>first|exact c3 q|exact c4 q|exact c5 q)
def cntM(t:Topo)(m:List Int):List Int:=(List.range t.parents.length).map fun s=>((m.filter fun x=>decide (lfOf t x=s)).length:Int)
theorem ZXr(t:Topo)(m:List Int){s:Nat}(hs:s<t.parents.length):(cntM t m)[s]?=some ((m.filter fun x=>decide (lfOf t x=s)).length:Int):=by
 unfold cntM;simp[hs]
theorem ZVp(t:Topo)(m:List Int){s:Nat}(hs:s<t.parents.length):(cntM t m).getD s 0=((grp t m (s:Int)).length:Int):=by
 rw[List.getD_eq_getElem?_getD,ZXr t m hs,Option.getD_some]
 unfold grp
 rw[show(fun x=>decide (lfOf t x=s))=fun x=>decide ((lfOf t x:Int)=(s:Int)) from by
  funext x;rw[decide_eq_decide];omega]
theorem ZWr(t:Topo)(m:List Int)(x:Int):cntM t (m++[x])=(cntM t m).set (lfOf t x) (((m.filter fun y=>decide (lfOf t y=lfOf t x)).length:Int)+1):=by
 apply List.ext_getElem
 .simp[cntM]
 .intro s h1 h2
  have hs:s<t.parents.length:=by simpa[cntM]using h1
  rw[List.getElem_set]
  unfold cntM
  simp only[List.getElem_map,List.getElem_range,List.filter_append,yU]
  by_cases e:lfOf t x=s
  .subst e;simp
  .rw[ye e];simp[e]
theorem ZNo(cnt zs:List Int):(zs.mergeSort (ZY3 cnt)).Pairwise fun a b=>ZY3 cnt a b=true:=by
 refine List.pairwise_mergeSort (fun a b c h1 h2=>?_) (fun a b=>?_) zs
 .unfold ZY3 at *
  simp only[Bool.not_eq_true',decide_eq_false_iff_not]at *
  omega
 .unfold ZY3
  simp only[Bool.or_eq_true,Bool.not_eq_true',decide_eq_false_iff_not]
  omega
theorem ZWk{t:Topo}{l:List Int}(h:ZJ t l=true)(hl:l.length<=24){n:Int}(hn:1<=n)(hf:Zqq l=false)(level:Int):Z66 t l n level=some (ZMa t l n level):=by
 have T:=(Zv.1 h).1
 have hP:=T.tree.le
 rw[ZYr h hl]
 unfold Zo1 ZMa
 by_cases hs:0<=swF t l n level
 rotate_left
 .rw[ye fun q=>hs q.2.2.2,show decide ((swMk t l (swF t l n level)).1<0)=true from decide_eq_true (by show swF t l n level<0;omega),yN]
 rw[yd ⟨h,hn,hf,hs⟩,show decide ((swMk t l (swF t l n level)).1<0)=false from decide_eq_false (by show ¬ swF t l n level<0;omega),yM]
 have e1:ZZ5 t l (swMk t l (swF t l n level)).1=some (Z1i t l n level):=by
  obtain⟨m,e⟩:∃m:Nat,swF t l n level=(m:Int):=⟨(swF t l n level).toNat,by omega⟩
  unfold Z1i
  rw[show(swMk t l (swF t l n level)).1=swF t l n level from rfl,e,yZ,Z7g h (by omega) m]
 rw[e1,bS]
 have hle:(Z1i t l n level).length<=l.length:=List.length_filter_le ..
 have hmine:ZJ t (Z1i t l n level)=true:=Zv.2 ⟨(Zv.1 h).1,fun x hx=>(Zv.1 h).2 x (List.mem_filter.1 hx).1⟩
 have hnm:n<=(Z1i t l n level).length:=(Z4t hs).1
 generalize Z1i t l n level=m at hle hmine hnm ⊢
 rw[show mkL 8 (t.parents.length:Int) (0:Int)=some (List.replicate t.parents.length 0) by unfold mkL;rw[yd (by omega),yZ],bS]
 refine ZG2 (fun i (b:List Int×List Int)=>b.1=cntM t (m.take i)/\b.2.Nodup/\∀z,z∈b.2↔∃x∈m.take i,z=(lfOf t x:Int)) (fun o=>o=some (chL t m n (t.parents.length+1) [] [],true)) (fun i x b k hx hI hk=>?_) (fun b hI=>?_) ⟨?_,List.nodup_nil,fun z=>by simp⟩
 .obtain⟨i1,i2,i3⟩:=hI
  have hi:=(yB hx).1
  have hxm:x∈m:=yE hx
  obtain⟨e,s,r1,r2,r3⟩:=ZL6 hmine hxm
  have es:lfOf t x=s:=by unfold lfOf;rw[r1];simp only;omega
  have htk:m.take (i+1)=m.take i++[x]:=by rw[List.take_succ_eq_append_getElem hi];rw[yA hi]at hx;rw[Option.some.inj hx]
  have hbnd:((m.take i).filter fun y=>decide (lfOf t y=s)).length<=24:=Nat.le_trans (List.length_filter_le ..) (by simp;omega)
  unfold ZC8
  rw[r1,bS,r2,i1,Zq,ZXr t _ r3,bS,ZX2,bS,ZV1 (by omega),yZ]
  have hset:(cntM t (m.take i)).set s (((m.take i).filter fun y=>decide (lfOf t y=s)).length+1:Int)=cntM t (m.take (i+1)):=by
   rw[htk,ZWr,es]
  have hbl:b.2.length<=24:=by
   have:=i2.length_le_of_subset (l₂:=(m.take i).map fun x=>(lfOf t x:Int)) fun z hz=>by
    obtain⟨y,hy,e⟩:=(i3 z).1 hz
    exact List.mem_map.2 ⟨y,hy,e.symm⟩
   simp at this;omega
  rw[hset]
  cases hc:b.2.contains (s:Int)with
  |true =>
   have hc:=List.contains_iff_mem.1 hc
   refine hk _ ⟨rfl,i2,fun z=>?_⟩
   rw[i3,htk]
   constructor
   .rintro⟨y,hy,e⟩;exact⟨y,by simp[hy],e⟩
   .rintro⟨y,hy,e⟩
    rcases List.mem_append.1 hy with hy|hy
    .exact⟨y,hy,e⟩
    .rw[List.mem_singleton.1 hy,es]at e
     rw[← i3,e];exact hc
  |false =>
   have hc:(s:Int)∉b.2:=fun q=>by rw[List.contains_iff_mem.2 q]at hc;cases hc
   simp only[Bool.not_false,yN]
   rw[Z4 (by simp;omega),bS]
   refine hk _ ⟨rfl,?_,fun z=>?_⟩
   .rw[List.nodup_append]
    exact⟨i2,by simp,fun a ha c hc' q=>by rw[List.mem_singleton.1 hc']at q;exact hc (q ▸ ha)⟩
   .rw[List.mem_append,i3,htk,List.mem_singleton]
    constructor
    .rintro(⟨y,hy,e⟩|e)
     .exact⟨y,by simp[hy],e⟩
     .exact⟨x,by simp,by rw[es];exact e⟩
    .rintro⟨y,hy,e⟩
     rcases List.mem_append.1 hy with hy|hy
     .exact .inl ⟨y,hy,e⟩
     .rw[List.mem_singleton.1 hy,es]at e;exact .inr e
 .obtain⟨i1,i2,i3⟩:=hI
  rw[List.take_of_length_le (yV _)]at i1 i3
  unfold ZB8
  rw[i1]
  have lfP:∀z∈b.2,∃s:Nat,z=(s:Int)/\s<t.parents.length/\kids t.parents (s:Int)=[]/\cntU t m s≠0:=fun z hz=>by
   obtain⟨x,hx,e⟩:=(i3 z).1 hz
   obtain⟨q1,q2,q3⟩:=ZFp hmine hx
   refine⟨lfOf t x,e,q2,q3,fun q=>?_⟩
   have:x∈m.filter fun n=>hasUp t n (lfOf t x):=List.mem_filter.2 ⟨hx,q1⟩
   have q:(m.filter fun n=>hasUp t n (lfOf t x)).length=0:=q
   rw[List.eq_nil_of_length_eq_zero q]at this
   cases this
  have hbl:b.2.length<=t.parents.length:=by
   have:=i2.length_le_of_subset (l₂:=(List.range t.parents.length).map fun(s:Nat)=>(s:Int)) fun z hz=>by
    obtain⟨s,e,hs,_⟩:=lfP z hz
    exact List.mem_map.2 ⟨s,List.mem_range.2 hs,e.symm⟩
   simpa using this
  have hin:Zzh (cntM t m) b.2:=by
   refine⟨fun z hz=>?_,by simp[cntM];omega,fun c hc=>?_,by omega⟩
   .obtain⟨s,e,hs,_⟩:=lfP z hz
    simp[cntM];omega
   .obtain⟨s,_,rfl⟩:=yY hc
    have:(m.filter fun x=>decide (lfOf t x=s)).length<=m.length:=List.length_filter_le ..
    omega
  unfold ZMc
  rw[yd hin,bS]
  have hg:∀s,s<t.parents.length->kids t.parents (s:Int)=[]->(m.filter fun x=>hasUp t x s)=grp t m (s:Int):=fun s _ hk=>by
   unfold grp
   exact List.filter_congr fun x hx=>Zpl hmine hx hk
  have hmem:∀z,z∈b.2.mergeSort (ZY3 (cntM t m))↔z∈b.2:=fun z=>(List.mergeSort_perm b.2 _).mem_iff
  have hm2:∀s:Nat,s<t.parents.length->kids t.parents (s:Int)=[]->cntU t m s≠0->(s:Int)∈b.2.mergeSort (ZY3 (cntM t m)):=fun s hs hk hc=>by
   rw[hmem,i3]
   have:(m.filter fun n=>hasUp t n s)≠[]:=fun q=>hc (by unfold cntU;rw[q];rfl)
   obtain⟨x,hx⟩:=List.exists_mem_of_ne_nil _ this
   obtain⟨x1,x2⟩:=List.mem_filter.1 hx
   rw[Zpl hmine x1 hk]at x2
   exact⟨x,x1,by simpa using(of_decide_eq_true x2).symm⟩
  have hnd:(b.2.mergeSort (ZY3 (cntM t m))).Nodup:=(List.mergeSort_perm b.2 _).nodup_iff.2 i2
  have hsort:(b.2.mergeSort (ZY3 (cntM t m))).Pairwise fun a c=>cntU t m c.toNat<cntU t m a.toNat\/(cntU t m c.toNat=cntU t m a.toNat/\a<c):=by
   refine List.Pairwise.imp_of_mem (fun{a c} ha hc q=>?_) ((ZNo (cntM t m) b.2).and hnd)
   obtain⟨q,hne⟩:=q
   obtain⟨sa,ea,ha1,ha2,_⟩:=lfP a ((hmem a).1 ha)
   obtain⟨sc,ec,hc1,hc2,_⟩:=lfP c ((hmem c).1 hc)
   subst ea;subst ec
   unfold ZY3 at q
   rw[yZ,yZ,ZVp t m ha1,ZVp t m hc1,← hg sa ha1 ha2,← hg sc hc1 hc2]at q
   rw[yZ,yZ]
   unfold cntU
   simp only[Bool.not_eq_true',decide_eq_false_iff_not]at q
   omega
  have hlen:n<=(((b.2.mergeSort (ZY3 (cntM t m))).flatMap (grp t m)).length:Int):=by
   have:=ZGr (t:=t) (L:=b.2.mergeSort (ZY3 (cntM t m))) (m:=m) fun x hx=>by rw[hmem,i3];exact⟨x,hx,rfl⟩
   omega
  have hll:(b.2.mergeSort (ZY3 (cntM t m))).length<t.parents.length+1:=by rw[List.length_mergeSort];omega
  obtain⟨p1,p2⟩:=Ztt hg (fun z hz=>lfP z ((hmem z).1 hz)) hm2 hnd hsort hlen _ [] [] [] _ rfl hll (.refl _) .nil (by simp)
  have hmemI:∀z∈b.2.mergeSort (ZY3 (cntM t m)),∃s:Nat,z=(s:Int):=fun z hz=>by
   obtain⟨s,e,_⟩:=lfP z ((hmem z).1 hz)
   exact⟨s,e⟩
  generalize b.2.mergeSort (ZY3 (cntM t m))=L at p1 hmemI
  rw[Za3 (f:=fun w s=>Z0e n w (grp t m s)) (fun s hs i w k=>by
   unfold Zg7
   have key:∀(ys:List Int) (i:Nat) (w:List Int),(∀y∈ys,y∈m)->rgl (Zi3 t n s) (ZA8 k) ys i w=k (Z0e n w (grp t ys s)):=by
    intro ys
    induction ys with
    |nil=>intro i w _;rfl
    |cons y ys ih =>
     intro i w hy
     obtain⟨e,c,r1,r2,r3⟩:=ZL6 hmine (hy y (yJ ..))
     have es:lfOf t y=c:=by unfold lfOf;rw[r1];simp only;omega
     have hb:∀k',Zi3 t n s y i w k'=if(c:Int)=s/\(w.length:Int)<n then k' (w++[y])else k' w:=fun k'=>by
      unfold Zi3
      rw[r1,bS,r2]
      by_cases h1:(c:Int)=s
      .rw[show((c:Int)==s)=true by simpa using h1,Bool.true_and]
       by_cases h2:(w.length:Int)<n
       .rw[show decide ((w.length:Int)<n)=true by simpa using h2,yN,Z4 (by simp;omega),bS,yd ⟨h1,h2⟩]
       .rw[show decide ((w.length:Int)<n)=false by simpa using h2,yM,ye fun q=>h2 q.2]
      .rw[show((c:Int)==s)=false by simpa using h1,Bool.false_and,yM,ye fun q=>h1 q.1]
     rw[rgl,hb,Zhn,es]
     by_cases h1:(c:Int)=s
     .rw[yd h1]
      by_cases h2:(w.length:Int)<n
      .rw[yd ⟨h1,h2⟩,ih _ _ fun z hz=>hy z (yH _ hz)]
       congr 1
       unfold Z0e
       rw[List.foldl_cons,yd h2]
      .rw[ye fun q=>h2 q.2,ih _ _ fun z hz=>hy z (yH _ hz)]
       congr 1
       unfold Z0e
       rw[List.foldl_cons,ye h2]
     .rw[ye h1,ye fun q=>h1 q.1,ih _ _ fun z hz=>hy z (yH _ hz)]
   exact key m 0 w fun _ h=>h)]
  unfold Zf7 ZRl
  have hfl:((L.foldl (fun w s=>Z0e n w (grp t m s)) []).length:Int)<=24:=by
   rw[Zbf]
   simp
   omega
  rw[yd (by omega),bS,Z9q p1 p2]
 .show List.replicate t.parents.length 0=cntM t []
  unfold cntM
  rw[eq_comm,List.eq_replicate_iff]
  exact⟨by simp,fun b hb=>by obtain⟨_,_,rfl⟩:=yY hb;rfl⟩
theorem Zhh{r:Room}(R:RoomP r)(need:Vec){fr to_:Int}(hs:spanOk fr to_=true):Zl5 r need fr to_=some (Zoj r need fr to_):=by
 have h24:=R.topo.nodes
 have hpl:=R.profs
 unfold Zl5 Zoj
 rw[hs,yN]
 refine(Zfe (b:=([]:List Int)) (f:=ZP7 r need fr to_) (fun i (v:List Int)=>v.length<=i) (fun j v hj hv=>?_) (fun j x v k hx hv=>?_) (yV 0)).1
 .unfold ZP7
  cases(r.up[j]?).getD false&&Zp need (minV ((r.profs[j]?).getD []) fr to_)with
  |true=>rw[yN];simp;omega
  |false=>rw[yM];omega
 .have hj:=(yB hx).1
  obtain⟨u,hu⟩:∃u,r.up[j]?=some u:=⟨_,yA (by rw[R.up,← R.profs];exact hj)⟩
  unfold Z26 ZP7
  rw[Zq,hu,hx]
  simp only[bS,Option.getD_some,Z9c]
  cases u with
  |false=>rfl
  |true =>
   rw[yN,Zye (R.prof _ (yE hx)),bS,Bool.true_and]
   cases Zp need (minV x fr to_)with
   |true=>rw[yN,yN,Z4 (by simp;omega),bS]
   |false=>rfl
theorem ZRr{r:Room}(R:RoomP r)(need:Vec)(fr to_:Int):(Zoj r need fr to_).Pairwise (· < ·)/\∀z∈Zoj r need fr to_,0<=z/\z<r.topo.nodes.length:=by
 have hpl:=R.profs
 unfold Zoj
 cases spanOk fr to_ with
 |false=>exact⟨List.Pairwise.nil,fun z hz=>by simp at hz⟩
 |true =>
  rw[yN,← hpl]
  generalize r.profs.length=n
  induction n with
  |zero=>exact⟨List.Pairwise.nil,fun z hz=>by simp at hz⟩
  |succ n ih =>
   obtain⟨i1,i2⟩:=ih
   rw[List.range_succ,List.foldl_append,List.foldl_cons,List.foldl_nil]
   generalize (List.range n).foldl (ZP7 r need fr to_) []=v at i1 i2
   unfold ZP7
   cases(r.up[n]?).getD false&&Zp need (minV ((r.profs[n]?).getD []) fr to_)with
   |false=>exact⟨i1,fun z hz=>by have:=i2 z hz;omega⟩
   |true =>
    rw[yN]
    refine⟨List.pairwise_append.2 ⟨i1,List.pairwise_singleton ..,fun a ha b hb=>?_⟩,fun z hz=>?_⟩
    .rw[List.mem_singleton.1 hb];have:=i2 a ha;omega
    .rcases List.mem_append.1 hz with hz|hz
     .have:=i2 z hz;omega
     .rw[List.mem_singleton.1 hz];omega
theorem ZPr{l:List Int}(h:l.Pairwise (· < ·)):Zqq l=false:=by
 unfold Zqq
 rw[List.any_eq_false]
 rintro⟨x,i⟩ hq
 obtain⟨hi,e⟩:∃hi:i<l.length,x=l[i]:=by
  have hx:=List.mem_zipIdx hq
  simp only[Nat.zero_le,Nat.zero_add,Nat.sub_zero,true_and]at hx
  obtain⟨hi,e⟩:=hx
  exact⟨hi,e⟩
 clear hq
 simp only[yD,yO,not_and]
 intro h0 hle
 have h0:0<i:=by omega
 unfold Zdq at hle
 rw[yd h0,yA (by omega),Option.getD_some]at hle
 subst e
 have:=List.pairwise_iff_getElem.1 h (i-1) i (by omega) hi (by omega)
 omega
theorem ZUh(n:Int):∀{l:List Int},l.Pairwise (· < ·)->n∉l->(rise n l).Pairwise (· < ·)
 |[],_,_=>by simp[rise]
 |x::l,h,hn=>by
  have hx:n≠x:=fun e=>hn (by simp[e])
  unfold rise
  split
  .rename_i hlt
   refine List.pairwise_cons.2 ⟨fun y hy=>?_,h⟩
   rcases yX hy with rfl|hy
   .exact hlt
   .have:=(List.pairwise_cons.1 h).1 y hy;omega
  .refine List.pairwise_cons.2 ⟨fun y hy=>?_,ZUh n (List.pairwise_cons.1 h).2 fun q=>hn (yH _ q)⟩
   rcases(ZPc n y l).1 hy with rfl|hy
   .omega
   .exact(List.pairwise_cons.1 h).1 y hy
theorem ZDl(fr:Int){v:List Int}(h:v.Pairwise (· < ·))(x:Pt):(ZC5 fr v x).Pairwise (· < ·):=by
 unfold ZC5
 cases hc:(decide (fr<x.t)&&!v.contains x.t)with
 |false=>exact h
 |true =>
  rw[yN]
  simp only[yD,Bool.not_eq_true']at hc
  exact ZUh _ h fun q=>by rw[List.contains_iff_mem.2 q]at hc;cases hc.2
theorem ZXd(fr:Int)(ps:List (List Pt)){v:List Int}(h:v.Pairwise (· < ·)):(timesF fr ps v).Pairwise (· < ·) :=
 ZFe (fun v:List Int=>v.Pairwise (· < ·)) (fun v p hv=>ZFe (fun v:List Int=>v.Pairwise (· < ·)) (fun _ x hv=>ZDl fr hv x) p v hv) ps v h
theorem Z3t(fr m:Int):∀(p:List Pt) (v:List Int),m∈p.foldl (ZC5 fr) v↔m∈v\/∃x∈p,fr<x.t/\m=x.t
 |[],v=>by simp
 |x::p,v=>by
  have h1:m∈ZC5 fr v x↔m∈v\/(fr<x.t/\m=x.t):=by
   unfold ZC5
   by_cases hx:fr<x.t
   .rw[show decide (fr<x.t)=true by simpa using hx,Bool.true_and]
    cases hc:v.contains x.t with
    |true =>
     have:=List.contains_iff_mem.1 hc
     simp only[yL,yM]
     exact⟨.inl,fun q=>q.elim id fun q=>q.2 ▸ this⟩
    |false =>
     simp only[Bool.not_false,yN]
     rw[ZPc]
     exact⟨fun q=>q.elim (fun e=>.inr ⟨hx,e⟩) .inl,fun q=>q.elim .inr fun e=>.inl e.2⟩
   .rw[show decide (fr<x.t)=false by simpa using hx,Bool.false_and,yM]
    exact⟨.inl,fun q=>q.elim id fun q=>absurd q.1 hx⟩
  rw[List.foldl_cons,Z3t fr m p,h1]
  simp only[List.mem_cons,exists_eq_or_imp,or_assoc]
theorem Z7l(fr m:Int):∀(ps:List (List Pt)) (v:List Int),m∈timesF fr ps v↔m∈v\/∃p∈ps,∃x∈p,fr<x.t/\m=x.t
 |[],v=>by simp[timesF]
 |p::ps,v=>by
  have e:timesF fr (p::ps) v=timesF fr ps (p.foldl (ZC5 fr) v):=rfl
  rw[e,Z7l fr m ps,Z3t]
  simp only[List.mem_cons,exists_eq_or_imp,or_assoc]
def ptsF(fr:Int)(p:List Pt):List Int:=(p.filter fun x=>decide (fr<x.t)).map Pt.t
theorem Zjq{r:Room}(R:RoomP r)(j:Job)(fr:Int):((appL 24 [r.lics] r.profs).bind fun xs5=>rgl (ZH3 fr) (ZF3 r j) xs5 0 [fr])=rgl (ZP1 r j) Zw2 (timesF fr (r.profs++[r.lics]) [fr]) 0 ():=by
 have h1:=R.topo.nodes
 have h2:=R.profs
 rw[Z4 (by simp;omega),bS]
 have hle:∀p∈[r.lics]++r.profs,p.length<=200:=fun p hp=>by
  rcases List.mem_append.1 hp with hp|hp
  .simp at hp;subst hp;exact R.lics.le
  .exact(R.prof p hp).le
 refine ZG2 (l0:=[r.lics]++r.profs) (fun i (v:List Int)=>v=[fr]++(([r.lics]++r.profs).take i).flatMap (ptsF fr)/\v.length<=1+200*i) (fun o=>o=rgl (ZP1 r j) Zw2 (timesF fr (r.profs++[r.lics]) [fr]) 0 ()) (fun i p v k hx hI hk=>?_) (fun v hI=>?_) ⟨by simp,by simp⟩
 .obtain⟨i1,i2⟩:=hI
  have hi:=(yB hx).1
  have hp:=hle p (yE hx)
  simp only[yU,List.length_singleton]at hi
  unfold ZH3
  rw[Z71 (bd:=Ze6 fr) (bs:=8) (p:=fun x:Pt=>decide (fr<x.t)) (f:=Pt.t) (fun x _ i b k=>rfl) (by omega)]
  unfold Zd6
  refine hk _ ⟨?_,?_⟩
  .rw[List.take_succ_eq_append_getElem (by simp;omega),List.flatMap_append,ya,List.flatMap_nil,List.append_nil,i1,List.append_assoc]
   rw[yA (by simp;omega)]at hx
   rw[Option.some.inj hx];rfl
  .have:(p.filter fun x:Pt=>decide (fr<x.t)).length<=p.length:=List.length_filter_le ..
   simp only[yU,List.length_map];omega
 .obtain⟨i1,i2⟩:=hI
  rw[List.take_of_length_le (yV _)]at i1
  unfold ZF3 ZRl
  have hl:v.length<4611686018427387904:=by simp at i2;omega
  rw[yd hl,bS]
  obtain⟨s1,s2⟩:=Z8l v
  obtain⟨c1,c2⟩:=Zfg s1
  rw[Zof c1 (ZXd fr (r.profs++[r.lics]) (v:=[fr]) (by simp)) fun x=>?_]
  rw[c2,s2,i1,Z7l]
  simp only[List.mem_append,List.mem_flatMap,ptsF,List.mem_map,List.mem_filter,yO]
  constructor
  .rintro(q|⟨p,hp,y,⟨hy,hlt⟩,rfl⟩)
   .exact .inl q
   .exact .inr ⟨p,hp.symm,y,hy,hlt,rfl⟩
  .rintro(q|⟨p,hp,y,hy,hlt,rfl⟩)
   .exact .inl q
   .exact .inr ⟨p,hp.symm,y,⟨hy,hlt⟩,rfl⟩
theorem Zlo{r:Room}(R:RoomP r){j:Job}(hj:Z9 j=true):∀(l:List Int) (i:Nat),l.Pairwise (· < ·)->(∀t∈l,time t=true)->rgl (ZP1 r j) Zw2 l i ()=some (match l.find? (fun t=>(canM r j t).2)with
  |some t=>(t,(canM r j t).1,true)
  |none=>(0,[],false))
 |[],_,_,_=>rfl
 |t::l,i,hs,ht=>by
  have hw:=(ZO2.1 hj).2.2.2.2.2.1
  have hnn:=(ZO2.1 hj).2.2.1
  have ht0:=ZE1.1 (ht t (yJ ..))
  obtain⟨s1,s2⟩:=List.pairwise_cons.1 hs
  rw[rgl]
  unfold ZP1
  rw[ZV1 (by omega)]
  have far:∀t',1000000000<t'+j.wall->(canM r j t').2=false:=fun t' h=>by
   have:spanOk t' (t'+j.wall)=false:=by
    rw[Bool.eq_false_iff];intro q
    have:=ZE1.1 (ZX7.1 q).2.1
    omega
   unfold canM;rw[this];rfl
  by_cases hb:1000000000<t+j.wall
  .rw[show decide (1000000000<t+j.wall)=true by simpa using hb,yN]
   have:(t::l).find? (fun t=>(canM r j t).2)=none:=by
    rw[List.find?_eq_none]
    intro t' h'
    have:1000000000<t'+j.wall:=by
     rcases yX h' with rfl|h'
     .exact hb
     .have:=s1 t' h';omega
    rw[far t' this];simp
   rw[this];rfl
  rw[show decide (1000000000<t+j.wall)=false by simpa using hb,yM,Zye R.lics,bS,Z9c,List.find?_cons]
  have hspan:spanOk t (t+j.wall)=true:=ZX7.2 ⟨ht t (yJ ..),ZE1.2 (by omega),by omega⟩
  have ih:=Zlo R hj l (i+1) s2 fun t' h'=>ht t' (yH _ h')
  cases hfit:Zp j.lic (minV r.lics t (t+j.wall))with
  |false =>
   have:(canM r j t).2=false:=by unfold canM;rw[hfit,Bool.and_false];rfl
   rw[this]
   exact ih
  |true =>
   obtain⟨a1,a2⟩:=ZRr R j.need t (t+j.wall)
   have hno:ZJ r.topo (Zoj r j.need t (t+j.wall))=true:=Zv.2 ⟨R.topo,a2⟩
   have hl:=(Zib R j.need t (t+j.wall)).2
   have e:canM r j t=ZMa r.topo (Zoj r j.need t (t+j.wall)) j.nodes j.level:=by unfold canM;rw[hspan,hfit];rfl
   simp only[yL,yM]
   rw[Zhh R j.need hspan,bS,ZWk hno hl hnn.1 (ZPr a1) j.level,bS,← e]
   cases h:(canM r j t).2 with
   |true=>rfl
   |false=>exact ih
theorem Zph(r:Room)(j:Job)(fr:Int):ZI3 r j fr=some (bif roomOk r&&Z9 j&&time fr then ZLs r j fr else(0,[],false)):=by
 unfold ZI3
 rw[ZH9,bS,ZO7,Z04]
 cases hr:roomOk r with
 |false=>rfl
 |true=>cases hj:Z9 j with
  |false=>rfl
  |true=>cases ht:time fr with
   |false=>rfl
   |true =>
    have R:=ZZ7.1 hr
    simp only[yL,Bool.or_self,yM,Bool.and_self,yN]
    rw[Zjq R]
    have hall:∀t∈timesF fr (r.profs++[r.lics]) [fr],time t=true:=fun t h=>by
     rcases Zaf fr t _ _ h with h|⟨p,hp,x,hx,rfl⟩
     .rw[List.mem_singleton.1 h];exact ht
     .rcases List.mem_append.1 hp with hp|hp
      .exact((R.prof p hp).ok x hx).1
      .rw[List.mem_singleton.1 hp]at hx;exact(R.lics.ok x hx).1
    rw[Zlo R hj _ 0 (ZXd fr _ (by simp)) hall]
    rfl
theorem Z3p(r:Room)(j:Job)(fr:Int):ZI3 r j fr=Zy3 r j fr:=by rw[Zph,Zjb]
end Go.Proofs.YtodafdoninblmaaGreat
namespace Go.Proofs.YtodafdoninblmaaGreat
open Go Go.RowKit Eng Go.Sort
theorem Zlj{α:Type}{k:Nat}{enc:α->List Value}(hk:∀x,(enc x).length=k):∀(l:List α) (i c:Nat),c<k->(l.flatMap enc)[i*k+c]?=l[i]?.bind fun x=>(enc x)[c]?
 |[],i,c,_=>by simp
 |x::l,0,c,hc=>by
  rw[ya,yK (by rw[hk];omega)]
  simp
 |x::l,i+1,c,hc=>by
  rw[ya,yS (by rw[hk,Nat.succ_mul];omega),hk]
  have:(i+1)*k+c-k=i*k+c:=by rw[Nat.succ_mul];omega
  rw[this,Zlj hk l i c hc]
  simp
theorem Zkj{α:Type}{k:Nat}{enc:α->List Value}(hk:∀x,(enc x).length=k)(l:List α):(l.flatMap enc).length=l.length*k:=by
 induction l with
 |nil=>simp
 |cons x l ih=>rw[ya,yU,ih,hk,yT,Nat.succ_mul];omega
theorem Zpq{α:Type}[Inhabited α]{k:Nat}(h0:0<k){enc:α->List Value}(hk:∀x,(enc x).length=k)(l:List α):(flatK enc k l.toArray).toList=l.flatMap enc:=by
 apply List.ext_getElem (by rw[Zkj hk];simp)
 intro t h1 h2
 have ht:t<l.length*k:=by simpa using h1
 have hi:t / k<l.length:=Nat.div_lt_of_lt_mul (by rw[Nat.mul_comm];exact ht)
 have hc:t % k<k:=Nat.mod_lt _ h0
 have e:=Zlj hk l (t / k) (t % k) hc
 have e2:t / k*k+t % k=t:=by rw[Nat.mul_comm];exact Nat.div_add_mod t k
 rw[e2,yA h2,yA hi]at e
 simp only[bS]at e
 rw[yA (by rw[hk];exact hc)]at e
 rw[Option.some.inj e]
 simp only[flatK,Array.toList_map,List.getElem_map,Array.getElem_toList,Array.getElem_range]
 rw[getElem!_pos l.toArray (t / k) (by simpa using hi)]
 simp only[List.getElem_toArray]
 rw[getElem!_pos _ (t % k) (by rw[hk];exact hc)]
theorem Zol{w:World}{b:Nat}{cur F:Array Value}{ty:TypeId}(h1:w.heap[b]?=some (.cells cur ty (0,0)))(h5:cur.toList.take F.size=F.toList):Holds id w b 0 F:=by
 intro j hj
 refine⟨?_,frozen_of_row w b (0+j) cur ty h1⟩
 have hc:cur[j]?=some F[j]:=by
  have:=congrArg (·[j]?) h5
  simp only[List.getElem?_take,hj,yb,Array.getElem?_toList,Array.getElem?_eq_getElem hj]at this
  exact this
 simp only[World.cell?,h1,Option.isSome_none,yG,yc,Nat.zero_add]
 rw[hc]
 simp[hj]
theorem ZWh{w:World}{b:Nat}{cur F:Array Value}{ty:TypeId}(h1:w.heap[b]?=some (.cells cur ty (0,0)))(h2:F.size<=cur.size)(n:Nat)(os:Array Obj) :
  ∃cur':Array Value,(grow (putRow id (Sort.ahead w n) b 0 F) os).heap[b]?=some (.cells cur' ty (0,0))/\cur'.size=cur.size/\cur'.toList.take F.size=F.toList /\
   w.heap.size<=(grow (putRow id (Sort.ahead w n) b 0 F) os).heap.size/\∀k,k<w.heap.size->k≠b->(grow (putRow id (Sort.ahead w n) b 0 F) os).heap[k]?=w.heap[k]?:=by
 have hb:b<w.heap.size:=(Array.getElem?_eq_some_iff.1 h1).1
 have hg:∀k,k<w.heap.size->(grow (putRow id (Sort.ahead w n) b 0 F) os).heap[k]?=(w.heap.modify b (onCells (putCells id 0 F)))[k]?:=by
  intro k hk
  simp only[grow,putRow,mapBlock,Sort.ahead]
  rw[Array.getElem?_append_left (by simpa using hk)]
 refine⟨putCells id 0 F cur,?_,?_,?_,?_,fun k hk hne=>?_⟩
 .rw[hg b hb,Array.getElem?_modify];simp only[yb,h1];rfl
 .simp[putCells]
 .apply List.ext_getElem
  .simp[putCells];omega
  .intro j q1 q2
   have hj:j<F.size:=by simpa using q2
   simp[putCells,hj]
 .simp[grow,putRow,mapBlock,Sort.ahead]
 .rw[hg k hk,Array.getElem?_modify,ye (fun e=>hne e.symm)]
theorem Zhs{α:Type}{sz:Nat}{enc:α->AV}{val:α->List Value}(E:Enc sz enc val)(h0:0<sz){P:Program}{ρ:Shelf.Ren}(L:SlLaysF0.n6 P ρ)(aE:∀w,(isAgg (ρ.t 24)).run P w=.ok true w)(zE:∀w,(Go.sizeOf (ρ.t 24)).run P w=.ok sz w)(g:Nat)(eg:∀args w,(callFunc g args).run P w=.ok (.enter g args) w)
  (zs:List α) (cf:Fin zs.length->Fin zs.length->Int) (hO:SWO (ltOf cf)) (hT:∀x y,(ltOf cf) x y=false->(ltOf cf) y x=false->x=y) (le:α->α->Bool) (hle:∀x y:Fin zs.length,(!(ltOf cf) y x)=le zs[x] zs[y])
  (hcmp:∀(x y:Fin zs.length) (w:World),Calls P g #[.agg (val zs[x]).toArray,.agg (val zs[y]).toArray] w fun e w'=>e=.returned (.int .i64 (cf x y))/\∃q os',w'=grow (w.drewN q) os') (hl:zs.length<4611686018427387904) :
  RowX P (ρ.f 6) sz enc val [.fn g []] zs (zs.mergeSort le) false:=by
 intro w gh n0 us H hul hus
 match us,hul with
 |[u],_ =>
 obtain⟨vs,hu,hvs,_⟩:=(hus 0 _ u rfl rfl).fn_inv
 have hvs0:vs=[]:=List.eq_nil_of_length_eq_zero (by simpa using hvs.symm)
 subst hvs0
 refine⟨fun hz=>?_,fun b cap cur ty h1 h2 h3 h4 h5 h6=>?_⟩
 .subst hz
  exact(AnyF.slices_SortFunc_none L none 0 u w).mono fun e w' h=>⟨by simp[h.1],h.2⟩
 .have hb:b<w.heap.size:=(Array.getElem?_eq_some_iff.1 h1).1
  by_cases hz:zs=[]
  .subst hz
   refine(AnyF.slices_SortFunc_none L (some ⟨b,0,none⟩) cap u w).mono fun e w' h=>?_
   obtain⟨he,rfl⟩:=h
   exact⟨by simp[he],cur,h1,h4,by simp,by simp,rfl,rfl,rfl,yV _,fun _ _ _=>rfl⟩
  .have hn:0<zs.length:=List.length_pos_iff.2 hz
   haveI:Inhabited (Fin zs.length):=⟨⟨0,hn⟩⟩
   have hk:∀x:Fin zs.length,(val zs[x]).length=sz:=fun x=>E.vlen _
   have hfr:(List.finRange zs.length).map (fun x:Fin zs.length=>zs[x])=zs:=by
    apply List.ext_getElem (by simp)
    intro j q1 q2
    simp
   have hff:∀l:List (Fin zs.length),(flatK (fun x:Fin zs.length=>val zs[x]) sz l.toArray).toList=(l.map fun x:Fin zs.length=>zs[x]).flatMap val:=fun l=>by
    rw[Zpq h0 hk,List.flatMap_map]
   have hs0:(flatK (fun x:Fin zs.length=>val zs[x]) sz (List.finRange zs.length).toArray).size=zs.length*sz:=by simp
   have hH:HoldsK (fun x:Fin zs.length=>val zs[x]) sz w b 0 (List.finRange zs.length).toArray:=by
    refine Zol h1 ?_
    rw[hs0,h5,hff,hfr]
   have:=AnyQ.slices_SortFunc_total L sz aE zE (fun x:Fin zs.length=>val zs[x]) hk (fun x=>E.vone _) cf hO g #[] b 0 cap (List.finRange zs.length).toArray w eg (fun m os dk _ x y=>hcmp x y _) hH hb (by simpa using hl) hT
   simp only[List.size_toArray,List.length_finRange]at this
   rw[hu]
   refine this.mono fun e w' h=>?_
   obtain⟨he,n,os,hw⟩:=h
   have e1:((List.finRange zs.length).mergeSort fun x y=>!(ltOf cf) y x).map (fun x:Fin zs.length=>zs[x])=zs.mergeSort le:=by
    rw[List.map_mergeSort (s:=le),hfr]
    intro x _ y _
    exact hle x y
   obtain⟨F,hF⟩:∃F,F=flatK (fun x:Fin zs.length=>val zs[x]) sz ((List.finRange zs.length).mergeSort fun x y=>!(ltOf cf) y x).toArray:=⟨_,rfl⟩
   have hFl:F.toList=(zs.mergeSort le).flatMap val:=by rw[hF,hff,e1]
   have hFs:F.size=zs.length*sz:=by rw[hF];simp
   have hw2:w'=grow (putRow id (Sort.ahead w n) b 0 F) os:=by
    rw[hw,hF]
    rfl
   rw[hw2]
   have hm:=Nat.mul_le_mul_right sz h2
   obtain⟨cur',q1,q2,q3,q4,q5⟩:=ZWh (F:=F) h1 (by rw[hFs,h4];exact hm) n os
   refine⟨by simp[he],cur',q1,by rw[q2,h4],?_,by simpa using h2,rfl,rfl,rfl,q4,q5⟩
   rw[List.length_mergeSort,← hFs,q3,hFl]
def jobV(x:Job):List Value:=[.int .i64 x.id,.int .i64 x.prio,.int .i64 x.nodes,.int .i64 x.need.a,.int .i64 x.need.b,.int .i64 x.need.c,.int .i64 x.lic.a,.int .i64 x.lic.b,.int .i64 x.lic.c,.int .i64 x.wall,.int .i64 x.level]
theorem ZNd:Enc 11 eJob jobV:=by
 have key:∀x (j:Nat) (a:AV) (u:Value),(eJob x).cells[j]?=some a->(jobV x)[j]?=some u->∃n,a=.int .i64 n/\u=.int .i64 n:=by
  intro x j a u h1 h2
  simp only[eJob,AV.cells,jobV]at h1 h2
  match j with
  |0|1|2|3|4|5|6|7|8|9|10=>exact⟨_,(Option.some.inj h1).symm,(Option.some.inj h2).symm⟩
  |j+11=>simp at h1
 refine⟨fun x=>rfl,fun x=>rfl,fun x a ha=>?_,fun x v hv=>?_,fun w S T x j a u h1 h2=>?_,fun w S T x j a u v h1 h2 h=>?_⟩
 .obtain⟨j,hj⟩:=List.getElem?_of_mem ha
  have hl:j<(jobV x).length:=by have:=(yB hj).1;exact this
  obtain⟨n,rfl,_⟩:=key x j a _ hj (yA hl)
  rfl
 .simp only[jobV,List.mem_cons,List.not_mem_nil,or_false]at hv
  rcases hv with rfl|rfl|rfl|rfl|rfl|rfl|rfl|rfl|rfl|rfl|rfl<;>rfl
 .obtain⟨n,rfl,rfl⟩:=key x j a u h1 h2
  exact .int _ _
 .obtain⟨n,rfl,rfl⟩:=key x j a u h1 h2
  cases h;rfl
def Zc7(x y:Job):Bool:=!decide (x.prio<y.prio\/(x.prio=y.prio/\y.id<x.id))
def ZMd(l:List Job):Prop:=(l.map (·.id)).Nodup/\(∀j∈l,-2305843009213693952<=j.prio/\j.prio<=2305843009213693952/\-2305843009213693952<=j.id/\j.id<=2305843009213693952)/\l.length<4611686018427387904
instance(l:List Job):Decidable (ZMd l):=by unfold ZMd;infer_instance
def Zsh(l:List Job):Option (List Job):=if ZMd l then some (l.mergeSort Zc7)else none
def Zkl(l:List Job)(x y:Fin l.length):Int:=if l[x].prio≠l[y].prio then wrap64 (l[y].prio-l[x].prio)else wrap64 (l[x].id-l[y].id)
theorem jw64{z:Int}(h:-9223372036854775808<=z/\z<=9223372036854775807):wrap64 z=z:=by
 unfold wrap64;omega
theorem Z3c{l:List Job}(h:ZMd l)(x y:Fin l.length):ltOf (Zkl l) x y=decide (l[y].prio<l[x].prio\/(l[x].prio=l[y].prio/\l[x].id<l[y].id)):=by
 have hx:=h.2.1 l[x] (List.getElem_mem x.isLt)
 have hy:=h.2.1 l[y] (List.getElem_mem y.isLt)
 unfold ltOf Zkl
 rw[decide_eq_decide]
 by_cases e:l[x].prio=l[y].prio
 .rw[ye (by simpa using e),jw64 (by omega)]
  omega
 .rw[yd e,jw64 (by omega)]
  omega
theorem Zhq{l:List Job}(h:ZMd l):SWO (ltOf (Zkl l)) where
 irrefl x:=by rw[Z3c h];simp
 trans x y z h1 h2:=by
  rw[Z3c h]at *
  simp only[yO]at *
  omega
 ntrans x y z h1 h2:=by
  rw[Z3c h]at *
  simp only[decide_eq_false_iff_not]at *
  omega
theorem Z7o{l:List Job}(h:ZMd l)(x y:Fin l.length)(h1:ltOf (Zkl l) x y=false)(h2:ltOf (Zkl l) y x=false):x=y:=by
 rw[Z3c h]at h1 h2
 simp only[decide_eq_false_iff_not]at h1 h2
 have e:l[x].id=l[y].id:=by omega
 have hn:=h.1
 have hp:=List.pairwise_iff_getElem.1 hn
 rcases Nat.lt_trichotomy x.val y.val with q|q|q
 .exact absurd (by simpa using e) (hp x.val y.val (by simp) (by simp) q)
 .exact Fin.ext q
 .exact absurd (by simpa using e.symm) (hp y.val x.val (by simp) (by simp) q)
theorem ZEo{l r:List Job}(h:Zsh l=some r):ZRe Tryz.prog Z61 11 (l.map eJob) [.fn ZU9 []] false (r.map eJob):=by
 unfold Zsh at h
 split at h
 .rename_i hl
  cases h
  have eg:∀args w,(callFunc 280 args).run Tryz.prog w=.ok (.enter 280 args) w:=enters_of Tryz.func280 (by kernel_rfl) rfl
  refine Zth ZNd (fun e=>by subst e;simp) (fun _=>by simp) ?_
  refine Zhs (ρ:=Tryz.sortFJ_ren) ZNd (by omega) Tryz.sortFJ Tryz.isAgg56 Tryz.sizeOf56 280 eg l (Zkl l) (Zhq hl) (Z7o hl) Zc7 (fun x y=>?_) (fun x y w=>?_) hl.2.2
  .rw[Z3c hl];unfold Zc7;congr 1;rw[decide_eq_decide];omega
  .exact ZIo _ _ _ _ _ _ _ _ _ _ _ _ _ _ _ _ _ _ _ _ _ _ w
 .cases h
end Go.Proofs.YtodafdoninblmaaGreat
