/-
  Lemmas, part 11.
-/
import Derived.Test.YtehomnafaoplgaaGreatZ10
import Derived.Test.YtehomnafaoplgaaGreatZ1
namespace Go.Proofs.YtehomnafaoplgaaGreat
open Go Go.RowKit Go.Sort Go.Lib
theorem L0c{α:Type}[Inhabited α](enc:α->Value){w:World}{blk off m:Nat}(dk:Array α)(os:Array Obj){a:Addr}{v:Value}(hb:a.block≠blk)(h:w.cell? a=some v):(sortWorld enc w blk off m dk os).cell? a=some v:=by
 have hlt:a.block<w.heap.size:=by
  rcases Nat.lt_or_ge a.block w.heap.size with hl|hl
  .exact hl
  .simp only[World.cell?,Array.getElem?_eq_none hl]at h
   cases h
 unfold sortWorld
 rw[cell?_grow _ _ _ (by simpa[putRow,mapBlock,Sort.ahead]using hlt),cell?_putRow_other _ _ _ _ _ _ (.inl hb)]
 exact h
def M1P{n:Nat}(x:Fin n):Value:=.int .i64 (x.val:Int)
theorem Y1J{cnt:tI}[Inhabited (Fin cnt.length)](hl:cnt.length<=24){w:World}{b ob r o cap blk size:Nat}(hb:b≠blk)(hr:r≠blk)(hbox:w.cell? ⟨b,ob,none⟩=some (.slice (some ⟨r,o,none⟩) cnt.length cap))
  (hc:∀(j:Nat) (x:Int),cnt[j]?=some x->w.cell? ⟨r,o+j,none⟩=some (.int .i64 x)):CmpReads Tryz.prog 256 #[.pointer (some ⟨b,ob,none⟩)] (M1P (n:=cnt.length)) (U0i cnt) blk 0 size w:=by
 intro m os dk _ x y
 exact M1Q x.val y.val cnt[x] cnt[y] b ob r o cnt.length cap _ hl x.isLt y.isLt (L0c _ _ _ hb hbox) (L0c _ _ _ hr (hc x.val _ (yA x.isLt))) (L0c _ _ _ hr (hc y.val _ (yA y.isLt)))
theorem M1K{cnt:tI}[Inhabited (Fin cnt.length)](hl:cnt.length<=24)(hc:∀c∈cnt,0<=c/\c<=1000000){w:World}{b ob r o cap0 blk cap:Nat}(hb:b≠blk)(hr:r≠blk)(hbox:w.cell? ⟨b,ob,none⟩=some (.slice (some ⟨r,o,none⟩) cnt.length cap0))
  (hcs:∀(j:Nat) (x:Int),cnt[j]?=some x->w.cell? ⟨r,o+j,none⟩=some (.int .i64 x)) (d:Array (Fin cnt.length)) (hH:Holds M1P w blk 0 d) (hblk:blk<w.heap.size) (hsz:d.size<4611686018427387904) :
  Calls Tryz.prog 255 #[.slice (some ⟨blk,0,none⟩) d.size cap,.func (.func 256) #[] #[.pointer (some ⟨b,ob,none⟩)]] w λe w' =>
   e=.returned (.tuple #[])/\∃n os,w'=sortWorld M1P w blk 0 n (d.toList.mergeSort λx y=>!(ltOf (U0i cnt)) y x).toArray os:=by
 have eg:∀args w,(callFunc 256 args).run Tryz.prog w=.ok (.enter 256 args) w:=enters_of Tryz.func256 (by kernel_rfl) rfl
 exact Any.slices_SortFunc_total Tryz.sortFI M1P (λ_=>rfl) (U0i cnt) (V1T hl hc) 256 #[.pointer (some ⟨b,ob,none⟩)] blk 0 cap d w eg (Y1J hl hb hr hbox hcs).lays hH hblk hsz (Q1D hl hc)
end Go.Proofs.YtehomnafaoplgaaGreat
namespace Go.Proofs.YtehomnafaoplgaaGreat
open Go Go.RowKit Eng
section
def JD(cnt:tI)(x y:Int):Bool:=!decide (cnt.getD x.toNat 0<cnt.getD y.toNat 0\/(cnt.getD y.toNat 0=cnt.getD x.toNat 0/\y<x))
def Y1a(cnt zs:tI):Prop:=(∀z∈zs,0<=z/\z<(cnt.length:Int))/\cnt.length<=24/\(∀c∈cnt,0<=c/\c<=1000000)/\zs.length<4611686018427387904
instance(cnt zs:tI):Decidable (Y1a cnt zs):=by unfold Y1a;infer_instance
def L0A(cnt zs:tI):Option tI:=if Y1a cnt zs then some (zs.mergeSort (JD cnt))else none
theorem Q2j{w:World}{g:Gh}{s:St}{f:Nat}{e:AV}{v:Value}(h:Gv w g s (.fn f [.ept e 0]) v):Rd w g.S g.T (.fn f [.ept e 0]) v:=by
 cases h with
 |data _ _ h=>exact h
 |fn _ _ vs hl h =>
  refine .fn _ _ vs hl λi a u ha hu=>?_
  have q:=h i a u ha hu
  match i with
  |0 =>
   cases ha
   cases q with
   |data _ _ q=>exact q
  |i+1=>simp at ha
def Z1w(n:Nat)(h:0<n)(z:Int):Fin n:=if h2:z.toNat<n then⟨z.toNat,h2⟩else⟨0,h⟩
theorem J1B{n:Nat}(dk:List (Fin n))(c:Array Value)[Inhabited (Fin n)]:Go.Sort.putCells M1P 0 dk.toArray c=Go.Sort.putCells (Value.int .i64) 0 (dk.map λ(x:Fin n)=>(x.val:Int)).toArray c:=by
 unfold Go.Sort.putCells
 apply Array.ext
 .simp
 .intro i h1 h2
  simp only[Array.getElem_mapIdx,List.size_toArray,List.length_map,Nat.zero_le,true_and,Nat.zero_add,Nat.sub_zero]
  by_cases hi:i<dk.length
  .rw[yd hi,yd hi]
   simp[M1P,hi]
  .rw[ye hi,ye hi]
theorem Z1B{cnt zs r:tI}(h:L0A cnt zs=some r):M0Q Tryz.prog YF 1 (zs.map eI) [.fn L0z [.ept (.agg [.sl .rd 1 (cnt.map eI)]) 0]] false (r.map eI):=by
 unfold L0A at h
 split at h
 .rename_i hl
  obtain⟨l1,l2,l3,l4⟩:=hl
  cases h
  refine Q1L (zs:=zs) (zs':=zs.mergeSort (JD cnt)) (λe=>by subst e;simp) (λ_=>by simp) ?_
  intro w g n0 us H hul hus
  refine⟨?_,λb cap cur ty h1 h2 h3 h4 h5 h6=>?_⟩
  .match us,hul with
   |[u],_ =>
   exact(AnyF.slices_SortFunc_none { Tryz.sortFI with } none 0 u w).mono λe w' h=>⟨by simp[h.1],h.2⟩
  .match us,hul with
   |[u],_ =>
   have hb:b<w.heap.size:=(Array.getElem?_eq_some_iff.1 h1).1
   by_cases hz:zs=[]
   .subst hz
    refine(AnyF.slices_SortFunc_none { Tryz.sortFI with } (some ⟨b,0,none⟩) cap u w).mono λe w' h=>?_
    obtain⟨he,rfl⟩:=h
    refine⟨by simp[he],cur,h1,h4,by simp[i64v],by simp,rfl,rfl,rfl,yV _,λ_ _ _=>rfl⟩
   .have hn:0<cnt.length:=by
     obtain⟨z,hz⟩:=List.exists_mem_of_ne_nil _ hz
     have:=l1 z hz
     omega
    haveI:Inhabited (Fin cnt.length):=⟨⟨0,hn⟩⟩
    have hd:=Q2j (hus 0 _ u rfl rfl)
    obtain⟨bb,ob,br,o,capr,hu,hbox,hS1,hcs⟩:=Rd.cap1_inv hd hn
    subst hu
    have n1:bb≠b:=λe=>h6 _ (e ▸ hS1)
    have n2:br≠b:=λe=>by
     obtain⟨_,q⟩:=hcs 0 cnt[0] (yA hn)
     exact h6 _ (e ▸ q)
    have hval:∀z∈zs,((Z1w cnt.length hn z).val:Int)=z:=λz hz=>by
     have:=l1 z hz
     unfold Z1w
     rw[dif_pos (by omega)]
     simp only
     omega
    have hmap:(zs.map (Z1w cnt.length hn)).map (λ(x:Fin cnt.length)=>(x.val:Int))=zs:=by
     rw[List.map_map]
     exact(List.map_congr_left (λz hz=>hval z hz)).trans (List.map_id _)
    have hH:Go.Sort.Holds M1P w b 0 (zs.map (Z1w cnt.length hn)).toArray:=by
     intro j hj
     have hj':j<zs.length:=by simpa using hj
     have:=X1l h1 h5 j (by simpa using hj')
     refine⟨?_,this.2⟩
     rw[this.1]
     simp[M1P,hj',hval]
    have e1:((zs.map (Z1w cnt.length hn)).mergeSort λx y=>!(ltOf (U0i cnt)) y x).map (λ(x:Fin cnt.length)=>(x.val:Int))=zs.mergeSort (JD cnt):=by
     rw[List.map_mergeSort (s:=JD cnt),hmap]
     intro x _ y _
     rw[Z0g l2 l3]
     unfold JD
     simp
    have:=M1K (w:=w) (b:=bb) (ob:=ob) (r:=br) (o:=o) (cap0:=capr) (blk:=b) (cap:=cap) l2 l3 n1 n2 hbox (λj x hx=>(hcs j x hx).1) (zs.map (Z1w cnt.length hn)).toArray hH hb (by simpa using l4)
    simp only[List.size_toArray,List.length_map]at this
    refine this.mono λe w' h=>?_
    obtain⟨he,n,os,hw⟩:=h
    have hw2:w'=Go.Sort.grow (Go.Sort.putRow (Value.int .i64) (Go.Sort.ahead w n) b 0 (zs.mergeSort (JD cnt)).toArray) os:=by
     rw[hw]
     unfold sortWorld Go.Sort.putRow
     congr 2
     funext c
     rw[J1B,e1]
    rw[hw2]
    obtain⟨cur',q1,q2,q3,q4,q5⟩:=W0V (zs:=zs.mergeSort (JD cnt)) h1 h4 (by simpa using h2) n os
    exact⟨by simp[he],cur',q1,q2,q3,by simpa using h2,rfl,rfl,rfl,q4,q5⟩
 .cases h
def X0a(j1:Job):Option Bool :=
 bif ((((decide (j1.id<1)||decide (999<j1.id))||decide (j1.prio<0))||decide (999<j1.prio))||decide (j1.nodes<1))||decide (24<j1.nodes)then(some false)else(some ((((((U0 j1.need)&&(U0 j1.lic))&&decide (1<=j1.wall))&&decide (j1.wall<=1000000))&&decide (0<=j1.level))&&decide (j1.level<=24)))
theorem J1b{j1:Job}{r:Bool}(H:X0a j1=some r):SQ L0y [eJob j1] (.bool r):=by
 exact wa [.t 2] (wP (X0 H (λH=>sI H▸wV) λH=>wH [.c 33 (X6 j1.need),.d 37 [((U0 j1.need),true)] λ_=>X6 j1.lic] (sI H▸wD)))
def Y1(j1:Job):Bool :=
 bif ((((decide (j1.id<1)||decide (999<j1.id))||decide (j1.prio<0))||decide (999<j1.prio))||decide (j1.nodes<1))||decide (24<j1.nodes)then(false)else(((((((U0 j1.need)&&(U0 j1.lic))&&decide (1<=j1.wall))&&decide (j1.wall<=1000000))&&decide (0<=j1.level))&&decide (j1.level<=24)))
theorem W1K(j1:Job):X0a j1=some (Y1 j1):=by
 unfold X0a Y1
 first|rfl|simp only[U4]
theorem OM(j1:Job):Snd Tryz.prog L0y [eJob j1] (.bool (Y1 j1)) []:=J1b (W1K j1)
def V05(x5:tP)(_:Nat)(_:Unit)(k5:Unit->Option Bool):Option Bool :=
 (Xg x5).bind λb6=>bif !b6 then(some false)else(k5 ())
def J0s(_:Unit):Option Bool :=
 some true
def Zx(r1:Room):Option Bool :=
 (Lf r1.topo).bind λb2=>(bif ((!b2)||((r1.up.length:Int)!=(r1.topo.nodes.length:Int)))||((r1.profs.length:Int)!=(r1.topo.nodes.length:Int))then some default else(Xg r1.lics)).bind λb3=>bif (((!b2)||((r1.up.length:Int)!=(r1.topo.nodes.length:Int)))||((r1.profs.length:Int)!=(r1.topo.nodes.length:Int)))||(!b3)then(some false)else(rgl V05 J0s r1.profs 0 ())
theorem YV{r1:Room}{r:Bool}(H:Zx r1=some r):SQ U0R [Wd .rd r1] (.bool r):=by
 refine wa [.t 2] (bC2 H λb2 h2 b3 h3 H=>wH [.c 7 (QD h2),.g 12 [((!b2),false)] (.ln _ _ λ_=>lm r1.up eBo),.g 16 [((!b2),false)] (.ln _ _ λ_=>lm r1.topo.nodes Q1),.g 22 [(((!b2)||((r1.up.length:Int)!=(r1.topo.nodes.length:Int))),false)] (.ln _ _ λ_=>lm r1.profs (O2 .rd)),.g 26 [(((!b2)||((r1.up.length:Int)!=(r1.topo.nodes.length:Int))),false)] (.ln _ _ λ_=>lm r1.topo.nodes Q1),.d 32 [(_,false)] λq=>VV (bF q.1 h3)] (X0 H (λH=>sI H▸wV) λH=>wG [.l 37 r1.profs (O2 .rd)] λq4=>wL (λ(i5:Nat) (v5:Unit)=>⟨[(36,zqj r1.profs)]++zl 37 r1.profs i5,[],[],[]⟩) H (λi5 x5 v5 I m k5 A5 B5 H N27=>?_) (λv5 I m H=>?_)))
 .exact bC H λb6 h6 H=>wH [.y 40 (O2 .rd) A5,.c 43 (VV h6)] (X0 H (λH=>sI H▸wV) λH=>wH [.i 45 B5 q4.1] (wT (N27 () H)))
 .exact sI H▸wV
def YB(r1:Room)(need2:Vec)(from3 to4:Int)(x7:tP)(i7:Nat)(v7:tI)(k7:tI->Option tI):Option tI :=
 (Xx x7 from3 to4).bind λy8=>(bif y8.2 then(idx r1.up (i7:Int))else some default).bind λe9=>bif (y8.2&&e9)&&(X5 need2 y8.1)then((appL 8 v7 [(i7:Int)]).bind λxs10=>k7 xs10)else(k7 v7)
def L0f(v7:tI):Option tI :=
 some v7
def MM(r1:Room)(need2:Vec)(from3 to4:Int):Option tI :=
 (Zx r1).bind λb5=>bif !b5 then(some [])else(rgl (YB r1 need2 from3 to4) L0f r1.profs 0 [])
theorem W14{r1:Room}{need2:Vec}{from3 to4:Int}{r:tI}(H:MM r1 need2 from3 to4=some r):SQ J0y [Wd .rd r1,eVec need2,iV from3,iV to4] (zfa r):=by
 refine wb [13] [.t 8] (bC H λb5 h5 H=>wH [.c 15 (YV h5)] (X0 H (λH=>sI H▸wP (wN [(8,.f)] [] [] [13] [] [zna []])) λH=>wG [.l 20 r1.profs (O2 .rd)] λq6=>wL (λ(i7:Nat) (v7:tI)=>⟨[(2,iV from3),(3,iV to4),pB 4,pB 5,(9,.sref 13)]++zl 20 r1.profs i7,[],[(4,(Wd .rd r1).cells),(5,(eVec need2).cells)],[(13,zwa v7)]⟩) H (λi7 x7 v7 I m k7 A7 B7 H N28=>?_) (λv7 I m H=>?_)))
 .refine bC2 H λy8 h8 e9 h9 H=>wH [.y 28 (O2 .rd) A7,.c 32 (J05 h8),.g 40 [(_,true)] (.ix _ _ _ λq=>Y0 eBo (bT q.1 h9)),.d 46 [((y8.2&&e9),true)] λ_=>Z05 need2 y8.1] (X0 H (λH=>?_) λH=>wH [.i 52 B7 q6.1] (wT (N28 _ H)))
  exact bC H λxs10 h10 H=>wH [.p 51 eI h10,.i 52 B7 q6.1] (wT (N28 _ H))
 .exact sI H▸wP (wN [(8,.f)] [] [] [13] [] [zna v7])
noncomputable def Q1E:L :=
 lf Tryz.prog U11 [10] [] [] [] [(5,10)] [] []
def MU(t1:Topo)(s3 x5:Int)(_:Nat)(v5:tI)(k5:tI->Option tI):Option tI :=
 (idx t1.nodes x5).bind λe6=>(YJ t1 e6.leaf).bind λy7=>(Xd y7 s3).bind λb8=>bif b8 then((appL 8 v5 [x5]).bind λxs9=>k5 xs9)else(k5 v5)
def X0c(v5:tI):Option tI :=
 some v5
def Ql(t1:Topo)(nodes2:tI)(s3:Int):Option tI :=
 rgl (MU t1 s3) X0c nodes2 0 []
theorem Lz{t1:Topo}{nodes2:tI}{s3:Int}{r:tI}(H:Ql t1 nodes2 s3=some r):SQ U11 [Y7 .rd t1,zra nodes2,iV s3] (zfa r):=by
 refine wS Q1E [.t 6] (wG [.l 12 nodes2 eI] λq4=>wL (λ(i5:Nat) (v5:tI)=>⟨[(2,iV s3),pB 3,(7,.sref 10),(11,zra nodes2)]++zl 12 nodes2 i5,[],[(3,(Y7 .rd t1).cells)],[(10,zwa v5)]⟩) H (λi5 x5 v5 I m k5 A5 B5 H N19=>?_) (λv5 I m H=>?_))
 .refine bC3 H λe6 h6 y7 h7 b8 h8 H=>wH [.y 15 eI A5,.x 21 Q1 h6,.c 24 (L0L h7),.c 26 (Qi h8)] (X0 H (λH=>?_) λH=>wH [.i 31 B5 q4.1] (wT (N19 _ H)))
  exact bC H λxs9 h9 H=>wH [.p 30 eI h9,.i 31 B5 q4.1] (wT (N19 _ H))
 .exact sI H▸wP (wN [(6,.f)] [] [] [10] [] [zna v5])
def YL(t1:Topo)(nodes2:tI)(n3 level4 _:Int)(i6:Nat)(v6:Int)(k6:Int->Option Int):Option Int :=
 (Ql t1 nodes2 (i6:Int)).bind λy7=>(Ld t1 (i6:Int)).bind λn8=>bif decide ((y7.length:Int)<n3)||decide (level4<n8)then(k6 v6)else((bif decide (v6<0)then some default else(Ld t1 v6)).bind λn10=>(bif decide (v6<0)||decide (n8<n10)then some default else(Ld t1 v6)).bind λn11=>(bif decide (v6<0)||decide (n8<n10)then some default else(bif n8==n11 then(Ql t1 nodes2 v6)else some default)).bind λy12=>bif (decide (v6<0)||decide (n8<n10))||((n8==n11)&&decide ((y7.length:Int)<(y12.length:Int)))then(k6 (i6:Int))else(k6 v6))
def J09(v6:Int):Option Int :=
 some v6
def XD(t1:Topo)(nodes2:tI)(n3 level4:Int):Option Int :=
 rgl (YL t1 nodes2 n3 level4) J09 t1.parents 0 (-1)
theorem Q0U{t1:Topo}{nodes2:tI}{n3 level4 r:Int}(H:XD t1 nodes2 n3 level4=some r):SQ V0o [Y7 .rd t1,zra nodes2,iV n3,iV level4] (iV r):=by
 refine wa [.t 8] (wG [.l 15 t1.parents eI] λq5=>wL (λ(i6:Nat) (v6:Int)=>⟨[(1,zra nodes2),(2,iV n3),(3,iV level4),pB 4,(9,iV v6)]++zl 15 t1.parents i6,[],[(4,(Y7 .rd t1).cells)],[]⟩) H (λi6 x6 v6 I m k6 A6 B6 H N29=>?_) (λv6 I m H=>?_))
 .exact bC2 H λy7 h7 n8 h8 H=>wG [.c 22 (Lz h7),.l 23 y7 eI,.c 26 (Mf h8)] λq9=>X0 H (λH=>wH [.i 61 B6 q5.1] (wT (N29 _ H))) λH=>bC3 H λn10 h10 n11 h11 y12 h12 H=>wH [.d 41 [(_,false)] λq=>Mf (bF q.1 h10),.d 48 [(_,false)] λq=>Mf (bF q.1 h11),.d 55 [(_,true),(_,false)] λq=>Lz (bT q.1 (bF q.2.1 h12)),.g 56 [((n8==n11),true),((decide (v6<0)||decide (n8<n10)),false)] (.ln _ _ λ_=>lm y12 eI)] (X0 H (λH=>wH [.i 61 B6 q5.1] (wT (N29 _ H))) λH=>wH [.i 61 B6 q5.1] (wT (N29 _ H)))
 .exact sI H▸wV
def MF(t1:Topo)(nodes2 taken3:tI)(_:Int)(i5:Nat)(v5:Int)(k5:Int->Option Int):Option Int :=
 (Ql t1 nodes2 (i5:Int)).bind λy6=>(bif (y6.length:Int)==0 then some default else(Ww t1 (i5:Int))).bind λy7=>(bif ((y6.length:Int)==0)||decide (0<(y7.length:Int))then some default else(Xd taken3 (i5:Int))).bind λb8=>bif (((y6.length:Int)==0)||decide (0<(y7.length:Int)))||b8 then(k5 v5)else((bif decide (v5<0)then some default else(Ql t1 nodes2 v5)).bind λy10=>bif decide (v5<0)||decide ((y10.length:Int)<(y6.length:Int))then(k5 (i5:Int))else(k5 v5))
def X0m(v5:Int):Option Int :=
 some v5
def Qw(t1:Topo)(nodes2 taken3:tI):Option Int :=
 rgl (MF t1 nodes2 taken3) X0m t1.parents 0 (-1)
theorem O1b{t1:Topo}{nodes2 taken3:tI}{r:Int}(H:Qw t1 nodes2 taken3=some r):SQ U0F [Y7 .rd t1,zra nodes2,zra taken3] (iV r):=by
 refine wa [.t 6] (wG [.l 12 t1.parents eI] λq4=>wL (λ(i5:Nat) (v5:Int)=>⟨[(1,zra nodes2),(2,zra taken3),pB 3,(7,iV v5)]++zl 12 t1.parents i5,[],[(3,(Y7 .rd t1).cells)],[]⟩) H (λi5 x5 v5 I m k5 A5 B5 H N27=>?_) (λv5 I m H=>?_))
 .exact bC3 H λy6 h6 y7 h7 b8 h8 H=>wG [.c 19 (Lz h6),.l 20 y6 eI,.d 26 [(_,false)] λq=>L04 (bF q.1 h7),.g 27 [(((y6.length:Int)==0),false)] (.ln _ _ λ_=>lm y7 eI),.d 33 [(_,false)] λq=>Qi (bF q.1 h8)] λq9=>X0 H (λH=>wH [.i 47 B5 q4.1] (wT (N27 _ H))) λH=>bC H λy10 h10 H=>wH [.d 42 [(_,false)] λq=>Lz (bF q.1 h10),.g 43 [((decide (v5<0)),false)] (.ln _ _ λ_=>lm y10 eI)] (X0 H (λH=>wH [.i 47 B5 q4.1] (wT (N27 _ H))) λH=>wH [.i 47 B5 q4.1] (wT (N27 _ H)))
 .exact sI H▸wV
noncomputable def L1f:L :=
 lf Tryz.prog X0F [9] [] [] [] [] [] [15667,63]
def OF(x4:Int)(k4:(Bool×tI)->Option tI)(v6:Bool×tI):Option tI :=
 (appL 8 v6.2 [x4]).bind λxs7=>k4 (v6.1,xs7)
def Ul(v9:tI):Option tI :=
 some v9
def Qt(n2 x4:Int)(_:Nat)(v4:Bool×tI)(k4:(Bool×tI)->Option tI):Option tI :=
 bif (!v4.1)&&decide (n2<x4)then((appL 8 v4.2 [n2]).bind λxs5=>(OF x4 k4) (true,xs5))else((OF x4 k4) (v4.1,v4.2))
def Vl(n2:Int)(v4:Bool×tI):Option tI :=
 bif !v4.1 then((appL 8 v4.2 [n2]).bind λxs8=>Ul xs8)else(Ul v4.2)
def MI(l1:tI)(n2:Int):Option tI :=
 rgl (Qt n2) (Vl n2) l1 0 (false,[])
theorem Y0s{l1:tI}{n2:Int}{r:tI}(H:MI l1 n2=some r):SQ X0F [zra l1,iV n2] (zfa r):=by
 refine wS L1f [.t 4] (wG [.l 11 l1 eI] λq3=>wL (λ(i4:Nat) (v4:Bool×tI)=>⟨[(1,iV n2),(5,.sref 9),(6,.bool v4.1),(10,zra l1)]++zl 11 l1 i4,[],[],[(9,zwa v4.2)]⟩) H (λi4 x4 v4 I m k4 A4 B4 H N24=>?_) (λv4 I m H=>?_))
 .refine wH [.y 14 eI A4] (Xi (r:=r) (OF x4 k4) 0 (λv6:Bool×tI=>⟨[(1,.int .i64 n2),(5,.sref 9),(6,.bool v6.1),(8,.int .i64 x4),(10,.sl .rd 1 (l1.map eI)),(11,.int .i64 (l1.length:Int)),(12,.int .i64 (i4:Int))],[],[],[(9,zwa v6.2)]⟩) (by kernel_rfl) (λv6 H=>?_) (λJ16=>?_))
  .exact bC H λxs7 h7 H=>wH [.p 30 eI h7,.i 31 B4 q3.1] (wT (N24 _ H))
  .refine X0 H ?_ ?_<;>intro H
   .exact bC H λxs5 h5 H=>wH [.p 26 eI h5] (wT (J16 _ H))
   .exact wP (wT (J16 _ H))
 .refine wP (Xi (r:=r) Ul 0 (λv9:tI=>⟨[(5,.sref 9)],[],[],[(9,zwa v9)]⟩) (by kernel_rfl) (λv9 H=>?_) (λJ34=>?_))
  .exact sI H▸wP (wN [(4,.f)] [] [] [9] [] [zna v9])
  .refine X0 H ?_ ?_<;>intro H
   .exact bC H λxs8 h8 H=>wH [.p 37 eI h8] (wT (J34 _ H))
   .exact wP (wT (J34 _ H))
noncomputable def V1r:L :=
 lf Tryz.prog Y0S [57,58] [] [] [] [(6,14)] [] []
def LM(n3 x17:Int)(_:Nat)(v17:tI)(k17:tI->Option (tI×Bool)):Option (tI×Bool) :=
 bif decide ((v17.length:Int)<n3)then((MI v17 x17).bind λy19=>k17 y19)else(k17 v17)
def Y06(k11:(tI×tI)->Option (tI×Bool))(xs14:tI)(v17:tI):Option (tI×Bool) :=
 k11 (v17,xs14)
def Qx(t1:Topo)(n3:Int)(y10:tI)(v11:tI×tI)(k11:(tI×tI)->Option (tI×Bool)):Option (tI×Bool) :=
 bif decide ((v11.1.length:Int)<n3)then((Qw t1 y10 v11.2).bind λn13=>(appL 8 v11.2 [n13]).bind λxs14=>(Ql t1 y10 n13).bind λy15=>rgl (LM n3) (Y06 k11 xs14) y15 0 v11.1)else(some (v11.1,true))
def V06(nodes2:tI)(x7:Int)(i7:Nat)(_:Unit)(k7:Unit->Option (tI×Bool)):Option (tI×Bool) :=
 (bif decide (0<(i7:Int))then(idx nodes2 (w64 ((i7:Int)-1)))else some default).bind λe8=>bif decide (0<(i7:Int))&&decide (x7<=e8)then(some ([],false))else(k7 ())
def X06(t1:Topo)(nodes2:tI)(n3 level4:Int)(_:Unit):Option (tI×Bool) :=
 (XD t1 nodes2 n3 level4).bind λn9=>bif decide (n9<0)then(some ([],false))else((Ql t1 nodes2 n9).bind λy10=>whl (Qx t1 n3 y10) 9223372036854775807 ([],[]))
def U06(t1:Topo)(nodes2:tI)(n3 level4:Int):Option (tI×Bool) :=
 (Zm t1 nodes2).bind λb5=>bif (!b5)||decide (n3<1)then(some ([],false))else(rgl (V06 nodes2) (X06 t1 nodes2 n3 level4) nodes2 0 ())
theorem W1o{t1:Topo}{nodes2:tI}{n3 level4:Int}{r:tI×Bool}(H:U06 t1 nodes2 n3 level4=some r):SQ Y0S [Y7 .rd t1,zra nodes2,iV n3,iV level4] (.tup [zfa r.1,.bool r.2]):=by
 refine wS V1r [.t 8,.t 9] (bC H λb5 h5 H=>wH [.c 20 (LY h5)] (X0 H (λH=>sI H▸wP (wN [(8,.n 1),(9,.d)] [] [] [] [] [zna []])) λH=>wG [.l 27 nodes2 eI] λq6=>wL (λ(i7:Nat) (v7:Unit)=>⟨[(1,zra nodes2),(2,iV n3),(3,iV level4),pB 4]++zl 27 nodes2 i7,[],[(4,(Y7 .rd t1).cells)],[]⟩) H (λi7 x7 v7 I m k7 A7 B7 H N27=>?_) (λv7 I m H=>?_)))
 .exact bC H λe8 h8 H=>wH [.g 37 [(_,true)] (.ix _ _ _ λq=>Y0 eI (bT q.1 h8)),.g 41 [((decide (0<(i7:Int))),true)] (.ix _ _ _ λ_=>Y0 eI (O0 A7))] (X0 H (λH=>sI H▸wP (wN [(8,.n 1),(9,.d)] [] [] [] [] [zna []])) λH=>wH [.i 45 B7 q6.1] (wT (N27 () H)))
 .refine bC H λn9 h9 H=>wH [.c 50 (Q0U h9)] (X0 H (λH=>sI H▸wP (wN [(8,.n 1),(9,.d)] [] [] [] [] [zna []])) λH=>bC H λy10 h10 H=>wH [.c 56 (Lz h10)] (Z1z (λ(v11:tI×tI)=>⟨[(2,iV n3),pB 4,(12,zfa y10),(13,zfa v11.1),(14,.sref 58)],[],[(4,(Y7 .rd t1).cells)],[(58,zwa v11.2)]⟩) [(13,.f)] [] [] [57] (by kernel_rfl) (by kernel_rfl) H (λv11 I m k11 H N72=>?_)))
  refine wG [.l 60 v11.1 eI] λq12=>X0 H (λH=>?_) λH=>sI H▸wQ [] [zna v11.1]
  refine bC3 H λn13 h13 xs14 h14 y15 h15 H=>wG [.c 66 (O1b h13),.p 70 eI h14,.c 74 (Lz h15),.l 75 y15 eI] λq16=>wL (λ(i17:Nat) (v17:tI)=>⟨[(2,iV n3),pB 4,(12,zfa y10),(13,zfa v17),(14,.sref 58),(74,zfa y15)]++zl 75 y15 i17,[],[(4,(Y7 .rd t1).cells)],[(58,zwa xs14)]⟩) H (λi17 x17 v17 I m k17 A17 B17 H N65=>?_) (λv17 I m H=>?_)
  .refine wG [.y 78 eI A17,.l 81 v17 eI] λq18=>X0 H (λH=>?_) λH=>wH [.i 87 B17 q16.1] (wT (N65 _ H))
   exact bC H λy19 h19 H=>wH [.c 86 (Y0s h19),.i 87 B17 q16.1] (wT (N65 _ H))
  .exact wP (wT (N72 _ H))
noncomputable def X15:L :=
 lf Tryz.prog Y0y [11,12] [] [] [20] [] [(2,[],[],[2,4,8,10,12,18,1,7,15,17],10)] []
def Mz(from2:Int)(x8:Pt)(_:Nat)(v8:tI)(k8:tI->Option tI):Option tI :=
 (bif decide (from2<x8.t)then(Xd v8 x8.t)else some default).bind λb9=>bif decide (from2<x8.t)&&(!b9)then((MI v8 x8.t).bind λy10=>k8 y10)else(k8 v8)
def ZR(k6:tI->Option tI)(v8:tI):Option tI :=
 k6 v8
def Oz(from2:Int)(x6:tP)(_:Nat)(v6:tI)(k6:tI->Option tI):Option tI :=
 rgl (Mz from2) (ZR k6) x6 0 v6
def JQ(v6:tI):Option tI :=
 some v6
def ZL(r1:Room)(from2:Int):Option tI :=
 (appL 24 ([]:List tP) r1.profs).bind λxs3=>(appL 24 xs3 [r1.lics]).bind λxs4=>(lenQ xs4).bind λ_=>rgl (Oz from2) JQ xs4 0 [from2]
theorem Q13{r1:Room}{from2:Int}{r:tI}(H:ZL r1 from2=some r):SQ Y0y [Wd .rd r1,iV from2] (zfa r):=by
 refine wS X15 [.t 4] (bC3 H λxs3 h3 xs4 h4 u5 h5 H=>wH [.p 15 (O2 .rd) h3,.p 19 (O2 .rd) h4,.u 20 (.le _ _ (λ_=>lm xs4 (O2 .rd)) (λ_=>J0V h5))] (M01 (λ(i6:Nat) (v6:tI)=>⟨[(1,iV from2),(5,zfa v6),(19,.sref 12)]++zl 20 xs4 i6,[],[],[(12,⟨1,xs4.map (O2 .rd),false⟩)]⟩) [(5,.f)] [] [] [11] (by kernel_rfl) (by kernel_rfl) H (λi6 x6 v6 I m k6 A6 B6 H N34=>?_) (λv6 I m H=>?_)))
 .refine wP (wt (ltT B6) ?_)
  refine wG [.y 23 (O2 .rd) A6,.u 24 (.el _ _ _ λ_=>gm (O2 .rd) (V4 (O0 A6))),.l 27 x6 ePt] λq7=>wL (λ(i8:Nat) (v8:tI)=>⟨[(1,iV from2),(5,zfa v8),(19,.sref 12),(20,iV (xs4.length:Int)),(21,iV (i6:Int)),(26,zri x6)]++zl 27 x6 i8,[],[],[(12,⟨1,xs4.map (O2 .rd),false⟩)]⟩) H (λi8 x8 v8 I m k8 A8 B8 H N25=>?_) (λv8 I m H=>?_)
  .refine bC H λb9 h9 H=>wH [.y 30 ePt A8,.d 40 [(_,true)] λq=>Qi (bT q.1 h9)] (X0 H (λH=>?_) λH=>wH [.i 47 B8 q7.1] (wT (N25 _ H)))
   exact bC H λy10 h10 H=>wH [.c 46 (Y0s h10),.i 47 B8 q7.1] (wT (N25 _ H))
  .exact wH [.i 48 B6 (J0V h5)] (wT (N34 _ H))
 .refine wP (wf (ltF xs4.length) ?_)
  exact sI H▸wQ [] [zna v6]
def M04(r1:Room)(j2:Job)(t3:Int):Option (tI×Bool) :=
 (Xx r1.lics t3 (w64 (t3+j2.wall))).bind λy4=>bif (!y4.2)||(!(X5 j2.lic y4.1))then(some ([],false))else((MM r1 j2.need t3 (w64 (t3+j2.wall))).bind λy5=>(U06 r1.topo y5 j2.nodes j2.level).bind λy6=>some (y6.1,y6.2))
theorem Q1n{r1:Room}{j2:Job}{t3:Int}{r:tI×Bool}(H:M04 r1 j2 t3=some r):SQ Z0R [Wd .rd r1,eJob j2,iV t3] (.tup [zfa r.1,.bool r.2]):=by
 exact wc [(4,20)] [.t 6,.t 7] (bC H λy4 h4 H=>wH [.c 18 (J05 h4),.d 27 [((!y4.2),false)] λ_=>Z05 j2.lic y4.1] (X0 H (λH=>sI H▸wP (wN [(6,.n 1),(7,.d)] [] [] [] [] [zna []])) λH=>bC2 H λy5 h5 y6 h6 H=>wH [.c 40 (W14 h5),.c 45 (W1o h6)] (sI H▸wM [] [zna y6.1])))
def ZS(r1:Room)(j2:Job)(x7:Int)(_:Nat)(_:Unit)(k7:Unit->Option (Int×tI×Bool)):Option (Int×tI×Bool) :=
 (M04 r1 j2 x7).bind λy8=>bif y8.2 then(some (x7,y8.1,true))else(k7 ())
def JR(_:Unit):Option (Int×tI×Bool) :=
 some (0,[],false)
def Vm(r1:Room)(j2:Job)(from3:Int):Option (Int×tI×Bool) :=
 (Zx r1).bind λb4=>bif ((!b4)||(!(Y1 j2)))||(!(Q3 from3))then(some (0,[],false))else((ZL r1 from3).bind λy5=>rgl (ZS r1 j2) JR y5 0 ())
theorem Y0n{r1:Room}{j2:Job}{from3:Int}{r:Int×tI×Bool}(H:Vm r1 j2 from3=some r):SQ Z0z [Wd .rd r1,eJob j2,iV from3] (.tup [iV r.1,zfa r.2.1,.bool r.2.2]):=by
 refine wa [.t 6,.t 7,.t 8] (bC H λb4 h4 H=>wH [.c 14 (YV h4),.d 18 [((!b4),false)] λ_=>OM j2,.d 23 [(((!b4)||(!(Y1 j2))),false)] λ_=>X9 from3] (X0 H (λH=>sI H▸wP (wN [(6,.d),(7,.n 1),(8,.d)] [] [] [] [] [zna []])) λH=>bC H λy5 h5 H=>wG [.c 28 (Q13 h5),.l 29 y5 eI] λq6=>wL (λ(i7:Nat) (v7:Unit)=>⟨[pB 3,pB 4,(28,zfa y5)]++zl 29 y5 i7,[],[(3,(Wd .rd r1).cells),(4,(eJob j2).cells)],[]⟩) H (λi7 x7 v7 I m k7 A7 B7 H N29=>?_) (λv7 I m H=>?_)))
 .exact bC H λy8 h8 H=>wH [.y 32 eI A7,.c 38 (Q1n h8)] (X0 H (λH=>sI H▸wQ [] [zna y8.1]) λH=>wH [.i 44 B7 q6.1] (wT (N29 () H)))
 .exact sI H▸wP (wN [(6,.d),(7,.n 1),(8,.d)] [] [] [] [] [zna []])
def LI(p1:tP):Option tP :=
 (appL 32 ([]:tP) p1).bind λxs2=>some xs2
theorem X0s{p1:tP}{r:tP}(H:LI p1=some r):SQ V0F [.agg [zri p1]] (O2 .nw r):=by
 exact wb [3] [.c 2 1 true] (bC H λxs2 h2 H=>wH [.p 6 ePt h2] (sI H▸wO [(2,[.f])] [] [3] [] [zni xs2]))
noncomputable def X1g:L :=
 lf Tryz.prog W0F [6] [(14,0),(18,0),(19,0),(23,0)] [] [] [(2,12),(6,5)] [(1,[],[8],[2,4,8,10,1,7,12,15],9)] []
def LF(x7:tP)(_:Nat)(v7:(List tP))(k7:(List tP)->Option Room):Option Room :=
 (LI x7).bind λy8=>(appL 24 v7 [y8]).bind λxs9=>k7 xs9
def MY(xs2:tB)(y3:tP)(xs4:tI)(xs5:List Node)(v7:(List tP)):Option Room :=
 some (Room.mk (Topo.mk xs4 xs5) xs2 v7 y3)
def ZJ(r1:Room):Option Room :=
 (appL 1 ([]:tB) r1.up).bind λxs2=>(LI r1.lics).bind λy3=>(appL 8 ([]:tI) r1.topo.parents).bind λxs4=>(appL 32 ([]:List Node) r1.topo.nodes).bind λxs5=>rgl LF (MY xs2 y3 xs4 xs5) r1.profs 0 []
theorem Q0s{r1 r:Room}(H:ZJ r1=some r):SP W0F [Wd .rd r1] (.agg [zfa r.topo.parents,zfe r.topo.nodes,.sref 0,.sref 1,zfi r.lics]) [zwd r.up,zwj r.profs]:=by
 refine wS X1g [.c 2 5 true] (bC3 H λxs2 h2 y3 h3 xs4 h4 H=>bC H λxs5 h5 H=>wG [.p 9 eBo h2,.c 12 (X0s h3),.p 18 eI h4,.p 23 Q1 h5,.l 28 r1.profs (O2 .rd)] λq6=>M01 (λ(i7:Nat) (v7:(List tP))=>⟨[pB 2,pB 3,(27,zqj r1.profs)]++zl 28 r1.profs i7,[],[(2,z4),(3,[zfa xs4,zfe xs5,.sref 6,.sref 386001,zfi y3])],[(6,zwd xs2),(386001,zwj v7)]⟩) [] [(3,[.d,.d,.d,.z 386001,.d])] [(386001,(none,1))] [] (by kernel_rfl) (by kernel_rfl) H (λi7 x7 v7 I m k7 A7 B7 H N16=>?_) (λv7 I m H=>?_))
 .refine wP (wt (ltT B7) ?_)
  exact bC2 H λy8 h8 xs9 h9 H=>wH [.y 31 (O2 .rd) A7,.c 36 (X0s h8),.p 38 (O2 .nw) h9,.i 40 B7 q6.1] (wT (N16 _ H))
 .refine wP (wf (ltF r1.profs.length) ?_)
  exact sI H▸wY [(2,[])] [(6,some 6,0),(386001,some 386001,0)] [] [some 6,some 386001] [zna xs4,zne xs5,zni y3,znd xs2,znj v7]
def OY(nodes3:tI)(x7:Int)(i7:Nat)(_:Unit)(k7:Unit->Option Bool):Option Bool :=
 (cutL nodes3 none (some (i7:Int))).bind λxs8=>(Xd xs8 x7).bind λb9=>bif b9 then(some false)else(k7 ())
def V0m(_:Unit):Option Bool :=
 some true
def JI(r1:Room)(j2:Job)(nodes3:tI):Option Bool :=
 (Zx r1).bind λb4=>(bif ((!b4)||(!(Y1 j2)))||((nodes3.length:Int)!=j2.nodes)then some default else(Zm r1.topo nodes3)).bind λb5=>bif (((!b4)||(!(Y1 j2)))||((nodes3.length:Int)!=j2.nodes))||(!b5)then(some false)else(rgl (OY nodes3) V0m nodes3 0 ())
theorem V0s{r1:Room}{j2:Job}{nodes3:tI}{r:Bool}(H:JI r1 j2 nodes3=some r):SQ Q0F [Wd .rd r1,eJob j2,zra nodes3] (.bool r):=by
 refine wa [.t 6] (bC2 H λb4 h4 b5 h5 H=>wH [.c 10 (YV h4),.d 14 [((!b4),false)] λ_=>OM j2,.g 19 [(((!b4)||(!(Y1 j2))),false)] (.ln _ _ λ_=>lm nodes3 eI),.d 28 [(_,false)] λq=>LY (bF q.1 h5)] (X0 H (λH=>sI H▸wV) λH=>wG [.l 32 nodes3 eI] λq6=>wL (λ(i7:Nat) (v7:Unit)=>⟨[(2,zra nodes3),(31,zra nodes3)]++zl 32 nodes3 i7,[],[],[]⟩) H (λi7 x7 v7 I m k7 A7 B7 H N27=>?_) (λv7 I m H=>?_)))
 .exact bC2 H λxs8 h8 b9 h9 H=>wH [.y 36 eI A7,.u 40 (.sc _ _ _ _ λ_=>Ut eI h8),.c 42 (Qi h9)] (X0 H (λH=>sI H▸wV) λH=>wH [.i 43 B7 q6.1] (wT (N27 () H)))
 .exact sI H▸wV
noncomputable def Y1h:L :=
 lf Tryz.prog V0G [] [(29,1)] [] [] [] [(7,[],[16],[0,4,10,12,14,16,18,20,22,3,7,9,24,26,28,30],17)] []
def M0m(j2:Job)(at3 x8:Int)(_:Nat)(v8:(List tP))(k8:(List tP)->Option (Room×Bool)):Option (Room×Bool) :=
 (idx v8 x8).bind λe9=>(Mh e9 at3 (w64 (at3+j2.wall)) j2.need).bind λy10=>bif !y10.2 then(some ((Room.mk (Topo.mk [] []) [] [] []),false))else(k8 (v8.set x8.toNat y10.1))
def O0m(j2:Job)(at3:Int)(y6:Room)(v8:(List tP)):Option (Room×Bool) :=
 (Mh y6.lics at3 (w64 (at3+j2.wall)) j2.lic).bind λy11=>bif !y11.2 then(some ((Room.mk (Topo.mk [] []) [] [] []),false))else(some ((Room.mk y6.topo y6.up v8 y11.1),true))
def Qr(r1:Room)(j2:Job)(at3:Int)(nodes4:tI):Option (Room×Bool) :=
 (JI r1 j2 nodes4).bind λb5=>bif (!b5)||(!(Q3 at3))then(some ((Room.mk (Topo.mk [] []) [] [] []),false))else((ZJ r1).bind λy6=>rgl (M0m j2 at3) (O0m j2 at3 y6) nodes4 0 y6.profs)
theorem Y0t{r1:Room}{j2:Job}{at3:Int}{nodes4:tI}{r:Room×Bool}(H:Qr r1 j2 at3 nodes4=some r):SQ V0G [Wd .rd r1,eJob j2,iV at3,zra nodes4] (.tup [Wd .nw r.1,.bool r.2]):=by
 refine wS Y1h [.c 8 5 true,.t 9] (bC H λb5 h5 H=>wH [.c 20 (V0s h5),.d 24 [((!b5),false)] λ_=>X9 at3] (X0 H (λH=>sI H▸wQ [(8,z3)] [zna [],zne [],znd [],znj ([]:List tP),zni []]) λH=>bC H λy6 h6 H=>wG [.c 29 (Q0s h6),.l 31 nodes4 eI] λq7=>wL (λ(i8:Nat) (v8:(List tP))=>⟨[(2,iV at3),pB 5,pB 8,pB 10,(30,zra nodes4)]++zl 31 nodes4 i8,[],[(5,(eJob j2).cells),(8,z4),(10,[zfa y6.topo.parents,zfe y6.topo.nodes,.sref 30000,.sref 30001,zfi y6.lics])],[(30000,zwd y6.up),(30001,zwj v8)]⟩) H (λi8 x8 v8 I m k8 A8 B8 H N32=>?_) (λv8 I m H=>?_)))
 .exact bC2 H λe9 h9 y10 h10 H=>wH [.y 34 eI A8,.x 40 (O2 .nw) h9,.u 41 (.el _ _ _ λ_=>gm (O2 .nw) (V4 h9)),.c 49 (L0m h10)] (X0 H (λH=>sI H▸wQ [(8,z3)] [zna [],zne [],znd [],znj ([]:List tP),zni []]) λH=>wH [.x 59 (O2 .nw) h9,.u 1000000 (.sto _ _ _ (O2 .nw y10.1) _ (λ_=>gm (O2 .nw) (V4 h9)) (λ_=>YS ..)),.i 60 B8 q7.1] (wT (N32 _ H)))
 .exact bC H λy11 h11 H=>wH [.c 71 (L0m h11)] (X0 H (λH=>sI H▸wQ [(8,z3)] [zna [],zne [],znd [],znj ([]:List tP),zni []]) λH=>sI H▸wY [(8,[.d,.d,.f,.f,.d])] [] [30000,30001] [] [zna y6.topo.parents,zne y6.topo.nodes,znd y6.up,znj v8,zni y11.1])
noncomputable def Q16:L :=
 lf Tryz.prog W0z [] [] [] [] [(5,5)] [(1,[],[10],[0,2,4,6,8,12,14,11,16,19],11)] []
def WB(x6:tP)(_:Nat)(v6:(List tP))(k6:(List tP)->Option Room):Option Room :=
 (OB x6).bind λy7=>(appL 24 v6 [y7]).bind λxs8=>k6 xs8
def JS(y2:Topo)(xs3:tB)(y4:tP)(v6:(List tP)):Option Room :=
 some (Room.mk y2 xs3 v6 y4)
def ZO(r1:Room):Option Room :=
 (Mm r1.topo).bind λy2=>(appL 1 ([]:tB) r1.up).bind λxs3=>(OB r1.lics).bind λy4=>rgl WB (JS y2 xs3 y4) r1.profs 0 []
theorem Z18{r1 r:Room}(H:ZO r1=some r):SP W0z [Wd .rd r1] (.agg [zfa r.topo.parents,zfe r.topo.nodes,zfd r.up,.sref 0,zfi r.lics]) [zwj r.profs]:=by
 refine wS Q16 [.c 2 5 true] (bC3 H λy2 h2 xs3 h3 y4 h4 H=>wG [.c 8 (Z00 h2),.p 11 eBo h3,.c 14 (Q0n h4),.l 18 r1.profs (O2 .rd)] λq5=>M01 (λ(i6:Nat) (v6:(List tP))=>⟨[pB 2,pB 3,(17,zqj r1.profs)]++zl 18 r1.profs i6,[],[(2,z4),(3,[zfa y2.parents,zfe y2.nodes,.sref 11,.sref 386001,zfi y4])],[(11,zwd xs3),(386001,zwj v6)]⟩) [] [(3,[.d,.d,.d,.z 386001,.d])] [(386001,(none,1))] [] (by kernel_rfl) (by kernel_rfl) H (λi6 x6 v6 I m k6 A6 B6 H N15=>?_) (λv6 I m H=>?_))
 .refine wP (wt (ltT B6) ?_)
  exact bC2 H λy7 h7 xs8 h8 H=>wH [.y 21 (O2 .rd) A6,.c 26 (Q0n h7),.p 28 (O2 .nw) h8,.i 30 B6 q5.1] (wT (N15 _ H))
 .refine wP (wf (ltF r1.profs.length) ?_)
  exact sI H▸wY [(2,[.d,.d,.f,.d,.d])] [(386001,some 386001,0)] [11] [some 386001] [zna y2.parents,zne y2.nodes,znd xs3,zni y4,znj v6]
def V0b(j1:Job):Option Bool :=
 some (((((((Z0 j1.id 1 999)&&(Z0 j1.prio 0 999))&&(Z0 j1.nodes 1 24))&&(Z2 j1.need))&&(Z2 j1.lic))&&(Z0 j1.wall 1 1000000))&&(Z0 j1.level 0 24))
theorem M1k{j1:Job}{r:Bool}(H:V0b j1=some r):SQ U0A [eJob j1] (.bool r):=by
 exact wa [.t 2] (wH [.c 5 (V1 j1.id 1 999),.d 9 [((Z0 j1.id 1 999),true)] λ_=>V1 j1.prio 0 999,.d 14 [(((Z0 j1.id 1 999)&&(Z0 j1.prio 0 999)),true)] λ_=>V1 j1.nodes 1 24,.d 19 [((((Z0 j1.id 1 999)&&(Z0 j1.prio 0 999))&&(Z0 j1.nodes 1 24)),true)] λ_=>V6 j1.need,.d 24 [(((((Z0 j1.id 1 999)&&(Z0 j1.prio 0 999))&&(Z0 j1.nodes 1 24))&&(Z2 j1.need)),true)] λ_=>V6 j1.lic,.d 29 [((((((Z0 j1.id 1 999)&&(Z0 j1.prio 0 999))&&(Z0 j1.nodes 1 24))&&(Z2 j1.need))&&(Z2 j1.lic)),true)] λ_=>V1 j1.wall 1 1000000,.d 34 [(((((((Z0 j1.id 1 999)&&(Z0 j1.prio 0 999))&&(Z0 j1.nodes 1 24))&&(Z2 j1.need))&&(Z2 j1.lic))&&(Z0 j1.wall 1 1000000)),true)] λ_=>V1 j1.level 0 24] (sI H▸wD))
def Yb(j1:Job):Bool :=
 (((((((Z0 j1.id 1 999)&&(Z0 j1.prio 0 999))&&(Z0 j1.nodes 1 24))&&(Z2 j1.need))&&(Z2 j1.lic))&&(Z0 j1.wall 1 1000000))&&(Z0 j1.level 0 24))
theorem O1O(j1:Job):V0b j1=some (Yb j1):=by
 unfold V0b Yb
 first|rfl|simp only[U4]
theorem VC(j1:Job):Snd Tryz.prog U0A [eJob j1] (.bool (Yb j1)) []:=M1k (O1O j1)
def X08(x4:tP)(_:Nat)(_:Unit)(k4:Unit->Option Bool):Option Bool :=
 (JH x4).bind λb5=>bif !b5 then(some false)else(k4 ())
def Y08(r1:Room)(_:Unit):Option Bool :=
 (JH r1.lics).bind λb6=>some b6
def OH(r1:Room):Option Bool :=
 (Jn r1.topo).bind λb2=>bif ((!b2)||((r1.up.length:Int)!=(r1.topo.nodes.length:Int)))||((r1.profs.length:Int)!=(r1.topo.nodes.length:Int))then(some false)else(rgl X08 (Y08 r1) r1.profs 0 ())
theorem W0d{r1:Room}{r:Bool}(H:OH r1=some r):SQ Z0T [Wd .rd r1] (.bool r):=by
 refine wa [.t 2] (bC H λb2 h2 H=>wH [.c 7 (UE h2),.g 12 [((!b2),false)] (.ln _ _ λ_=>lm r1.up eBo),.g 16 [((!b2),false)] (.ln _ _ λ_=>lm r1.topo.nodes Q1),.g 22 [(((!b2)||((r1.up.length:Int)!=(r1.topo.nodes.length:Int))),false)] (.ln _ _ λ_=>lm r1.profs (O2 .rd)),.g 26 [(((!b2)||((r1.up.length:Int)!=(r1.topo.nodes.length:Int))),false)] (.ln _ _ λ_=>lm r1.topo.nodes Q1)] (X0 H (λH=>sI H▸wV) λH=>wG [.l 31 r1.profs (O2 .rd)] λq3=>wL (λ(i4:Nat) (v4:Unit)=>⟨[pB 1,(30,zqj r1.profs)]++zl 31 r1.profs i4,[],[(1,(Wd .rd r1).cells)],[]⟩) H (λi4 x4 v4 I m k4 A4 B4 H N27=>?_) (λv4 I m H=>?_)))
 .exact bC H λb5 h5 H=>wH [.y 34 (O2 .rd) A4,.c 37 (J0d h5)] (X0 H (λH=>sI H▸wV) λH=>wH [.i 39 B4 q3.1] (wT (N27 () H)))
 .exact bC H λb6 h6 H=>wH [.c 42 (J0d h6)] (sI H▸wD)
noncomputable def V16:L :=
 lf Tryz.prog U0z [12] [] [] [] [(5,13)] [] []
def OS(r1:Room)(need2:Vec)(from3 to4:Int)(x6:tP)(i6:Nat)(v6:tI)(k6:tI->Option tI):Option tI :=
 (idx r1.up (i6:Int)).bind λe7=>(bif e7 then(Yq x6 from3 to4)else some default).bind λy8=>bif e7&&(OJ need2 y8)then((appL 8 v6 [(i6:Int)]).bind λxs9=>k6 xs9)else(k6 v6)
def U0g(v6:tI):Option tI :=
 some v6
def LN(r1:Room)(need2:Vec)(from3 to4:Int):Option tI :=
 rgl (OS r1 need2 from3 to4) U0g r1.profs 0 []
theorem L17{r1:Room}{need2:Vec}{from3 to4:Int}{r:tI}(H:LN r1 need2 from3 to4=some r):SQ U0z [Wd .rd r1,eVec need2,iV from3,iV to4] (zfa r):=by
 refine wS V16 [.t 8] (wG [.l 15 r1.profs (O2 .rd)] λq5=>wL (λ(i6:Nat) (v6:tI)=>⟨[(2,iV from3),(3,iV to4),pB 4,pB 5,(9,.sref 12),(14,zqj r1.profs)]++zl 15 r1.profs i6,[],[(4,(Wd .rd r1).cells),(5,(eVec need2).cells)],[(12,zwa v6)]⟩) H (λi6 x6 v6 I m k6 A6 B6 H N19=>?_) (λv6 I m H=>?_))
 .refine bC2 H λe7 h7 y8 h8 H=>wH [.y 19 (O2 .rd) A6,.x 24 eBo h7,.d 31 [(_,true)] λq=>Z0b (bT q.1 h8),.d 32 [(e7,true)] λ_=>W0v need2 y8] (X0 H (λH=>?_) λH=>wH [.i 38 B6 q5.1] (wT (N19 _ H)))
  exact bC H λxs9 h9 H=>wH [.p 37 eI h9,.i 38 B6 q5.1] (wT (N19 _ H))
 .exact sI H▸wP (wN [(8,.f)] [] [] [12] [] [zna v6])
noncomputable def W1F:L :=
 lf Tryz.prog X12 [10] [] [] [] [(5,10)] [] []
def X0d(t1:Topo)(s3 x5:Int)(_:Nat)(v5:tI)(k5:tI->Option tI):Option tI :=
 (idx t1.nodes x5).bind λe6=>(Q0g t1 e6.leaf).bind λy7=>(Z5 y7 s3).bind λb8=>bif b8 then((appL 8 v5 [x5]).bind λxs9=>k5 xs9)else(k5 v5)
def O0D(v5:tI):Option tI :=
 some v5
def XS(t1:Topo)(nodes2:tI)(s3:Int):Option tI :=
 rgl (X0d t1 s3) O0D nodes2 0 []
theorem W0O{t1:Topo}{nodes2:tI}{s3:Int}{r:tI}(H:XS t1 nodes2 s3=some r):SQ X12 [Y7 .rd t1,zra nodes2,iV s3] (zfa r):=by
 refine wS W1F [.t 6] (wG [.l 12 nodes2 eI] λq4=>wL (λ(i5:Nat) (v5:tI)=>⟨[(2,iV s3),pB 3,(7,.sref 10),(11,zra nodes2)]++zl 12 nodes2 i5,[],[(3,(Y7 .rd t1).cells)],[(10,zwa v5)]⟩) H (λi5 x5 v5 I m k5 A5 B5 H N19=>?_) (λv5 I m H=>?_))
 .refine bC3 H λe6 h6 y7 h7 b8 h8 H=>wH [.y 15 eI A5,.x 21 Q1 h6,.c 24 (Z0P h7),.c 26 (O9 h8)] (X0 H (λH=>?_) λH=>wH [.i 31 B5 q4.1] (wT (N19 _ H)))
  exact bC H λxs9 h9 H=>wH [.p 30 eI h9,.i 31 B5 q4.1] (wT (N19 _ H))
 .exact sI H▸wP (wN [(6,.f)] [] [] [10] [] [zna v5])
noncomputable def V1s:L :=
 lf Tryz.prog M0S [79,110] [(109,2),(144,2)] [] [] [] [] [1022]
def Wy(t1:Topo)(n3 x20 x22:Int)(_:Nat)(v22:tI)(k22:tI->Option (tI×Bool)):Option (tI×Bool) :=
 (idx t1.nodes x22).bind λe23=>bif (e23.leaf==x20)&&decide ((v22.length:Int)<n3)then((appL 8 v22 [x22]).bind λxs24=>k22 xs24)else(k22 v22)
def W07(k20:tI->Option (tI×Bool))(v22:tI):Option (tI×Bool) :=
 k20 v22
def X00(t1:Topo)(n3:Int)(y10:tI)(x20:Int)(_:Nat)(v20:tI)(k20:tI->Option (tI×Bool)):Option (tI×Bool) :=
 rgl (Wy t1 n3 x20) (W07 k20) y10 0 v20
def Y00(v20:tI):Option (tI×Bool) :=
 (J1A v20).bind λxs25=>some (xs25,true)
def M07(t1:Topo)(x13:Int)(_:Nat)(v13:tI×tI)(k13:(tI×tI)->Option (tI×Bool)):Option (tI×Bool) :=
 (idx t1.nodes x13).bind λe14=>(idx v13.1 e14.leaf).bind λe15=>(Z5 v13.2 e14.leaf).bind λb16=>bif !b16 then((appL 8 v13.2 [e14.leaf]).bind λxs17=>k13 ((v13.1.set e14.leaf.toNat (w64 (e15+1))),xs17))else(k13 ((v13.1.set e14.leaf.toNat (w64 (e15+1))),v13.2))
def O07(t1:Topo)(n3:Int)(y10:tI)(v13:tI×tI):Option (tI×Bool) :=
 (L0A v13.1 v13.2).bind λxs18=>rgl (X00 t1 n3 y10) Y00 xs18 0 []
def L07(t1:Topo)(nodes2:tI)(n3 most4 _:Int)(i6:Nat)(v6:Int×Int×Int)(k6:(Int×Int×Int)->Option (tI×Bool)):Option (tI×Bool) :=
 (QJ t1 (i6:Int)).bind λn7=>bif decide (most4<n7)then(k6 (v6.1,v6.2.1,v6.2.2))else((XS t1 nodes2 (i6:Int)).bind λy8=>bif decide (n3<=(y8.length:Int))&&((decide (v6.1<0)||decide (n7<v6.2.1))||((n7==v6.2.1)&&decide ((y8.length:Int)<v6.2.2)))then(k6 ((i6:Int),n7,(y8.length:Int)))else(k6 (v6.1,v6.2.1,v6.2.2)))
def Qe(t1:Topo)(nodes2:tI)(n3:Int)(v6:Int×Int×Int):Option (tI×Bool) :=
 bif decide (v6.1<0)then(some ([],false))else((XS t1 nodes2 v6.1).bind λy10=>(mkL 8 (t1.parents.length:Int) 0).bind λxs11=>rgl (M07 t1) (O07 t1 n3 y10) y10 0 (xs11,[]))
def ZT(t1:Topo)(nodes2:tI)(n3 most4:Int):Option (tI×Bool) :=
 rgl (L07 t1 nodes2 n3 most4) (Qe t1 nodes2 n3) t1.parents 0 ((-1),0,0)
theorem J1t{t1:Topo}{nodes2:tI}{n3 most4:Int}{r:tI×Bool}(H:ZT t1 nodes2 n3 most4=some r):SQ M0S [Y7 .rd t1,zra nodes2,iV n3,iV most4] (.tup [zfa r.1,.bool r.2]):=by
 refine wS V1s [.t 8,.t 9] (wG [.l 28 t1.parents eI] λq5=>wL (λ(i6:Nat) (v6:Int×Int×Int)=>⟨[(1,zra nodes2),(2,iV n3),(3,iV most4),pB 4,(10,iV v6.1),(11,iV v6.2.1),(12,iV v6.2.2)]++zl 28 t1.parents i6,[],[(4,(Y7 .rd t1).cells)],[]⟩) H (λi6 x6 v6 I m k6 A6 B6 H N29=>?_) (λv6 I m H=>?_))
 .exact bC H λn7 h7 H=>wH [.c 34 (Z03 h7)] (X0 H (λH=>wH [.i 68 B6 q5.1] (wT (N29 _ H))) λH=>bC H λy8 h8 H=>wG [.c 41 (W0O h8),.l 42 y8 eI] λq9=>X0 H (λH=>wH [.i 68 B6 q5.1] (wT (N29 _ H))) λH=>wH [.i 68 B6 q5.1] (wT (N29 _ H)))
 .refine wP (X0 H (λH=>sI H▸wP (wN [(8,.n 1),(9,.d)] [] [] [] [] [zna []])) λH=>bC2 H λy10 h10 xs11 h11 H=>wG [.c 74 (W0O h10),.l 77 t1.parents eI,.u 78 (.ms _ _ _ _ λ_=>O2a eI h11),.l 81 y10 eI] λq12=>wL (λ(i13:Nat) (v13:tI×tI)=>⟨[(1,zfa y10),(2,iV n3),pB 4,pB 16,(17,.sref 79),(80,zfa y10)]++zl 81 y10 i13,[],[(4,(Y7 .rd t1).cells),(16,[.sref 78])],[(78,zwa v13.1),(79,zwa v13.2)]⟩) H (λi13 x13 v13 I m k13 A13 B13 H N63=>?_) (λv13 I m H=>?_))
  .refine bC3 H λe14 h14 e15 h15 b16 h16 H=>wH [.y 84 eI A13,.x 89 Q1 h14,.x 94 eI h15,.u 95 (.el _ _ _ λ_=>gm eI (V4 h15)),.x 97 eI h15,.u 1000000 (.sto _ _ _ (eI (w64 (e15+1))) _ (λ_=>gm eI (V4 h15)) (λ_=>YS ..)),.c 100 (O9 h16)] (X0 H (λH=>?_) λH=>wH [.i 106 B13 q12.2.1] (wT (N63 _ H)))
   exact bC H λxs17 h17 H=>wH [.p 105 eI h17,.i 106 B13 q12.2.1] (wT (N63 _ H))
  .refine wP (Z2w [] [(16,[.f])] [78] (by kernel_rfl) (bC H λxs18 h18 H=>wG [.u 109 (.cr YF 1 _ [.fn L0z [.ept (.agg [zfa v13.1]) 0]] _ false _ (λ_=>M0B v13.2) (λ_=>by simp) (λ_=>by simp) (λ_=>Z1B h18)),.l 112 xs18 eI] λq19=>wL (λ(i20:Nat) (v20:tI)=>⟨[(1,zfa y10),(2,iV n3),pB 4,(21,.sref 110),(111,.sref 79)]++zl 112 xs18 i20,[],[(4,(Y7 .rd t1).cells)],[(110,zwa v20),(79,zwa xs18)]⟩) H (λi20 x20 v20 I m k20 A20 B20 H N100=>?_) (λv20 I m H=>?_)))
   .refine wG [.y 115 eI A20,.u 116 (.el _ _ _ λ_=>gm eI (V4 (O0 A20))),.l 118 y10 eI] λq21=>wL (λ(i22:Nat) (v22:tI)=>⟨[(1,zfa y10),(2,iV n3),pB 4,(21,.sref 110),(23,iV x20),(111,.sref 79),(112,iV (xs18.length:Int)),(113,iV (i20:Int)),(117,zfa y10)]++zl 118 y10 i22,[],[(4,(Y7 .rd t1).cells)],[(110,zwa v22),(79,zwa xs18)]⟩) H (λi22 x22 v22 I m k22 A22 B22 H N91=>?_) (λv22 I m H=>?_)
    .refine bC H λe23 h23 H=>wH [.y 121 eI A22,.x 126 Q1 h23,.g 133 [((e23.leaf==x20),true)] (.ln _ _ λ_=>lm v22 eI)] (X0 H (λH=>?_) λH=>wH [.i 141 B22 q12.2.1] (wT (N91 _ H)))
     exact bC H λxs24 h24 H=>wH [.p 140 eI h24,.i 141 B22 q12.2.1] (wT (N91 _ H))
    .exact wH [.i 142 B20 q19.1] (wT (N100 _ H))
   .exact bC H λxs25 h25 H=>wH [.u 144 (.cr Vn 1 _ [] [] false _ (λ_=>M0B v20) (λ_=>trivial) (λ_=>rfl) (λ_=>L1A h25))] (sI H▸wN [(8,.f),(9,.d)] [] [] [110] [] [zna xs25])
def We(l1:tI)(v2:Int)(k2:Int->Option Bool):Option Bool :=
 bif decide (v2<(l1.length:Int))then((idx l1 (w64 (v2-1))).bind λe4=>(idx l1 v2).bind λe5=>bif decide (e5<=e4)then(some false)else(k2 (w64 (v2+1))))else(some true)
def Zq(l1:tI):Option Bool :=
 whl (We l1) 9223372036854775807 1
theorem U0C{l1:tI}{r:Bool}(H:Zq l1=some r):SQ U09 [zra l1] (.bool r):=by
 refine wc [(4,10)] [.t 2] (wP (wW (λ(v2:Int)=>⟨[(0,zra l1),(3,iV v2)],[],[],[]⟩) H (λv2 I m k2 H N18=>?_)))
 refine wG [.l 6 l1 eI] λq3=>X0 H (λH=>?_) λH=>sI H▸wV
 exact bC2 H λe4 h4 e5 h5 H=>wH [.x 13 eI h4,.x 17 eI h5] (X0 H (λH=>sI H▸wV) λH=>wP (wT (N18 _ H)))
noncomputable def Q17:L :=
 lf Tryz.prog Q0A [32,35] [(63,2),(65,2)] [] [] [(19,12),(20,21)] [] [127]
def YU(from3:Int)(x9:Pt)(_:Nat)(v9:tI)(k9:tI->Option (Int×tI×Bool)):Option (Int×tI×Bool) :=
 bif decide (from3<x9.t)then((appL 8 v9 [x9.t]).bind λxs10=>k9 xs10)else(k9 v9)
def ZU(k7:tI->Option (Int×tI×Bool))(v9:tI):Option (Int×tI×Bool) :=
 k7 v9
def WC(_:Unit):Option (Int×tI×Bool) :=
 some (0,[],false)
def Lj(r1:Room)(j2:Job)(x13:Int)(_:Nat)(_:Unit)(k13:Unit->Option (Int×tI×Bool)):Option (Int×tI×Bool) :=
 bif decide (1000000000<(w64 (x13+j2.wall)))then(WC ())else((Yq r1.lics x13 (w64 (x13+j2.wall))).bind λy14=>bif !(OJ j2.lic y14)then(k13 ())else((LN r1 j2.need x13 (w64 (x13+j2.wall))).bind λy15=>(ZT r1.topo y15 j2.nodes j2.level).bind λy16=>bif y16.2 then(some (x13,y16.1,true))else(k13 ())))
def Qq(_:Unit):Option (Int×tI×Bool) :=
 WC ()
def OC(from3:Int)(x7:tP)(_:Nat)(v7:tI)(k7:tI->Option (Int×tI×Bool)):Option (Int×tI×Bool) :=
 rgl (YU from3) (ZU k7) x7 0 v7
def QC(r1:Room)(j2:Job)(v7:tI):Option (Int×tI×Bool) :=
 (J1A v7).bind λxs11=>rgl (Lj r1 j2) Qq (Qa xs11) 0 ()
def Xn(r1:Room)(j2:Job)(from3:Int):Option (Int×tI×Bool) :=
 (OH r1).bind λb4=>bif ((!b4)||(!(Yb j2)))||(!(J6 from3))then(some (0,[],false))else((appL 24 [r1.lics] r1.profs).bind λxs5=>rgl (OC from3) (QC r1 j2) xs5 0 [from3])
theorem Z0o{r1:Room}{j2:Job}{from3:Int}{r:Int×tI×Bool}(H:Xn r1 j2 from3=some r):SQ Q0A [Wd .rd r1,eJob j2,iV from3] (.tup [iV r.1,zfa r.2.1,.bool r.2.2]):=by
 refine wS Q17 [.t 6,.t 7,.t 8] (bC H λb4 h4 H=>wH [.c 19 (W0d h4),.d 23 [((!b4),false)] λ_=>VC j2,.d 28 [(((!b4)||(!(Yb j2))),false)] λ_=>Ze from3] (X0 H (λH=>sI H▸wP (wN [(6,.d),(7,.n 1),(8,.d)] [] [] [] [] [zna []])) λH=>bC H λxs5 h5 H=>wG [.p 38 (O2 .rd) h5,.l 39 xs5 (O2 .rd)] λq6=>wL (λ(i7:Nat) (v7:tI)=>⟨[(2,iV from3),pB 3,pB 4,(9,.sref 32),(38,.sref 35)]++zl 39 xs5 i7,[],[(3,(Wd .rd r1).cells),(4,(eJob j2).cells)],[(32,zwa v7),(35,⟨1,xs5.map (O2 .rd),false⟩)]⟩) H (λi7 x7 v7 I m k7 A7 B7 H N41=>?_) (λv7 I m H=>?_)))
 .refine wG [.y 42 (O2 .rd) A7,.u 43 (.el _ _ _ λ_=>gm (O2 .rd) (V4 (O0 A7))),.l 46 x7 ePt] λq8=>wL (λ(i9:Nat) (v9:tI)=>⟨[(2,iV from3),pB 3,pB 4,(9,.sref 32),(38,.sref 35),(39,iV (xs5.length:Int)),(40,iV (i7:Int)),(45,zri x7)]++zl 46 x7 i9,[],[(3,(Wd .rd r1).cells),(4,(eJob j2).cells)],[(32,zwa v9),(35,⟨1,xs5.map (O2 .rd),false⟩)]⟩) H (λi9 x9 v9 I m k9 A9 B9 H N32=>?_) (λv9 I m H=>?_)
  .refine wH [.y 49 ePt A9] (X0 H (λH=>?_) λH=>wH [.i 60 B9 q8.1] (wT (N32 _ H)))
   exact bC H λxs10 h10 H=>wH [.p 59 eI h10,.i 60 B9 q8.1] (wT (N32 _ H))
  .exact wH [.i 61 B7 q6.1] (wT (N41 _ H))
 .refine bC H λxs11 h11 H=>wG [.u 63 (.cr Vn 1 _ [] [] false _ (λ_=>M0B v7) (λ_=>trivial) (λ_=>rfl) (λ_=>L1A h11)),.u 65 (.cr Oq 1 _ [] [] true _ (λ_=>M0B xs11) (λ_=>trivial) (λ_=>rfl) (λ_=>X1m xs11)),.l 66 (Qa xs11) eI] λq12=>Xi (r:=r) WC 0 (λv17:Unit=>⟨[],[],[],[]⟩) (by kernel_rfl) (λv17 H=>?_) (λJ83=>?_)
  .exact sI H▸wP (wN [(6,.d),(7,.n 1),(8,.d)] [] [] [] [] [zna []])
  .refine wL (λ(i13:Nat) (v13:Unit)=>⟨[pB 3,pB 4,(65,.sref 66000),(66,iV ((Qa xs11).length:Int)),(67,iV (i13:Int))],[],[(3,(Wd .rd r1).cells),(4,(eJob j2).cells)],[(66000,zwa (Qa xs11))]⟩) H (λi13 x13 v13 I m k13 A13 B13 H N78=>?_) (λv13 I m H=>?_)
   .refine wH [.y 69 eI A13,.u 70 (.el _ _ _ λ_=>gm eI (V4 (O0 A13)))] ?_
    refine X0 H ?_ ?_<;>intro H
    .exact wP (wT (J83 () H))
    .exact bC H λy14 h14 H=>wH [.c 85 (Z0b h14),.c 86 (W0v j2.lic y14)] (X0 H (λH=>wH [.i 110 B13 q12.1] (wT (N78 () H))) λH=>bC2 H λy15 h15 y16 h16 H=>wH [.c 99 (L17 h15),.c 104 (J1t h16)] (X0 H (λH=>sI H▸wQ [] [zna y16.1]) λH=>wH [.i 110 B13 q12.1] (wT (N78 () H))))
   .exact wP (wT (J83 () H))
def ZD(nodes3:tI)(x5:Int)(i5:Nat)(_:Unit)(k5:Unit->Option Bool):Option Bool :=
 (cutL nodes3 none (some (i5:Int))).bind λxs6=>(Z5 xs6 x5).bind λb7=>bif b7 then(some false)else(k5 ())
def JC(t1:Topo)(j2:Job)(nodes3:tI)(_:Unit):Option Bool :=
 (MB t1 nodes3).bind λb8=>some (b8&&((nodes3.length:Int)==j2.nodes))
def Yu(t1:Topo)(j2:Job)(nodes3:tI):Option Bool :=
 rgl (ZD nodes3) (JC t1 j2 nodes3) nodes3 0 ()
theorem Y0K{t1:Topo}{j2:Job}{nodes3:tI}{r:Bool}(H:Yu t1 j2 nodes3=some r):SQ J0b [Y7 .rd t1,eJob j2,zra nodes3] (.bool r):=by
 refine wa [.t 6] (wG [.l 10 nodes3 eI] λq4=>wL (λ(i5:Nat) (v5:Unit)=>⟨[(2,zra nodes3),pB 3,pB 4,(9,zra nodes3)]++zl 10 nodes3 i5,[],[(3,(Y7 .rd t1).cells),(4,(eJob j2).cells)],[]⟩) H (λi5 x5 v5 I m k5 A5 B5 H N20=>?_) (λv5 I m H=>?_))
 .exact bC2 H λxs6 h6 b7 h7 H=>wH [.y 14 eI A5,.u 18 (.sc _ _ _ _ λ_=>Ut eI h6),.c 20 (O9 h7)] (X0 H (λH=>sI H▸wV) λH=>wH [.i 21 B5 q4.1] (wT (N20 () H)))
 .exact bC H λb8 h8 H=>wH [.c 24 (O0n h8),.g 27 [(b8,true)] (.ln _ _ λ_=>lm nodes3 eI)] (sI H▸wD)
noncomputable def Z07:L :=
 lf Tryz.prog U12 [] [(39,1)] [] [] [] [(7,[],[14],[0,2,6,12,14,16,18,5,9,11,20,22,24,26],15)] []
def Zi(j2:Job)(from3 to4 x10:Int)(_:Nat)(v10:(List tP))(k10:(List tP)->Option (Room×Bool)):Option (Room×Bool) :=
 (idx v10 x10).bind λe11=>(XC e11 from3 to4 j2.need).bind λy12=>bif !y12.2 then(some ((Room.mk (Topo.mk [] []) [] [] []),false))else(k10 (v10.set x10.toNat y12.1))
def Jh(j2:Job)(from3 to4:Int)(y8:Room)(v10:(List tP)):Option (Room×Bool) :=
 (XC y8.lics from3 to4 j2.lic).bind λy13=>bif !y13.2 then(some ((Room.mk (Topo.mk [] []) [] [] []),false))else(some ((Room.mk y8.topo y8.up v10 y13.1),true))
def Z9(r1:Room)(j2:Job)(from3 to4:Int)(nodes5:tI):Option (Room×Bool) :=
 (OH r1).bind λb6=>(bif (!b6)||(!(Yb j2))then some default else(Yu r1.topo j2 nodes5)).bind λb7=>bif ((!b6)||(!(Yb j2)))||(!b7)then(some ((Room.mk (Topo.mk [] []) [] [] []),false))else((ZO r1).bind λy8=>rgl (Zi j2 from3 to4) (Jh j2 from3 to4 y8) nodes5 0 y8.profs)
theorem Vy{r1:Room}{j2:Job}{from3 to4:Int}{nodes5:tI}{r:Room×Bool}(H:Z9 r1 j2 from3 to4 nodes5=some r):SQ U12 [Wd .rd r1,eJob j2,iV from3,iV to4,zra nodes5,.fn Qz []] (.tup [Wd .nw r.1,.bool r.2]):=by
 refine wS Z07 [.c 12 5 true,.t 13] ?_
 obtain⟨b6,h6,b7,h7,H⟩:=bB2 H
 refine wH [.c 22 (W0d h6),.d 26 [((!b6),false)] λ_=>VC j2,.d 34 [(_,false)] λq=>Y0K (bF q.1 h7)] ?_
 refine X0 H ?_ ?_<;>intro H
 .refine wP ?_
  replace H:=sI H;subst H
  exact wM [(12,z3)] [zna [],zne [],znd [],znj ([]:List tP),zni []]
 .obtain⟨y8,h8,H⟩:=bB H
  refine wG [.c 39 (Z18 h8),.l 41 nodes5 eI] λq9=>?_
  refine wL (λ(i10:Nat) (v10:(List tP))=>⟨[(2,iV from3),(3,iV to4),(5,.fn Qz []),pB 7,pB 12,pB 14,(40,zra nodes5)]++zl 41 nodes5 i10,[],[(7,(eJob j2).cells),(12,z4),(14,[zfa y8.topo.parents,zfe y8.topo.nodes,zfd y8.up,.sref 40000,zfi y8.lics])],[(40000,zwj v10)]⟩) H (λi10 x10 v10 I m k10 A10 B10 H N32=>?_) (λv10 I m H=>?_)
  .obtain⟨e11,h11,y12,h12,H⟩:=bB2 H
   refine wH [.y 44 eI A10,.x 51 (O2 .nw) h11,.u 52 (.el _ _ _ λ_=>gm (O2 .nw) (V4 h11)),.u 57 (.clsr _ _ _ _ _ (AEs.refl _) (by kernel_rfl) (λ_=>J0n h12))] ?_
   refine X0 H (λH=>?_) λH=>wH [.x 67 (O2 .nw) h11,.u 1000000 (.sto _ _ _ (O2 .nw y12.1) _ (λ_=>gm (O2 .nw) (V4 h11)) (λ_=>YS ..)),.i 68 B10 q9.1] (wT (N32 _ H))
   refine wP ?_
   replace H:=sI H;subst H
   exact wM [(12,z3)] [zna [],zne [],znd [],znj ([]:List tP),zni []]
  .obtain⟨y13,h13,H⟩:=bB H
   refine wH [.u 77 (.clsr _ _ _ _ _ (AEs.refl _) (by kernel_rfl) (λ_=>J0n h13))] ?_
   refine X0 H ?_ ?_<;>intro H
   .refine wP ?_
    replace H:=sI H;subst H
    exact wM [(12,z3)] [zna [],zne [],znd [],znj ([]:List tP),zni []]
   .refine wP ?_
    replace H:=sI H;subst H
    exact wO [(12,[.d,.d,.d,.f,.d])] [] [40000] [] [zna y8.topo.parents,zne y8.topo.nodes,znd y8.up,znj v10,zni y13.1]
def LX(r1:Room)(j2:Job)(at3:Int)(nodes4:tI):Option (Room×Bool) :=
 bif !(J6 at3)then(some ((Room.mk (Topo.mk [] []) [] [] []),false))else((Z9 r1 j2 at3 (w64 (at3+j2.wall)) nodes4).bind λy5=>some (y5.1,y5.2))
theorem W1k{r1:Room}{j2:Job}{at3:Int}{nodes4:tI}{r:Room×Bool}(H:LX r1 j2 at3 nodes4=some r):SQ Z0I [Wd .rd r1,eJob j2,iV at3,zra nodes4] (.tup [Wd .nw r.1,.bool r.2]):=by
 exact wa [.c 8 5 true,.t 9] (wH [.c 11 (Ze at3)] (X0 H (λH=>sI H▸wQ [(8,z3)] [zna [],zne [],znd [],znj ([]:List tP),zni []]) λH=>bC H λy5 h5 H=>wH [.c 22 (Vy h5)] (sI H▸wM [(8,[])] [zna y5.1.topo.parents,zne y5.1.topo.nodes,znd y5.1.up,znj y5.1.profs,zni y5.1.lics])))
theorem Xk{j:Job}:Y1 j=true↔(1<=j.id/\j.id<=999)/\(0<=j.prio/\j.prio<=999)/\(1<=j.nodes/\j.nodes<=24)/\U0 j.need=true/\U0 j.lic=true/\(1<=j.wall/\j.wall<=1000000)/\(0<=j.level/\j.level<=24):=by
 unfold Y1
 by_cases h:(1<=j.id/\j.id<=999)/\(0<=j.prio/\j.prio<=999)/\(1<=j.nodes/\j.nodes<=24)
 .rw[show(((((decide (j.id<1)||decide (999<j.id))||decide (j.prio<0))||decide (999<j.prio))||decide (j.nodes<1))||decide (24<j.nodes))=false by simp;omega]
  simp only[yM,yD,yO]
  constructor
  .intro q;exact⟨h.1,h.2.1,h.2.2,q.1.1.1.1.1,q.1.1.1.1.2,⟨q.1.1.1.2,q.1.1.2⟩,q.1.2,q.2⟩
  .intro q;exact⟨⟨⟨⟨⟨q.2.2.2.1,q.2.2.2.2.1⟩,q.2.2.2.2.2.1.1⟩,q.2.2.2.2.2.1.2⟩,q.2.2.2.2.2.2.1⟩,q.2.2.2.2.2.2.2⟩
 .rw[show(((((decide (j.id<1)||decide (999<j.id))||decide (j.prio<0))||decide (999<j.prio))||decide (j.nodes<1))||decide (24<j.nodes))=true by
   simp only[Bool.or_eq_true,yO];omega]
  simp only[yN]
  exact Wq λq=>h ⟨q.1,q.2.1,q.2.2.1⟩
theorem UC(j:Job):Yb j=Y1 j:=by
 rw[Bool.eq_iff_iff,Xk]
 unfold Yb Z0
 simp only[Uc,yD,yO,and_assoc]
structure RoomP(r:Room):Prop where
 topo:TopoP r.topo
 up:r.up.length=r.topo.nodes.length
 profs:r.profs.length=r.topo.nodes.length
 prof:∀p∈r.profs,ProfP p
 lics:ProfP r.lics
noncomputable def roomOk(r:Room):Bool:=topoOk r.topo&&decide (r.up.length=r.topo.nodes.length)&&decide (r.profs.length=r.topo.nodes.length)&&profOk r.lics&&r.profs.all profOk
theorem Y04{r:Room}:roomOk r=true↔RoomP r:=by
 unfold roomOk
 simp only[yD,yO,List.all_eq_true,Ma,X04]
 exact⟨λh=>⟨h.1.1.1.1,h.1.1.1.2,h.1.1.2,h.2,h.1.2⟩,λh=>⟨⟨⟨⟨h.topo,h.up⟩,h.profs⟩,h.lics⟩,h.prof⟩⟩
theorem X1D(a b:Nat):((a:Int)!=(b:Int)) = !decide (a=b):=by
 by_cases h:a=b
 .simp[h]
 .rw[show((a:Int)!=(b:Int))=true by simp;omega];simp[h]
theorem WD(r:Room):Zx r=some (roomOk r):=by
 unfold Zx roomOk
 rw[Qb,bS]
 simp only[X1D,Mi]
 rw[Ox (r:=some false) (p:=λp=>!profOk p) (λx _ i k=>by unfold V05;rw[Mi,bS]),← List.not_all_eq_any_not]
 cases topoOk r.topo<;>cases decide (r.up.length=r.topo.nodes.length)<;>cases decide (r.profs.length=r.topo.nodes.length)<;>cases profOk r.lics<;>cases r.profs.all profOk<;>rfl
theorem O0d(r:Room):OH r=some (roomOk r):=by
 unfold OH roomOk
 rw[Lu,Qb,bS]
 simp only[X1D]
 rw[Ox (r:=some false) (p:=λp=>!profOk p) (λx _ i k=>by unfold X08;rw[Z0e,Mi,bS]),← List.not_all_eq_any_not]
 unfold Y08
 rw[Z0e,Mi,bS]
 cases topoOk r.topo<;>cases decide (r.up.length=r.topo.nodes.length)<;>cases decide (r.profs.length=r.topo.nodes.length)<;>cases profOk r.lics<;>cases r.profs.all profOk<;>rfl
structure RoomS(r:Room):Prop where
 up:r.up.length<=1048576
 par:r.topo.parents.length<=1048576
 nodes:r.topo.nodes.length<=1048576
 profs:r.profs.length<=1048576
 prof:∀p∈r.profs,p.length<=1048576
 lics:r.lics.length<=1048576
theorem RoomP.small{r:Room}(h:RoomP r):RoomS r :=
  ⟨by have:=h.up;have:=h.topo.nodes;omega,by have:=h.topo.tree.le;omega,by have:=h.topo.nodes;omega,by have:=h.profs;have:=h.topo.nodes;omega,λp hp=>by have:=(h.prof p hp).le;omega,by have:=h.lics.le;omega⟩
theorem W0s{r:Room}(h:RoomS r):ZJ r=some r:=by
 unfold ZJ LI
 have:=h.up;have:=h.lics;have:=h.par;have:=h.nodes;have:=h.profs
 rw[Q0 (by simp;omega),bS,Q0 (by simp;omega),bS,bS,Q0 (by simp;omega),bS,Q0 (by simp;omega),bS]
 rw[Q7 (bd:=LF) (bs:=24) (p:=λ_=>true) (f:=id) (λx hx i b k=>by
  have:=h.prof x hx
  unfold LF LI
  rw[Q0 (by simp;omega),bS,bS];simp) (by simp;omega)]
 unfold MY
 simp[List.filter_eq_self.2]
theorem Y18{r:Room}(h:RoomS r):ZO r=some r:=by
 unfold ZO Mm Lm OB
 have:=h.up;have:=h.lics;have:=h.par;have:=h.nodes;have:=h.profs
 rw[Q0 (by simp;omega),bS,bS,Q0 (by simp;omega),bS,bS,Q0 (by simp;omega),bS,Q0 (by simp;omega),bS,bS]
 rw[Q7 (bd:=WB) (bs:=24) (p:=λ_=>true) (f:=id) (λx hx i b k=>by
  have:=h.prof x hx
  unfold WB OB
  rw[Q0 (by simp;omega),bS,bS];simp) (by simp;omega)]
 unfold JS
 simp[List.filter_eq_self.2]
theorem U1a{α:Type}{l:List α}{i:Nat}(h:i<=l.length):cutL l none (some (i:Int))=some (l.take i):=by
 unfold cutL bhi blo
 simp[h]
theorem Z1x{l:tI}{i:Nat}{x:Int}(hx:l[i]?=some x):(l.take (i+1)).Nodup↔(l.take i).Nodup/\x∉l.take i:=by
 obtain⟨hi,rfl⟩:=yB hx
 rw[List.take_succ_eq_append_getElem hi,List.nodup_append]
 constructor
 .intro h;exact⟨h.1,λhm=>h.2.2 _ hm _ (List.mem_singleton.2 rfl) rfl⟩
 .intro h;exact⟨h.1,by simp,λa ha b hb e=>by rw[List.mem_singleton.1 hb]at e;subst e;exact h.2 ha⟩
theorem Y1x{γ:Type}{bd:Int->Nat->Unit->(Unit->Option γ)->Option γ}{kk:Unit->Option γ}{r:Option γ}{l:tI}
  (hb:∀i x k,i<=l.length->bd x i () k=bif (l.take i).contains x then r else k ()):rgl bd kk l 0 ()=bif decide l.Nodup then kk ()else r:=by
 refine Lh (λi (_:Unit)=>(l.take i).Nodup) (λo=>o=bif decide l.Nodup then kk ()else r) (λi x b k hx hI hk=>?_) (λb hI=>?_) (by simp)
 .have hil:=(yB hx).1
  rw[hb i x k (by omega)]
  cases hc:(l.take i).contains x with
  |true =>
   have hm:=List.contains_iff_mem.1 hc
   have:¬ l.Nodup:=λq=>((Z1x hx).1 (q.sublist (List.take_sublist _ _))).2 hm
   simp[this]
  |false=>exact hk () ((Z1x hx).2 ⟨hI,λhm=>by rw[List.contains_iff_mem.2 hm]at hc;cases hc⟩)
 .rw[List.take_of_length_le (yV _)]at hI
  simp[hI]
noncomputable def diffOk(r:Room)(j:Job)(nodes:tI):Bool:=roomOk r&&Y1 j&&decide ((nodes.length:Int)=j.nodes)&&J7 r.topo nodes&&decide nodes.Nodup
theorem U0s(r:Room)(j:Job)(nodes:tI):JI r j nodes=some (diffOk r j nodes):=by
 unfold JI diffOk
 rw[WD,bS]
 have e:((nodes.length:Int)!=j.nodes) = !decide ((nodes.length:Int)=j.nodes):=by
  by_cases h:(nodes.length:Int)=j.nodes<;>simp[h]
 simp only[e,JF]
 rw[Y1x (r:=some false) (λi x k hi=>by unfold OY;rw[U1a hi,bS,Jd,bS])]
 cases roomOk r<;>cases Y1 j<;>cases decide ((nodes.length:Int)=j.nodes)<;>cases J7 r.topo nodes<;>cases decide nodes.Nodup<;>rfl
theorem X0K{t:Topo}(ht:t.nodes.length<=1048576)(j:Job)(nodes:tI):Yu t j nodes=some (decide ((nodes.length:Int)=j.nodes)&&J7 t nodes&&decide nodes.Nodup):=by
 unfold Yu
 rw[Y1x (r:=some false) (λi x k hi=>by unfold ZD;rw[U1a hi,bS,Um,bS])]
 unfold JC
 rw[M0n t nodes ht,bS]
 have e:((nodes.length:Int)==j.nodes)=decide ((nodes.length:Int)=j.nodes):=by
  by_cases h:(nodes.length:Int)=j.nodes<;>simp[h]
 rw[e]
 cases decide ((nodes.length:Int)=j.nodes)<;>cases J7 t nodes<;>cases decide nodes.Nodup<;>rfl
def noRoom:Room×Bool:=(⟨⟨[],[]⟩,[],[],[]⟩,false)
def takeRoom(r:Room)(need lic:Vec)(from_ to_:Int)(nodes:tI):Option (Room×Bool) :=
 rgl (λx _ v k=>(idx v x).bind λe=>(Mh e from_ to_ need).bind λy=>bif !y.2 then some noRoom else k (v.set x.toNat y.1))
  (λv=>(Mh r.lics from_ to_ lic).bind λy=>bif !y.2 then some noRoom else some (⟨r.topo,r.up,v,y.1⟩,true)) nodes 0 r.profs
theorem V0L{r:Room}(hr:RoomP r)(need lic:Vec)(from_ to_:Int){nodes:tI}(hn:J7 r.topo nodes=true) :
  ∃q,takeRoom r need lic from_ to_ nodes=some q/\(q.2=true->RoomP q.1/\q.1.topo=r.topo/\q.1.up=r.up):=by
 have hn:=(O5.1 hn).2
 unfold takeRoom
 refine Lh (λi (v:List tP)=>v.length=r.topo.nodes.length/\∀p∈v,ProfP p) (λo=>∃q:Room×Bool,o=some q/\(q.2=true->RoomP q.1/\q.1.topo=r.topo/\q.1.up=r.up)) (λi x v k hx hI hk=>?_) (λv hI=>?_) ⟨hr.profs,hr.prof⟩
 .have hx':=hn x (yE hx)
  obtain⟨e,q1,q2⟩:=L0j (l:=v) (i:=x) hx'.1 (by rw[hI.1];exact hx'.2)
  obtain⟨y,h1,h2⟩:=(Z0L e from_ to_ need).2
  rw[q1,bS,h1,bS]
  cases hy:y.2 with
  |false=>exact⟨noRoom,rfl,λh=>by cases h⟩
  |true =>
   refine hk _ ⟨by simp[hI.1],λp hp=>?_⟩
   rcases List.mem_or_eq_of_mem_set hp with hp|rfl
   .exact hI.2 p hp
   .exact h2 hy
 .obtain⟨y,h1,h2⟩:=(Z0L r.lics from_ to_ lic).2
  rw[h1,bS]
  cases hy:y.2 with
  |false=>exact⟨noRoom,rfl,λh=>by cases h⟩
  |true=>exact⟨_,rfl,λ_=>⟨⟨hr.topo,hr.up,hI.1,hI.2,h2 hy⟩,rfl,rfl⟩⟩
theorem W05(r:Room)(j:Job)(t:Int)(nodes:tI):Qr r j t nodes=bif diffOk r j nodes&&time t then takeRoom r j.need j.lic t (w64 (t+j.wall)) nodes else some noRoom:=by
 unfold Qr
 rw[U0s,bS,Mb]
 cases hd:diffOk r j nodes with
 |false=>rfl
 |true =>
  cases time t with
  |false=>rfl
  |true =>
   have hr:roomOk r=true:=by unfold diffOk at hd;simp only[yD]at hd;exact hd.1.1.1.1
   simp only[yL,Bool.or_self,yM,Bool.and_self,yN]
   rw[W0s (Y04.1 hr).small,bS]
   rfl
theorem Qm{t:Topo}{l:tI}(h:J7 t l=true)(hl:l.length<=1048576)(s:Nat):Ql t l (s:Int)=some (l.filter λn=>hasUp t n s):=by
 unfold Ql
 rw[Q7 (bs:=8) (p:=λn=>hasUp t n s) (f:=λn=>n) (λx hx i b k=>by
  unfold MU
  exact Z1I h hx s _) (by simp;omega)]
 unfold X0c
 simp
def rise(n:Int):tI->tI
 |[]=>[n]
 |x::l=>if n<x then n::x::l else x::rise n l
theorem J0M(n:Int):∀l:tI,(rise n l).length=l.length+1
 |[]=>rfl
 |x::l=>by
  unfold rise
  split
  .rfl
  .simp[J0M n l]
theorem X0B(n m:Int):∀l:tI,m∈rise n l↔m=n\/m∈l
 |[]=>by simp[rise]
 |x::l=>by
  unfold rise
  split
  .simp
  .simp only[List.mem_cons,X0B n m l]
   constructor<;>rintro(h|h|h)<;>simp[h]
theorem Q2m(n x:Int)(i:Nat)(v:Bool×tI)(k:Bool×tI->Option tI) :
  Qt n x i v k=bif (!v.1)&&decide (n<x)then(appL 8 v.2 [n]).bind λxs5=>(appL 8 xs5 [x]).bind λxs7=>k (true,xs7)else(appL 8 v.2 [x]).bind λxs7=>k (v.1,xs7):=rfl
theorem U1x{l:tI}(n:Int)(hl:l.length<=1048576):MI l n=some (rise n l):=by
 have key:∀(l:tI) (i:Nat) (acc:tI),acc.length+l.length<=1048576 ->
   rgl (Qt n) (Vl n) l i (false,acc)=some (acc++rise n l):=by
  have key2:∀(l:tI) (i:Nat) (acc:tI),acc.length+l.length<=1048577->rgl (Qt n) (Vl n) l i (true,acc)=some (acc++l):=by
   intro l
   induction l with
   |nil=>intro i acc _;rw[rgl];unfold Vl Ul;simp
   |cons x l ih =>
    intro i acc h
    simp only[yT]at h
    rw[rgl,Q2m]
    simp only[yL,Bool.false_and,yM]
    rw[Q0 (by simp;omega),bS,ih _ _ (by simp;omega)]
    simp
  intro l
  induction l with
  |nil =>
   intro i acc h
   rw[rgl]
   unfold Vl Ul
   simp only[Bool.not_false,yN]
   simp only[List.length_nil]at h
   rw[Q0 (by simp;omega)]
   rfl
  |cons x l ih =>
   intro i acc h
   simp only[yT]at h
   rw[rgl,Q2m]
   unfold rise
   by_cases hx:n<x
   .simp only[Bool.not_false,Bool.true_and,hx,decide_true,yN,yb]
    rw[Q0 (by simp;omega),bS,Q0 (by simp;omega),bS,key2 _ _ _ (by simp;omega)]
    simp
   .simp only[Bool.not_false,Bool.true_and,hx,decide_false,yM,yc]
    rw[Q0 (by simp;omega),bS,ih _ _ (by simp;omega)]
    simp
 unfold MI
 rw[key l 0 [] (by simpa using hl)]
 rfl
def O0C(n:Int)(v ys:tI):tI:=ys.foldl (λv x=>if(v.length:Int)<n then rise x v else v) v
theorem L1l(n:Int):∀(ys v:tI),(v.length:Int)<=n->((O0C n v ys).length:Int)=min n ((v.length:Int)+(ys.length:Int))
 |[],v,h=>by simp only[O0C,List.foldl_nil,List.length_nil];omega
 |y::ys,v,h=>by
  unfold O0C
  rw[List.foldl_cons]
  by_cases hv:(v.length:Int)<n
  .have:=L1l n ys (rise y v) (by rw[J0M];omega)
   unfold O0C at this
   rw[yd hv,this,J0M]
   simp only[yT];omega
  .have:=L1l n ys v h
   unfold O0C at this
   rw[ye hv,this]
   simp only[yT];omega
theorem O1P(n m:Int):∀(ys v:tI),m∈O0C n v ys->m∈v\/m∈ys
 |[],v,h=>.inl h
 |y::ys,v,h=>by
  unfold O0C at h
  rw[List.foldl_cons]at h
  rcases O1P n m ys _ h with h|h
  .split at h
   .rcases(X0B y m v).1 h with h|h
    .exact .inr (by simp[h])
    .exact .inl h
   .exact .inl h
  .exact .inr (yH _ h)
def V2g(Q:Nat->Prop)(m:Nat)(v:Int):Prop:=(v<0->∀s,s<m->¬ Q s)/\(0<=v->∃s:Nat,v=(s:Int)/\s<m/\Q s)
def U1D(t:Topo)(l taken:tI)(s:Nat):Prop:=(l.filter λn=>hasUp t n s)≠[]/\kids t.parents (s:Int)=[]/\(s:Int)∉taken
theorem O22{t:Topo}{l:tI}(h:J7 t l=true)(hl:l.length<=1048576)(taken:tI):∃v,Qw t l taken=some v/\V2g (U1D t l taken) t.parents.length v:=by
 have T:=(O5.1 h).1
 unfold Qw
 refine Lh (l0:=t.parents) (λi (v:Int)=>V2g (U1D t l taken) i v) (λo=>∃v,o=some v/\V2g (U1D t l taken) t.parents.length v) (λi x v k hx hI hk=>?_) (λv hI=>⟨v,rfl,hI⟩) ⟨λ_ s hs=>by omega,λh=>by omega⟩
 have hi:=(yB hx).1
 have skip:¬ U1D t l taken i->V2g (U1D t l taken) (i+1) v:=λhq=>by
  refine⟨λhv s hs=>?_,λhv=>?_⟩
  .by_cases e:s=i
   .subst e;exact hq
   .exact hI.1 hv s (by omega)
  .obtain⟨s,e,hs,q⟩:=hI.2 hv
   exact⟨s,e,by omega,q⟩
 have take:U1D t l taken i->V2g (U1D t l taken) (i+1) (i:Int):=λhq=>⟨λhv=>by omega,λ_=>⟨i,rfl,by omega,hq⟩⟩
 unfold MF
 rw[Qm h hl i,bS]
 by_cases h0:(l.filter λn=>hasUp t n i)=[]
 .simp only[h0,List.length_nil,Int.natCast_zero,beq_self_eq_true,yN,bS,Bool.true_or]
  exact hk v (skip λq=>q.1 h0)
 .have hne:(((l.filter λn=>hasUp t n i).length:Int)==0)=false:=by
   rw[beq_eq_false_iff_ne]
   have:=List.length_pos_iff.2 h0
   omega
  rw[hne,yM,VL t (i:Int) (by have:=T.tree.le;omega),bS]
  by_cases hkd:kids t.parents (i:Int)=[]
  .simp only[hkd,List.map_nil,List.length_nil,Int.natCast_zero,Int.lt_irrefl,decide_false,Bool.or_self,yM,Jd,bS,Bool.false_or]
   cases ht:taken.contains (i:Int)with
   |true =>
    rw[yN]
    exact hk v (skip λq=>q.2.2 (List.contains_iff_mem.1 ht))
   |false =>
    have hq:U1D t l taken i:=⟨h0,hkd,λhm=>by rw[List.contains_iff_mem.2 hm]at ht;cases ht⟩
    rw[yM]
    by_cases hv:v<0
    .simp only[hv,decide_true,yN,bS,Bool.true_or]
     exact hk _ (take hq)
    .obtain⟨s,e,hs,q⟩:=hI.2 (by omega)
     subst e
     rw[show decide ((s:Int)<0)=false by simp,yM,Qm h hl s,bS,Bool.false_or]
     cases decide (((l.filter λn=>hasUp t n s).length:Int)<((l.filter λn=>hasUp t n i).length:Int))with
     |true=>exact hk _ (take hq)
     |false=>exact hk _ ⟨λhv=>by omega,λ_=>⟨s,rfl,by omega,q⟩⟩
  .have hpos:decide (0<(((kids t.parents (i:Int)).map λ(n:Nat)=>(n:Int)).length:Int))=true:=by
    have:=List.length_pos_iff.2 hkd
    simp;omega
   simp only[hpos,Bool.or_true,yN,bS,Bool.true_or]
   exact hk v (skip λq=>hkd q.2.1)
section
variable{α β γ:Type}
theorem Z0N{bd:α->Nat->β->(β->Option γ)->Option γ}{kk:β->Option γ}{l0:List α}{f:β->Nat->β}(I:Nat->β->Prop)(hI:∀j b,j<l0.length->I j b->I (j+1) (f b j))
  (h:∀j x b k,l0[j]?=some x->I j b->bd x j b k=k (f b j)) {b:β} (h0:I 0 b):rgl bd kk l0 0 b=kk ((List.range l0.length).foldl f b)/\I l0.length ((List.range l0.length).foldl f b):=by
 have key:∀(m i:Nat) (b:β),l0.length-i=m->i<=l0.length->I i b->rgl bd kk (l0.drop i) i b=kk ((List.range' i m).foldl f b)/\I l0.length ((List.range' i m).foldl f b):=by
  intro m
  induction m with
  |zero =>
   intro i b hm hi hb
   have:i=l0.length:=by omega
   subst this
   rw[List.drop_length]
   exact⟨rfl,hb⟩
  |succ m ih =>
   intro i b hm hi hb
   have h1:i<l0.length:=by omega
   rw[List.drop_eq_getElem_cons h1,rgl,h i _ b _ (yA h1) hb,List.range'_succ,List.foldl_cons]
   exact ih (i+1) _ (by omega) h1 (hI i b h1 hb)
 have:=key l0.length 0 b (by simp) (Nat.zero_le _) h0
 rwa [List.drop_zero,← List.range_eq_range']at this
end
def cntU(t:Topo)(l:tI)(s:Nat):Nat:=(l.filter λn=>hasUp t n s).length
def inR(i:Nat)(v:Int):Prop:=-1<=v/\v<(i:Int)
def XK(t:Topo)(l:tI)(n level v:Int)(s:Nat):Int :=
 if(cntU t l s:Int)<n\/level<lev t s then v
 else if v<0\/lev t s<lev t v.toNat\/(lev t s=lev t v.toNat/\(cntU t l s:Int)<cntU t l v.toNat)then(s:Int)else v
def swF(t:Topo)(l:tI)(n level:Int):Int:=(List.range t.parents.length).foldl (XK t l n level) (-1)
theorem M1N{t:Topo}{l:tI}(h:J7 t l=true)(hl:l.length<=1048576)(n level:Int):XD t l n level=some (swF t l n level)/\inR t.parents.length (swF t l n level):=by
 have T:=(O5.1 h).1
 unfold XD swF
 refine(Z0N (f:=XK t l n level) inR (λj v hj hv=>?_) (λj x v k hx hv=>?_) ⟨by omega,by omega⟩).imp (λe=>e) λe=>e
 .obtain⟨v1,v2⟩:=hv
  unfold XK inR
  split
  .omega
  .split<;>omega
 .have hj:=(yB hx).1
  obtain⟨v1,v2⟩:=hv
  unfold YL XK
  rw[Qm h hl j,bS,Ym T hj,bS]
  rw[show(l.filter λn=>hasUp t n j).length=cntU t l j from rfl]
  by_cases h1:(cntU t l j:Int)<n\/level<lev t j
  .rw[yd h1,show(decide ((cntU t l j:Int)<n)||decide (level<lev t j))=true by simpa using h1,yN]
  .rw[ye h1,show(decide ((cntU t l j:Int)<n)||decide (level<lev t j))=false by
    rw[Bool.eq_false_iff];intro q;exact h1 (by simpa using q),yM]
   by_cases hv0:v<0
   .rw[yd (.inl hv0),show decide (v<0)=true by simpa using hv0]
    rfl
   .obtain⟨m,rfl⟩:∃m:Nat,v=(m:Int):=⟨v.toNat,by omega⟩
    have hm:m<t.parents.length:=by omega
    rw[show decide ((m:Int)<0)=false by simp]
    simp only[yM,Bool.false_or]
    rw[Ym T hm,bS,yZ]
    by_cases h2:lev t j<lev t m
    .rw[yd (.inr (.inl h2)),show decide (lev t j<lev t m)=true by simpa using h2]
     rfl
    .rw[show decide (lev t j<lev t m)=false by simpa using h2,yM,bS,yM]
     by_cases h3:lev t j=lev t m
     .rw[show(lev t j==lev t m)=true by simpa using h3,yN,Qm h hl m,bS]
      rw[show(l.filter λn=>hasUp t n m).length=cntU t l m from rfl]
      by_cases h4:(cntU t l j:Int)<cntU t l m
      .rw[yd (.inr (.inr ⟨h3,h4⟩)),show decide ((cntU t l j:Int)<(cntU t l m:Int))=true by simpa using h4]
       rfl
      .rw[ye (by omega),show decide ((cntU t l j:Int)<(cntU t l m:Int))=false by simpa using h4]
       rfl
     .rw[show(lev t j==lev t m)=false by simpa using h3,yM,bS,ye (by omega)]
      rfl
def M02(t:Topo)(l taken:tI)(v:Int)(s:Nat):Int :=
 if cntU t l s=0\/kids t.parents (s:Int)≠[]\/(s:Int)∈taken then v
 else if v<0\/cntU t l v.toNat<cntU t l s then(s:Int)else v
def J1d(t:Topo)(l taken:tI):Int:=(List.range t.parents.length).foldl (M02 t l taken) (-1)
theorem Y1Z{t:Topo}{l:tI}(h:J7 t l=true)(hl:l.length<=1048576)(taken:tI):Qw t l taken=some (J1d t l taken)/\inR t.parents.length (J1d t l taken):=by
 have T:=(O5.1 h).1
 unfold Qw J1d
 refine(Z0N (f:=M02 t l taken) inR (λj v hj hv=>?_) (λj x v k hx hv=>?_) ⟨by omega,by omega⟩).imp (λe=>e) λe=>e
 .obtain⟨v1,v2⟩:=hv
  unfold M02 inR
  split
  .omega
  .split<;>omega
 .have hj:=(yB hx).1
  obtain⟨v1,v2⟩:=hv
  unfold MF M02
  rw[Qm h hl j,bS]
  rw[show(l.filter λn=>hasUp t n j).length=cntU t l j from rfl]
  by_cases h0:cntU t l j=0
  .rw[yd (.inl h0),show((cntU t l j:Int)==0)=true by simpa using h0]
   rfl
  .rw[show((cntU t l j:Int)==0)=false by simpa using h0,yM,VL t (j:Int) (by have:=T.tree.le;omega),bS]
   by_cases hk:kids t.parents (j:Int)=[]
   .simp only[hk,List.map_nil,List.length_nil,Int.natCast_zero,Int.lt_irrefl,decide_false,Bool.or_self,yM,Jd,bS,Bool.false_or]
    by_cases ht:(j:Int)∈taken
    .rw[yd (.inr (.inr ht)),List.contains_iff_mem.2 ht,yN]
    .rw[ye (by rintro(q|q|q);exact h0 q;exact q rfl;exact ht q),show taken.contains (j:Int)=false by
      rw[Bool.eq_false_iff];exact λq=>ht (List.contains_iff_mem.1 q),yM]
     by_cases hv0:v<0
     .rw[yd (.inl hv0),show decide (v<0)=true by simpa using hv0]
      rfl
     .obtain⟨m,rfl⟩:∃m:Nat,v=(m:Int):=⟨v.toNat,by omega⟩
      rw[show decide ((m:Int)<0)=false by simp,yM,Qm h hl m,bS,Bool.false_or,yZ]
      rw[show(l.filter λn=>hasUp t n m).length=cntU t l m from rfl]
      by_cases h4:cntU t l m<cntU t l j
      .rw[yd (.inr h4),show decide ((cntU t l m:Int)<(cntU t l j:Int))=true by simpa using h4,yN]
      .rw[ye (by omega),show decide ((cntU t l m:Int)<(cntU t l j:Int))=false by simpa using h4,yM]
   .have hpos:decide (0<(((kids t.parents (j:Int)).map λ(n:Nat)=>(n:Int)).length:Int))=true:=by
     have:=List.length_pos_iff.2 hk
     simp;omega
    rw[yd (.inr (.inl hk))]
    simp only[hpos,Bool.or_true,yN,bS,Bool.true_or]
end
def lfOf(t:Topo)(x:Int):Nat:=match idx t.nodes x with
 |some e=>e.leaf.toNat
 |none=>0
theorem Z1Z{t:Topo}{l:tI}(h:J7 t l=true){x:Int}(hx:x∈l):hasUp t x (lfOf t x)=true/\lfOf t x<t.parents.length/\kids t.parents (lfOf t x:Int)=[]:=by
 obtain⟨h1,h2⟩:=O5.1 h
 obtain⟨e,q1,q2⟩:=L0j (l:=t.nodes) (i:=x) (h2 x hx).1 (h2 x hx).2
 obtain⟨a1,a2,a3,_⟩:=h1.node e (yE q2)
 have e1:lfOf t x=e.leaf.toNat:=by unfold lfOf;rw[q1]
 have e2:(lfOf t x:Int)=e.leaf:=by omega
 refine⟨?_,by omega,by rw[e2];exact a3⟩
 unfold hasUp
 rw[q1,e1]
 simp only[List.contains_iff_mem]
 exact List.mem_map.2 ⟨_,V0M _ _,rfl⟩
theorem W1P{α:Type}{r p q:α->Bool}:∀{l:List α},(∀x∈l,r x=true->p x=true\/q x=true)->(l.filter r).length<=(l.filter p).length+(l.filter q).length
 |[],_=>Nat.zero_le _
 |x::l,h=>by
  have ih:=W1P λy hy=>h y (yH _ hy)
  have hx:=h x (yJ ..)
  cases hr:r x with
  |false=>cases hp:p x<;>cases hq:q x<;>simp[hr,hp,hq]<;>omega
  |true =>
   rcases hx hr with hp|hq
   .cases hq:q x<;>simp[hr,hp,hq]<;>omega
   .cases hp:p x<;>simp[hr,hp,hq]<;>omega
def cntT(t:Topo)(l taken:tI):Nat:=(l.filter λx=>taken.contains (lfOf t x:Int)).length
theorem U2i{t:Topo}{l:tI}(h:J7 t l=true)(hl:l.length<=1048576){taken:tI}(hc:cntT t l taken<l.length):∃m:Nat,J1d t l taken=(m:Int)/\m<t.parents.length/\(m:Int)∉taken:=by
 obtain⟨v,h1,h2,h3⟩:=O22 h hl taken
 have e:=(Y1Z h hl taken).1
 rw[h1]at e
 have e:v=J1d t l taken:=Option.some.inj e
 subst e
 have:∃x∈l,(lfOf t x:Int)∉taken:=by
  by_cases hx:∃x∈l,(lfOf t x:Int)∉taken
  .exact hx
  .have:l.filter (λx=>taken.contains (lfOf t x:Int))=l:=List.filter_eq_self.2 λx hxl=>by
    rw[List.contains_iff_mem]
    by_cases hm:(lfOf t x:Int)∈taken
    .exact hm
    .exact absurd ⟨x,hxl,hm⟩ hx
   unfold cntT at hc
   rw[this]at hc
   omega
 obtain⟨x,hx,hm⟩:=this
 obtain⟨q1,q2,q3⟩:=Z1Z h hx
 have hne:(l.filter λn=>hasUp t n (lfOf t x))≠[]:=λq=>by
  have:x∈l.filter λn=>hasUp t n (lfOf t x):=List.mem_filter.2 ⟨hx,q1⟩
  rw[q]at this
  cases this
 have hQ:U1D t l taken (lfOf t x):=⟨hne,q3,hm⟩
 have hv:0<=J1d t l taken:=by
  by_cases hv:J1d t l taken<0
  .exact absurd hQ (h2 hv _ q2)
  .omega
 obtain⟨m,e,hm,q⟩:=h3 hv
 exact⟨m,e,hm,q.2.2⟩
theorem Q1I{n:Int}{k11:(tI×tI)->Option (tI×Bool)}{xs:tI}:∀(ys:tI) (i:Nat) (v:tI),v.length+ys.length<=1048576->rgl (LM n) (Y06 k11 xs) ys i v=k11 (O0C n v ys,xs)
 |[],_,_,_=>rfl
 |y::ys,i,v,h=>by
  simp only[yT]at h
  have e:O0C n v (y::ys)=O0C n (if(v.length:Int)<n then rise y v else v) ys:=rfl
  rw[rgl,e]
  unfold LM
  by_cases hv:(v.length:Int)<n
  .rw[show decide ((v.length:Int)<n)=true by simpa using hv,yN,U1x y (by omega),bS,yd hv]
   exact Q1I ys _ _ (by rw[J0M];omega)
  .rw[show decide ((v.length:Int)<n)=false by simpa using hv,yM,ye hv]
   exact Q1I ys _ _ (by omega)
def chL(t:Topo)(l:tI)(n:Int):Nat->tI->tI->tI
 |0,out,_=>out
 |k+1,out,taken=>if(out.length:Int)<n then chL t l n k (O0C n out (l.filter λx=>hasUp t x (J1d t l taken).toNat)) (taken++[J1d t l taken])else out
theorem O24{t:Topo}{l:tI}{n:Int}(h:J7 t l=true)(hl:l.length<=24)(h0:1<=n)(hn:n<=l.length) :
    whl (Qx t n l) 9223372036854775807 ([],[])=some (chL t l n (t.parents.length+1) [] [],true)/\((chL t l n (t.parents.length+1) [] []).length:Int)=n/\∀m∈chL t l n (t.parents.length+1) [] [],m∈l:=by
  have T:=(O5.1 h).1
  have hP:=T.tree.le
  have:=Xw (bd:=Qx t n l) (λb o=>o=some (chL t l n (t.parents.length+1-b.2.length) b.1 b.2,true)/\((chL t l n (t.parents.length+1-b.2.length) b.1 b.2).length:Int)=n/\∀m∈chL t l n (t.parents.length+1-b.2.length) b.1 b.2,m∈l)
    (λb=>t.parents.length-b.2.length) (λb=>(b.1.length:Int)<=n/\(∀m∈b.1,m∈l)/\b.2.Nodup/\(∀s∈b.2,s∈(List.range t.parents.length).map λ(i:Nat)=>(i:Int))/\((b.1.length:Int)<n->cntT t l b.2<=b.1.length)) ?_ 9223372036854775807 ([],[])
    ⟨by simp;omega,by simp,List.nodup_nil,by simp,λ_=>by simp[cntT]⟩ (by simp;omega)
  · simpa using this
  rintro⟨out,taken⟩ k ⟨i1,i2,i3,i4,i5⟩ hk
  simp only at i1 i2 i3 i4 i5 hk ⊢
  have hlen:taken.length<=t.parents.length:=by simpa using i3.length_le_of_subset i4
  unfold Qx
  simp only
  rw[show t.parents.length+1-taken.length=(t.parents.length-taken.length)+1 by omega,chL]
  by_cases ho:(out.length:Int)<n
  · obtain⟨m,e,hm,hmt⟩:=U2i h (by omega) (taken:=taken) (by have:=i5 ho;omega)
    rw[show decide ((out.length:Int)<n)=true by simpa using ho,yN,(Y1Z h (by omega) taken).1,bS,yd ho]
    rw[e,yZ]
    rw[Q0 (by simp;omega),bS,Qm h (by omega) m,bS]
    have hfl:(l.filter λx=>hasUp t x m).length<=l.length:=List.length_filter_le ..
    rw[Q1I _ _ _ (by omega)]
    have hnd:(taken++[(m:Int)]).Nodup:=by
      rw[List.nodup_append]
      exact⟨i3,by simp,λa ha b hb q=>by simp at hb;subst hb;subst q;exact hmt ha⟩
    have hsub:∀s∈taken++[(m:Int)],s∈(List.range t.parents.length).map λ(i:Nat)=>(i:Int):=λs hs=>by
      rcases List.mem_append.1 hs with hs|hs
      · exact i4 s hs
      · simp at hs;subst hs
        exact List.mem_map.2 ⟨m,List.mem_range.2 hm,rfl⟩
    have hlen2:taken.length+1<=t.parents.length:=by simpa using hnd.length_le_of_subset hsub
    have hfn:=L1l n (l.filter λx=>hasUp t x m) out i1
    have:=hk (O0C n out (l.filter λx=>hasUp t x m),taken++[(m:Int)]) ⟨by simp only;omega,λy hy=>?_,hnd,hsub,λhlt=>?_⟩ (by simp;omega)
    · simp only[yU,yT,List.length_nil]at this
      rw[show t.parents.length+1-(taken.length+(0+1))=t.parents.length-taken.length by omega]at this
      exact this
    · rcases O1P n y _ _ hy with hy|hy
      · exact i2 y hy
      · exact(List.mem_filter.1 hy).1
    · simp only at hlt ⊢
      have c1:=i5 ho
      have c2:cntT t l (taken++[(m:Int)])<=cntT t l taken+(l.filter λx=>hasUp t x m).length:=W1P λx hx hr=>by
        rw[List.contains_iff_mem]at hr
        rcases List.mem_append.1 hr with hr|hr
        · exact .inl (List.contains_iff_mem.2 hr)
        · have hr:(lfOf t x:Int)=(m:Int):=by simpa using hr
          have hr:lfOf t x=m:=by omega
          exact .inr (hr ▸ (Z1Z h hx).1)
      omega
  · rw[show decide ((out.length:Int)<n)=false by simpa using ho,yM,ye ho]
    exact⟨rfl,by omega,i2⟩
theorem J1W{α γ:Type}{bd:α->Nat->Unit->(Unit->Option γ)->Option γ}{kk:Unit->Option γ}{p:α->Nat->Bool}{r:Option γ}:∀{l:List α} {i:Nat},(∀j x k,l[j]?=some x->bd x (i+j) () k=bif p x (i+j)then r else k ())->rgl bd kk l i ()=bif (l.zipIdx i).any (λq=>p q.1 q.2)then r else kk ()
 |[],_,_=>rfl
 |x::l,i,h=>by
  have h0:=h 0 x (λb'=>rgl bd kk l (i+1) b') rfl
  rw[Nat.add_zero]at h0
  rw[rgl,h0,List.zipIdx_cons,List.any_cons]
  cases p x i with
  |true=>rfl
  |false =>
   rw[yM,Bool.false_or]
   exact J1W λj y k hy=>by
    have:=h (j+1) y k (by simpa using hy)
    rwa [show i+(j+1)=i+1+j by omega]at this
theorem M0P{α β:Type}(P:β->Prop){f:β->α->β}(h:∀b x,P b->P (f b x)):∀(l:List α) (b:β),P b->P (l.foldl f b)
 |[],_,hb=>hb
 |x::l,b,hb=>M0P P h l _ (h b x hb)
theorem Z2m{t:Topo}{l:tI}{n level:Int}(h:0<=swF t l n level):n<=cntU t l (swF t l n level).toNat/\lev t (swF t l n level).toNat<=level:=by
 have:=M0P (λv:Int=>v<0\/(n<=cntU t l v.toNat/\lev t v.toNat<=level)) (f:=XK t l n level) (λv s hv=>by
  unfold XK
  split
  .exact hv
  .rename_i h1
   split
   .exact .inr (by rw[yZ];omega)
   .exact hv) (List.range t.parents.length) (-1) (.inl (by omega))
 rcases this with q|q
 .exact absurd q (by unfold swF at h;omega)
 .exact q
def Y22(l:tI)(i:Nat):Int:=if 0<i then(l[i-1]?).getD default else default
theorem V28{l:tI}{i:Nat}(hi:i<l.length)(hl:l.length<=1048576):(bif decide (0<(i:Int))then idx l (w64 ((i:Int)-1))else some default)=some (Y22 l i):=by
 unfold Y22
 by_cases h:0<i
 .have e:w64 ((i:Int)-1)=((i-1:Nat):Int):=by rw[Y5 (by omega)];omega
  rw[show decide (0<(i:Int))=true by simpa using h,yN,e,X3,yd h,yA (by omega)]
  rfl
 .rw[show decide (0<(i:Int))=false by simpa using h,yM,ye h]
def J23(l:tI):Bool:=(l.zipIdx 0).any λq=>decide (0<(q.2:Int))&&decide (q.1<=Y22 l q.2)
def U1d(t:Topo)(l:tI)(n level:Int):tI:=l.filter λx=>hasUp t x (swF t l n level).toNat
noncomputable def U0k(t:Topo)(l:tI)(n level:Int):tI×Bool :=
 if J7 t l=true/\1<=n/\J23 l=false/\0<=swF t l n level then(chL t (U1d t l n level) n (t.parents.length+1) [] [],true)else([],false)
theorem O1o{t:Topo}{l:tI}(hl:l.length<=24)(n level:Int):U06 t l n level=some (U0k t l n level)/\((U0k t l n level).2=true->((U0k t l n level).1.length:Int)=n/\∀m∈(U0k t l n level).1,m∈l):=by
 unfold U06 U0k
 rw[JF,bS]
 by_cases hno:J7 t l=true
 .by_cases hn:1<=n
  .rw[hno,show decide (n<1)=false by simp;omega,yL,Bool.or_self,yM]
   rw[J1W (r:=some ([],false)) (p:=λx i=>decide (0<(i:Int))&&decide (x<=Y22 l i)) (λj x k hx=>by
    have hj:=(yB hx).1
    rw[Nat.zero_add]
    unfold V06
    rw[V28 hj (by omega),bS])]
   rw[show((l.zipIdx 0).any λq=>decide (0<(q.2:Int))&&decide (q.1<=Y22 l q.2))=J23 l from rfl]
   cases hf:J23 l with
   |true =>
    rw[ye (by rintro⟨_,_,q,_⟩;cases q)]
    exact⟨rfl,λq=>by cases q⟩
   |false =>
    rw[yM]
    unfold X06
    obtain⟨s1,s2⟩:=M1N hno (by omega) n level
    rw[s1,bS]
    by_cases hs:0<=swF t l n level
    .rw[yd ⟨rfl,hn,rfl,hs⟩,show decide (swF t l n level<0)=false by simp;omega,yM]
     obtain⟨m,e⟩:∃m:Nat,swF t l n level=(m:Int):=⟨(swF t l n level).toNat,by omega⟩
     have e2:Ql t l (swF t l n level)=some (U1d t l n level):=by
      unfold U1d
      rw[e,yZ,Qm hno (by omega) m]
     rw[e2,bS]
     have hle:(U1d t l n level).length<=l.length:=List.length_filter_le ..
     have hmine:J7 t (U1d t l n level)=true:=O5.2 ⟨(O5.1 hno).1,λx hx=>(O5.1 hno).2 x (List.mem_filter.1 hx).1⟩
     obtain⟨c1,c2,c3⟩:=O24 (n:=n) hmine (by omega) hn (Z2m hs).1
     rw[c1]
     exact⟨rfl,λ_=>⟨c2,λx hx=>(List.mem_filter.1 (c3 x hx)).1⟩⟩
    .rw[ye λq=>hs q.2.2.2,show decide (swF t l n level<0)=true by simp;omega,yN]
     exact⟨rfl,λq=>by cases q⟩
  .rw[ye λq=>hn q.2.1,show(!J7 t l||decide (n<1))=true by
    rw[show decide (n<1)=true by simp;omega,Bool.or_true],yN]
   exact⟨rfl,λq=>by cases q⟩
 .rw[ye λq=>hno q.1,show J7 t l=false by simpa using hno,Bool.not_false,Bool.true_or,yN]
  exact⟨rfl,λq=>by cases q⟩
def XQ(fr:Int)(v:tI)(x:Pt):tI:=bif decide (fr<x.t)&&!v.contains x.t then rise x.t v else v
theorem U21(fr:Int)(v:tI)(x:Pt):(XQ fr v x).length<=v.length+1:=by
 unfold XQ
 cases(decide (fr<x.t)&&!v.contains x.t)with
 |true=>rw[yN,J0M];exact yV _
 |false=>rw[yM];omega
theorem V26{fr:Int}{k:tI->Option tI}:∀(p:tP) (i:Nat) (v:tI),v.length+p.length<=1048576->rgl (Mz fr) (ZR k) p i v=k (p.foldl (XQ fr) v)/\(p.foldl (XQ fr) v).length<=v.length+p.length
 |[],_,_,_=>⟨rfl,by simp⟩
 |x::p,i,v,h=>by
  simp only[yT]at h
  have hs:=U21 fr v x
  obtain⟨q1,q2⟩:=V26 (fr:=fr) (k:=k) p (i+1) (XQ fr v x) (by omega)
  refine⟨?_,by simp only[List.foldl_cons,yT];omega⟩
  rw[rgl,List.foldl_cons]
  unfold Mz
  rw[← q1]
  unfold XQ
  by_cases hx:fr<x.t
  .rw[show decide (fr<x.t)=true by simpa using hx,yN,Jd,bS,Bool.true_and]
   cases v.contains x.t with
   |true=>rfl
   |false =>
    simp only[Bool.not_false,yN]
    rw[U1x _ (by omega),bS]
    rfl
  .rw[show decide (fr<x.t)=false by simpa using hx,yM,bS,Bool.false_and,yM]
   rfl
def timesF(fr:Int)(ps:List tP)(v:tI):tI:=ps.foldl (λv p=>p.foldl (XQ fr) v) v
theorem X26{fr:Int}:∀(ps:List tP) (i:Nat) (v:tI),(∀p∈ps,p.length<=200)->v.length+200*ps.length<=1048576->rgl (Oz fr) JQ ps i v=some (timesF fr ps v)/\(timesF fr ps v).length<=v.length+200*ps.length
 |[],_,_,_,_=>⟨rfl,by simp[timesF]⟩
 |p::ps,i,v,hp,h=>by
  simp only[yT]at h
  have h1:=hp p (yJ ..)
  obtain⟨_,b2⟩:=V26 (fr:=fr) (k:=λ_=>none) p 0 v (by omega)
  obtain⟨q1,q2⟩:=X26 (fr:=fr) ps (i+1) (p.foldl (XQ fr) v) (λq hq=>hp q (yH _ hq)) (by omega)
  have e:timesF fr (p::ps) v=timesF fr ps (p.foldl (XQ fr) v):=rfl
  refine⟨?_,by rw[e];simp only[yT];omega⟩
  rw[rgl,e,← q1]
  unfold Oz
  exact(V26 p 0 v (by omega)).1
theorem U1T{r:Room}(h:RoomP r)(fr:Int):ZL r fr=some (timesF fr (r.profs++[r.lics]) [fr]):=by
 have h1:=h.topo.nodes
 have h2:=h.profs
 unfold ZL
 rw[Q0 (by simp;omega),bS,List.nil_append,Q0 (by simp;omega),bS]
 rw[show lenQ (r.profs++[r.lics])=some () by unfold lenQ;rw[yd (by simp;omega)],bS]
 refine(X26 _ 0 _ (λp hp=>?_) (by simp;omega)).1
 rcases List.mem_append.1 hp with hp|hp
 .exact(h.prof p hp).le
 .simp at hp;subst hp;exact h.lics.le
def spanOk(fr to_:Int):Bool:=time fr&&time to_&&decide (fr<to_)
def O03(r:Room)(need:Vec)(fr to_:Int)(v:tI)(i:Nat):tI :=
 bif (r.up[i]?).getD false&&X5 need (minV ((r.profs[i]?).getD []) fr to_)then v++[(i:Int)]else v
def J1l(r:Room)(need:Vec)(fr to_:Int):tI:=bif spanOk fr to_ then(List.range r.profs.length).foldl (O03 r need fr to_) []else[]
theorem Z04{fr to_:Int}:spanOk fr to_=true↔time fr=true/\time to_=true/\fr<to_:=by simp[spanOk,and_assoc]
theorem Z0n{r:Room}(R:RoomP r)(need:Vec)(fr to_:Int):MM r need fr to_=some (J1l r need fr to_)/\(J1l r need fr to_).length<=24:=by
 have h24:=R.topo.nodes
 have hpl:=R.profs
 unfold MM J1l
 rw[WD,bS,Y04.2 R,yL,yM]
 cases hs:spanOk fr to_ with
 |true =>
  obtain⟨q2,q3,q4⟩:=Z04.1 hs
  rw[yN]
  refine(Z0N (b:=([]:tI)) (f:=O03 r need fr to_) (λi (v:tI)=>v.length<=i) (λj v hj hv=>?_) (λj x v k hx hv=>?_) (yV 0)).imp (λe=>e) λe=>by omega
  .unfold O03
   cases(r.up[j]?).getD false&&X5 need (minV ((r.profs[j]?).getD []) fr to_)with
   |true=>rw[yN];simp;omega
   |false=>rw[yM];omega
  .have hj:=(yB hx).1
   obtain⟨u,hu⟩:∃u,r.up[j]?=some u:=⟨_,yA (by rw[R.up,← R.profs];exact hj)⟩
   unfold YB O03
   rw[QM,bS,yd ⟨X04.2 (R.prof _ (yE hx)),q2,q3,q4⟩,X3,hu,hx]
   simp only[yN,bS,Option.getD_some,Bool.true_and]
   cases(u&&X5 need (minV x fr to_))with
   |true=>rw[yN,yN,Q0 (by simp;omega),bS]
   |false=>rfl
 |false =>
  have hn:¬ (time fr=true/\time to_=true/\fr<to_):=λq=>by rw[Z04.2 q]at hs;cases hs
  rw[yM]
  refine⟨?_,by simp⟩
  refine Lh (l0:=r.profs) (λi (v:tI)=>v=[]) (λo=>o=some []) (λi x v k hx hI hk=>?_) (λv hI=>by rw[hI];rfl) rfl
  subst hI
  unfold YB
  rw[QM,bS,ye λq=>hn q.2]
  exact hk _ rfl
noncomputable def canM(r:Room)(j:Job)(t:Int):tI×Bool :=
 bif spanOk t (t+j.wall)&&X5 j.lic (minV r.lics t (t+j.wall))then U0k r.topo (J1l r j.need t (t+j.wall)) j.nodes j.level else([],false)
theorem Y2b{r:Room}(R:RoomP r){j:Job}(hj:Y1 j=true){t:Int}(ht:time t=true):M04 r j t=some (canM r j t):=by
 have hw:=(Xk.1 hj).2.2.2.2.2.1
 have ht':=Ob.1 ht
 unfold M04 canM
 rw[Y5 (by omega),QM,bS]
 by_cases hs:spanOk t (t+j.wall)=true
 .obtain⟨q2,q3,q4⟩:=Z04.1 hs
  rw[yd ⟨X04.2 R.lics,q2,q3,q4⟩,hs,Bool.true_and]
  simp only[yL,Bool.false_or]
  cases X5 j.lic (minV r.lics t (t+j.wall))with
  |false=>rfl
  |true =>
   obtain⟨e1,e2⟩:=Z0n R j.need t (t+j.wall)
   rw[yL,yM,yN,e1,bS,(O1o e2 j.nodes j.level).1]
   rfl
 .rw[ye λq=>hs (Z04.2 q.2),show spanOk t (t+j.wall)=false by simpa using hs]
  rfl
theorem M2l(fr m:Int):∀(p:tP) (v:tI),m∈p.foldl (XQ fr) v->m∈v\/∃x∈p,m=x.t
 |[],_,h=>.inl h
 |x::p,v,h=>by
  rw[List.foldl_cons]at h
  rcases M2l fr m p _ h with h|⟨y,hy,e⟩
  .unfold XQ at h
   cases hc:(decide (fr<x.t)&&!v.contains x.t)with
   |false=>rw[hc,yM]at h;exact .inl h
   |true =>
    rw[hc,yN]at h
    rcases(X0B x.t m v).1 h with h|h
    .exact .inr ⟨x,yJ ..,h⟩
    .exact .inl h
  .exact .inr ⟨y,yH _ hy,e⟩
theorem L0T(fr m:Int):∀(ps:List tP) (v:tI),m∈timesF fr ps v->m∈v\/∃p∈ps,∃x∈p,m=x.t
 |[],_,h=>.inl h
 |p::ps,v,h=>by
  have e:timesF fr (p::ps) v=timesF fr ps (p.foldl (XQ fr) v):=rfl
  rw[e]at h
  rcases L0T fr m ps _ h with h|⟨q,hq,x,hx,e⟩
  .rcases M2l fr m p v h with h|⟨x,hx,e⟩
   .exact .inl h
   .exact .inr ⟨p,yJ ..,x,hx,e⟩
  .exact .inr ⟨q,yH _ hq,x,hx,e⟩
theorem L1W{α γ:Type}{bd:α->Nat->Unit->(Unit->Option γ)->Option γ}{kk:Unit->Option γ}{p:α->Bool}{g:α->γ}:∀{l:List α} {i:Nat},(∀x∈l,∀i k,bd x i () k=bif p x then some (g x)else k ())->rgl bd kk l i ()=match l.find? p with
  |some x=>some (g x)
  |none=>kk ()
 |[],_,_=>rfl
 |x::l,i,h=>by
  rw[rgl,h x (yJ ..),List.find?_cons]
  cases p x with
  |true=>rfl
  |false=>exact L1W λy hy=>h y (yH _ hy)
noncomputable def U2k(r:Room)(j:Job)(fr:Int):Int×tI×Bool :=
 match(timesF fr (r.profs++[r.lics]) [fr]).find? (λt=>(canM r j t).2)with
 |some t=>(t,(canM r j t).1,true)
 |none=>(0,[],false)
theorem UZ(r:Room)(j:Job)(fr:Int):Vm r j fr=some (bif roomOk r&&Y1 j&&time fr then U2k r j fr else(0,[],false)):=by
 unfold Vm
 rw[WD,bS,Mb]
 cases hr:roomOk r with
 |false=>rfl
 |true=>cases hj:Y1 j with
  |false=>rfl
  |true=>cases ht:time fr with
   |false=>rfl
   |true =>
    have R:=Y04.1 hr
    simp only[yL,Bool.or_self,yM,Bool.and_self,yN]
    rw[U1T R,bS]
    have hall:∀t∈timesF fr (r.profs++[r.lics]) [fr],time t=true:=λt h=>by
     rcases L0T fr t _ _ h with h|⟨p,hp,x,hx,rfl⟩
     .rw[List.mem_singleton.1 h];exact ht
     .rcases List.mem_append.1 hp with hp|hp
      .exact((R.prof p hp).ok x hx).1
      .rw[List.mem_singleton.1 hp]at hx;exact(R.lics.ok x hx).1
    rw[L1W (p:=λt=>(canM r j t).2) (g:=λt=>(t,(canM r j t).1,true)) (λt h i k=>by
     unfold ZS
     rw[Y2b R hj (hall t h),bS])]
    unfold U2k JR
    cases(timesF fr (r.profs++[r.lics]) [fr]).find? (λt=>(canM r j t).2)<;>rfl
theorem W1L(n:Int):∀l:tI,(rise n l).Perm (n::l)
 |[]=>.refl _
 |x::l=>by
  unfold rise
  split
  .exact .refl _
  .exact((W1L n l).cons x).trans (.swap n x l)
theorem Q1c(n:Int):∀{l:tI},l.Pairwise (·<=·)->(rise n l).Pairwise (·<=·)
 |[],_=>by simp[rise]
 |x::l,h=>by
  unfold rise
  split
  .rename_i hx
   refine List.pairwise_cons.2 ⟨λy hy=>?_,h⟩
   rcases yX hy with rfl|hy
   .omega
   .have:=(List.pairwise_cons.1 h).1 y hy;omega
  .rename_i hx
   refine List.pairwise_cons.2 ⟨λy hy=>?_,Q1c n (List.pairwise_cons.1 h).2⟩
   rcases(X0B n y l).1 hy with rfl|hy
   .omega
   .exact(List.pairwise_cons.1 h).1 y hy
def U0L(n:Int)(v ys:tI):tI:=ys.foldl (λv x=>if(v.length:Int)<n then v++[x]else v) v
theorem U19(n:Int):∀(ys v:tI),U0L n v ys=v++ys.take (n.toNat-v.length)
 |[],v=>by simp[U0L]
 |y::ys,v=>by
  have e:U0L n v (y::ys)=U0L n (if(v.length:Int)<n then v++[y]else v) ys:=rfl
  rw[e]
  by_cases h:(v.length:Int)<n
  .rw[yd h,U19 n ys,yU,List.length_singleton,show n.toNat-v.length=(n.toNat-(v.length+1))+1 by omega,List.take_succ_cons,List.append_assoc]
   rfl
  .rw[ye h,U19 n ys,show n.toNat-v.length=0 by omega]
   simp
theorem O0Z(n:Int):∀(ys v w:tI),v.Perm w->v.Pairwise (·<=·)->(O0C n v ys).Perm (U0L n w ys)/\(O0C n v ys).Pairwise (·<=·)
 |[],v,w,h,hs=>⟨h,hs⟩
 |y::ys,v,w,h,hs=>by
  have e:O0C n v (y::ys)=O0C n (if(v.length:Int)<n then rise y v else v) ys:=rfl
  have e2:U0L n w (y::ys)=U0L n (if(w.length:Int)<n then w++[y]else w) ys:=rfl
  rw[e,e2,← h.length_eq]
  by_cases hv:(v.length:Int)<n
  .rw[yd hv,yd hv]
   refine O0Z n ys _ _ ?_ (Q1c y hs)
   exact(W1L y v).trans ((h.cons y).trans (List.perm_append_singleton y w).symm)
  .rw[ye hv,ye hv]
   exact O0Z n ys _ _ h hs
theorem O21{v w:tI}(h:v.Perm w)(hs:v.Pairwise (·<=·)):U0V w=v:=by
 have h1:(U0V w).Perm v:=(List.mergeSort_perm w _).trans h.symm
 have h2:(U0V w).Pairwise (·<=·):=by
  have:=List.pairwise_mergeSort (le:=λ(x y:Int)=>decide (x<=y)) (λa b c h1 h2=>by simp at *;omega) (λa b=>by simp;omega) w
  exact this.imp λh=>by simpa using h
 exact List.Perm.eq_of_pairwise (le:=(·<=·)) (λa b _ _ h1 h2=>Int.le_antisymm h1 h2) h2 hs h1
theorem J0T(n:Int)(grp:Int->tI):∀(B w:tI),B.foldl (λw s=>U0L n w (grp s)) w=w++(B.flatMap grp).take (n.toNat-w.length)
 |[],w=>by simp
 |s::B,w=>by
  rw[List.foldl_cons,J0T n grp B,U19,ya,List.append_assoc,List.take_append,yU,List.length_take]
  congr 3
  omega
theorem Q2i{t:Topo}{l taken:tI}{s0:Nat}(h0:s0<t.parents.length)(ok0:¬ (cntU t l s0=0\/kids t.parents (s0:Int)≠[]\/(s0:Int)∈taken))
  (best:∀s,s<t.parents.length->¬ (cntU t l s=0\/kids t.parents (s:Int)≠[]\/(s:Int)∈taken)->s≠s0->cntU t l s<cntU t l s0\/(cntU t l s=cntU t l s0/\s0<s)):J1d t l taken=(s0:Int):=by
 have key:∀n,n<=t.parents.length->(n<=s0->((List.range n).foldl (M02 t l taken) (-1)<0\/cntU t l ((List.range n).foldl (M02 t l taken) (-1)).toNat<cntU t l s0))/\(s0<n->(List.range n).foldl (M02 t l taken) (-1)=(s0:Int)):=by
  intro n
  induction n with
  |zero=>intro _;exact⟨λ_=>.inl (by simp),λh=>by omega⟩
  |succ n ih =>
   intro hn
   obtain⟨i1,i2⟩:=ih (by omega)
   rw[List.range_succ,List.foldl_append,List.foldl_cons,List.foldl_nil]
   generalize (List.range n).foldl (M02 t l taken) (-1)=v at i1 i2
   unfold M02
   by_cases hk:cntU t l n=0\/kids t.parents (n:Int)≠[]\/(n:Int)∈taken
   .rw[yd hk]
    refine⟨λh=>i1 (by omega),λh=>?_⟩
    by_cases e:n=s0
    .subst e;exact absurd hk ok0
    .exact i2 (by omega)
   .rw[ye hk]
    by_cases e:n=s0
    .subst e
     refine⟨λh=>by omega,λ_=>?_⟩
     rw[yd (i1 (yV _))]
    .have b:=best n (by omega) hk e
     refine⟨λh=>?_,λh=>?_⟩
     .have q:=i1 (by omega)
      split
      .right;rw[yZ];omega
      .exact q
     .have q:=i2 (by omega)
      rw[q,ye]
      rintro(h|h)
      .omega
      .rw[yZ]at h;omega
 exact(key _ (yV _)).2 h0
noncomputable def grp(t:Topo)(l:tI)(s:Int):tI:=l.filter λx=>decide ((lfOf t x:Int)=s)
theorem Z2p{t:Topo}{l L:tI}{n:Int}(hg:∀s,s<t.parents.length->kids t.parents (s:Int)=[]->(l.filter λx=>hasUp t x s)=grp t l (s:Int))
  (hm:∀z∈L,∃s:Nat,z=(s:Int)/\s<t.parents.length/\kids t.parents (s:Int)=[]/\cntU t l s≠0) (hm2:∀s:Nat,s<t.parents.length->kids t.parents (s:Int)=[]->cntU t l s≠0->(s:Int)∈L) (hn:L.Nodup)
  (hs:L.Pairwise λa b=>cntU t l b.toNat<cntU t l a.toNat\/(cntU t l b.toNat=cntU t l a.toNat/\a<b)) (hlen:n<=((L.flatMap (grp t l)).length:Int)) :
  ∀(B A v w:tI) (fuel:Nat),L=A++B->B.length<fuel->v.Perm w->v.Pairwise (·<=·)->w=(A.flatMap (grp t l)).take n.toNat ->
   (chL t l n fuel v A).Perm (B.foldl (λw s=>U0L n w (grp t l s)) w)/\(chL t l n fuel v A).Pairwise (·<=·)
 |[],A,v,w,fuel+1,hL,hf,hp,hsv,hw=>by
  have hvl:=hp.length_eq
  rw[List.append_nil]at hL
  subst hL
  have:w.length=min n.toNat (L.flatMap (grp t l)).length:=by rw[hw,List.length_take]
  rw[chL,ye (by omega)]
  exact⟨hp,hsv⟩
 |s::B,A,v,w,fuel+1,hL,hf,hp,hsv,hw=>by
  have hvl:=hp.length_eq
  rw[chL]
  by_cases hv:(v.length:Int)<n
  .rw[yd hv]
   have hsL:s∈L:=by rw[hL];simp
   obtain⟨m,rfl,h1,h2,h3⟩:=hm s hsL
   rw[hL]at hn hs
   have e:J1d t l A=(m:Int):=by
    refine Q2i h1 (by
     rintro(q|q|q)
     .exact h3 q
     .exact q h2
     .exact(List.nodup_append.1 hn).2.2 _ q _ (yJ ..) rfl) λs' hs' ok' hne=>?_
    have hk':kids t.parents (s':Int)=[]:=Classical.byContradiction λq=>ok' (.inr (.inl q))
    have hmem:=hm2 s' hs' hk' λq=>ok' (.inl q)
    rw[hL]at hmem
    rcases List.mem_append.1 hmem with q|q
    .exact absurd (.inr (.inr q)) ok'
    .rcases yX q with q|q
     .omega
     .have:=(List.pairwise_cons.1 (List.pairwise_append.1 hs).2.1).1 _ q
      simp only[yZ]at this
      omega
   rw[e,yZ,hg m h1 h2]
   obtain⟨p1,p2⟩:=O0Z n (grp t l (m:Int)) v w hp hsv
   rw[List.foldl_cons]
   refine Z2p hg hm hm2 (by rw[hL];exact hn) (by rw[hL];exact hs) hlen B (A++[(m:Int)]) _ _ fuel (by rw[hL];simp) (by simp at hf;omega) p1 p2 ?_
   rw[U19,hw,List.flatMap_append,List.take_append,List.length_take,ya,List.flatMap_nil,List.append_nil]
   congr 2
   omega
  .rw[ye hv]
   refine⟨?_,hsv⟩
   rw[J0T,show n.toNat-w.length=0 by omega]
   simpa using hp
theorem J1x{t:Topo}{l:tI}(h:J7 t l=true){x:Int}(hx:x∈l){s:Nat}(hk:kids t.parents (s:Int)=[]):hasUp t x s=decide ((lfOf t x:Int)=(s:Int)):=by
 obtain⟨q1,q2,q3⟩:=Z1Z h hx
 by_cases e:lfOf t x=s
 .rw[← e,q1];simp
 .rw[show decide ((lfOf t x:Int)=(s:Int))=false by simp;omega]
  rw[Bool.eq_false_iff]
  intro hu
  obtain⟨e1,m,r1,r2,r3⟩:=VX h hx
  have T:=(O5.1 h).1.tree
  have em:lfOf t x=m:=by unfold lfOf;rw[r1];simp only;omega
  unfold hasUp at hu
  rw[r1]at hu
  simp only[List.contains_iff_mem,r2,yZ]at hu
  obtain⟨a,ha,hae⟩:=yY hu
  have hae:a=s:=by omega
  subst hae
  obtain⟨c,hc,_⟩:=T.kid_of m r3 a ha (by omega)
  rw[hk]at hc
  cases hc
theorem X1I(t:Topo)(x:Int)(m:tI)(s:Int):grp t (x::m) s=if(lfOf t x:Int)=s then x::grp t m s else grp t m s:=by
 unfold grp
 rw[List.filter_cons]
 by_cases e:(lfOf t x:Int)=s<;>simp[e]
theorem Y1I(t:Topo)(x:Int)(m:tI):∀L:tI,(L.flatMap (grp t m)).length<=(L.flatMap (grp t (x::m))).length
 |[]=>yV _
 |s::L=>by
  have:=Y1I t x m L
  rw[ya,ya,yU,yU,X1I]
  split
  .simp only[yT];omega
  .omega
theorem Z2d{t:Topo}{L:tI}:∀{m:tI},(∀x∈m,(lfOf t x:Int)∈L)->m.length<=(L.flatMap (grp t m)).length
 |[],_=>Nat.zero_le _
 |x::m,h=>by
  have ih:=Z2d (L:=L) (m:=m) λy hy=>h y (yH _ hy)
  obtain⟨A,B,e⟩:=List.append_of_mem (h x (yJ ..))
  have h1:=Y1I t x m A
  have h2:=Y1I t x m B
  have h3:(grp t (x::m) (lfOf t x:Int)).length=(grp t m (lfOf t x:Int)).length+1:=by rw[X1I,yd rfl];rfl
  rw[e]at ih ⊢
  simp only[List.flatMap_append,ya,yU,yT]at ih ⊢
  omega
theorem U10{t:Topo}{l:tI}(h:J7 t l=true)(hl:l.length<=1048576)(s:Nat):XS t l (s:Int)=some (l.filter λn=>hasUp t n s):=by
 rw[← Qm h hl s]
 unfold XS Ql
 exact V0u (λi x b k _=>by
  unfold X0d MU
  simp only[Y0P,Um,Jd]) λ_=>rfl
def swMk(t:Topo)(l:tI)(v:Int):Int×Int×Int:=(v,if v<0 then 0 else lev t v.toNat,if v<0 then 0 else(cntU t l v.toNat:Int))
theorem V2f{t:Topo}{l:tI}(h:J7 t l=true)(hl:l.length<=24)(n level:Int):ZT t l n level=Qe t l n (swMk t l (swF t l n level)):=by
 have T:=(O5.1 h).1
 unfold ZT
 refine Lh (λi (b:Int×Int×Int)=>inR i ((List.range i).foldl (XK t l n level) (-1))/\b=swMk t l ((List.range i).foldl (XK t l n level) (-1))) (λo=>o=Qe t l n (swMk t l (swF t l n level))) (λi x b k hx hI hk=>?_) (λb hI=>by rw[hI.2];rfl) ⟨⟨by simp,by simp⟩,rfl⟩
 obtain⟨hr,rfl⟩:=hI
 have hi:=(yB hx).1
 have hk2:∀b',inR (i+1) (XK t l n level ((List.range i).foldl (XK t l n level) (-1)) i)->b'=swMk t l (XK t l n level ((List.range i).foldl (XK t l n level) (-1)) i)->k b'=Qe t l n (swMk t l (swF t l n level)):=by
  intro b' q1 q2
  refine hk b' ?_
  rw[List.range_succ,List.foldl_append,List.foldl_cons,List.foldl_nil]
  exact⟨q1,q2⟩
 clear hk
 generalize (List.range i).foldl (XK t l n level) (-1)=v at hr hk2 ⊢
 obtain⟨r1,r2⟩:=hr
 have keep:XK t l n level v i=v->k (swMk t l v)=Qe t l n (swMk t l (swF t l n level)):=λe=>hk2 _ (by rw[e];exact⟨r1,by omega⟩) (by rw[e])
 have take:XK t l n level v i=(i:Int)->k ((i:Int),lev t i,(cntU t l i:Int))=Qe t l n (swMk t l (swF t l n level)):=λe=>hk2 _ (by rw[e];exact⟨by omega,by omega⟩) (by
  rw[e];unfold swMk;rw[ye (by omega),ye (by omega),yZ])
 unfold L07
 rw[ON T hi,bS]
 by_cases c1:level<lev t i
 .rw[show decide (level<lev t i)=true by simpa using c1,yN]
  exact keep (by unfold XK;rw[yd (.inr c1)])
 rw[show decide (level<lev t i)=false by simpa using c1,yM,U10 h (by omega) i,bS]
 rw[show(l.filter λn=>hasUp t n i).length=cntU t l i from rfl]
 by_cases c2:(cntU t l i:Int)<n
 .rw[show decide (n<=(cntU t l i:Int))=false by simp;omega,Bool.false_and,yM]
  exact keep (by unfold XK;rw[yd (.inl c2)])
 rw[show decide (n<=(cntU t l i:Int))=true by simp;omega,Bool.true_and]
 have hst:XK t l n level v i=if v<0\/lev t i<lev t v.toNat\/(lev t i=lev t v.toNat/\(cntU t l i:Int)<cntU t l v.toNat)then(i:Int)else v:=by
  unfold XK;rw[ye (by omega)]
 by_cases c3:v<0
 .rw[show decide ((swMk t l v).1<0)=true from decide_eq_true c3]
  simp only[Bool.true_or,yN]
  exact take (by rw[hst,yd (.inl c3)])
 .rw[show decide ((swMk t l v).1<0)=false from decide_eq_false c3,Bool.false_or]
  rw[show(swMk t l v).2.1=lev t v.toNat by unfold swMk;simp[c3],show(swMk t l v).2.2=(cntU t l v.toNat:Int) by unfold swMk;simp[c3]]
  by_cases c4:lev t i<lev t v.toNat
  .rw[show decide (lev t i<lev t v.toNat)=true by simpa using c4,Bool.true_or,yN]
   exact take (by rw[hst,yd (.inr (.inl c4))])
  .rw[show decide (lev t i<lev t v.toNat)=false by simpa using c4,Bool.false_or]
   by_cases c5:lev t i=lev t v.toNat/\(cntU t l i:Int)<cntU t l v.toNat
   .rw[show((lev t i==lev t v.toNat)&&decide ((cntU t l i:Int)<(cntU t l v.toNat:Int)))=true by simpa using c5,yN]
    exact take (by rw[hst,yd (.inr (.inr c5))])
   .rw[show((lev t i==lev t v.toNat)&&decide ((cntU t l i:Int)<(cntU t l v.toNat:Int)))=false by
     rw[Bool.eq_false_iff];intro q;exact c5 (by simpa using q),yM]
    rw[show((swMk t l v).1,lev t v.toNat,(cntU t l v.toNat:Int))=swMk t l v by unfold swMk;simp[c3]]
    refine keep (by rw[hst,ye];rintro(q|q|q)<;>first|exact c3 q|exact c4 q|exact c5 q)
def cntM(t:Topo)(m:tI):tI:=(List.range t.parents.length).map λs=>((m.filter λx=>decide (lfOf t x=s)).length:Int)
theorem Y2f(t:Topo)(m:tI){s:Nat}(hs:s<t.parents.length):(cntM t m)[s]?=some ((m.filter λx=>decide (lfOf t x=s)).length:Int):=by
 unfold cntM;simp[hs]
theorem V20(t:Topo)(m:tI){s:Nat}(hs:s<t.parents.length):(cntM t m).getD s 0=((grp t m (s:Int)).length:Int):=by
 rw[List.getD_eq_getElem?_getD,Y2f t m hs,Option.getD_some]
 unfold grp
 rw[show(λx=>decide (lfOf t x=s))=λx=>decide ((lfOf t x:Int)=(s:Int)) from by
  funext x;rw[decide_eq_decide];omega]
theorem Z2f(t:Topo)(m:tI)(x:Int):cntM t (m++[x])=(cntM t m).set (lfOf t x) (((m.filter λy=>decide (lfOf t y=lfOf t x)).length:Int)+1):=by
 apply List.ext_getElem
 .simp[cntM]
 .intro s h1 h2
  have hs:s<t.parents.length:=by simpa[cntM]using h1
  rw[List.getElem_set]
  unfold cntM
  simp only[List.getElem_map,List.getElem_range,List.filter_append,yU]
  by_cases e:lfOf t x=s
  .subst e;simp
  .rw[ye e];simp[e]
theorem X1T(cnt zs:tI):(zs.mergeSort (JD cnt)).Pairwise λa b=>JD cnt a b=true:=by
 refine List.pairwise_mergeSort (λa b c h1 h2=>?_) (λa b=>?_) zs
 .unfold JD at *
  simp only[Bool.not_eq_true',decide_eq_false_iff_not]at *
  omega
 .unfold JD
  simp only[Bool.or_eq_true,Bool.not_eq_true',decide_eq_false_iff_not]
  omega
theorem Z1u{t:Topo}{l:tI}(h:J7 t l=true)(hl:l.length<=24){n:Int}(hn:1<=n)(hf:J23 l=false)(level:Int):ZT t l n level=some (U0k t l n level):=by
 have T:=(O5.1 h).1
 have hP:=T.tree.le
 rw[V2f h hl]
 unfold Qe U0k
 by_cases hs:0<=swF t l n level
 rotate_left
 .rw[ye λq=>hs q.2.2.2,show decide ((swMk t l (swF t l n level)).1<0)=true from decide_eq_true (by show swF t l n level<0;omega),yN]
 rw[yd ⟨h,hn,hf,hs⟩,show decide ((swMk t l (swF t l n level)).1<0)=false from decide_eq_false (by show ¬ swF t l n level<0;omega),yM]
 have e1:XS t l (swMk t l (swF t l n level)).1=some (U1d t l n level):=by
  obtain⟨m,e⟩:∃m:Nat,swF t l n level=(m:Int):=⟨(swF t l n level).toNat,by omega⟩
  unfold U1d
  rw[show(swMk t l (swF t l n level)).1=swF t l n level from rfl,e,yZ,U10 h (by omega) m]
 rw[e1,bS]
 have hle:(U1d t l n level).length<=l.length:=List.length_filter_le ..
 have hmine:J7 t (U1d t l n level)=true:=O5.2 ⟨(O5.1 h).1,λx hx=>(O5.1 h).2 x (List.mem_filter.1 hx).1⟩
 have hnm:n<=(U1d t l n level).length:=(Z2m hs).1
 generalize U1d t l n level=m at hle hmine hnm ⊢
 rw[show mkL 8 (t.parents.length:Int) (0:Int)=some (List.replicate t.parents.length 0) by unfold mkL;rw[yd (by omega),yZ],bS]
 refine Lh (λi (b:tI×tI)=>b.1=cntM t (m.take i)/\b.2.Nodup/\∀z,z∈b.2↔∃x∈m.take i,z=(lfOf t x:Int)) (λo=>o=some (chL t m n (t.parents.length+1) [] [],true)) (λi x b k hx hI hk=>?_) (λb hI=>?_) ⟨?_,List.nodup_nil,λz=>by simp⟩
 .obtain⟨i1,i2,i3⟩:=hI
  have hi:=(yB hx).1
  have hxm:x∈m:=yE hx
  obtain⟨e,s,r1,r2,r3⟩:=VX hmine hxm
  have es:lfOf t x=s:=by unfold lfOf;rw[r1];simp only;omega
  have htk:m.take (i+1)=m.take i++[x]:=by rw[List.take_succ_eq_append_getElem hi];rw[yA hi]at hx;rw[Option.some.inj hx]
  have hbnd:((m.take i).filter λy=>decide (lfOf t y=s)).length<=24:=Nat.le_trans (List.length_filter_le ..) (by simp;omega)
  unfold M07
  rw[r1,bS,r2,i1,X3,Y2f t _ r3,bS,Um,bS,Y5 (by omega),yZ]
  have hset:(cntM t (m.take i)).set s (((m.take i).filter λy=>decide (lfOf t y=s)).length+1:Int)=cntM t (m.take (i+1)):=by
   rw[htk,Z2f,es]
  have hbl:b.2.length<=24:=by
   have:=i2.length_le_of_subset (l₂:=(m.take i).map λx=>(lfOf t x:Int)) λz hz=>by
    obtain⟨y,hy,e⟩:=(i3 z).1 hz
    exact List.mem_map.2 ⟨y,hy,e.symm⟩
   simp at this;omega
  rw[hset]
  cases hc:b.2.contains (s:Int)with
  |true =>
   have hc:=List.contains_iff_mem.1 hc
   refine hk _ ⟨rfl,i2,λz=>?_⟩
   rw[i3,htk]
   constructor
   .rintro⟨y,hy,e⟩;exact⟨y,by simp[hy],e⟩
   .rintro⟨y,hy,e⟩
    rcases List.mem_append.1 hy with hy|hy
    .exact⟨y,hy,e⟩
    .rw[List.mem_singleton.1 hy,es]at e
     rw[← i3,e];exact hc
  |false =>
   have hc:(s:Int)∉b.2:=λq=>by rw[List.contains_iff_mem.2 q]at hc;cases hc
   simp only[Bool.not_false,yN]
   rw[Q0 (by simp;omega),bS]
   refine hk _ ⟨rfl,?_,λz=>?_⟩
   .rw[List.nodup_append]
    exact⟨i2,by simp,λa ha c hc' q=>by rw[List.mem_singleton.1 hc']at q;exact hc (q ▸ ha)⟩
   .rw[List.mem_append,i3,htk,List.mem_singleton]
    constructor
    .rintro(⟨y,hy,e⟩|e)
     .exact⟨y,by simp[hy],e⟩
     .exact⟨x,by simp,by rw[es];exact e⟩
    .rintro⟨y,hy,e⟩
     rcases List.mem_append.1 hy with hy|hy
     .exact .inl ⟨y,hy,e⟩
     .rw[List.mem_singleton.1 hy,es]at e;exact .inr e
 .obtain⟨i1,i2,i3⟩:=hI
  rw[List.take_of_length_le (yV _)]at i1 i3
  unfold O07
  rw[i1]
  have lfP:∀z∈b.2,∃s:Nat,z=(s:Int)/\s<t.parents.length/\kids t.parents (s:Int)=[]/\cntU t m s≠0:=λz hz=>by
   obtain⟨x,hx,e⟩:=(i3 z).1 hz
   obtain⟨q1,q2,q3⟩:=Z1Z hmine hx
   refine⟨lfOf t x,e,q2,q3,λq=>?_⟩
   have:x∈m.filter λn=>hasUp t n (lfOf t x):=List.mem_filter.2 ⟨hx,q1⟩
   have q:(m.filter λn=>hasUp t n (lfOf t x)).length=0:=q
   rw[List.eq_nil_of_length_eq_zero q]at this
   cases this
  have hbl:b.2.length<=t.parents.length:=by
   have:=i2.length_le_of_subset (l₂:=(List.range t.parents.length).map λ(s:Nat)=>(s:Int)) λz hz=>by
    obtain⟨s,e,hs,_⟩:=lfP z hz
    exact List.mem_map.2 ⟨s,List.mem_range.2 hs,e.symm⟩
   simpa using this
  have hin:Y1a (cntM t m) b.2:=by
   refine⟨λz hz=>?_,by simp[cntM];omega,λc hc=>?_,by omega⟩
   .obtain⟨s,e,hs,_⟩:=lfP z hz
    simp[cntM];omega
   .obtain⟨s,_,rfl⟩:=yY hc
    have:(m.filter λx=>decide (lfOf t x=s)).length<=m.length:=List.length_filter_le ..
    omega
  unfold L0A
  rw[yd hin,bS]
  have hg:∀s,s<t.parents.length->kids t.parents (s:Int)=[]->(m.filter λx=>hasUp t x s)=grp t m (s:Int):=λs _ hk=>by
   unfold grp
   exact List.filter_congr λx hx=>J1x hmine hx hk
  have hmem:∀z,z∈b.2.mergeSort (JD (cntM t m))↔z∈b.2:=λz=>(List.mergeSort_perm b.2 _).mem_iff
  have hm2:∀s:Nat,s<t.parents.length->kids t.parents (s:Int)=[]->cntU t m s≠0->(s:Int)∈b.2.mergeSort (JD (cntM t m)):=λs hs hk hc=>by
   rw[hmem,i3]
   have:(m.filter λn=>hasUp t n s)≠[]:=λq=>hc (by unfold cntU;rw[q];rfl)
   obtain⟨x,hx⟩:=List.exists_mem_of_ne_nil _ this
   obtain⟨x1,x2⟩:=List.mem_filter.1 hx
   rw[J1x hmine x1 hk]at x2
   exact⟨x,x1,by simpa using(of_decide_eq_true x2).symm⟩
  have hnd:(b.2.mergeSort (JD (cntM t m))).Nodup:=(List.mergeSort_perm b.2 _).nodup_iff.2 i2
  have hsort:(b.2.mergeSort (JD (cntM t m))).Pairwise λa c=>cntU t m c.toNat<cntU t m a.toNat\/(cntU t m c.toNat=cntU t m a.toNat/\a<c):=by
   refine List.Pairwise.imp_of_mem (fun{a c} ha hc q=>?_) ((X1T (cntM t m) b.2).and hnd)
   obtain⟨q,hne⟩:=q
   obtain⟨sa,ea,ha1,ha2,_⟩:=lfP a ((hmem a).1 ha)
   obtain⟨sc,ec,hc1,hc2,_⟩:=lfP c ((hmem c).1 hc)
   subst ea;subst ec
   unfold JD at q
   rw[yZ,yZ,V20 t m ha1,V20 t m hc1,← hg sa ha1 ha2,← hg sc hc1 hc2]at q
   rw[yZ,yZ]
   unfold cntU
   simp only[Bool.not_eq_true',decide_eq_false_iff_not]at q
   omega
  have hlen:n<=(((b.2.mergeSort (JD (cntM t m))).flatMap (grp t m)).length:Int):=by
   have:=Z2d (t:=t) (L:=b.2.mergeSort (JD (cntM t m))) (m:=m) λx hx=>by rw[hmem,i3];exact⟨x,hx,rfl⟩
   omega
  have hll:(b.2.mergeSort (JD (cntM t m))).length<t.parents.length+1:=by rw[List.length_mergeSort];omega
  obtain⟨p1,p2⟩:=Z2p hg (λz hz=>lfP z ((hmem z).1 hz)) hm2 hnd hsort hlen _ [] [] [] _ rfl hll (.refl _) .nil (by simp)
  have hmemI:∀z∈b.2.mergeSort (JD (cntM t m)),∃s:Nat,z=(s:Int):=λz hz=>by
   obtain⟨s,e,_⟩:=lfP z ((hmem z).1 hz)
   exact⟨s,e⟩
  generalize b.2.mergeSort (JD (cntM t m))=L at p1 hmemI
  rw[JM (f:=λw s=>U0L n w (grp t m s)) (λs hs i w k=>by
   unfold X00
   have key:∀(ys:tI) (i:Nat) (w:tI),(∀y∈ys,y∈m)->rgl (Wy t n s) (W07 k) ys i w=k (U0L n w (grp t ys s)):=by
    intro ys
    induction ys with
    |nil=>intro i w _;rfl
    |cons y ys ih =>
     intro i w hy
     obtain⟨e,c,r1,r2,r3⟩:=VX hmine (hy y (yJ ..))
     have es:lfOf t y=c:=by unfold lfOf;rw[r1];simp only;omega
     have hb:∀k',Wy t n s y i w k'=if(c:Int)=s/\(w.length:Int)<n then k' (w++[y])else k' w:=λk'=>by
      unfold Wy
      rw[r1,bS,r2]
      by_cases h1:(c:Int)=s
      .rw[show((c:Int)==s)=true by simpa using h1,Bool.true_and]
       by_cases h2:(w.length:Int)<n
       .rw[show decide ((w.length:Int)<n)=true by simpa using h2,yN,Q0 (by simp;omega),bS,yd ⟨h1,h2⟩]
       .rw[show decide ((w.length:Int)<n)=false by simpa using h2,yM,ye λq=>h2 q.2]
      .rw[show((c:Int)==s)=false by simpa using h1,Bool.false_and,yM,ye λq=>h1 q.1]
     rw[rgl,hb,X1I,es]
     by_cases h1:(c:Int)=s
     .rw[yd h1]
      by_cases h2:(w.length:Int)<n
      .rw[yd ⟨h1,h2⟩,ih _ _ λz hz=>hy z (yH _ hz)]
       congr 1
       unfold U0L
       rw[List.foldl_cons,yd h2]
      .rw[ye λq=>h2 q.2,ih _ _ λz hz=>hy z (yH _ hz)]
       congr 1
       unfold U0L
       rw[List.foldl_cons,ye h2]
     .rw[ye h1,ye λq=>h1 q.1,ih _ _ λz hz=>hy z (yH _ hz)]
   exact key m 0 w λ_ h=>h)]
  unfold Y00 J1A
  have hfl:((L.foldl (λw s=>U0L n w (grp t m s)) []).length:Int)<=24:=by
   rw[J0T]
   simp
   omega
  rw[yd (by omega),bS,O21 p1 p2]
 .show List.replicate t.parents.length 0=cntM t []
  unfold cntM
  rw[eq_comm,List.eq_replicate_iff]
  exact⟨by simp,λb hb=>by obtain⟨_,_,rfl⟩:=yY hb;rfl⟩
theorem J17{r:Room}(R:RoomP r)(need:Vec){fr to_:Int}(hs:spanOk fr to_=true):LN r need fr to_=some (J1l r need fr to_):=by
 have h24:=R.topo.nodes
 have hpl:=R.profs
 unfold LN J1l
 rw[hs,yN]
 refine(Z0N (b:=([]:tI)) (f:=O03 r need fr to_) (λi (v:tI)=>v.length<=i) (λj v hj hv=>?_) (λj x v k hx hv=>?_) (yV 0)).1
 .unfold O03
  cases(r.up[j]?).getD false&&X5 need (minV ((r.profs[j]?).getD []) fr to_)with
  |true=>rw[yN];simp;omega
  |false=>rw[yM];omega
 .have hj:=(yB hx).1
  obtain⟨u,hu⟩:∃u,r.up[j]?=some u:=⟨_,yA (by rw[R.up,← R.profs];exact hj)⟩
  unfold OS O03
  rw[X3,hu,hx]
  simp only[bS,Option.getD_some,O0v]
  cases u with
  |false=>rfl
  |true =>
   rw[yN,M0O (R.prof _ (yE hx)),bS,Bool.true_and]
   cases X5 need (minV x fr to_)with
   |true=>rw[yN,yN,Q0 (by simp;omega),bS]
   |false=>rfl
theorem U2e{r:Room}(R:RoomP r)(need:Vec)(fr to_:Int):(J1l r need fr to_).Pairwise (· < ·)/\∀z∈J1l r need fr to_,0<=z/\z<r.topo.nodes.length:=by
 have hpl:=R.profs
 unfold J1l
 cases spanOk fr to_ with
 |false=>exact⟨List.Pairwise.nil,λz hz=>by simp at hz⟩
 |true =>
  rw[yN,← hpl]
  generalize r.profs.length=n
  induction n with
  |zero=>exact⟨List.Pairwise.nil,λz hz=>by simp at hz⟩
  |succ n ih =>
   obtain⟨i1,i2⟩:=ih
   rw[List.range_succ,List.foldl_append,List.foldl_cons,List.foldl_nil]
   generalize (List.range n).foldl (O03 r need fr to_) []=v at i1 i2
   unfold O03
   cases(r.up[n]?).getD false&&X5 need (minV ((r.profs[n]?).getD []) fr to_)with
   |false=>exact⟨i1,λz hz=>by have:=i2 z hz;omega⟩
   |true =>
    rw[yN]
    refine⟨List.pairwise_append.2 ⟨i1,List.pairwise_singleton ..,λa ha b hb=>?_⟩,λz hz=>?_⟩
    .rw[List.mem_singleton.1 hb];have:=i2 a ha;omega
    .rcases List.mem_append.1 hz with hz|hz
     .have:=i2 z hz;omega
     .rw[List.mem_singleton.1 hz];omega
theorem J2d{l:tI}(h:l.Pairwise (· < ·)):J23 l=false:=by
 unfold J23
 rw[List.any_eq_false]
 rintro⟨x,i⟩ hq
 obtain⟨hi,e⟩:∃hi:i<l.length,x=l[i]:=by
  have hx:=List.mem_zipIdx hq
  simp only[Nat.zero_le,Nat.zero_add,Nat.sub_zero,true_and]at hx
  obtain⟨hi,e⟩:=hx
  exact⟨hi,e⟩
 clear hq
 simp only[yD,yO,not_and]
 intro h0 hle
 have h0:0<i:=by omega
 unfold Y22 at hle
 rw[yd h0,yA (by omega),Option.getD_some]at hle
 subst e
 have:=List.pairwise_iff_getElem.1 h (i-1) i (by omega) hi (by omega)
 omega
theorem W1c(n:Int):∀{l:tI},l.Pairwise (· < ·)->n∉l->(rise n l).Pairwise (· < ·)
 |[],_,_=>by simp[rise]
 |x::l,h,hn=>by
  have hx:n≠x:=λe=>hn (by simp[e])
  unfold rise
  split
  .rename_i hlt
   refine List.pairwise_cons.2 ⟨λy hy=>?_,h⟩
   rcases yX hy with rfl|hy
   .exact hlt
   .have:=(List.pairwise_cons.1 h).1 y hy;omega
  .refine List.pairwise_cons.2 ⟨λy hy=>?_,W1c n (List.pairwise_cons.1 h).2 λq=>hn (yH _ q)⟩
   rcases(X0B n y l).1 hy with rfl|hy
   .omega
   .exact(List.pairwise_cons.1 h).1 y hy
theorem O1z(fr:Int){v:tI}(h:v.Pairwise (· < ·))(x:Pt):(XQ fr v x).Pairwise (· < ·):=by
 unfold XQ
 cases hc:(decide (fr<x.t)&&!v.contains x.t)with
 |false=>exact h
 |true =>
  rw[yN]
  simp only[yD,Bool.not_eq_true']at hc
  exact W1c _ h λq=>by rw[List.contains_iff_mem.2 q]at hc;cases hc.2
theorem X0L(fr:Int)(ps:List tP){v:tI}(h:v.Pairwise (· < ·)):(timesF fr ps v).Pairwise (· < ·) :=
 M0P (λv:tI=>v.Pairwise (· < ·)) (λv p hv=>M0P (λv:tI=>v.Pairwise (· < ·)) (λ_ x hv=>O1z fr hv x) p v hv) ps v h
theorem L2l(fr m:Int):∀(p:tP) (v:tI),m∈p.foldl (XQ fr) v↔m∈v\/∃x∈p,fr<x.t/\m=x.t
 |[],v=>by simp
 |x::p,v=>by
  have h1:m∈XQ fr v x↔m∈v\/(fr<x.t/\m=x.t):=by
   unfold XQ
   by_cases hx:fr<x.t
   .rw[show decide (fr<x.t)=true by simpa using hx,Bool.true_and]
    cases hc:v.contains x.t with
    |true =>
     have:=List.contains_iff_mem.1 hc
     simp only[yL,yM]
     exact⟨.inl,λq=>q.elim id λq=>q.2 ▸ this⟩
    |false =>
     simp only[Bool.not_false,yN]
     rw[X0B]
     exact⟨λq=>q.elim (λe=>.inr ⟨hx,e⟩) .inl,λq=>q.elim .inr λe=>.inl e.2⟩
   .rw[show decide (fr<x.t)=false by simpa using hx,Bool.false_and,yM]
    exact⟨.inl,λq=>q.elim id λq=>absurd q.1 hx⟩
  rw[List.foldl_cons,L2l fr m p,h1]
  simp only[List.mem_cons,exists_eq_or_imp,or_assoc]
theorem Y1w(fr m:Int):∀(ps:List tP) (v:tI),m∈timesF fr ps v↔m∈v\/∃p∈ps,∃x∈p,fr<x.t/\m=x.t
 |[],v=>by simp[timesF]
 |p::ps,v=>by
  have e:timesF fr (p::ps) v=timesF fr ps (p.foldl (XQ fr) v):=rfl
  rw[e,Y1w fr m ps,L2l]
  simp only[List.mem_cons,exists_eq_or_imp,or_assoc]
def ptsF(fr:Int)(p:tP):tI:=(p.filter λx=>decide (fr<x.t)).map Pt.t
theorem Y23{r:Room}(R:RoomP r)(j:Job)(fr:Int):((appL 24 [r.lics] r.profs).bind λxs5=>rgl (OC fr) (QC r j) xs5 0 [fr])=rgl (Lj r j) Qq (timesF fr (r.profs++[r.lics]) [fr]) 0 ():=by
 have h1:=R.topo.nodes
 have h2:=R.profs
 rw[Q0 (by simp;omega),bS]
 have hle:∀p∈[r.lics]++r.profs,p.length<=200:=λp hp=>by
  rcases List.mem_append.1 hp with hp|hp
  .simp at hp;subst hp;exact R.lics.le
  .exact(R.prof p hp).le
 refine Lh (l0:=[r.lics]++r.profs) (λi (v:tI)=>v=[fr]++(([r.lics]++r.profs).take i).flatMap (ptsF fr)/\v.length<=1+200*i) (λo=>o=rgl (Lj r j) Qq (timesF fr (r.profs++[r.lics]) [fr]) 0 ()) (λi p v k hx hI hk=>?_) (λv hI=>?_) ⟨by simp,by simp⟩
 .obtain⟨i1,i2⟩:=hI
  have hi:=(yB hx).1
  have hp:=hle p (yE hx)
  simp only[yU,List.length_singleton]at hi
  unfold OC
  rw[Q7 (bd:=YU fr) (bs:=8) (p:=λx:Pt=>decide (fr<x.t)) (f:=Pt.t) (λx _ i b k=>rfl) (by omega)]
  unfold ZU
  refine hk _ ⟨?_,?_⟩
  .rw[List.take_succ_eq_append_getElem (by simp;omega),List.flatMap_append,ya,List.flatMap_nil,List.append_nil,i1,List.append_assoc]
   rw[yA (by simp;omega)]at hx
   rw[Option.some.inj hx];rfl
  .have:(p.filter λx:Pt=>decide (fr<x.t)).length<=p.length:=List.length_filter_le ..
   simp only[yU,List.length_map];omega
 .obtain⟨i1,i2⟩:=hI
  rw[List.take_of_length_le (yV _)]at i1
  unfold QC J1A
  have hl:v.length<4611686018427387904:=by simp at i2;omega
  rw[yd hl,bS]
  obtain⟨s1,s2⟩:=Q1w v
  obtain⟨c1,c2⟩:=X11 s1
  rw[Q0V c1 (X0L fr (r.profs++[r.lics]) (v:=[fr]) (by simp)) λx=>?_]
  rw[c2,s2,i1,Y1w]
  simp only[List.mem_append,List.mem_flatMap,ptsF,List.mem_map,List.mem_filter,yO]
  constructor
  .rintro(q|⟨p,hp,y,⟨hy,hlt⟩,rfl⟩)
   .exact .inl q
   .exact .inr ⟨p,hp.symm,y,hy,hlt,rfl⟩
  .rintro(q|⟨p,hp,y,hy,hlt,rfl⟩)
   .exact .inl q
   .exact .inr ⟨p,hp.symm,y,⟨hy,hlt⟩,rfl⟩
theorem L1P{r:Room}(R:RoomP r){j:Job}(hj:Y1 j=true):∀(l:tI) (i:Nat),l.Pairwise (· < ·)->(∀t∈l,time t=true)->rgl (Lj r j) Qq l i ()=some (match l.find? (λt=>(canM r j t).2)with
  |some t=>(t,(canM r j t).1,true)
  |none=>(0,[],false))
 |[],_,_,_=>rfl
 |t::l,i,hs,ht=>by
  have hw:=(Xk.1 hj).2.2.2.2.2.1
  have hnn:=(Xk.1 hj).2.2.1
  have ht0:=Ob.1 (ht t (yJ ..))
  obtain⟨s1,s2⟩:=List.pairwise_cons.1 hs
  rw[rgl]
  unfold Lj
  rw[Y5 (by omega)]
  have far:∀t',1000000000<t'+j.wall->(canM r j t').2=false:=λt' h=>by
   have:spanOk t' (t'+j.wall)=false:=by
    rw[Bool.eq_false_iff];intro q
    have:=Ob.1 (Z04.1 q).2.1
    omega
   unfold canM;rw[this];rfl
  by_cases hb:1000000000<t+j.wall
  .rw[show decide (1000000000<t+j.wall)=true by simpa using hb,yN]
   have:(t::l).find? (λt=>(canM r j t).2)=none:=by
    rw[List.find?_eq_none]
    intro t' h'
    have:1000000000<t'+j.wall:=by
     rcases yX h' with rfl|h'
     .exact hb
     .have:=s1 t' h';omega
    rw[far t' this];simp
   rw[this];rfl
  rw[show decide (1000000000<t+j.wall)=false by simpa using hb,yM,M0O R.lics,bS,O0v,List.find?_cons]
  have hspan:spanOk t (t+j.wall)=true:=Z04.2 ⟨ht t (yJ ..),Ob.2 (by omega),by omega⟩
  have ih:=L1P R hj l (i+1) s2 λt' h'=>ht t' (yH _ h')
  cases hfit:X5 j.lic (minV r.lics t (t+j.wall))with
  |false =>
   have:(canM r j t).2=false:=by unfold canM;rw[hfit,Bool.and_false];rfl
   rw[this]
   exact ih
  |true =>
   obtain⟨a1,a2⟩:=U2e R j.need t (t+j.wall)
   have hno:J7 r.topo (J1l r j.need t (t+j.wall))=true:=O5.2 ⟨R.topo,a2⟩
   have hl:=(Z0n R j.need t (t+j.wall)).2
   have e:canM r j t=U0k r.topo (J1l r j.need t (t+j.wall)) j.nodes j.level:=by unfold canM;rw[hspan,hfit];rfl
   simp only[yL,yM]
   rw[J17 R j.need hspan,bS,Z1u hno hl hnn.1 (J2d a1) j.level,bS,← e]
   cases h:(canM r j t).2 with
   |true=>rfl
   |false=>exact ih
theorem L18(r:Room)(j:Job)(fr:Int):Xn r j fr=some (bif roomOk r&&Y1 j&&time fr then U2k r j fr else(0,[],false)):=by
 unfold Xn
 rw[O0d,bS,UC,On]
 cases hr:roomOk r with
 |false=>rfl
 |true=>cases hj:Y1 j with
  |false=>rfl
  |true=>cases ht:time fr with
   |false=>rfl
   |true =>
    have R:=Y04.1 hr
    simp only[yL,Bool.or_self,yM,Bool.and_self,yN]
    rw[Y23 R]
    have hall:∀t∈timesF fr (r.profs++[r.lics]) [fr],time t=true:=λt h=>by
     rcases L0T fr t _ _ h with h|⟨p,hp,x,hx,rfl⟩
     .rw[List.mem_singleton.1 h];exact ht
     .rcases List.mem_append.1 hp with hp|hp
      .exact((R.prof p hp).ok x hx).1
      .rw[List.mem_singleton.1 hp]at hx;exact(R.lics.ok x hx).1
    rw[L1P R hj _ 0 (X0L fr _ (by simp)) hall]
    rfl
theorem Z1n(r:Room)(j:Job)(fr:Int):Xn r j fr=Vm r j fr:=by rw[L18,UZ]
end Go.Proofs.YtehomnafaoplgaaGreat
namespace Go.Proofs.YtehomnafaoplgaaGreat
open Go Go.RowKit Eng Go.Sort
theorem M1l{α:Type}{k:Nat}{enc:α->List Value}(hk:∀x,(enc x).length=k):∀(l:List α) (i c:Nat),c<k->(l.flatMap enc)[i*k+c]?=l[i]?.bind λx=>(enc x)[c]?
 |[],i,c,_=>by simp
 |x::l,0,c,hc=>by
  rw[ya,yK (by rw[hk];omega)]
  simp
 |x::l,i+1,c,hc=>by
  rw[ya,yS (by rw[hk,Nat.succ_mul];omega),hk]
  have:(i+1)*k+c-k=i*k+c:=by rw[Nat.succ_mul];omega
  rw[this,M1l hk l i c hc]
  simp
theorem O1l{α:Type}{k:Nat}{enc:α->List Value}(hk:∀x,(enc x).length=k)(l:List α):(l.flatMap enc).length=l.length*k:=by
 induction l with
 |nil=>simp
 |cons x l ih=>rw[ya,yU,ih,hk,yT,Nat.succ_mul];omega
theorem L23{α:Type}[Inhabited α]{k:Nat}(h0:0<k){enc:α->List Value}(hk:∀x,(enc x).length=k)(l:List α):(flatK enc k l.toArray).toList=l.flatMap enc:=by
 apply List.ext_getElem (by rw[O1l hk];simp)
 intro t h1 h2
 have ht:t<l.length*k:=by simpa using h1
 have hi:t / k<l.length:=Nat.div_lt_of_lt_mul (by rw[Nat.mul_comm];exact ht)
 have hc:t % k<k:=Nat.mod_lt _ h0
 have e:=M1l hk l (t / k) (t % k) hc
 have e2:t / k*k+t % k=t:=by rw[Nat.mul_comm];exact Nat.div_add_mod t k
 rw[e2,yA h2,yA hi]at e
 simp only[bS]at e
 rw[yA (by rw[hk];exact hc)]at e
 rw[Option.some.inj e]
 simp only[flatK,Array.toList_map,List.getElem_map,Array.getElem_toList,Array.getElem_range]
 rw[getElem!_pos l.toArray (t / k) (by simpa using hi)]
 simp only[List.getElem_toArray]
 rw[getElem!_pos _ (t % k) (by rw[hk];exact hc)]
theorem M1x{w:World}{b:Nat}{cur F:Array Value}{ty:TypeId}(h1:w.heap[b]?=some (.cells cur ty (0,0)))(h5:cur.toList.take F.size=F.toList):Holds id w b 0 F:=by
 intro j hj
 refine⟨?_,frozen_of_row w b (0+j) cur ty h1⟩
 have hc:cur[j]?=some F[j]:=by
  have:=congrArg (·[j]?) h5
  simp only[List.getElem?_take,hj,yb,Array.getElem?_toList,Array.getElem?_eq_getElem hj]at this
  exact this
 simp only[World.cell?,h1,Option.isSome_none,yG,yc,Nat.zero_add]
 rw[hc]
 simp[hj]
theorem L1c{w:World}{b:Nat}{cur F:Array Value}{ty:TypeId}(h1:w.heap[b]?=some (.cells cur ty (0,0)))(h2:F.size<=cur.size)(n:Nat)(os:Array Obj) :
  ∃cur':Array Value,(grow (putRow id (Sort.ahead w n) b 0 F) os).heap[b]?=some (.cells cur' ty (0,0))/\cur'.size=cur.size/\cur'.toList.take F.size=F.toList /\
   w.heap.size<=(grow (putRow id (Sort.ahead w n) b 0 F) os).heap.size/\∀k,k<w.heap.size->k≠b->(grow (putRow id (Sort.ahead w n) b 0 F) os).heap[k]?=w.heap[k]?:=by
 have hb:b<w.heap.size:=(Array.getElem?_eq_some_iff.1 h1).1
 have hg:∀k,k<w.heap.size->(grow (putRow id (Sort.ahead w n) b 0 F) os).heap[k]?=(w.heap.modify b (onCells (putCells id 0 F)))[k]?:=by
  intro k hk
  simp only[grow,putRow,mapBlock,Sort.ahead]
  rw[Array.getElem?_append_left (by simpa using hk)]
 refine⟨putCells id 0 F cur,?_,?_,?_,?_,λk hk hne=>?_⟩
 .rw[hg b hb,Array.getElem?_modify];simp only[yb,h1];rfl
 .simp[putCells]
 .apply List.ext_getElem
  .simp[putCells];omega
  .intro j q1 q2
   have hj:j<F.size:=by simpa using q2
   simp[putCells,hj]
 .simp[grow,putRow,mapBlock,Sort.ahead]
 .rw[hg k hk,Array.getElem?_modify,ye (λe=>hne e.symm)]
theorem U2h{α:Type}{sz:Nat}{enc:α->AV}{val:α->List Value}(E:Enc sz enc val)(h0:0<sz){P:Program}{ρ:Shelf.Ren}(L:SlLaysF0.n6 P ρ)(aE:∀w,(isAgg (ρ.t 24)).run P w=.ok true w)(zE:∀w,(Go.sizeOf (ρ.t 24)).run P w=.ok sz w)(g:Nat)(eg:∀args w,(callFunc g args).run P w=.ok (.enter g args) w)
  (zs:List α) (cf:Fin zs.length->Fin zs.length->Int) (hO:SWO (ltOf cf)) (hT:∀x y,(ltOf cf) x y=false->(ltOf cf) y x=false->x=y) (le:α->α->Bool) (hle:∀x y:Fin zs.length,(!(ltOf cf) y x)=le zs[x] zs[y])
  (hcmp:∀(x y:Fin zs.length) (w:World),Calls P g #[.agg (val zs[x]).toArray,.agg (val zs[y]).toArray] w λe w'=>e=.returned (.int .i64 (cf x y))/\∃q os',w'=grow (w.drewN q) os') (hl:zs.length<4611686018427387904) :
  RowX P (ρ.f 6) sz enc val [.fn g []] zs (zs.mergeSort le) false:=by
 intro w gh n0 us H hul hus
 match us,hul with
 |[u],_ =>
 obtain⟨vs,hu,hvs,_⟩:=(hus 0 _ u rfl rfl).fn_inv
 have hvs0:vs=[]:=List.eq_nil_of_length_eq_zero (by simpa using hvs.symm)
 subst hvs0
 refine⟨λhz=>?_,λb cap cur ty h1 h2 h3 h4 h5 h6=>?_⟩
 .subst hz
  exact(AnyF.slices_SortFunc_none L none 0 u w).mono λe w' h=>⟨by simp[h.1],h.2⟩
 .have hb:b<w.heap.size:=(Array.getElem?_eq_some_iff.1 h1).1
  by_cases hz:zs=[]
  .subst hz
   refine(AnyF.slices_SortFunc_none L (some ⟨b,0,none⟩) cap u w).mono λe w' h=>?_
   obtain⟨he,rfl⟩:=h
   exact⟨by simp[he],cur,h1,h4,by simp,by simp,rfl,rfl,rfl,yV _,λ_ _ _=>rfl⟩
  .have hn:0<zs.length:=List.length_pos_iff.2 hz
   haveI:Inhabited (Fin zs.length):=⟨⟨0,hn⟩⟩
   have hk:∀x:Fin zs.length,(val zs[x]).length=sz:=λx=>E.vlen _
   have hfr:(List.finRange zs.length).map (λx:Fin zs.length=>zs[x])=zs:=by
    apply List.ext_getElem (by simp)
    intro j q1 q2
    simp
   have hff:∀l:List (Fin zs.length),(flatK (λx:Fin zs.length=>val zs[x]) sz l.toArray).toList=(l.map λx:Fin zs.length=>zs[x]).flatMap val:=λl=>by
    rw[L23 h0 hk,List.flatMap_map]
   have hs0:(flatK (λx:Fin zs.length=>val zs[x]) sz (List.finRange zs.length).toArray).size=zs.length*sz:=by simp
   have hH:HoldsK (λx:Fin zs.length=>val zs[x]) sz w b 0 (List.finRange zs.length).toArray:=by
    refine M1x h1 ?_
    rw[hs0,h5,hff,hfr]
   have:=AnyQ.slices_SortFunc_total L sz aE zE (λx:Fin zs.length=>val zs[x]) hk (λx=>E.vone _) cf hO g #[] b 0 cap (List.finRange zs.length).toArray w eg (λm os dk _ x y=>hcmp x y _) hH hb (by simpa using hl) hT
   simp only[List.size_toArray,List.length_finRange]at this
   rw[hu]
   refine this.mono λe w' h=>?_
   obtain⟨he,n,os,hw⟩:=h
   have e1:((List.finRange zs.length).mergeSort λx y=>!(ltOf cf) y x).map (λx:Fin zs.length=>zs[x])=zs.mergeSort le:=by
    rw[List.map_mergeSort (s:=le),hfr]
    intro x _ y _
    exact hle x y
   obtain⟨F,hF⟩:∃F,F=flatK (λx:Fin zs.length=>val zs[x]) sz ((List.finRange zs.length).mergeSort λx y=>!(ltOf cf) y x).toArray:=⟨_,rfl⟩
   have hFl:F.toList=(zs.mergeSort le).flatMap val:=by rw[hF,hff,e1]
   have hFs:F.size=zs.length*sz:=by rw[hF];simp
   have hw2:w'=grow (putRow id (Sort.ahead w n) b 0 F) os:=by
    rw[hw,hF]
    rfl
   rw[hw2]
   have hm:=Nat.mul_le_mul_right sz h2
   obtain⟨cur',q1,q2,q3,q4,q5⟩:=L1c (F:=F) h1 (by rw[hFs,h4];exact hm) n os
   refine⟨by simp[he],cur',q1,by rw[q2,h4],?_,by simpa using h2,rfl,rfl,rfl,q4,q5⟩
   rw[List.length_mergeSort,← hFs,q3,hFl]
def jobV(x:Job):List Value:=[.int .i64 x.id,.int .i64 x.prio,.int .i64 x.nodes,.int .i64 x.need.a,.int .i64 x.need.b,.int .i64 x.need.c,.int .i64 x.lic.a,.int .i64 x.lic.b,.int .i64 x.lic.c,.int .i64 x.wall,.int .i64 x.level]
theorem Q0J:Enc 11 eJob jobV:=by
 have key:∀x (j:Nat) (a:AV) (u:Value),(eJob x).cells[j]?=some a->(jobV x)[j]?=some u->∃n,a=.int .i64 n/\u=.int .i64 n:=by
  intro x j a u h1 h2
  simp only[eJob,AV.cells,jobV]at h1 h2
  match j with
  |0|1|2|3|4|5|6|7|8|9|10=>exact⟨_,(Option.some.inj h1).symm,(Option.some.inj h2).symm⟩
  |j+11=>simp at h1
 refine⟨λx=>rfl,λx=>rfl,λx a ha=>?_,λx v hv=>?_,λw S T x j a u h1 h2=>?_,λw S T x j a u v h1 h2 h=>?_⟩
 .obtain⟨j,hj⟩:=List.getElem?_of_mem ha
  have hl:j<(jobV x).length:=by have:=(yB hj).1;exact this
  obtain⟨n,rfl,_⟩:=key x j a _ hj (yA hl)
  rfl
 .simp only[jobV,List.mem_cons,List.not_mem_nil,or_false]at hv
  rcases hv with rfl|rfl|rfl|rfl|rfl|rfl|rfl|rfl|rfl|rfl|rfl<;>rfl
 .obtain⟨n,rfl,rfl⟩:=key x j a u h1 h2
  exact .int _ _
 .obtain⟨n,rfl,rfl⟩:=key x j a u h1 h2
  cases h;rfl
def MZ(x y:Job):Bool:=!decide (x.prio<y.prio\/(x.prio=y.prio/\y.id<x.id))
def U0J(l:tJ):Prop:=(l.map (·.id)).Nodup/\(∀j∈l,-2305843009213693952<=j.prio/\j.prio<=2305843009213693952/\-2305843009213693952<=j.id/\j.id<=2305843009213693952)/\l.length<4611686018427387904
instance(l:tJ):Decidable (U0J l):=by unfold U0J;infer_instance
def Q19(l:tJ):Option tJ:=if U0J l then some (l.mergeSort MZ)else none
def Q1x(l:tJ)(x y:Fin l.length):Int:=if l[x].prio≠l[y].prio then wrap64 (l[y].prio-l[x].prio)else wrap64 (l[x].id-l[y].id)
theorem jw64{z:Int}(h:-9223372036854775808<=z/\z<=9223372036854775807):wrap64 z=z:=by
 unfold wrap64;omega
theorem V0v{l:tJ}(h:U0J l)(x y:Fin l.length):ltOf (Q1x l) x y=decide (l[y].prio<l[x].prio\/(l[x].prio=l[y].prio/\l[x].id<l[y].id)):=by
 have hx:=h.2.1 l[x] (List.getElem_mem x.isLt)
 have hy:=h.2.1 l[y] (List.getElem_mem y.isLt)
 unfold ltOf Q1x
 rw[decide_eq_decide]
 by_cases e:l[x].prio=l[y].prio
 .rw[ye (by simpa using e),jw64 (by omega)]
  omega
 .rw[yd e,jw64 (by omega)]
  omega
theorem M22{l:tJ}(h:U0J l):SWO (ltOf (Q1x l)) where
 irrefl x:=by rw[V0v h];simp
 trans x y z h1 h2:=by
  rw[V0v h]at *
  simp only[yO]at *
  omega
 ntrans x y z h1 h2:=by
  rw[V0v h]at *
  simp only[decide_eq_false_iff_not]at *
  omega
theorem Z1O{l:tJ}(h:U0J l)(x y:Fin l.length)(h1:ltOf (Q1x l) x y=false)(h2:ltOf (Q1x l) y x=false):x=y:=by
 rw[V0v h]at h1 h2
 simp only[decide_eq_false_iff_not]at h1 h2
 have e:l[x].id=l[y].id:=by omega
 have hn:=h.1
 have hp:=List.pairwise_iff_getElem.1 hn
 rcases Nat.lt_trichotomy x.val y.val with q|q|q
 .exact absurd (by simpa using e) (hp x.val y.val (by simp) (by simp) q)
 .exact Fin.ext q
 .exact absurd (by simpa using e.symm) (hp y.val x.val (by simp) (by simp) q)
theorem V1S{l r:tJ}(h:Q19 l=some r):M0Q Tryz.prog Wk 11 (l.map eJob) [.fn X0H []] false (r.map eJob):=by
 unfold Q19 at h
 split at h
 .rename_i hl
  cases h
  have eg:∀args w,(callFunc 283 args).run Tryz.prog w=.ok (.enter 283 args) w:=enters_of Tryz.func283 (by kernel_rfl) rfl
  refine W19 Q0J (λe=>by subst e;simp) (λ_=>by simp) ?_
  refine U2h (ρ:=Tryz.sortFJ_ren) Q0J (by omega) Tryz.sortFJ Tryz.isAgg68 Tryz.sizeOf68 283 eg l (Q1x l) (M22 hl) (Z1O hl) MZ (λx y=>?_) (λx y w=>?_) hl.2.2
  .rw[V0v hl];unfold MZ;congr 1;rw[decide_eq_decide];omega
  .exact O1S _ _ _ _ _ _ _ _ _ _ _ _ _ _ _ _ _ _ _ _ _ _ w
 .cases h
end Go.Proofs.YtehomnafaoplgaaGreat
namespace Go.Proofs.YtehomnafaoplgaaGreat
open Go Go.RowKit Eng
def Lt(l1:tJ)(i4:Nat)(x4:Job)(k4:Unit->Option Bool)(v5:Int)(k5:Int->Option Bool):Option Bool :=
 bif decide (v5<(i4:Int))then((idx l1 v5).bind λe6=>bif e6.id==x4.id then(some false)else(k5 (w64 (v5+1))))else(k4 ())
def XZ(l1:tJ)(x4:Job)(i4:Nat)(_:Unit)(k4:Unit->Option Bool):Option Bool :=
 bif !(Y1 x4)then(some false)else(whl (Lt l1 i4 x4 k4) 9223372036854775807 0)
def YZ(_:Unit):Option Bool :=
 some true
def Yx(l1:tJ):Option Bool :=
 bif decide (60<(l1.length:Int))then(some false)else(rgl (XZ l1) YZ l1 0 ())
theorem M05{l1:tJ}{r:Bool}(H:Yx l1=some r):SQ U0G [zrf l1] (.bool r):=by
 refine wc [(11,8)] [.t 2] (wG [.l 7 l1 eJob] λq2=>X0 H (λH=>sI H▸wV) λH=>wG [.l 10 l1 eJob] λq3=>wL (λ(i4:Nat) (v4:Unit)=>⟨[(0,zrf l1),(9,zrf l1)]++zl 10 l1 i4,[],[],[]⟩) H (λi4 x4 v4 I m k4 A4 B4 H N48=>?_) (λv4 I m H=>?_))
 .refine wH [.y 14 eJob A4,.c 17 (OM x4)] (X0 H (λH=>sI H▸wV) λH=>wP (wW (λ(v5:Int)=>⟨[(0,zrf l1),(3,iV (i4:Int)),pB 4,(5,iV v5),(9,zrf l1)]++zl 10 l1 i4,[],[(4,(eJob x4).cells)],[]⟩) H (λv5 I m k5 H N38=>?_)))
  refine wP (X0 H (λH=>?_) λH=>wH [.i 32 B4 q2.1] (wT (N48 () H)))
  exact bC H λe6 h6 H=>wH [.x 26 eJob h6] (X0 H (λH=>sI H▸wV) λH=>wP (wT (N38 _ H)))
 .exact sI H▸wV
def WF(a1 b2:Job):Option Bool :=
 some (decide (b2.prio<a1.prio)||((a1.prio==b2.prio)&&decide (a1.id<b2.id)))
theorem Q0I{a1 b2:Job}{r:Bool}(H:WF a1 b2=some r):SQ V01 [eJob a1,eJob b2] (.bool r):=by
 exact wa [.t 4] (sI H▸wV)
def Ub(a1 b2:Job):Bool :=
 (decide (b2.prio<a1.prio)||((a1.prio==b2.prio)&&decide (a1.id<b2.id)))
theorem U13(a1 b2:Job):WF a1 b2=some (Ub a1 b2):=by
 unfold WF Ub
 first|rfl|simp only[U4]
theorem U0U(a1 b2:Job):Snd Tryz.prog V01 [eJob a1,eJob b2] (.bool (Ub a1 b2)) []:=Q0I (U13 a1 b2)
noncomputable def Z1F:L :=
 lf Tryz.prog L11 [10,21] [] [] [] [] [] [32087347]
def Li(x6:Job)(k6:(Bool×tJ)->Option tJ)(v8:Bool×tJ):Option tJ :=
 (appL 88 v8.2 [x6]).bind λxs9=>k6 (v8.1,xs9)
def Qu(x4 x6:Job)(_:Nat)(v6:Bool×tJ)(k6:(Bool×tJ)->Option tJ):Option tJ :=
 bif (!v6.1)&&(Ub x4 x6)then((appL 88 v6.2 [x4]).bind λxs7=>(Li x6 k6) (true,xs7))else((Li x6 k6) (v6.1,v6.2))
def Uu(x4:Job)(k4:tJ->Option tJ)(v6:Bool×tJ):Option tJ :=
 bif !v6.1 then((appL 88 v6.2 [x4]).bind λxs10=>k4 xs10)else(k4 v6.2)
def QV(x4:Job)(_:Nat)(v4:tJ)(k4:tJ->Option tJ):Option tJ :=
 rgl (Qu x4) (Uu x4 k4) v4 0 (false,[])
def M0c(v4:tJ):Option tJ :=
 some v4
def O0f(l1:tJ):Option tJ :=
 (Yx l1).bind λb2=>bif !b2 then(some [])else(rgl QV M0c l1 0 [])
theorem O1A{l1:tJ}{r:tJ}(H:O0f l1=some r):SQ L11 [zrf l1] (zff r):=by
 refine wS Z1F [.t 2] (bC H λb2 h2 H=>wH [.c 12 (M05 h2)] (X0 H (λH=>sI H▸wP (wN [(2,.f)] [] [] [10] [] [znf []])) λH=>wG [.l 16 l1 eJob] λq3=>wL (λ(i4:Nat) (v4:tJ)=>⟨[(3,.sref 10),(15,zrf l1)]++zl 16 l1 i4,[],[],[(10,zwf v4)]⟩) H (λi4 x4 v4 I m k4 A4 B4 H N57=>?_) (λv4 I m H=>?_)))
 .refine wG [.y 19 eJob A4,.l 23 v4 eJob] λq5=>wL (λ(i6:Nat) (v6:Bool×tJ)=>⟨[pB 5,(6,.sref 21),(7,.bool v6.1),(15,zrf l1),(16,iV (l1.length:Int)),(17,iV (i4:Int)),(22,.sref 10)]++zl 23 v4 i6,[],[(5,(eJob x4).cells)],[(21,zwf v6.2),(10,zwf v4)]⟩) H (λi6 x6 v6 I m k6 A6 B6 H N38=>?_) (λv6 I m H=>?_)
  .refine wH [.y 26 eJob A6,.u 27 (.el _ _ _ λ_=>gm eJob (V4 (O0 A6))),.d 33 [((!v6.1),true)] λ_=>U0U x4 x6] (Xi (r:=r) (Li x6 k6) 0 (λv8:Bool×tJ=>⟨[pB 5,(6,.sref 21),(7,.bool v8.1),pB 9,(15,.sl .rd 11 (l1.map eJob)),(16,.int .i64 (l1.length:Int)),(17,.int .i64 (i4:Int)),(22,.sref 10),(23,.int .i64 (v4.length:Int)),(24,.int .i64 (i6:Int))],[],[(5,(eJob x4).cells),(9,(eJob x6).cells)],[(21,zwf v8.2),(10,zwf v4)]⟩) (by kernel_rfl) (λv8 H=>?_) (λJ30=>?_))
   .exact bC H λxs9 h9 H=>wH [.p 42 eJob h9,.i 43 B6 q5.1] (wT (N38 _ H))
   .refine X0 H ?_ ?_<;>intro H
    .exact bC H λxs7 h7 H=>wH [.p 38 eJob h7] (wT (J30 _ H))
    .exact wP (wT (J30 _ H))
  .refine wP ?_
   refine X0 H ?_ ?_<;>intro H
   .exact bC H λxs10 h10 H=>wH [.p 49 eJob h10,.i 51 B4 q3.1] (wU (N57 _ H) [] [] [(10,(some 21,0))] [])
   .exact wH [.i 51 B4 q3.1] (wU (N57 _ H) [] [] [(10,(some 21,0))] [])
 .exact sI H▸wP (wN [(2,.f)] [] [] [10] [] [znf v4])
def Xl(id2:Int)(x4:Job)(_:Nat)(_:Unit)(k4:Unit->Option (Job×Bool)):Option (Job×Bool) :=
 bif x4.id==id2 then(some (x4,true))else(k4 ())
def WY(_:Unit):Option (Job×Bool) :=
 some ((Job.mk 0 0 0 (Vec.mk 0 0 0) (Vec.mk 0 0 0) 0 0),false)
def Ui(l1:tJ)(id2:Int):Option (Job×Bool) :=
 rgl (Xl id2) WY l1 0 ()
theorem Uw{l1:tJ}{id2:Int}{r:Job×Bool}(H:Ui l1 id2=some r):SQ Y0F [zrf l1,iV id2] (.tup [eJob r.1,.bool r.2]):=by
 refine wa [.c 4 11 true,.t 5] (wG [.l 9 l1 eJob] λq3=>wL (λ(i4:Nat) (v4:Unit)=>⟨[(1,iV id2),pB 4,(8,zrf l1)]++zl 9 l1 i4,[],[(4,(eJob (Job.mk 0 0 0 (Vec.mk 0 0 0) (Vec.mk 0 0 0) 0 0)).cells)],[]⟩) H (λi4 x4 v4 I m k4 A4 B4 H N20=>?_) (λv4 I m H=>?_))
 .exact wH [.y 12 eJob A4] (X0 H (λH=>sI H▸wQ [(4,[])] []) λH=>wH [.i 19 B4 q3.1] (wT (N20 () H)))
 .exact sI H▸wQ [(4,[])] []
def XH(k1 x2:Job):Option Bool :=
 some (k1.id==x2.id)
theorem V0K{k1 x2:Job}{r:Bool}(H:XH k1 x2=some r):SQ Ll [eJob k1,.ept (eJob x2) 0] (.bool r):=by
 exact wa [.t 3] (sI H▸wV)
def WE(k1 x2:Job):Bool :=
 (k1.id==x2.id)
theorem W18(k1 x2:Job):XH k1 x2=some (WE k1 x2):=by
 unfold XH WE
 first|rfl|simp only[U4]
theorem Z0Z(k1 x2:Job):Snd Tryz.prog Ll [eJob k1,.ept (eJob x2) 0] (.bool (WE k1 x2)) []:=V0K (W18 k1 x2)
def Y3(c2 x4:Job)(i4:Nat)(_:Unit)(k4:Unit->Option Int):Option Int :=
 bif WE x4 c2 then(some (i4:Int))else(k4 ())
def J4(_:Unit):Option Int :=
 some (-1)
def O3(s1:tJ)(c2:Job):Option Int :=
 rgl (Y3 c2) J4 s1 0 ()
theorem Oj{s1:tJ}{c2:Job}{r:Int}(H:O3 s1 c2=some r):SQ V7 [zrf s1,.fn Ll [.ept (eJob c2) 0]] (iV r):=by
 refine wa [.t 4] (wG [.l 7 s1 eJob] λq3=>wL (λ(i4:Nat) (v4:Unit)=>⟨[(0,zrf s1),(1,.fn Ll [.ept (eJob c2) 0])]++zl 7 s1 i4,[],[],[]⟩) H (λi4 x4 v4 I m k4 A4 B4 H N20=>?_) (λv4 I m H=>?_))
 .refine wH [.y 14 eJob A4,.u 16 (.clsr _ _ _ _ _ (AEs.refl _) (by kernel_rfl) (λ_=>Z0Z x4 c2))] ?_
  refine X0 H (λH=>?_) λH=>wH [.i 18 B4 q3.1] (wT (N20 () H))
  refine wP ?_
  replace H:=sI H;subst H
  exact wD
 .exact sI H▸wV
def X2(s1:tJ)(c2:Job):Option Bool :=
 (O3 s1 c2).bind λn3=>some (decide (0<=n3))
theorem Ug{s1:tJ}{c2:Job}{r:Bool}(H:X2 s1 c2=some r):SQ Me [zrf s1,.fn Ll [.ept (eJob c2) 0]] (.bool r):=by
 exact wa [.t 4] (bC H λn3 h3 H=>wH [.c 7 (Oj h3)] (sI H▸wD))
def J00(l1:tJ)(x3:Job)(i3:Nat)(_:Unit)(k3:Unit->Option Bool):Option Bool :=
 (bif !(Yb x3)then some default else(cutL l1 none (some (i3:Int)))).bind λxs4=>(bif !(Yb x3)then some default else(X2 xs4 x3)).bind λb5=>bif (!(Yb x3))||b5 then(some false)else(k3 ())
def L00(l1:tJ)(_:Unit):Option Bool :=
 some (decide ((l1.length:Int)<=60))
def MJ(l1:tJ):Option Bool :=
 rgl (J00 l1) (L00 l1) l1 0 ()
theorem J0v{l1:tJ}{r:Bool}(H:MJ l1=some r):SQ Y0I [zrf l1] (.bool r):=by
 refine wa [.t 2] (wG [.l 6 l1 eJob] λq2=>wL (λ(i3:Nat) (v3:Unit)=>⟨[(0,zrf l1),(5,zrf l1)]++zl 6 l1 i3,[],[],[]⟩) H (λi3 x3 v3 I m k3 A3 B3 H N20=>?_) (λv3 I m H=>?_))
 .exact bC2 H λxs4 h4 b5 h5 H=>wH [.y 10 eJob A3,.c 13 (VC x3),.g 18 [(_,false)] (.sc _ _ _ _ λq=>Ut eJob (bF q.1 h4)),.d 20 [(_,false)] λq=>Ug (bF q.1 h5)] (X0 H (λH=>sI H▸wV) λH=>wH [.i 22 B3 q2.1] (wT (N20 () H)))
 .exact wG [.l 24 l1 eJob] λq6=>sI H▸wD
noncomputable def O1F:L :=
 lf Tryz.prog V12 [4] [(8,2)] [] [] [] [] []
def X0g(l1:tJ):Option tJ :=
 (appL 88 ([]:tJ) l1).bind λxs2=>(Q19 xs2).bind λxs3=>some xs3
theorem Y1H{l1:tJ}{r:tJ}(H:X0g l1=some r):SQ V12 [zrf l1] (zff r):=by
 refine wS O1F [.t 2] ?_
 obtain⟨xs2,h2,xs3,h3,H⟩:=bB2 H
 refine wH [.p 6 eJob h2,.u 8 (.cr Wk 11 _ [.fn X0H []] _ false _ (λ_=>by simp) (λ_=>by simp) (λ_=>by simp) (λ_=>V1S h3))] ?_
 exact sI H▸wN [(2,.f)] [] [] [4] [] [znf xs3]
def QW(j1:Job)(x2:Int):Option Bool :=
 some (j1.id==x2)
theorem O0Y{j1:Job}{x2:Int}{r:Bool}(H:QW j1 x2=some r):SQ VF [eJob j1,.ept (.agg [iV x2]) 0] (.bool r):=by
 exact wa [.t 3] (sI H▸wV)
def Lr(j1:Job)(x2:Int):Bool :=
 (j1.id==x2)
theorem O1t(j1:Job)(x2:Int):QW j1 x2=some (Lr j1 x2):=by
 unfold QW Lr
 first|rfl|simp only[U4]
theorem Y1k(j1:Job)(x2:Int):Snd Tryz.prog VF [eJob j1,.ept (.agg [iV x2]) 0] (.bool (Lr j1 x2)) []:=O0Y (O1t j1 x2)
def Z1(c2:Int)(x4:Job)(i4:Nat)(_:Unit)(k4:Unit->Option Int):Option Int :=
 bif Lr x4 c2 then(some (i4:Int))else(k4 ())
def V3(_:Unit):Option Int :=
 some (-1)
def M1(s1:tJ)(c2:Int):Option Int :=
 rgl (Z1 c2) V3 s1 0 ()
theorem Mk{s1:tJ}{c2 r:Int}(H:M1 s1 c2=some r):SQ V7 [zrf s1,.fn VF [.ept (.agg [iV c2]) 0]] (iV r):=by
 refine wa [.t 4] (wG [.l 7 s1 eJob] λq3=>wL (λ(i4:Nat) (v4:Unit)=>⟨[(0,zrf s1),(1,.fn VF [.ept (.agg [iV c2]) 0])]++zl 7 s1 i4,[],[],[]⟩) H (λi4 x4 v4 I m k4 A4 B4 H N20=>?_) (λv4 I m H=>?_))
 .refine wH [.y 14 eJob A4,.u 16 (.clsr _ _ _ _ _ (AEs.refl _) (by kernel_rfl) (λ_=>Y1k x4 c2))] ?_
  refine X0 H (λH=>?_) λH=>wH [.i 18 B4 q3.1] (wT (N20 () H))
  refine wP ?_
  replace H:=sI H;subst H
  exact wD
 .exact sI H▸wV
def Ou(l1:tJ)(id2:Int):Option Int :=
 (M1 l1 id2).bind λn3=>some n3
theorem U0j{l1:tJ}{id2 r:Int}(H:Ou l1 id2=some r):SQ W12 [zrf l1,iV id2] (iV r):=by
 exact wa [.t 4] (bC H λn3 h3 H=>wH [.c 7 (Mk h3)] (sI H▸wD))
end Go.Proofs.YtehomnafaoplgaaGreat
namespace Go.Proofs.YtehomnafaoplgaaGreat
open Go Go.RowKit Eng Go.Sort
def O0K(l:tJ)(i j:Int):Option tJ:=if 0<=i/\i<j/\j<=(l.length:Int)then some (l.take i.toNat++l.drop j.toNat)else none
theorem Z0u:∀(vs:List Value) (s:Nat) (F:Array Value),s+vs.length<=F.size->(setMany F s vs).toList=F.toList.take s++vs++F.toList.drop (s+vs.length)
 |[],s,F,_=>by simp[setMany]
 |v::r,s,F,h=>by
  have h':s+1+r.length<=F.size:=by simp at h;omega
  rw[setMany,Z0u r (s+1) _ (by simpa using h')]
  simp only[Array.toList_setIfInBounds]
  have hs:s<F.toList.length:=by simp at h ⊢;omega
  rw[List.set_eq_take_append_cons_drop,yd hs]
  have hl:(F.toList.take s).length=s:=by simp at hs ⊢;omega
  have e1:(F.toList.take s++v::F.toList.drop (s+1)).take (s+1)=F.toList.take s++[v]:=by
   rw[List.take_append,hl]
   have:s+1-s=1:=by omega
   rw[this,List.take_of_length_le (by rw[hl];omega)]
   rfl
  have e2:(F.toList.take s++v::F.toList.drop (s+1)).drop (s+1+r.length)=F.toList.drop (s+(v::r).length):=by
   rw[List.drop_append,hl,List.drop_of_length_le (by rw[hl];omega)]
   have:s+1+r.length-s=r.length+1:=by omega
   rw[this,List.drop_succ_cons,List.drop_drop]
   simp only[List.nil_append,yT]
   congr 1
   omega
  rw[e1,e2]
  simp
theorem Q2h{w:World}{b:Nat}{cur:Array Value}{ty:TypeId}(h1:w.heap[b]?=some (.cells cur ty (0,0)))(s1 s2:Nat)(v1 v2:List Value)(l1:s1+v1.length<=cur.size)(l2:s2+v2.length<=cur.size) :
  ∃F:Array Value,F=setMany (setMany cur s1 v1) s2 v2/\(w.drew.setCells b s1 v1).setCells b s2 v2=grow (putRow id (Sort.ahead w 1) b 0 F) #[]:=by
 refine⟨_,rfl,?_⟩
 have e0:putRow id w.drew b 0 cur=w.drew:=putRow_self id _ b 0 _ (M1x (w:=w.drew) h1 (List.take_of_length_le (by simp)))
 have e1:=setCells_putRow w.drew b 0 v1 s1 cur l1
 rw[e0,Nat.zero_add]at e1
 have e2:=setCells_putRow w.drew b 0 v2 s2 (setMany cur s1 v1) (by simpa using l2)
 rw[Nat.zero_add]at e2
 rw[e1,e2,grow_empty]
 rfl
theorem U1P{α:Type}{k:Nat}{enc:α->List Value}(hk:∀x,(enc x).length=k)(l:List α)(i:Nat):(l.flatMap enc).take (i*k)=(l.take i).flatMap enc:=by
 induction l generalizing i with
 |nil=>simp
 |cons x l ih =>
  cases i with
  |zero=>simp
  |succ i =>
   rw[ya,List.take_succ_cons,ya,List.take_append,hk,← ih,List.take_of_length_le (by rw[hk,Nat.succ_mul];omega)]
   congr 2
   rw[Nat.succ_mul];omega
theorem Q1P{α:Type}{k:Nat}{enc:α->List Value}(hk:∀x,(enc x).length=k)(l:List α)(i:Nat):(l.flatMap enc).drop (i*k)=(l.drop i).flatMap enc:=by
 induction l generalizing i with
 |nil=>simp
 |cons x l ih =>
  cases i with
  |zero=>simp
  |succ i =>
   rw[ya,List.drop_succ_cons,List.drop_append,hk,← ih,List.drop_of_length_le (by rw[hk,Nat.succ_mul];omega),List.nil_append]
   congr 1
   rw[Nat.succ_mul];omega
set_option maxRecDepth 20000 in
theorem Q1y{l r:tJ}{i j:Int}(h:O0K l i j=some r):M0Q Tryz.prog Wc 11 (l.map eJob) [.int .i64 i,.int .i64 j] true (r.map eJob):=by
 unfold O0K at h
 split at h
 .rename_i hc
  cases h
  obtain⟨a,rfl⟩:∃a:Nat,i=a:=⟨i.toNat,by omega⟩
  obtain⟨c,rfl⟩:∃c:Nat,j=c:=⟨j.toNat,by omega⟩
  obtain⟨_,hij,hjn⟩:=hc
  have hij:a<c:=by omega
  have hjn:c<=l.length:=by omega
  simp only[yZ]
  have hne:l≠[]:=λe=>by subst e;simp at hjn;omega
  refine W19 Q0J (λe=>absurd e hne) (λe=>by cases e) ?_
  intro w g n0 us H hul hus
  match us,hul with
  |[u1,u2],_ =>
  have hu1:=(hus 0 _ u1 rfl rfl).int_inv
  have hu2:=(hus 1 _ u2 rfl rfl).int_inv
  subst hu1;subst hu2
  refine⟨λe=>absurd e hne,λb cap cur ty h1 h2 h3 h4 h5 h6=>?_⟩
  obtain⟨i0,hi0,hz1⟩:∃i0,Tryz.prog.info? 68=some i0/\i0.size=11:=yC (show(Tryz.prog.info? 68).map (λx=>x.size)=some 11 by kernel_rfl)
  have hlen:((l.drop c).flatMap jobV).length=(l.length-c)*11:=by rw[O1l Q0J.vlen,List.length_drop]
  obtain⟨zs,hzs⟩:∃zs,zs=(Builtin.zeroCells (Value.agg #[.int .i64 0,.int .i64 0,.int .i64 0,.int .i64 0,.int .i64 0,.int .i64 0,.int .i64 0,.int .i64 0,.int .i64 0,.int .i64 0,.int .i64 0]).cells (l.length-(a+(l.length-c)))).toList:=⟨_,rfl⟩
  have hzl:zs.length=(c-a)*11:=by
   rw[hzs]
   have:(Value.agg #[.int .i64 0,.int .i64 0,.int .i64 0,.int .i64 0,.int .i64 0,.int .i64 0,.int .i64 0,.int .i64 0,.int .i64 0,.int .i64 0,.int .i64 0]).cells.size=11:=rfl
   simp only[Builtin.zeroCells,Array.toList_map,List.length_map,Array.length_toList,Array.size_range,this]
   congr 1
   omega
  have hz0:∀v∈zs,v.oneCell'=true:=by
   intro v hv
   rw[hzs]at hv
   simp only[Builtin.zeroCells,Array.toList_map,List.mem_map]at hv
   obtain⟨q,_,rfl⟩:=hv
   have hc:(Value.agg #[.int .i64 0,.int .i64 0,.int .i64 0,.int .i64 0,.int .i64 0,.int .i64 0,.int .i64 0,.int .i64 0,.int .i64 0,.int .i64 0,.int .i64 0]).cells=#[Value.int .i64 0,.int .i64 0,.int .i64 0,.int .i64 0,.int .i64 0,.int .i64 0,.int .i64 0,.int .i64 0,.int .i64 0,.int .i64 0,.int .i64 0]:=rfl
   rw[hc]
   have hq:q % 11<11:=Nat.mod_lt _ (by omega)
   show Value.oneCell' (#[Value.int .i64 0,.int .i64 0,.int .i64 0,.int .i64 0,.int .i64 0,.int .i64 0,.int .i64 0,.int .i64 0,.int .i64 0,.int .i64 0,.int .i64 0][q % 11]!)=true
   generalize q % 11=k at hq
   match k with
   |0|1|2|3|4|5|6|7|8|9|10=>rfl
   |k+11=>omega
  have hcur:∀k,k<l.length*11->cur[k]?=(l.flatMap jobV)[k]?:=by
   intro k hk
   have:=congrArg (·[k]?) h5
   simp only[List.getElem?_take,hk,yb,Array.getElem?_toList]at this
   exact this
  have hcap:=Nat.mul_le_mul_right 11 h2
  have hcell:∀k,w.cell? ⟨b,k,none⟩=cur[k]?:=by
   intro k
   simp only[World.cell?,h1,Option.isSome_none,yG,yc]
  refine(W2k b cap l.length a c w ((l.drop c).flatMap jobV) zs i0 hi0 hz1 Tryz.underlying29 _ Tryz.zeroValue68 hzs hzl hz0 (by simp only[maxLen]at h3;omega) hij hjn h2 hlen (λv hv=>?_) (λk u hu=>?_) λk hk=>?_).mono λe w' hw=>?_
  .obtain⟨x,_,hx⟩:=List.mem_flatMap.1 hv
   exact Q0J.vone x v hx
  .have hkl:k<(l.length-c)*11:=by
    have:=(yB hu).1
    rwa [hlen]at this
   have hm:c*11+(l.length-c)*11=l.length*11:=by rw[← Nat.add_mul];congr 1;omega
   rw[hcell,hcur _ (by omega),← hu,← Q1P Q0J.vlen,List.getElem?_drop]
  .have hk2:k<cur.size:=by rw[h4];omega
   rw[hcell,Array.getElem?_eq_getElem hk2]
   exact⟨rfl,frozen_of_row w b k cur ty h1⟩
  .obtain⟨he,hw⟩:=hw
   have m1:a*11+(l.length-c)*11=(a+(l.length-c))*11:=(Nat.add_mul ..).symm
   have m2:(a+(l.length-c))*11+(c-a)*11=l.length*11:=by rw[← Nat.add_mul];congr 1;omega
   obtain⟨F,hF,hw2⟩:=Q2h h1 (a*11) ((a+(l.length-c))*11) ((l.drop c).flatMap jobV) zs (by rw[hlen,h4];omega) (by rw[hzl,h4];omega)
   have hFs:F.size=cap*11:=by rw[hF];simp[h4]
   rw[hw,hw2]
   obtain⟨cur',q1,q2,q3,q4,q5⟩:=L1c (F:=F) h1 (by omega) 1 #[]
   have hlr:(l.take a++l.drop c).length=a+(l.length-c):=by simp;omega
   refine⟨by rw[he,hlr];rfl,cur',q1,by rw[q2,h4],?_,by rw[hlr];omega,rfl,rfl,rfl,q4,q5⟩
   have hFl:F.toList.take ((a+(l.length-c))*11)=(l.take a++l.drop c).flatMap jobV:=by
    have hs1:((setMany cur (a*11) ((l.drop c).flatMap jobV)).toList.take ((a+(l.length-c))*11)).length=(a+(l.length-c))*11:=by
     have:(setMany cur (a*11) ((l.drop c).flatMap jobV)).toList.length=cap*11:=by simp[h4]
     rw[List.length_take,this];omega
    rw[hF,Z0u _ _ _ (by simp only[size_setMany];rw[hzl,h4];omega),List.append_assoc,List.take_append,hs1,Nat.sub_self,List.take_zero,List.append_nil,List.take_take,Nat.min_self]
    have hc0:cur.toList.length=cap*11:=by simp[h4]
    have hc1:(cur.toList.take (a*11)).length=a*11:=by rw[List.length_take,hc0];omega
    rw[Z0u _ _ _ (by rw[hlen,h4];omega),List.take_append,yU,hc1,hlen,← m1,Nat.sub_self,List.take_zero,List.append_nil,List.take_of_length_le (by rw[yU,hc1,hlen];omega),List.flatMap_append]
    congr 1
    rw[← U1P Q0J.vlen l a,← h5,List.take_take,Nat.min_eq_left (by omega)]
   have:=congrArg (·.take ((a+(l.length-c))*11)) q3
   simp only[List.take_take]at this
   rw[Nat.min_eq_left (by omega)]at this
   rw[hlr,this,hFl]
 .cases h
end Go.Proofs.YtehomnafaoplgaaGreat
