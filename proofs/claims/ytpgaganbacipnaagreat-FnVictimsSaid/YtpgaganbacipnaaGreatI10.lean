/-
  Lemmas, part 10.
-/
import Derived.Test.YtpgaganbacipnaaGreatI9
import Derived.Test.YtpgaganbacipnaaGreatI1
namespace Go.Proofs.YtpgaganbacipnaaGreat
open Go Go.RowKit Go.Sort Go.Lib
theorem LV{α:Type}[Inhabited α](enc:α->Value){w:World}{blk off m:Nat}(dk:Array α)(os:Array Obj){a:Addr}{v:Value}(hb:a.block≠blk)(h:w.cell? a=some v):(sortWorld enc w blk off m dk os).cell? a=some v:=by
 have hlt:a.block<w.heap.size:=by
  rcases Nat.lt_or_ge a.block w.heap.size with hl|hl
  .exact hl
  .simp only[World.cell?,Array.getElem?_eq_none hl]at h
   cases h
 unfold sortWorld
 rw[cell?_grow _ _ _ (by simpa[putRow,mapBlock,Sort.ahead]using hlt),cell?_putRow_other _ _ _ _ _ _ (.inl hb)]
 exact h
def M1f{n:Nat}(x:Fin n):Value:=.int .i64 (x.val:Int)
theorem X1a{cnt:List Int}[Inhabited (Fin cnt.length)](hl:cnt.length<=24){w:World}{b ob r o cap blk size:Nat}(hb:b≠blk)(hr:r≠blk)(hbox:w.cell? ⟨b,ob,none⟩=some (.slice (some ⟨r,o,none⟩) cnt.length cap))
  (hc:∀(j:Nat) (x:Int),cnt[j]?=some x->w.cell? ⟨r,o+j,none⟩=some (.int .i64 x)):CmpReads Tryz.prog 207 #[.pointer (some ⟨b,ob,none⟩)] (M1f (n:=cnt.length)) (J00 cnt) blk 0 size w:=by
 intro m os dk _ x y
 exact W1g x.val y.val cnt[x] cnt[y] b ob r o cnt.length cap _ hl x.isLt y.isLt (LV _ _ _ hb hbox) (LV _ _ _ hr (hc x.val _ (yA x.isLt))) (LV _ _ _ hr (hc y.val _ (yA y.isLt)))
theorem L1b{cnt:List Int}[Inhabited (Fin cnt.length)](hl:cnt.length<=24)(hc:∀c∈cnt,0<=c/\c<=1000000){w:World}{b ob r o cap0 blk cap:Nat}(hb:b≠blk)(hr:r≠blk)(hbox:w.cell? ⟨b,ob,none⟩=some (.slice (some ⟨r,o,none⟩) cnt.length cap0))
  (hcs:∀(j:Nat) (x:Int),cnt[j]?=some x->w.cell? ⟨r,o+j,none⟩=some (.int .i64 x)) (d:Array (Fin cnt.length)) (hH:Holds M1f w blk 0 d) (hblk:blk<w.heap.size) (hsz:d.size<4611686018427387904) :
  Calls Tryz.prog 206 #[.slice (some ⟨blk,0,none⟩) d.size cap,.func (.func 207) #[] #[.pointer (some ⟨b,ob,none⟩)]] w λe w' =>
   e=.returned (.tuple #[])/\∃n os,w'=sortWorld M1f w blk 0 n (d.toList.mergeSort λx y=>!(ltOf (J00 cnt)) y x).toArray os:=by
 have eg:∀args w,(callFunc 207 args).run Tryz.prog w=.ok (.enter 207 args) w:=enters_of Tryz.func207 (by kernel_rfl) rfl
 exact Any.slices_SortFunc_total Tryz.sortFI M1f (λ_=>rfl) (J00 cnt) (O1j hl hc) 207 #[.pointer (some ⟨b,ob,none⟩)] blk 0 cap d w eg (X1a hl hb hr hbox hcs).lays hH hblk hsz (L15 hl hc)
end Go.Proofs.YtpgaganbacipnaaGreat
namespace Go.Proofs.YtpgaganbacipnaaGreat
open Go Go.RowKit Eng
def Ws(cnt:List Int)(x y:Int):Bool:=!decide (cnt.getD x.toNat 0<cnt.getD y.toNat 0\/(cnt.getD y.toNat 0=cnt.getD x.toNat 0/\y<x))
def J0I(cnt zs:List Int):Prop:=(∀z∈zs,0<=z/\z<(cnt.length:Int))/\cnt.length<=24/\(∀c∈cnt,0<=c/\c<=1000000)/\zs.length<4611686018427387904
instance(cnt zs:List Int):Decidable (J0I cnt zs):=by unfold J0I;infer_instance
def J0c(cnt zs:List Int):Option (List Int):=if J0I cnt zs then some (zs.mergeSort (Ws cnt))else none
theorem O1J{w:World}{g:Gh}{s:St}{f:Nat}{e:AV}{v:Value}(h:Gv w g s (.fn f [.ept e 0]) v):Rd w g.S g.T (.fn f [.ept e 0]) v:=by
 cases h with
 |data _ _ h=>exact h
 |fn _ _ vs hl h =>
  refine .fn _ _ vs hl λi a u ha hu=>?_
  have q:=h i a u ha hu
  match i with
  |0 =>
   cases ha
   cases q with
   |data _ _ q=>exact q
  |i+1=>simp at ha
def W0Y(n:Nat)(h:0<n)(z:Int):Fin n:=if h2:z.toNat<n then⟨z.toNat,h2⟩else⟨0,h⟩
theorem M14{n:Nat}(dk:List (Fin n))(c:Array Value)[Inhabited (Fin n)]:Go.Sort.putCells M1f 0 dk.toArray c=Go.Sort.putCells (Value.int .i64) 0 (dk.map λ(x:Fin n)=>(x.val:Int)).toArray c:=by
 unfold Go.Sort.putCells
 apply Array.ext
 .simp
 .intro i h1 h2
  simp only[Array.getElem_mapIdx,List.size_toArray,List.length_map,Nat.zero_le,true_and,Nat.zero_add,Nat.sub_zero]
  by_cases hi:i<dk.length
  .rw[yd hi,yd hi]
   simp[M1f,hi]
  .rw[ye hi,ye hi]
theorem J13{cnt zs r:List Int}(h:J0c cnt zs=some r):W0h Tryz.prog Mt 1 (zs.map eI) [.fn U0c [.ept (.agg [.sl .rd 1 (cnt.map eI)]) 0]] false (r.map eI):=by
 unfold J0c at h
 split at h
 .rename_i hl
  obtain⟨l1,l2,l3,l4⟩:=hl
  cases h
  refine O1c (zs:=zs) (zs':=zs.mergeSort (Ws cnt)) (λe=>by subst e;simp) (λ_=>by simp) ?_
  intro w g n0 us H hul hus
  refine⟨?_,λb cap cur ty h1 h2 h3 h4 h5 h6=>?_⟩
  .match us,hul with
   |[u],_ =>
   exact(AnyF.slices_SortFunc_none { Tryz.sortFI with } none 0 u w).mono λe w' h=>⟨by simp[h.1],h.2⟩
  .match us,hul with
   |[u],_ =>
   have hb:b<w.heap.size:=(Array.getElem?_eq_some_iff.1 h1).1
   by_cases hz:zs=[]
   .subst hz
    refine(AnyF.slices_SortFunc_none { Tryz.sortFI with } (some ⟨b,0,none⟩) cap u w).mono λe w' h=>?_
    obtain⟨he,rfl⟩:=h
    refine⟨by simp[he],cur,h1,h4,by simp[i64v],by simp,rfl,rfl,rfl,yV _,λ_ _ _=>rfl⟩
   .have hn:0<cnt.length:=by
     obtain⟨z,hz⟩:=List.exists_mem_of_ne_nil _ hz
     have:=l1 z hz
     omega
    haveI:Inhabited (Fin cnt.length):=⟨⟨0,hn⟩⟩
    have hd:=O1J (hus 0 _ u rfl rfl)
    obtain⟨bb,ob,br,o,capr,hu,hbox,hS1,hcs⟩:=Rd.cap1_inv hd hn
    subst hu
    have n1:bb≠b:=λe=>h6 _ (e ▸ hS1)
    have n2:br≠b:=λe=>by
     obtain⟨_,q⟩:=hcs 0 cnt[0] (yA hn)
     exact h6 _ (e ▸ q)
    have hval:∀z∈zs,((W0Y cnt.length hn z).val:Int)=z:=λz hz=>by
     have:=l1 z hz
     unfold W0Y
     rw[dif_pos (by omega)]
     simp only
     omega
    have hmap:(zs.map (W0Y cnt.length hn)).map (λ(x:Fin cnt.length)=>(x.val:Int))=zs:=by
     rw[List.map_map]
     exact(List.map_congr_left (λz hz=>hval z hz)).trans (List.map_id _)
    have hH:Go.Sort.Holds M1f w b 0 (zs.map (W0Y cnt.length hn)).toArray:=by
     intro j hj
     have hj':j<zs.length:=by simpa using hj
     have:=M0Q h1 h5 j (by simpa using hj')
     refine⟨?_,this.2⟩
     rw[this.1]
     simp[M1f,hj',hval]
    have e1:((zs.map (W0Y cnt.length hn)).mergeSort λx y=>!(ltOf (J00 cnt)) y x).map (λ(x:Fin cnt.length)=>(x.val:Int))=zs.mergeSort (Ws cnt):=by
     rw[List.map_mergeSort (s:=Ws cnt),hmap]
     intro x _ y _
     rw[QY l2 l3]
     unfold Ws
     simp
    have:=L1b (w:=w) (b:=bb) (ob:=ob) (r:=br) (o:=o) (cap0:=capr) (blk:=b) (cap:=cap) l2 l3 n1 n2 hbox (λj x hx=>(hcs j x hx).1) (zs.map (W0Y cnt.length hn)).toArray hH hb (by simpa using l4)
    simp only[List.size_toArray,List.length_map]at this
    refine this.mono λe w' h=>?_
    obtain⟨he,n,os,hw⟩:=h
    have hw2:w'=Go.Sort.grow (Go.Sort.putRow (Value.int .i64) (Go.Sort.ahead w n) b 0 (zs.mergeSort (Ws cnt)).toArray) os:=by
     rw[hw]
     unfold sortWorld Go.Sort.putRow
     congr 2
     funext c
     rw[M14,e1]
    rw[hw2]
    obtain⟨cur',q1,q2,q3,q4,q5⟩:=L0u (zs:=zs.mergeSort (Ws cnt)) h1 h4 (by simpa using h2) n os
    exact⟨by simp[he],cur',q1,q2,q3,by simpa using h2,rfl,rfl,rfl,q4,q5⟩
 .cases h
noncomputable def X17:L :=
 lf Tryz.prog W0b [] [] [] [] [] [] []
def UT(j1:Job):Option Bool :=
 bif ((((decide (j1.id<1)||decide (999<j1.id))||decide (j1.prio<0))||decide (999<j1.prio))||decide (j1.nodes<1))||decide (24<j1.nodes)then(some false)else(some ((((((Q0 j1.need)&&(Q0 j1.lic))&&decide (1<=j1.wall))&&decide (j1.wall<=1000000))&&decide (0<=j1.level))&&decide (j1.level<=24)))
theorem U0K{j1:Job}{r:Bool}(H:UT j1=some r):Snd Tryz.prog W0b [eJob j1] (.bool r) []:=by
 refine wS X17 [.t 2] ?_
 unfold UT at H
 refine wP ?_
 refine M0 H ?_ ?_<;>intro H
 .obtain rfl:=sI H
  exact wP (wE [(2,.d)])
 .refine wH [.c 33 (Y5 j1.need),.g 37 [((Q0 j1.need),true)] (.call _ _ _ _ _ (AEs.refl _) (λ_=>Y5 j1.lic))] ?_
  replace H:=sI H;subst H
  exact wE [(2,.d)]
def X1(j1:Job):Bool :=
 bif ((((decide (j1.id<1)||decide (999<j1.id))||decide (j1.prio<0))||decide (999<j1.prio))||decide (j1.nodes<1))||decide (24<j1.nodes)then(false)else(((((((Q0 j1.need)&&(Q0 j1.lic))&&decide (1<=j1.wall))&&decide (j1.wall<=1000000))&&decide (0<=j1.level))&&decide (j1.level<=24)))
theorem O1b(j1:Job):UT j1=some (X1 j1):=by
 unfold UT X1
 first|rfl|simp only[O5]
theorem XA(j1:Job):Snd Tryz.prog W0b [eJob j1] (.bool (X1 j1)) []:=U0K (O1b j1)
noncomputable def Y0V:L :=
 lf Tryz.prog Y0r [] [] [] [] [] [] []
def VP(x5:List Pt)(_:Nat)(_:Unit)(k5:Unit->Option Bool):Option Bool :=
 (Ja x5).bind λb6=>bif !b6 then(some false)else(k5 ())
def Y07(_:Unit):Option Bool :=
 some true
def Jm(r1:Room):Option Bool :=
 (Yh r1.topo).bind λb2=>(bif ((!b2)||((r1.up.length:Int)!=(r1.topo.nodes.length:Int)))||((r1.profs.length:Int)!=(r1.topo.nodes.length:Int))then some default else(Ja r1.lics)).bind λb3=>bif (((!b2)||((r1.up.length:Int)!=(r1.topo.nodes.length:Int)))||((r1.profs.length:Int)!=(r1.topo.nodes.length:Int)))||(!b3)then(some false)else(rgl VP Y07 r1.profs 0 ())
theorem OG{r1:Room}{r:Bool}(H:Jm r1=some r):Snd Tryz.prog Y0r [Oe .rd r1] (.bool r) []:=by
 refine wS Y0V [.t 2] ?_
 unfold Jm at H
 obtain⟨b2,h2,b3,h3,H⟩:=bB2 H
 refine wH [.c 7 (QV h2),.g 12 [((!b2),false)] (.ln _ _ λ_=>lm r1.up eBo),.g 16 [((!b2),false)] (.ln _ _ λ_=>lm r1.topo.nodes V1),.g 22 [(((!b2)||((r1.up.length:Int)!=(r1.topo.nodes.length:Int))),false)] (.ln _ _ λ_=>lm r1.profs (J1 .rd)),.g 26 [(((!b2)||((r1.up.length:Int)!=(r1.topo.nodes.length:Int))),false)] (.ln _ _ λ_=>lm r1.topo.nodes V1),.g 32 [(_,false)] (.call _ _ _ _ _ (AEs.refl _) (λq=>JG (bF q.1 h3)))] ?_
 refine M0 H ?_ ?_<;>intro H
 .obtain rfl:=sI H
  exact wP (wE [(2,.d)])
 .refine wG [.u 37 (.ln _ _ λ_=>lm r1.profs (J1 .rd))] λq4=>?_
  refine wR (λ(i5:Nat) (v5:Unit)=>⟨[(36,rV 1 (r1.profs.map (J1 .rd))),(37,iV (r1.profs.length:Int)),(38,iV (i5:Int))],[],[],[]⟩) H (λi5 x5 v5 I m k5 hxv5 hiv5 H N27=>?_) (λv5 I m H=>?_)
  .unfold VP at H
   refine wP (wt (ltT hiv5) ?_)
   obtain⟨b6,h6,H⟩:=bB H
   refine wH [.u 40 (.ix _ _ _ λ_=>W0 (J1 .rd) (Y1 hxv5)),.c 43 (JG h6)] ?_
   refine M0 H ?_ ?_<;>intro H
   .obtain rfl:=sI H
    exact wP (wE [(2,.d)])
   .exact wH [.w 45 (wi .i64 rfl hiv5 q4.1)] (wT (N27 () H))
  .unfold Y07 at H
   refine wP (wf (ltF r1.profs.length) ?_)
   obtain rfl:=sI H
   exact wP (wE [(2,.d)])
noncomputable def Y0F:L :=
 lf Tryz.prog O0b [13] [] [] [] [] [] []
def Xq(r1:Room)(need2:Vec)(from3 to4:Int)(x7:List Pt)(i7:Nat)(v7:List Int)(k7:List Int->Option (List Int)):Option (List Int) :=
 (Vn x7 from3 to4).bind λy8=>(bif y8.2 then(idx r1.up (i7:Int))else some default).bind λe9=>bif (y8.2&&e9)&&(J0 need2 y8.1)then((appL 8 v7 [(i7:Int)]).bind λxs10=>k7 xs10)else(k7 v7)
def YY(v7:List Int):Option (List Int) :=
 some v7
def VA(r1:Room)(need2:Vec)(from3 to4:Int):Option (List Int) :=
 (Jm r1).bind λb5=>bif !b5 then(some [])else(rgl (Xq r1 need2 from3 to4) YY r1.profs 0 [])
theorem Q0C{r1:Room}{need2:Vec}{from3 to4:Int}{r:(List Int)}(H:VA r1 need2 from3 to4=some r):Snd Tryz.prog O0b [Oe .rd r1,eVec need2,iV from3,iV to4] (nV 1 (r.map eI)) []:=by
 refine wS Y0F [.t 8] ?_
 unfold VA at H
 obtain⟨b5,h5,H⟩:=bB H
 refine wH [.c 15 (OG h5)] ?_
 refine M0 H ?_ ?_<;>intro H
 .refine wP ?_
  replace H:=sI H;subst H
  exact wN [(8,.f)] [] [] [13] [] [⟨_,nw_I ([]:List Int)⟩]
 .refine wG [.u 20 (.ln _ _ λ_=>lm r1.profs (J1 .rd))] λq6=>?_
  refine wR (λ(i7:Nat) (v7:List Int)=>⟨[(2,iV from3),(3,iV to4),(4,.ptr 4 0),(5,.ptr 5 0),(9,.sref 13),(20,iV (r1.profs.length:Int)),(21,iV (i7:Int))],[],[(4,(Oe .rd r1).cells),(5,(eVec need2).cells)],[(13,⟨1,v7.map eI,false⟩)]⟩) H (λi7 x7 v7 I m k7 hxv7 hiv7 H N28=>?_) (λv7 I m H=>?_)
  .unfold Xq at H
   refine wP (wt (ltT hiv7) ?_)
   obtain⟨y8,h8,e9,h9,H⟩:=bB2 H
   refine wH [.u 28 (.ix _ _ _ λ_=>W0 (J1 .rd) (Y1 hxv7)),.c 32 (LP h8),.g 40 [(_,true)] (.ix _ _ _ λq=>W0 eBo (bT q.1 h9)),.g 46 [((y8.2&&e9),true)] (.call _ _ _ _ _ (AEs.refl _) (λ_=>YP need2 y8.1))] ?_
   refine M0 H ?_ ?_<;>intro H
   .obtain⟨xs10,h10,H⟩:=bB H
    exact wH [.u 51 (.ap _ _ _ _ λ_=>L0 eI h10),.w 52 (wi .i64 rfl hiv7 q6.1)] (wT (N28 _ H))
   .exact wH [.w 52 (wi .i64 rfl hiv7 q6.1)] (wT (N28 _ H))
  .unfold YY at H
   refine wP (wf (ltF r1.profs.length) ?_)
   refine wP ?_
   replace H:=sI H;subst H
   exact wN [(8,.f)] [] [] [13] [] [⟨_,nw_I v7⟩]
noncomputable def W16:L :=
 lf Tryz.prog L0z [10] [] [] [] [(5,10)] [] []
def VG(t1:Topo)(s3 x5:Int)(_:Nat)(v5:List Int)(k5:List Int->Option (List Int)):Option (List Int) :=
 (idx t1.nodes x5).bind λe6=>(Lw t1 e6.leaf).bind λy7=>(J8 y7 s3).bind λb8=>bif b8 then((appL 8 v5 [x5]).bind λxs9=>k5 xs9)else(k5 v5)
def JU(v5:List Int):Option (List Int) :=
 some v5
def Xf(t1:Topo)(nodes2:List Int)(s3:Int):Option (List Int) :=
 rgl (VG t1 s3) JU nodes2 0 []
theorem Qp{t1:Topo}{nodes2:List Int}{s3:Int}{r:(List Int)}(H:Xf t1 nodes2 s3=some r):Snd Tryz.prog L0z [M4 .rd t1,rV 1 (nodes2.map eI),iV s3] (nV 1 (r.map eI)) []:=by
 refine wS W16 [.t 6] ?_
 unfold Xf at H
 refine wG [.u 12 (.ln _ _ λ_=>lm nodes2 eI)] λq4=>?_
 refine wR (λ(i5:Nat) (v5:List Int)=>⟨[(2,iV s3),(3,.ptr 3 0),(7,.sref 10),(11,rV 1 (nodes2.map eI)),(12,iV (nodes2.length:Int)),(13,iV (i5:Int))],[],[(3,(M4 .rd t1).cells)],[(10,⟨1,v5.map eI,false⟩)]⟩) H (λi5 x5 v5 I m k5 hxv5 hiv5 H N19=>?_) (λv5 I m H=>?_)
 .unfold VG at H
  refine wP (wt (ltT hiv5) ?_)
  obtain⟨e6,h6,y7,h7,b8,h8,H⟩:=bB3 H
  refine wH [.u 15 (.ix _ _ _ λ_=>W0 eI (Y1 hxv5)),.u 21 (.ix _ _ _ λ_=>W0 V1 h6),.c 24 (Q0m h7),.c 26 (Lb h8)] ?_
  refine M0 H ?_ ?_<;>intro H
  .obtain⟨xs9,h9,H⟩:=bB H
   exact wH [.u 30 (.ap _ _ _ _ λ_=>L0 eI h9),.w 31 (wi .i64 rfl hiv5 q4.1)] (wT (N19 _ H))
  .exact wH [.w 31 (wi .i64 rfl hiv5 q4.1)] (wT (N19 _ H))
 .unfold JU at H
  refine wP (wf (ltF nodes2.length) ?_)
  refine wP ?_
  replace H:=sI H;subst H
  exact wN [(6,.f)] [] [] [10] [] [⟨_,nw_I v5⟩]
noncomputable def M0v:L :=
 lf Tryz.prog V05 [] [] [] [] [] [] []
def Oy(t1:Topo)(nodes2:List Int)(n3 level4 _:Int)(i6:Nat)(v6:Int)(k6:Int->Option Int):Option Int :=
 (Xf t1 nodes2 (i6:Int)).bind λy7=>(X9 t1 (i6:Int)).bind λn8=>bif decide ((y7.length:Int)<n3)||decide (level4<n8)then(k6 v6)else((bif decide (v6<0)then some default else(X9 t1 v6)).bind λn10=>(bif decide (v6<0)||decide (n8<n10)then some default else(X9 t1 v6)).bind λn11=>(bif decide (v6<0)||decide (n8<n10)then some default else(bif n8==n11 then(Xf t1 nodes2 v6)else some default)).bind λy12=>bif (decide (v6<0)||decide (n8<n10))||((n8==n11)&&decide ((y7.length:Int)<(y12.length:Int)))then(k6 (i6:Int))else(k6 v6))
def XT(v6:Int):Option Int :=
 some v6
def Xs(t1:Topo)(nodes2:List Int)(n3 level4:Int):Option Int :=
 rgl (Oy t1 nodes2 n3 level4) XT t1.parents 0 (-1)
theorem W0t{t1:Topo}{nodes2:List Int}{n3 level4 r:Int}(H:Xs t1 nodes2 n3 level4=some r):Snd Tryz.prog V05 [M4 .rd t1,rV 1 (nodes2.map eI),iV n3,iV level4] (iV r) []:=by
 refine wS M0v [.t 8] ?_
 unfold Xs at H
 refine wG [.u 15 (.ln _ _ λ_=>lm t1.parents eI)] λq5=>?_
 refine wR (λ(i6:Nat) (v6:Int)=>⟨[(1,rV 1 (nodes2.map eI)),(2,iV n3),(3,iV level4),(4,.ptr 4 0),(9,iV v6),(15,iV (t1.parents.length:Int)),(16,iV (i6:Int))],[],[(4,(M4 .rd t1).cells)],[]⟩) H (λi6 x6 v6 I m k6 hxv6 hiv6 H N29=>?_) (λv6 I m H=>?_)
 .unfold Oy at H
  refine wP (wt (ltT hiv6) ?_)
  obtain⟨y7,h7,n8,h8,H⟩:=bB2 H
  refine wG [.c 22 (Qp h7),.u 23 (.ln _ _ λ_=>lm y7 eI),.c 26 (Ma h8)] λq9=>?_
  refine M0 H ?_ ?_<;>intro H
  .exact wH [.w 61 (wi .i64 rfl hiv6 q5.1)] (wT (N29 _ H))
  .obtain⟨n10,h10,n11,h11,y12,h12,H⟩:=bB3 H
   refine wH [.g 41 [(_,false)] (.call _ _ _ _ _ (AEs.refl _) (λq=>Ma (bF q.1 h10))),.g 48 [(_,false)] (.call _ _ _ _ _ (AEs.refl _) (λq=>Ma (bF q.1 h11))),.g 55 [(_,true),(_,false)] (.call _ _ _ _ _ (AEs.refl _) (λq=>Qp (bT q.1 (bF q.2.1 h12)))),.g 56 [((n8==n11),true),((decide (v6<0)||decide (n8<n10)),false)] (.ln _ _ λ_=>lm y12 eI)] ?_
   refine M0 H ?_ ?_<;>intro H
   .exact wH [.w 61 (wi .i64 rfl hiv6 q5.1)] (wT (N29 _ H))
   .exact wH [.w 61 (wi .i64 rfl hiv6 q5.1)] (wT (N29 _ H))
 .unfold XT at H
  refine wP (wf (ltF t1.parents.length) ?_)
  obtain rfl:=sI H
  exact wP (wE [(8,.d)])
noncomputable def L0N:L :=
 lf Tryz.prog X0i [] [] [] [] [] [] []
def Uu(t1:Topo)(nodes2 taken3:List Int)(_:Int)(i5:Nat)(v5:Int)(k5:Int->Option Int):Option Int :=
 (Xf t1 nodes2 (i5:Int)).bind λy6=>(bif (y6.length:Int)==0 then some default else(Qj t1 (i5:Int))).bind λy7=>(bif ((y6.length:Int)==0)||decide (0<(y7.length:Int))then some default else(J8 taken3 (i5:Int))).bind λb8=>bif (((y6.length:Int)==0)||decide (0<(y7.length:Int)))||b8 then(k5 v5)else((bif decide (v5<0)then some default else(Xf t1 nodes2 v5)).bind λy10=>bif decide (v5<0)||decide ((y10.length:Int)<(y6.length:Int))then(k5 (i5:Int))else(k5 v5))
def J03(v5:Int):Option Int :=
 some v5
def Qm(t1:Topo)(nodes2 taken3:List Int):Option Int :=
 rgl (Uu t1 nodes2 taken3) J03 t1.parents 0 (-1)
theorem Z0K{t1:Topo}{nodes2 taken3:List Int}{r:Int}(H:Qm t1 nodes2 taken3=some r):Snd Tryz.prog X0i [M4 .rd t1,rV 1 (nodes2.map eI),rV 1 (taken3.map eI)] (iV r) []:=by
 refine wS L0N [.t 6] ?_
 unfold Qm at H
 refine wG [.u 12 (.ln _ _ λ_=>lm t1.parents eI)] λq4=>?_
 refine wR (λ(i5:Nat) (v5:Int)=>⟨[(1,rV 1 (nodes2.map eI)),(2,rV 1 (taken3.map eI)),(3,.ptr 3 0),(7,iV v5),(12,iV (t1.parents.length:Int)),(13,iV (i5:Int))],[],[(3,(M4 .rd t1).cells)],[]⟩) H (λi5 x5 v5 I m k5 hxv5 hiv5 H N27=>?_) (λv5 I m H=>?_)
 .unfold Uu at H
  refine wP (wt (ltT hiv5) ?_)
  obtain⟨y6,h6,y7,h7,b8,h8,H⟩:=bB3 H
  refine wG [.c 19 (Qp h6),.u 20 (.ln _ _ λ_=>lm y6 eI),.g 26 [(_,false)] (.call _ _ _ _ _ (AEs.refl _) (λq=>Jy (bF q.1 h7))),.g 27 [(((y6.length:Int)==0),false)] (.ln _ _ λ_=>lm y7 eI),.g 33 [(_,false)] (.call _ _ _ _ _ (AEs.refl _) (λq=>Lb (bF q.1 h8)))] λq9=>?_
  refine M0 H ?_ ?_<;>intro H
  .exact wH [.w 47 (wi .i64 rfl hiv5 q4.1)] (wT (N27 _ H))
  .obtain⟨y10,h10,H⟩:=bB H
   refine wH [.g 42 [(_,false)] (.call _ _ _ _ _ (AEs.refl _) (λq=>Qp (bF q.1 h10))),.g 43 [((decide (v5<0)),false)] (.ln _ _ λ_=>lm y10 eI)] ?_
   refine M0 H ?_ ?_<;>intro H
   .exact wH [.w 47 (wi .i64 rfl hiv5 q4.1)] (wT (N27 _ H))
   .exact wH [.w 47 (wi .i64 rfl hiv5 q4.1)] (wT (N27 _ H))
 .unfold J03 at H
  refine wP (wf (ltF t1.parents.length) ?_)
  obtain rfl:=sI H
  exact wP (wE [(6,.d)])
noncomputable def O0N:L :=
 lf Tryz.prog Z0i [9] [] [] [] [] [] [15667,63]
def Vu(x4:Int)(k4:(Bool×(List Int))->Option (List Int))(v6:Bool×(List Int)):Option (List Int) :=
 (appL 8 v6.2 [x4]).bind λxs7=>k4 (v6.1,xs7)
def Yf(v9:List Int):Option (List Int) :=
 some v9
def Zk(n2 x4:Int)(_:Nat)(v4:Bool×(List Int))(k4:(Bool×(List Int))->Option (List Int)):Option (List Int) :=
 bif (!v4.1)&&decide (n2<x4)then((appL 8 v4.2 [n2]).bind λxs5=>(Vu x4 k4) (true,xs5))else((Vu x4 k4) (v4.1,v4.2))
def Zf(n2:Int)(v4:Bool×(List Int)):Option (List Int) :=
 bif !v4.1 then((appL 8 v4.2 [n2]).bind λxs8=>Yf xs8)else(Yf v4.2)
def Qw(l1:List Int)(n2:Int):Option (List Int) :=
 rgl (Zk n2) (Zf n2) l1 0 (false,[])
theorem Q06{l1:List Int}{n2:Int}{r:(List Int)}(H:Qw l1 n2=some r):Snd Tryz.prog Z0i [rV 1 (l1.map eI),iV n2] (nV 1 (r.map eI)) []:=by
 refine wS O0N [.t 4] ?_
 unfold Qw at H
 refine wG [.u 11 (.ln _ _ λ_=>lm l1 eI)] λq3=>?_
 refine wR (λ(i4:Nat) (v4:Bool×(List Int))=>⟨[(1,iV n2),(5,.sref 9),(6,.bool v4.1),(10,rV 1 (l1.map eI)),(11,iV (l1.length:Int)),(12,iV (i4:Int))],[],[],[(9,⟨1,v4.2.map eI,false⟩)]⟩) H (λi4 x4 v4 I m k4 hxv4 hiv4 H N24=>?_) (λv4 I m H=>?_)
 .unfold Zk at H
  refine wP (wt (ltT hiv4) ?_)
  refine wH [.u 14 (.ix _ _ _ λ_=>W0 eI (Y1 hxv4))] ?_
  refine J3 (r:=r) (Vu x4 k4) 0 (λv6:Bool×(List Int)=>⟨[(1,.int .i64 n2),(5,.sref 9),(6,.bool v6.1),(8,.int .i64 x4),(10,.sl .rd 1 (l1.map eI)),(11,.int .i64 (l1.length:Int)),(12,.int .i64 (i4:Int))],[],[],[(9,⟨1,v6.2.map eI,false⟩)]⟩) (by kernel_rfl) (λv6 H=>?_) (λJ16=>?_)
  .unfold Vu at H
   obtain⟨xs7,h7,H⟩:=bB H
   exact wH [.u 30 (.ap _ _ _ _ λ_=>L0 eI h7),.w 31 (wi .i64 rfl hiv4 q3.1)] (wT (N24 _ H))
  .refine M0 H ?_ ?_<;>intro H
   .obtain⟨xs5,h5,H⟩:=bB H
    exact wH [.u 26 (.ap _ _ _ _ λ_=>L0 eI h5)] (wT (J16 _ H))
   .refine wP ?_
    exact wT (J16 _ H)
 .unfold Zf at H
  refine wP (wf (ltF l1.length) ?_)
  refine wP ?_
  refine J3 (r:=r) Yf 0 (λv9:(List Int)=>⟨[(5,.sref 9)],[],[],[(9,⟨1,v9.map eI,false⟩)]⟩) (by kernel_rfl) (λv9 H=>?_) (λJ34=>?_)
  .unfold Yf at H
   refine wP ?_
   replace H:=sI H;subst H
   exact wN [(4,.f)] [] [] [9] [] [⟨_,nw_I v9⟩]
  .refine M0 H ?_ ?_<;>intro H
   .obtain⟨xs8,h8,H⟩:=bB H
    exact wH [.u 37 (.ap _ _ _ _ λ_=>L0 eI h8)] (wT (J34 _ H))
   .refine wP ?_
    exact wT (J34 _ H)
noncomputable def M0V:L :=
 lf Tryz.prog M0r [57,58] [] [] [] [(6,14)] [] []
def UA(n3 x17:Int)(_:Nat)(v17:List Int)(k17:List Int->Option ((List Int)×Bool)):Option ((List Int)×Bool) :=
 bif decide ((v17.length:Int)<n3)then((Qw v17 x17).bind λy19=>k17 y19)else(k17 v17)
def JP(k11:((List Int)×(List Int))->Option ((List Int)×Bool))(xs14:List Int)(v17:List Int):Option ((List Int)×Bool) :=
 k11 (v17,xs14)
def Wn(t1:Topo)(n3:Int)(y10:List Int)(v11:(List Int)×(List Int))(k11:((List Int)×(List Int))->Option ((List Int)×Bool)):Option ((List Int)×Bool) :=
 bif decide ((v11.1.length:Int)<n3)then((Qm t1 y10 v11.2).bind λn13=>(appL 8 v11.2 [n13]).bind λxs14=>(Xf t1 y10 n13).bind λy15=>rgl (UA n3) (JP k11 xs14) y15 0 v11.1)else(some (v11.1,true))
def YQ(nodes2:List Int)(x7:Int)(i7:Nat)(_:Unit)(k7:Unit->Option ((List Int)×Bool)):Option ((List Int)×Bool) :=
 (bif decide (0<(i7:Int))then(idx nodes2 (w64 ((i7:Int)-1)))else some default).bind λe8=>bif decide (0<(i7:Int))&&decide (x7<=e8)then(some ([],false))else(k7 ())
def ZQ(t1:Topo)(nodes2:List Int)(n3 level4:Int)(_:Unit):Option ((List Int)×Bool) :=
 (Xs t1 nodes2 n3 level4).bind λn9=>bif decide (n9<0)then(some ([],false))else((Xf t1 nodes2 n9).bind λy10=>whl (Wn t1 n3 y10) 9223372036854775807 ([],[]))
def XQ(t1:Topo)(nodes2:List Int)(n3 level4:Int):Option ((List Int)×Bool) :=
 (Zg t1 nodes2).bind λb5=>bif (!b5)||decide (n3<1)then(some ([],false))else(rgl (YQ nodes2) (ZQ t1 nodes2 n3 level4) nodes2 0 ())
theorem Q0T{t1:Topo}{nodes2:List Int}{n3 level4:Int}{r:(List Int)×Bool}(H:XQ t1 nodes2 n3 level4=some r):Snd Tryz.prog M0r [M4 .rd t1,rV 1 (nodes2.map eI),iV n3,iV level4] (.tup [nV 1 (r.1.map eI),.bool r.2]) []:=by
 refine wS M0V [.t 8,.t 9] ?_
 unfold XQ at H
 obtain⟨b5,h5,H⟩:=bB H
 refine wH [.c 20 (XK h5)] ?_
 refine M0 H ?_ ?_<;>intro H
 .refine wP ?_
  replace H:=sI H;subst H
  exact wN [(8,.n 1),(9,.d)] [] [] [] [] [⟨_,nw_I ([]:List Int)⟩]
 .refine wG [.u 27 (.ln _ _ λ_=>lm nodes2 eI)] λq6=>?_
  refine wR (λ(i7:Nat) (v7:Unit)=>⟨[(1,rV 1 (nodes2.map eI)),(2,iV n3),(3,iV level4),(4,.ptr 4 0),(27,iV (nodes2.length:Int)),(28,iV (i7:Int))],[],[(4,(M4 .rd t1).cells)],[]⟩) H (λi7 x7 v7 I m k7 hxv7 hiv7 H N27=>?_) (λv7 I m H=>?_)
  .unfold YQ at H
   refine wP (wt (ltT hiv7) ?_)
   obtain⟨e8,h8,H⟩:=bB H
   refine wH [.g 37 [(_,true)] (.ix _ _ _ λq=>W0 eI (bT q.1 h8)),.g 41 [((decide (0<(i7:Int))),true)] (.ix _ _ _ λ_=>W0 eI (Y1 hxv7))] ?_
   refine M0 H ?_ ?_<;>intro H
   .refine wP ?_
    replace H:=sI H;subst H
    exact wN [(8,.n 1),(9,.d)] [] [] [] [] [⟨_,nw_I ([]:List Int)⟩]
   .exact wH [.w 45 (wi .i64 rfl hiv7 q6.1)] (wT (N27 () H))
  .unfold ZQ at H
   refine wP (wf (ltF nodes2.length) ?_)
   obtain⟨n9,h9,H⟩:=bB H
   refine wH [.c 50 (W0t h9)] ?_
   refine M0 H ?_ ?_<;>intro H
   .refine wP ?_
    replace H:=sI H;subst H
    exact wN [(8,.n 1),(9,.d)] [] [] [] [] [⟨_,nw_I ([]:List Int)⟩]
   .obtain⟨y10,h10,H⟩:=bB H
    refine wH [.c 56 (Qp h10)] ?_
    refine W11 (λ(v11:(List Int)×(List Int))=>⟨[(2,iV n3),(4,.ptr 4 0),(12,nV 1 (y10.map eI)),(13,nV 1 (v11.1.map eI)),(14,.sref 58)],[],[(4,(M4 .rd t1).cells)],[(58,⟨1,v11.2.map eI,false⟩)]⟩) [(13,.f)] [] [] [57] (by kernel_rfl) (by kernel_rfl) H (λv11 I m k11 H N72=>?_)
    unfold Wn at H
    refine wG [.u 60 (.ln _ _ λ_=>lm v11.1 eI)] λq12=>?_
    refine M0 H ?_ ?_<;>intro H
    .obtain⟨n13,h13,xs14,h14,y15,h15,H⟩:=bB3 H
     refine wG [.c 66 (Z0K h13),.u 70 (.ap _ _ _ _ λ_=>L0 eI h14),.c 74 (Qp h15),.u 75 (.ln _ _ λ_=>lm y15 eI)] λq16=>?_
     refine wR (λ(i17:Nat) (v17:List Int)=>⟨[(2,iV n3),(4,.ptr 4 0),(12,nV 1 (y10.map eI)),(13,nV 1 (v17.map eI)),(14,.sref 58),(74,nV 1 (y15.map eI)),(75,iV (y15.length:Int)),(76,iV (i17:Int))],[],[(4,(M4 .rd t1).cells)],[(58,⟨1,xs14.map eI,false⟩)]⟩) H (λi17 x17 v17 I m k17 hxv17 hiv17 H N65=>?_) (λv17 I m H=>?_)
     .unfold UA at H
      refine wP (wt (ltT hiv17) ?_)
      refine wG [.u 78 (.ix _ _ _ λ_=>W0 eI (Y1 hxv17)),.u 81 (.ln _ _ λ_=>lm v17 eI)] λq18=>?_
      refine M0 H ?_ ?_<;>intro H
      .obtain⟨y19,h19,H⟩:=bB H
       exact wH [.c 86 (Q06 h19),.w 87 (wi .i64 rfl hiv17 q16.1)] (wT (N65 _ H))
      .exact wH [.w 87 (wi .i64 rfl hiv17 q16.1)] (wT (N65 _ H))
     .unfold JP at H
      refine wP (wf (ltF y15.length) ?_)
      refine wP ?_
      exact wT (N72 _ H)
    .refine wP ?_
     replace H:=sI H;subst H
     exact wN [(8,.d),(9,.d)] [] [] [] [] [⟨_,nw_I v11.1⟩]
noncomputable def Y0E:L :=
 lf Tryz.prog Z0b [11,12] [] [] [20] [] [(2,[],[],[2,4,8,10,12,18,1,7,15,17],10)] []
def Up(from2:Int)(x8:Pt)(_:Nat)(v8:List Int)(k8:List Int->Option (List Int)):Option (List Int) :=
 (bif decide (from2<x8.t)then(J8 v8 x8.t)else some default).bind λb9=>bif decide (from2<x8.t)&&(!b9)then((Qw v8 x8.t).bind λy10=>k8 y10)else(k8 v8)
def YD(k6:List Int->Option (List Int))(v8:List Int):Option (List Int) :=
 k6 v8
def Vp(from2:Int)(x6:List Pt)(_:Nat)(v6:List Int)(k6:List Int->Option (List Int)):Option (List Int) :=
 rgl (Up from2) (YD k6) x6 0 v6
def ZD(v6:List Int):Option (List Int) :=
 some v6
def Wy(r1:Room)(from2:Int):Option (List Int) :=
 (appL 24 ([]:List (List Pt)) r1.profs).bind λxs3=>(appL 24 xs3 [r1.lics]).bind λxs4=>(lenQ xs4).bind λ_=>rgl (Vp from2) ZD xs4 0 [from2]
theorem U0B{r1:Room}{from2:Int}{r:(List Int)}(H:Wy r1 from2=some r):Snd Tryz.prog Z0b [Oe .rd r1,iV from2] (nV 1 (r.map eI)) []:=by
 refine wS Y0E [.t 4] ?_
 unfold Wy at H
 obtain⟨xs3,h3,xs4,h4,u5,h5,H⟩:=bB3 H
 refine wH [.u 15 (.ap _ _ _ _ λ_=>L0 (J1 .rd) h3),.u 19 (.ap _ _ _ _ λ_=>L0 (J1 .rd) h4),.u 20 (.le _ _ (λ_=>lm xs4 (J1 .rd)) (λ_=>V0k h5))] ?_
 refine X05 (λ(i6:Nat) (v6:List Int)=>⟨[(1,iV from2),(5,nV 1 (v6.map eI)),(19,.sref 12),(20,iV (xs4.length:Int)),(21,iV (i6:Int))],[],[],[(12,⟨1,xs4.map (J1 .rd),false⟩)]⟩) [(5,.f)] [] [] [11] (by kernel_rfl) (by kernel_rfl) H (λi6 x6 v6 I m k6 hxv6 hiv6 H N34=>?_) (λv6 I m H=>?_)
 .unfold Vp at H
  refine wP (wt (ltT hiv6) ?_)
  refine wG [.u 23 (.ix _ _ _ λ_=>W0 (J1 .rd) (Y1 hxv6)),.u 24 (.el _ _ _ λ_=>gm (J1 .rd) (W4 (Y1 hxv6))),.u 27 (.ln _ _ λ_=>lm x6 ePt)] λq7=>?_
  refine wR (λ(i8:Nat) (v8:List Int)=>⟨[(1,iV from2),(5,nV 1 (v8.map eI)),(19,.sref 12),(20,iV (xs4.length:Int)),(21,iV (i6:Int)),(26,rV 4 (x6.map ePt)),(27,iV (x6.length:Int)),(28,iV (i8:Int))],[],[],[(12,⟨1,xs4.map (J1 .rd),false⟩)]⟩) H (λi8 x8 v8 I m k8 hxv8 hiv8 H N25=>?_) (λv8 I m H=>?_)
  .unfold Up at H
   refine wP (wt (ltT hiv8) ?_)
   obtain⟨b9,h9,H⟩:=bB H
   refine wH [.u 30 (.ix _ _ _ λ_=>W0 ePt (Y1 hxv8)),.g 40 [(_,true)] (.call _ _ _ _ _ (AEs.refl _) (λq=>Lb (bT q.1 h9)))] ?_
   refine M0 H ?_ ?_<;>intro H
   .obtain⟨y10,h10,H⟩:=bB H
    exact wH [.c 46 (Q06 h10),.w 47 (wi .i64 rfl hiv8 q7.1)] (wT (N25 _ H))
   .exact wH [.w 47 (wi .i64 rfl hiv8 q7.1)] (wT (N25 _ H))
  .unfold YD at H
   refine wP (wf (ltF x6.length) ?_)
   exact wH [.w 48 (wi .i64 rfl hiv6 (V0k h5))] (wT (N34 _ H))
 .unfold ZD at H
  refine wP (wf (ltF xs4.length) ?_)
  refine wP ?_
  replace H:=sI H;subst H
  exact wN [(4,.d)] [] [] [] [] [⟨_,nw_I v6⟩]
noncomputable def X0U:L :=
 lf Tryz.prog M0q [] [] [] [] [(4,20)] [] []
def JO(r1:Room)(j2:Job)(t3:Int):Option ((List Int)×Bool) :=
 (Vn r1.lics t3 (w64 (t3+j2.wall))).bind λy4=>bif (!y4.2)||(!(J0 j2.lic y4.1))then(some ([],false))else((VA r1 j2.need t3 (w64 (t3+j2.wall))).bind λy5=>(XQ r1.topo y5 j2.nodes j2.level).bind λy6=>some (y6.1,y6.2))
theorem Q0S{r1:Room}{j2:Job}{t3:Int}{r:(List Int)×Bool}(H:JO r1 j2 t3=some r):Snd Tryz.prog M0q [Oe .rd r1,eJob j2,iV t3] (.tup [nV 1 (r.1.map eI),.bool r.2]) []:=by
 refine wS X0U [.t 6,.t 7] ?_
 unfold JO at H
 obtain⟨y4,h4,H⟩:=bB H
 refine wH [.c 18 (LP h4),.g 27 [((!y4.2),false)] (.call _ _ _ _ _ (AEs.refl _) (λ_=>YP j2.lic y4.1))] ?_
 refine M0 H ?_ ?_<;>intro H
 .refine wP ?_
  replace H:=sI H;subst H
  exact wN [(6,.n 1),(7,.d)] [] [] [] [] [⟨_,nw_I ([]:List Int)⟩]
 .obtain⟨y5,h5,y6,h6,H⟩:=bB2 H
  refine wH [.c 40 (Q0C h5),.c 45 (Q0T h6)] ?_
  replace H:=sI H;subst H
  exact wN [(6,.d),(7,.d)] [] [] [] [] [⟨_,nw_I y6.1⟩]
noncomputable def X0F:L :=
 lf Tryz.prog M0b [] [] [] [] [] [] []
def YE(r1:Room)(j2:Job)(x7:Int)(_:Nat)(_:Unit)(k7:Unit->Option (Int×(List Int)×Bool)):Option (Int×(List Int)×Bool) :=
 (JO r1 j2 x7).bind λy8=>bif y8.2 then(some (x7,y8.1,true))else(k7 ())
def ZE(_:Unit):Option (Int×(List Int)×Bool) :=
 some (0,[],false)
def Qg(r1:Room)(j2:Job)(from3:Int):Option (Int×(List Int)×Bool) :=
 (Jm r1).bind λb4=>bif ((!b4)||(!(X1 j2)))||(!(M3 from3))then(some (0,[],false))else((Wy r1 from3).bind λy5=>rgl (YE r1 j2) ZE y5 0 ())
theorem YL{r1:Room}{j2:Job}{from3:Int}{r:Int×(List Int)×Bool}(H:Qg r1 j2 from3=some r):Snd Tryz.prog M0b [Oe .rd r1,eJob j2,iV from3] (.tup [iV r.1,nV 1 (r.2.1.map eI),.bool r.2.2]) []:=by
 refine wS X0F [.t 6,.t 7,.t 8] ?_
 unfold Qg at H
 obtain⟨b4,h4,H⟩:=bB H
 refine wH [.c 14 (OG h4),.g 18 [((!b4),false)] (.call _ _ _ _ _ (AEs.refl _) (λ_=>XA j2)),.g 23 [(((!b4)||(!(X1 j2))),false)] (.call _ _ _ _ _ (AEs.refl _) (λ_=>W7 from3))] ?_
 refine M0 H ?_ ?_<;>intro H
 .refine wP ?_
  replace H:=sI H;subst H
  exact wN [(6,.d),(7,.n 1),(8,.d)] [] [] [] [] [⟨_,nw_I ([]:List Int)⟩]
 .obtain⟨y5,h5,H⟩:=bB H
  refine wG [.c 28 (U0B h5),.u 29 (.ln _ _ λ_=>lm y5 eI)] λq6=>?_
  refine wR (λ(i7:Nat) (v7:Unit)=>⟨[(3,.ptr 3 0),(4,.ptr 4 0),(28,nV 1 (y5.map eI)),(29,iV (y5.length:Int)),(30,iV (i7:Int))],[],[(3,(Oe .rd r1).cells),(4,(eJob j2).cells)],[]⟩) H (λi7 x7 v7 I m k7 hxv7 hiv7 H N29=>?_) (λv7 I m H=>?_)
  .unfold YE at H
   refine wP (wt (ltT hiv7) ?_)
   obtain⟨y8,h8,H⟩:=bB H
   refine wH [.u 32 (.ix _ _ _ λ_=>W0 eI (Y1 hxv7)),.c 38 (Q0S h8)] ?_
   refine M0 H ?_ ?_<;>intro H
   .refine wP ?_
    replace H:=sI H;subst H
    exact wN [(6,.d),(7,.d),(8,.d)] [] [] [] [] [⟨_,nw_I y8.1⟩]
   .exact wH [.w 44 (wi .i64 rfl hiv7 q6.1)] (wT (N29 () H))
  .unfold ZE at H
   refine wP (wf (ltF y5.length) ?_)
   refine wP ?_
   replace H:=sI H;subst H
   exact wN [(6,.d),(7,.n 1),(8,.d)] [] [] [] [] [⟨_,nw_I ([]:List Int)⟩]
noncomputable def M0N:L :=
 lf Tryz.prog Y0i [3] [] [] [] [] [] []
def Ww(p1:List Pt):Option (List Pt) :=
 (appL 32 ([]:List Pt) p1).bind λxs2=>some xs2
theorem W06{p1:List Pt}{r:(List Pt)}(H:Ww p1=some r):Snd Tryz.prog Y0i [.agg [rV 4 (p1.map ePt)]] (J1 .nw r) []:=by
 refine wS M0N [.c 2 1 true] ?_
 unfold Ww at H
 obtain⟨xs2,h2,H⟩:=bB H
 refine wH [.u 6 (.ap _ _ _ _ λ_=>L0 ePt h2)] ?_
 replace H:=sI H;subst H
 exact wN [(2,.d)] [(2,[.f])] [] [3] [] [⟨_,Wl xs2⟩]
noncomputable def Z0O:L :=
 lf Tryz.prog U0i [6] [(14,0),(18,0),(19,0),(23,0)] [] [] [(2,12),(6,5)] [(1,[],[8],[2,4,8,10,1,7,12,15],9)] []
def Ou(x7:List Pt)(_:Nat)(v7:(List (List Pt)))(k7:(List (List Pt))->Option Room):Option Room :=
 (Ww x7).bind λy8=>(appL 24 v7 [y8]).bind λxs9=>k7 xs9
def YK(xs2:List Bool)(y3:List Pt)(xs4:List Int)(xs5:List Node)(v7:(List (List Pt))):Option Room :=
 some (Room.mk (Topo.mk xs4 xs5) xs2 v7 y3)
def Mw(r1:Room):Option Room :=
 (appL 1 ([]:List Bool) r1.up).bind λxs2=>(Ww r1.lics).bind λy3=>(appL 8 ([]:List Int) r1.topo.parents).bind λxs4=>(appL 32 ([]:List Node) r1.topo.nodes).bind λxs5=>rgl Ou (YK xs2 y3 xs4 xs5) r1.profs 0 []
theorem L06{r1 r:Room}(H:Mw r1=some r):Snd Tryz.prog U0i [Oe .rd r1] (.agg [nV 1 (r.topo.parents.map eI),nV 4 (r.topo.nodes.map V1),.sref 0,.sref 1,nV 4 (r.lics.map ePt)]) [⟨1,r.up.map eBo,false⟩,⟨1,r.profs.map (J1 .nw),false⟩]:=by
 refine wS Z0O [.c 2 5 true] ?_
 unfold Mw at H
 obtain⟨xs2,h2,y3,h3,xs4,h4,H⟩:=bB3 H
 obtain⟨xs5,h5,H⟩:=bB H
 refine wG [.u 9 (.ap _ _ _ _ λ_=>L0 eBo h2),.c 12 (W06 h3),.u 18 (.ap _ _ _ _ λ_=>L0 eI h4),.u 23 (.ap _ _ _ _ λ_=>L0 V1 h5),.u 28 (.ln _ _ λ_=>lm r1.profs (J1 .rd))] λq6=>?_
 refine X05 (λ(i7:Nat) (v7:(List (List Pt)))=>⟨[(2,.ptr 2 0),(3,.ptr 3 0),(27,rV 1 (r1.profs.map (J1 .rd))),(28,iV (r1.profs.length:Int)),(29,iV (i7:Int))],[],[(2,[.nl,.nl,.nl,.nl,.nl]),(3,[nV 1 (xs4.map eI),nV 4 (xs5.map V1),.sref 6,.sref 386001,nV 4 (y3.map ePt)])],[(6,⟨1,xs2.map eBo,false⟩),(386001,⟨1,v7.map (J1 .nw),false⟩)]⟩) [] [(3,[.d,.d,.d,.z 386001,.d])] [(386001,(none,1))] [] (by kernel_rfl) (by kernel_rfl) H (λi7 x7 v7 I m k7 hxv7 hiv7 H N16=>?_) (λv7 I m H=>?_)
 .unfold Ou at H
  refine wP (wt (ltT hiv7) ?_)
  obtain⟨y8,h8,xs9,h9,H⟩:=bB2 H
  exact wH [.u 31 (.ix _ _ _ λ_=>W0 (J1 .rd) (Y1 hxv7)),.c 36 (W06 h8),.u 38 (.ap _ _ _ _ λ_=>L0 (J1 .nw) h9),.w 40 (wi .i64 rfl hiv7 q6.1)] (wT (N16 _ H))
 .unfold YK at H
  refine wP (wf (ltF r1.profs.length) ?_)
  refine wP ?_
  replace H:=sI H;subst H
  exact wN [(2,.d)] [(2,[])] [(6,some 6,0),(386001,some 386001,0)] [] [some 6,some 386001] [⟨_,nw_I xs4⟩,⟨_,L2 xs5⟩,⟨_,Wl y3⟩,⟨_,Mr xs2⟩,⟨_,Q9 v7⟩]
noncomputable def J0N:L :=
 lf Tryz.prog V0i [] [] [] [] [] [] []
def ZK(nodes3:List Int)(x7:Int)(i7:Nat)(_:Unit)(k7:Unit->Option Bool):Option Bool :=
 (cutL nodes3 none (some (i7:Int))).bind λxs8=>(J8 xs8 x7).bind λb9=>bif b9 then(some false)else(k7 ())
def Z04(_:Unit):Option Bool :=
 some true
def Ow(r1:Room)(j2:Job)(nodes3:List Int):Option Bool :=
 (Jm r1).bind λb4=>(bif ((!b4)||(!(X1 j2)))||((nodes3.length:Int)!=j2.nodes)then some default else(Zg r1.topo nodes3)).bind λb5=>bif (((!b4)||(!(X1 j2)))||((nodes3.length:Int)!=j2.nodes))||(!b5)then(some false)else(rgl (ZK nodes3) Z04 nodes3 0 ())
theorem O06{r1:Room}{j2:Job}{nodes3:List Int}{r:Bool}(H:Ow r1 j2 nodes3=some r):Snd Tryz.prog V0i [Oe .rd r1,eJob j2,rV 1 (nodes3.map eI)] (.bool r) []:=by
 refine wS J0N [.t 6] ?_
 unfold Ow at H
 obtain⟨b4,h4,b5,h5,H⟩:=bB2 H
 refine wH [.c 10 (OG h4),.g 14 [((!b4),false)] (.call _ _ _ _ _ (AEs.refl _) (λ_=>XA j2)),.g 19 [(((!b4)||(!(X1 j2))),false)] (.ln _ _ λ_=>lm nodes3 eI),.g 28 [(_,false)] (.call _ _ _ _ _ (AEs.refl _) (λq=>XK (bF q.1 h5)))] ?_
 refine M0 H ?_ ?_<;>intro H
 .obtain rfl:=sI H
  exact wP (wE [(6,.d)])
 .refine wG [.u 32 (.ln _ _ λ_=>lm nodes3 eI)] λq6=>?_
  refine wR (λ(i7:Nat) (v7:Unit)=>⟨[(2,rV 1 (nodes3.map eI)),(31,rV 1 (nodes3.map eI)),(32,iV (nodes3.length:Int)),(33,iV (i7:Int))],[],[],[]⟩) H (λi7 x7 v7 I m k7 hxv7 hiv7 H N27=>?_) (λv7 I m H=>?_)
  .unfold ZK at H
   refine wP (wt (ltT hiv7) ?_)
   obtain⟨xs8,h8,b9,h9,H⟩:=bB2 H
   refine wH [.u 36 (.ix _ _ _ λ_=>W0 eI (Y1 hxv7)),.u 40 (.sc _ _ _ _ λ_=>Y02 eI h8),.c 42 (Lb h9)] ?_
   refine M0 H ?_ ?_<;>intro H
   .obtain rfl:=sI H
    exact wP (wE [(6,.d)])
   .exact wH [.w 43 (wi .i64 rfl hiv7 q6.1)] (wT (N27 () H))
  .unfold Z04 at H
   refine wP (wf (ltF nodes3.length) ?_)
   obtain rfl:=sI H
   exact wP (wE [(6,.d)])
noncomputable def W0O:L :=
 lf Tryz.prog M0i [] [(29,1)] [] [] [] [(7,[],[16],[0,4,10,12,14,16,18,20,22,3,7,9,24,26,28,30],17)] []
def U04(j2:Job)(at3 x8:Int)(_:Nat)(v8:(List (List Pt)))(k8:(List (List Pt))->Option (Room×Bool)):Option (Room×Bool) :=
 (idx v8 x8).bind λe9=>(Q2 e9 at3 (w64 (at3+j2.wall)) j2.need).bind λy10=>bif !y10.2 then(some ((Room.mk (Topo.mk [] []) [] [] []),false))else(k8 (v8.set x8.toNat y10.1))
def V04(j2:Job)(at3:Int)(y6:Room)(v8:(List (List Pt))):Option (Room×Bool) :=
 (Q2 y6.lics at3 (w64 (at3+j2.wall)) j2.lic).bind λy11=>bif !y11.2 then(some ((Room.mk (Topo.mk [] []) [] [] []),false))else(some ((Room.mk y6.topo y6.up v8 y11.1),true))
def Zn(r1:Room)(j2:Job)(at3:Int)(nodes4:List Int):Option (Room×Bool) :=
 (Ow r1 j2 nodes4).bind λb5=>bif (!b5)||(!(M3 at3))then(some ((Room.mk (Topo.mk [] []) [] [] []),false))else((Mw r1).bind λy6=>rgl (U04 j2 at3) (V04 j2 at3 y6) nodes4 0 y6.profs)
theorem V07{r1:Room}{j2:Job}{at3:Int}{nodes4:List Int}{r:Room×Bool}(H:Zn r1 j2 at3 nodes4=some r):Snd Tryz.prog M0i [Oe .rd r1,eJob j2,iV at3,rV 1 (nodes4.map eI)] (.tup [Oe .nw r.1,.bool r.2]) []:=by
 refine wS W0O [.c 8 5 true,.t 9] ?_
 unfold Zn at H
 obtain⟨b5,h5,H⟩:=bB H
 refine wH [.c 20 (O06 h5),.g 24 [((!b5),false)] (.call _ _ _ _ _ (AEs.refl _) (λ_=>W7 at3))] ?_
 refine M0 H ?_ ?_<;>intro H
 .refine wP ?_
  replace H:=sI H;subst H
  exact wN [(8,.d),(9,.d)] [(8,[.n 1,.n 4,.n 1,.n 1,.n 4])] [] [] [] [⟨_,nw_I ([]:List Int)⟩,⟨_,L2 ([]:List Node)⟩,⟨_,Mr ([]:List Bool)⟩,⟨_,Q9 ([]:List (List Pt))⟩,⟨_,Wl ([]:List Pt)⟩]
 .obtain⟨y6,h6,H⟩:=bB H
  refine wG [.c 29 (L06 h6),.u 31 (.ln _ _ λ_=>lm nodes4 eI)] λq7=>?_
  refine wR (λ(i8:Nat) (v8:(List (List Pt)))=>⟨[(2,iV at3),(5,.ptr 5 0),(8,.ptr 8 0),(10,.ptr 10 0),(30,rV 1 (nodes4.map eI)),(31,iV (nodes4.length:Int)),(32,iV (i8:Int))],[],[(5,(eJob j2).cells),(8,[.nl,.nl,.nl,.nl,.nl]),(10,[nV 1 (y6.topo.parents.map eI),nV 4 (y6.topo.nodes.map V1),.sref 30000,.sref 30001,nV 4 (y6.lics.map ePt)])],[(30000,⟨1,y6.up.map eBo,false⟩),(30001,⟨1,v8.map (J1 .nw),false⟩)]⟩) H (λi8 x8 v8 I m k8 hxv8 hiv8 H N32=>?_) (λv8 I m H=>?_)
  .unfold U04 at H
   refine wP (wt (ltT hiv8) ?_)
   obtain⟨e9,h9,y10,h10,H⟩:=bB2 H
   refine wH [.u 34 (.ix _ _ _ λ_=>W0 eI (Y1 hxv8)),.u 40 (.ix _ _ _ λ_=>W0 (J1 .nw) h9),.u 41 (.el _ _ _ λ_=>gm (J1 .nw) (W4 h9)),.c 49 (Q04 h10)] ?_
   refine M0 H ?_ ?_<;>intro H
   .refine wP ?_
    replace H:=sI H;subst H
    exact wN [(8,.d),(9,.d)] [(8,[.n 1,.n 4,.n 1,.n 1,.n 4])] [] [] [] [⟨_,nw_I ([]:List Int)⟩,⟨_,L2 ([]:List Node)⟩,⟨_,Mr ([]:List Bool)⟩,⟨_,Q9 ([]:List (List Pt))⟩,⟨_,Wl ([]:List Pt)⟩]
   .exact wH [.u 59 (.ix _ _ _ λ_=>W0 (J1 .nw) h9),.u 1000000 (.sto _ _ _ (J1 .nw y10.1) _ (λ_=>gm (J1 .nw) (W4 h9)) (λ_=>VE ..)),.w 60 (wi .i64 rfl hiv8 q7.1)] (wT (N32 _ H))
  .unfold V04 at H
   refine wP (wf (ltF nodes4.length) ?_)
   obtain⟨y11,h11,H⟩:=bB H
   refine wH [.c 71 (Q04 h11)] ?_
   refine M0 H ?_ ?_<;>intro H
   .refine wP ?_
    replace H:=sI H;subst H
    exact wN [(8,.d),(9,.d)] [(8,[.n 1,.n 4,.n 1,.n 1,.n 4])] [] [] [] [⟨_,nw_I ([]:List Int)⟩,⟨_,L2 ([]:List Node)⟩,⟨_,Mr ([]:List Bool)⟩,⟨_,Q9 ([]:List (List Pt))⟩,⟨_,Wl ([]:List Pt)⟩]
   .refine wP ?_
    replace H:=sI H;subst H
    exact wN [(8,.d),(9,.d)] [(8,[.d,.d,.f,.f,.d])] [] [30000,30001] [] [⟨_,nw_I y6.topo.parents⟩,⟨_,L2 y6.topo.nodes⟩,⟨_,Mr y6.up⟩,⟨_,Q9 v8⟩,⟨_,Wl y11.1⟩]
noncomputable def Q0F:L :=
 lf Tryz.prog Y0c [] [] [] [] [(5,5)] [(1,[],[10],[0,2,4,6,8,12,14,11,16,19],11)] []
def Qq(x6:List Pt)(_:Nat)(v6:(List (List Pt)))(k6:(List (List Pt))->Option Room):Option Room :=
 (Wq x6).bind λy7=>(appL 24 v6 [y7]).bind λxs8=>k6 xs8
def JE(y2:Topo)(xs3:List Bool)(y4:List Pt)(v6:(List (List Pt))):Option Room :=
 some (Room.mk y2 xs3 v6 y4)
def QB(r1:Room):Option Room :=
 (Lg r1.topo).bind λy2=>(appL 1 ([]:List Bool) r1.up).bind λxs3=>(Wq r1.lics).bind λy4=>rgl Qq (JE y2 xs3 y4) r1.profs 0 []
theorem Q0G{r1 r:Room}(H:QB r1=some r):Snd Tryz.prog Y0c [Oe .rd r1] (.agg [nV 1 (r.topo.parents.map eI),nV 4 (r.topo.nodes.map V1),nV 1 (r.up.map eBo),.sref 0,nV 4 (r.lics.map ePt)]) [⟨1,r.profs.map (J1 .nw),false⟩]:=by
 refine wS Q0F [.c 2 5 true] ?_
 unfold QB at H
 obtain⟨y2,h2,xs3,h3,y4,h4,H⟩:=bB3 H
 refine wG [.c 8 (VL h2),.u 11 (.ap _ _ _ _ λ_=>L0 eBo h3),.c 14 (O04 h4),.u 18 (.ln _ _ λ_=>lm r1.profs (J1 .rd))] λq5=>?_
 refine X05 (λ(i6:Nat) (v6:(List (List Pt)))=>⟨[(2,.ptr 2 0),(3,.ptr 3 0),(17,rV 1 (r1.profs.map (J1 .rd))),(18,iV (r1.profs.length:Int)),(19,iV (i6:Int))],[],[(2,[.nl,.nl,.nl,.nl,.nl]),(3,[nV 1 (y2.parents.map eI),nV 4 (y2.nodes.map V1),.sref 11,.sref 386001,nV 4 (y4.map ePt)])],[(11,⟨1,xs3.map eBo,false⟩),(386001,⟨1,v6.map (J1 .nw),false⟩)]⟩) [] [(3,[.d,.d,.d,.z 386001,.d])] [(386001,(none,1))] [] (by kernel_rfl) (by kernel_rfl) H (λi6 x6 v6 I m k6 hxv6 hiv6 H N15=>?_) (λv6 I m H=>?_)
 .unfold Qq at H
  refine wP (wt (ltT hiv6) ?_)
  obtain⟨y7,h7,xs8,h8,H⟩:=bB2 H
  exact wH [.u 21 (.ix _ _ _ λ_=>W0 (J1 .rd) (Y1 hxv6)),.c 26 (O04 h7),.u 28 (.ap _ _ _ _ λ_=>L0 (J1 .nw) h8),.w 30 (wi .i64 rfl hiv6 q5.1)] (wT (N15 _ H))
 .unfold JE at H
  refine wP (wf (ltF r1.profs.length) ?_)
  refine wP ?_
  replace H:=sI H;subst H
  exact wN [(2,.d)] [(2,[.d,.d,.f,.d,.d])] [(386001,some 386001,0)] [11] [some 386001] [⟨_,nw_I y2.parents⟩,⟨_,L2 y2.nodes⟩,⟨_,Mr xs3⟩,⟨_,Wl y4⟩,⟨_,Q9 v6⟩]
noncomputable def Z18:L :=
 lf Tryz.prog O0c [] [] [] [] [] [] []
def QU(j1:Job):Option Bool :=
 some (((((((U0 j1.id 1 999)&&(U0 j1.prio 0 999))&&(U0 j1.nodes 1 24))&&(Q1 j1.need))&&(Q1 j1.lic))&&(U0 j1.wall 1 1000000))&&(U0 j1.level 0 24))
theorem W0Q{j1:Job}{r:Bool}(H:QU j1=some r):Snd Tryz.prog O0c [eJob j1] (.bool r) []:=by
 refine wS Z18 [.t 2] ?_
 unfold QU at H
 refine wH [.c 5 (Y2 j1.id 1 999),.g 9 [((U0 j1.id 1 999),true)] (.call _ _ _ _ _ (AEs.refl _) (λ_=>Y2 j1.prio 0 999)),.g 14 [(((U0 j1.id 1 999)&&(U0 j1.prio 0 999)),true)] (.call _ _ _ _ _ (AEs.refl _) (λ_=>Y2 j1.nodes 1 24)),.g 19 [((((U0 j1.id 1 999)&&(U0 j1.prio 0 999))&&(U0 j1.nodes 1 24)),true)] (.call _ _ _ _ _ (AEs.refl _) (λ_=>W6 j1.need)),.g 24 [(((((U0 j1.id 1 999)&&(U0 j1.prio 0 999))&&(U0 j1.nodes 1 24))&&(Q1 j1.need)),true)] (.call _ _ _ _ _ (AEs.refl _) (λ_=>W6 j1.lic)),.g 29 [((((((U0 j1.id 1 999)&&(U0 j1.prio 0 999))&&(U0 j1.nodes 1 24))&&(Q1 j1.need))&&(Q1 j1.lic)),true)] (.call _ _ _ _ _ (AEs.refl _) (λ_=>Y2 j1.wall 1 1000000)),.g 34 [(((((((U0 j1.id 1 999)&&(U0 j1.prio 0 999))&&(U0 j1.nodes 1 24))&&(Q1 j1.need))&&(Q1 j1.lic))&&(U0 j1.wall 1 1000000)),true)] (.call _ _ _ _ _ (AEs.refl _) (λ_=>Y2 j1.level 0 24))] ?_
 replace H:=sI H;subst H
 exact wE [(2,.d)]
def U6(j1:Job):Bool :=
 (((((((U0 j1.id 1 999)&&(U0 j1.prio 0 999))&&(U0 j1.nodes 1 24))&&(Q1 j1.need))&&(Q1 j1.lic))&&(U0 j1.wall 1 1000000))&&(U0 j1.level 0 24))
theorem Z1f(j1:Job):QU j1=some (U6 j1):=by
 unfold QU U6
 first|rfl|simp only[O5]
theorem ZC(j1:Job):Snd Tryz.prog O0c [eJob j1] (.bool (U6 j1)) []:=W0Q (Z1f j1)
noncomputable def M0W:L :=
 lf Tryz.prog V0s [] [] [] [] [] [] []
def MR(x4:List Pt)(_:Nat)(_:Unit)(k4:Unit->Option Bool):Option Bool :=
 (Yw x4).bind λb5=>bif !b5 then(some false)else(k4 ())
def OR(r1:Room)(_:Unit):Option Bool :=
 (Yw r1.lics).bind λb6=>some b6
def UF(r1:Room):Option Bool :=
 (Wo r1.topo).bind λb2=>bif ((!b2)||((r1.up.length:Int)!=(r1.topo.nodes.length:Int)))||((r1.profs.length:Int)!=(r1.topo.nodes.length:Int))then(some false)else(rgl MR (OR r1) r1.profs 0 ())
theorem L0g{r1:Room}{r:Bool}(H:UF r1=some r):Snd Tryz.prog V0s [Oe .rd r1] (.bool r) []:=by
 refine wS M0W [.t 2] ?_
 unfold UF at H
 obtain⟨b2,h2,H⟩:=bB H
 refine wH [.c 7 (WW h2),.g 12 [((!b2),false)] (.ln _ _ λ_=>lm r1.up eBo),.g 16 [((!b2),false)] (.ln _ _ λ_=>lm r1.topo.nodes V1),.g 22 [(((!b2)||((r1.up.length:Int)!=(r1.topo.nodes.length:Int))),false)] (.ln _ _ λ_=>lm r1.profs (J1 .rd)),.g 26 [(((!b2)||((r1.up.length:Int)!=(r1.topo.nodes.length:Int))),false)] (.ln _ _ λ_=>lm r1.topo.nodes V1)] ?_
 refine M0 H ?_ ?_<;>intro H
 .obtain rfl:=sI H
  exact wP (wE [(2,.d)])
 .refine wG [.u 31 (.ln _ _ λ_=>lm r1.profs (J1 .rd))] λq3=>?_
  refine wR (λ(i4:Nat) (v4:Unit)=>⟨[(1,.ptr 1 0),(30,rV 1 (r1.profs.map (J1 .rd))),(31,iV (r1.profs.length:Int)),(32,iV (i4:Int))],[],[(1,(Oe .rd r1).cells)],[]⟩) H (λi4 x4 v4 I m k4 hxv4 hiv4 H N27=>?_) (λv4 I m H=>?_)
  .unfold MR at H
   refine wP (wt (ltT hiv4) ?_)
   obtain⟨b5,h5,H⟩:=bB H
   refine wH [.u 34 (.ix _ _ _ λ_=>W0 (J1 .rd) (Y1 hxv4)),.c 37 (MW h5)] ?_
   refine M0 H ?_ ?_<;>intro H
   .obtain rfl:=sI H
    exact wP (wE [(2,.d)])
   .exact wH [.w 39 (wi .i64 rfl hiv4 q3.1)] (wT (N27 () H))
  .unfold OR at H
   refine wP (wf (ltF r1.profs.length) ?_)
   obtain⟨b6,h6,H⟩:=bB H
   refine wH [.c 42 (MW h6)] ?_
   replace H:=sI H;subst H
   exact wE [(2,.d)]
noncomputable def V0F:L :=
 lf Tryz.prog J0b [12] [] [] [] [(5,13)] [] []
def ME(r1:Room)(need2:Vec)(from3 to4:Int)(x6:List Pt)(i6:Nat)(v6:List Int)(k6:List Int->Option (List Int)):Option (List Int) :=
 (idx r1.up (i6:Int)).bind λe7=>(bif e7 then(Zj x6 from3 to4)else some default).bind λy8=>bif e7&&(Vx need2 y8)then((appL 8 v6 [(i6:Int)]).bind λxs9=>k6 xs9)else(k6 v6)
def JY(v6:List Int):Option (List Int) :=
 some v6
def VB(r1:Room)(need2:Vec)(from3 to4:Int):Option (List Int) :=
 rgl (ME r1 need2 from3 to4) JY r1.profs 0 []
theorem V0G{r1:Room}{need2:Vec}{from3 to4:Int}{r:(List Int)}(H:VB r1 need2 from3 to4=some r):Snd Tryz.prog J0b [Oe .rd r1,eVec need2,iV from3,iV to4] (nV 1 (r.map eI)) []:=by
 refine wS V0F [.t 8] ?_
 unfold VB at H
 refine wG [.u 15 (.ln _ _ λ_=>lm r1.profs (J1 .rd))] λq5=>?_
 refine wR (λ(i6:Nat) (v6:List Int)=>⟨[(2,iV from3),(3,iV to4),(4,.ptr 4 0),(5,.ptr 5 0),(9,.sref 12),(14,rV 1 (r1.profs.map (J1 .rd))),(15,iV (r1.profs.length:Int)),(16,iV (i6:Int))],[],[(4,(Oe .rd r1).cells),(5,(eVec need2).cells)],[(12,⟨1,v6.map eI,false⟩)]⟩) H (λi6 x6 v6 I m k6 hxv6 hiv6 H N19=>?_) (λv6 I m H=>?_)
 .unfold ME at H
  refine wP (wt (ltT hiv6) ?_)
  obtain⟨e7,h7,y8,h8,H⟩:=bB2 H
  refine wH [.u 19 (.ix _ _ _ λ_=>W0 (J1 .rd) (Y1 hxv6)),.u 24 (.ix _ _ _ λ_=>W0 eBo h7),.g 31 [(_,true)] (.call _ _ _ _ _ (AEs.refl _) (λq=>XU (bT q.1 h8))),.g 32 [(e7,true)] (.call _ _ _ _ _ (AEs.refl _) (λ_=>Y09 need2 y8))] ?_
  refine M0 H ?_ ?_<;>intro H
  .obtain⟨xs9,h9,H⟩:=bB H
   exact wH [.u 37 (.ap _ _ _ _ λ_=>L0 eI h9),.w 38 (wi .i64 rfl hiv6 q5.1)] (wT (N19 _ H))
  .exact wH [.w 38 (wi .i64 rfl hiv6 q5.1)] (wT (N19 _ H))
 .unfold JY at H
  refine wP (wf (ltF r1.profs.length) ?_)
  refine wP ?_
  replace H:=sI H;subst H
  exact wN [(8,.f)] [] [] [12] [] [⟨_,nw_I v6⟩]
noncomputable def U17:L :=
 lf Tryz.prog V0A [10] [] [] [] [(5,10)] [] []
def YW(t1:Topo)(s3 x5:Int)(_:Nat)(v5:List Int)(k5:List Int->Option (List Int)):Option (List Int) :=
 (idx t1.nodes x5).bind λe6=>(YZ t1 e6.leaf).bind λy7=>(X3 y7 s3).bind λb8=>bif b8 then((appL 8 v5 [x5]).bind λxs9=>k5 xs9)else(k5 v5)
def Q0g(v5:List Int):Option (List Int) :=
 some v5
def QE(t1:Topo)(nodes2:List Int)(s3:Int):Option (List Int) :=
 rgl (YW t1 s3) Q0g nodes2 0 []
theorem Y0p{t1:Topo}{nodes2:List Int}{s3:Int}{r:(List Int)}(H:QE t1 nodes2 s3=some r):Snd Tryz.prog V0A [M4 .rd t1,rV 1 (nodes2.map eI),iV s3] (nV 1 (r.map eI)) []:=by
 refine wS U17 [.t 6] ?_
 unfold QE at H
 refine wG [.u 12 (.ln _ _ λ_=>lm nodes2 eI)] λq4=>?_
 refine wR (λ(i5:Nat) (v5:List Int)=>⟨[(2,iV s3),(3,.ptr 3 0),(7,.sref 10),(11,rV 1 (nodes2.map eI)),(12,iV (nodes2.length:Int)),(13,iV (i5:Int))],[],[(3,(M4 .rd t1).cells)],[(10,⟨1,v5.map eI,false⟩)]⟩) H (λi5 x5 v5 I m k5 hxv5 hiv5 H N19=>?_) (λv5 I m H=>?_)
 .unfold YW at H
  refine wP (wt (ltT hiv5) ?_)
  obtain⟨e6,h6,y7,h7,b8,h8,H⟩:=bB3 H
  refine wH [.u 15 (.ix _ _ _ λ_=>W0 eI (Y1 hxv5)),.u 21 (.ix _ _ _ λ_=>W0 V1 h6),.c 24 (V0p h7),.c 26 (M5 h8)] ?_
  refine M0 H ?_ ?_<;>intro H
  .obtain⟨xs9,h9,H⟩:=bB H
   exact wH [.u 30 (.ap _ _ _ _ λ_=>L0 eI h9),.w 31 (wi .i64 rfl hiv5 q4.1)] (wT (N19 _ H))
  .exact wH [.w 31 (wi .i64 rfl hiv5 q4.1)] (wT (N19 _ H))
 .unfold Q0g at H
  refine wP (wf (ltF nodes2.length) ?_)
  refine wP ?_
  replace H:=sI H;subst H
  exact wN [(6,.f)] [] [] [10] [] [⟨_,nw_I v5⟩]
noncomputable def U0W:L :=
 lf Tryz.prog Y0s [79,110] [(109,2),(144,2)] [] [] [] [] [1022]
def Uo(t1:Topo)(n3 x20 x22:Int)(_:Nat)(v22:List Int)(k22:List Int->Option ((List Int)×Bool)):Option ((List Int)×Bool) :=
 (idx t1.nodes x22).bind λe23=>bif (e23.leaf==x20)&&decide ((v22.length:Int)<n3)then((appL 8 v22 [x22]).bind λxs24=>k22 xs24)else(k22 v22)
def XR(k20:List Int->Option ((List Int)×Bool))(v22:List Int):Option ((List Int)×Bool) :=
 k20 v22
def WL(t1:Topo)(n3:Int)(y10:List Int)(x20:Int)(_:Nat)(v20:List Int)(k20:List Int->Option ((List Int)×Bool)):Option ((List Int)×Bool) :=
 rgl (Uo t1 n3 x20) (XR k20) y10 0 v20
def QL(v20:List Int):Option ((List Int)×Bool) :=
 (L13 v20).bind λxs25=>some (xs25,true)
def UR(t1:Topo)(x13:Int)(_:Nat)(v13:(List Int)×(List Int))(k13:((List Int)×(List Int))->Option ((List Int)×Bool)):Option ((List Int)×Bool) :=
 (idx t1.nodes x13).bind λe14=>(idx v13.1 e14.leaf).bind λe15=>(X3 v13.2 e14.leaf).bind λb16=>bif !b16 then((appL 8 v13.2 [e14.leaf]).bind λxs17=>k13 ((v13.1.set e14.leaf.toNat (w64 (e15+1))),xs17))else(k13 ((v13.1.set e14.leaf.toNat (w64 (e15+1))),v13.2))
def VR(t1:Topo)(n3:Int)(y10:List Int)(v13:(List Int)×(List Int)):Option ((List Int)×Bool) :=
 (J0c v13.1 v13.2).bind λxs18=>rgl (WL t1 n3 y10) QL xs18 0 []
def QR(t1:Topo)(nodes2:List Int)(n3 most4 _:Int)(i6:Nat)(v6:Int×Int×Int)(k6:(Int×Int×Int)->Option ((List Int)×Bool)):Option ((List Int)×Bool) :=
 (Yx t1 (i6:Int)).bind λn7=>bif decide (most4<n7)then(k6 (v6.1,v6.2.1,v6.2.2))else((QE t1 nodes2 (i6:Int)).bind λy8=>bif decide (n3<=(y8.length:Int))&&((decide (v6.1<0)||decide (n7<v6.2.1))||((n7==v6.2.1)&&decide ((y8.length:Int)<v6.2.2)))then(k6 ((i6:Int),n7,(y8.length:Int)))else(k6 (v6.1,v6.2.1,v6.2.2)))
def L9(t1:Topo)(nodes2:List Int)(n3:Int)(v6:Int×Int×Int):Option ((List Int)×Bool) :=
 bif decide (v6.1<0)then(some ([],false))else((QE t1 nodes2 v6.1).bind λy10=>(mkL 8 (t1.parents.length:Int) 0).bind λxs11=>rgl (UR t1) (VR t1 n3 y10) y10 0 (xs11,[]))
def ZF(t1:Topo)(nodes2:List Int)(n3 most4:Int):Option ((List Int)×Bool) :=
 rgl (QR t1 nodes2 n3 most4) (L9 t1 nodes2 n3) t1.parents 0 ((-1),0,0)
theorem Q0X{t1:Topo}{nodes2:List Int}{n3 most4:Int}{r:(List Int)×Bool}(H:ZF t1 nodes2 n3 most4=some r):Snd Tryz.prog Y0s [M4 .rd t1,rV 1 (nodes2.map eI),iV n3,iV most4] (.tup [nV 1 (r.1.map eI),.bool r.2]) []:=by
 refine wS U0W [.t 8,.t 9] ?_
 unfold ZF at H
 refine wG [.u 28 (.ln _ _ λ_=>lm t1.parents eI)] λq5=>?_
 refine wR (λ(i6:Nat) (v6:Int×Int×Int)=>⟨[(1,rV 1 (nodes2.map eI)),(2,iV n3),(3,iV most4),(4,.ptr 4 0),(10,iV v6.1),(11,iV v6.2.1),(12,iV v6.2.2),(28,iV (t1.parents.length:Int)),(29,iV (i6:Int))],[],[(4,(M4 .rd t1).cells)],[]⟩) H (λi6 x6 v6 I m k6 hxv6 hiv6 H N29=>?_) (λv6 I m H=>?_)
 .unfold QR at H
  refine wP (wt (ltT hiv6) ?_)
  obtain⟨n7,h7,H⟩:=bB H
  refine wH [.c 34 (UN h7)] ?_
  refine M0 H ?_ ?_<;>intro H
  .exact wH [.w 68 (wi .i64 rfl hiv6 q5.1)] (wT (N29 _ H))
  .obtain⟨y8,h8,H⟩:=bB H
   refine wG [.c 41 (Y0p h8),.u 42 (.ln _ _ λ_=>lm y8 eI)] λq9=>?_
   refine M0 H ?_ ?_<;>intro H
   .exact wH [.w 68 (wi .i64 rfl hiv6 q5.1)] (wT (N29 _ H))
   .exact wH [.w 68 (wi .i64 rfl hiv6 q5.1)] (wT (N29 _ H))
 .unfold L9 at H
  refine wP (wf (ltF t1.parents.length) ?_)
  refine wP ?_
  refine M0 H ?_ ?_<;>intro H
  .refine wP ?_
   replace H:=sI H;subst H
   exact wN [(8,.n 1),(9,.d)] [] [] [] [] [⟨_,nw_I ([]:List Int)⟩]
  .obtain⟨y10,h10,xs11,h11,H⟩:=bB2 H
   refine wG [.c 74 (Y0p h10),.u 77 (.ln _ _ λ_=>lm t1.parents eI),.u 78 (.ms _ _ _ _ λ_=>O1S eI h11),.u 81 (.ln _ _ λ_=>lm y10 eI)] λq12=>?_
   refine wR (λ(i13:Nat) (v13:(List Int)×(List Int))=>⟨[(1,nV 1 (y10.map eI)),(2,iV n3),(4,.ptr 4 0),(16,.ptr 16 0),(17,.sref 79),(80,nV 1 (y10.map eI)),(81,iV (y10.length:Int)),(82,iV (i13:Int))],[],[(4,(M4 .rd t1).cells),(16,[.sref 78])],[(78,⟨1,v13.1.map eI,false⟩),(79,⟨1,v13.2.map eI,false⟩)]⟩) H (λi13 x13 v13 I m k13 hxv13 hiv13 H N63=>?_) (λv13 I m H=>?_)
   .unfold UR at H
    refine wP (wt (ltT hiv13) ?_)
    obtain⟨e14,h14,e15,h15,b16,h16,H⟩:=bB3 H
    refine wH [.u 84 (.ix _ _ _ λ_=>W0 eI (Y1 hxv13)),.u 89 (.ix _ _ _ λ_=>W0 V1 h14),.u 94 (.ix _ _ _ λ_=>W0 eI h15),.u 95 (.el _ _ _ λ_=>gm eI (W4 h15)),.u 97 (.ix _ _ _ λ_=>W0 eI h15),.u 1000000 (.sto _ _ _ (eI (w64 (e15+1))) _ (λ_=>gm eI (W4 h15)) (λ_=>VE ..)),.c 100 (M5 h16)] ?_
    refine M0 H ?_ ?_<;>intro H
    .obtain⟨xs17,h17,H⟩:=bB H
     exact wH [.u 105 (.ap _ _ _ _ λ_=>L0 eI h17),.w 106 (wi .i64 rfl hiv13 q12.2.1)] (wT (N63 _ H))
    .exact wH [.w 106 (wi .i64 rfl hiv13 q12.2.1)] (wT (N63 _ H))
   .unfold VR at H
    refine wP (wf (ltF y10.length) ?_)
    refine wP ?_
    refine M1U [] [(16,[.f])] [78] (by kernel_rfl) ?_
    obtain⟨xs18,h18,H⟩:=bB H
    refine wG [.u 109 (.cr Mt 1 _ [.fn U0c [.ept (.agg [nV 1 (v13.1.map eI)]) 0]] _ false _ (λ_=>Y0e v13.2) (λ_=>by simp) (λ_=>by simp) (λ_=>J13 h18)),.u 112 (.ln _ _ λ_=>lm xs18 eI)] λq19=>?_
    refine wR (λ(i20:Nat) (v20:List Int)=>⟨[(1,nV 1 (y10.map eI)),(2,iV n3),(4,.ptr 4 0),(21,.sref 110),(111,.sref 79),(112,iV (xs18.length:Int)),(113,iV (i20:Int))],[],[(4,(M4 .rd t1).cells)],[(110,⟨1,v20.map eI,false⟩),(79,⟨1,xs18.map eI,false⟩)]⟩) H (λi20 x20 v20 I m k20 hxv20 hiv20 H N100=>?_) (λv20 I m H=>?_)
    .unfold WL at H
     refine wP (wt (ltT hiv20) ?_)
     refine wG [.u 115 (.ix _ _ _ λ_=>W0 eI (Y1 hxv20)),.u 116 (.el _ _ _ λ_=>gm eI (W4 (Y1 hxv20))),.u 118 (.ln _ _ λ_=>lm y10 eI)] λq21=>?_
     refine wR (λ(i22:Nat) (v22:List Int)=>⟨[(1,nV 1 (y10.map eI)),(2,iV n3),(4,.ptr 4 0),(21,.sref 110),(23,iV x20),(111,.sref 79),(112,iV (xs18.length:Int)),(113,iV (i20:Int)),(117,nV 1 (y10.map eI)),(118,iV (y10.length:Int)),(119,iV (i22:Int))],[],[(4,(M4 .rd t1).cells)],[(110,⟨1,v22.map eI,false⟩),(79,⟨1,xs18.map eI,false⟩)]⟩) H (λi22 x22 v22 I m k22 hxv22 hiv22 H N91=>?_) (λv22 I m H=>?_)
     .unfold Uo at H
      refine wP (wt (ltT hiv22) ?_)
      obtain⟨e23,h23,H⟩:=bB H
      refine wH [.u 121 (.ix _ _ _ λ_=>W0 eI (Y1 hxv22)),.u 126 (.ix _ _ _ λ_=>W0 V1 h23),.g 133 [((e23.leaf==x20),true)] (.ln _ _ λ_=>lm v22 eI)] ?_
      refine M0 H ?_ ?_<;>intro H
      .obtain⟨xs24,h24,H⟩:=bB H
       exact wH [.u 140 (.ap _ _ _ _ λ_=>L0 eI h24),.w 141 (wi .i64 rfl hiv22 q12.2.1)] (wT (N91 _ H))
      .exact wH [.w 141 (wi .i64 rfl hiv22 q12.2.1)] (wT (N91 _ H))
     .unfold XR at H
      refine wP (wf (ltF y10.length) ?_)
      exact wH [.w 142 (wi .i64 rfl hiv20 q19.1)] (wT (N100 _ H))
    .unfold QL at H
     refine wP (wf (ltF xs18.length) ?_)
     obtain⟨xs25,h25,H⟩:=bB H
     refine wH [.u 144 (.cr Jg 1 _ [] [] false _ (λ_=>Y0e v20) (λ_=>trivial) (λ_=>rfl) (λ_=>M13 h25))] ?_
     replace H:=sI H;subst H
     exact wN [(8,.f),(9,.d)] [] [] [110] [] [⟨_,nw_I xs25⟩]
noncomputable def Z0f:L :=
 lf Tryz.prog QS [] [] [] [] [(4,10)] [] []
def Za(l1:List Int)(v2:Int)(k2:Int->Option Bool):Option Bool :=
 bif decide (v2<(l1.length:Int))then((idx l1 (w64 (v2-1))).bind λe4=>(idx l1 v2).bind λe5=>bif decide (e5<=e4)then(some false)else(k2 (w64 (v2+1))))else(some true)
def Ji(l1:List Int):Option Bool :=
 whl (Za l1) 9223372036854775807 1
theorem Y0f{l1:List Int}{r:Bool}(H:Ji l1=some r):Snd Tryz.prog QS [rV 1 (l1.map eI)] (.bool r) []:=by
 refine wS Z0f [.t 2] ?_
 unfold Ji at H
 refine wP ?_
 refine wW (λ(v2:Int)=>⟨[(0,rV 1 (l1.map eI)),(3,iV v2)],[],[],[]⟩) H (λv2 I m k2 H N18=>?_)
 unfold Za at H
 refine wG [.u 6 (.ln _ _ λ_=>lm l1 eI)] λq3=>?_
 refine M0 H ?_ ?_<;>intro H
 .obtain⟨e4,h4,e5,h5,H⟩:=bB2 H
  refine wH [.u 13 (.ix _ _ _ λ_=>W0 eI h4),.u 17 (.ix _ _ _ λ_=>W0 eI h5)] ?_
  refine M0 H ?_ ?_<;>intro H
  .obtain rfl:=sI H
   exact wP (wE [(2,.d)])
  .refine wP ?_
   exact wT (N18 _ H)
 .obtain rfl:=sI H
  exact wP (wE [(2,.d)])
noncomputable def J0F:L :=
 lf Tryz.prog M0c [32,35] [(63,2),(65,2)] [] [] [(19,12),(20,21)] [] [127]
def MF(from3:Int)(x9:Pt)(_:Nat)(v9:List Int)(k9:List Int->Option (Int×(List Int)×Bool)):Option (Int×(List Int)×Bool) :=
 bif decide (from3<x9.t)then((appL 8 v9 [x9.t]).bind λxs10=>k9 xs10)else(k9 v9)
def OF(k7:List Int->Option (Int×(List Int)×Bool))(v9:List Int):Option (Int×(List Int)×Bool) :=
 k7 v9
def Xr(_:Unit):Option (Int×(List Int)×Bool) :=
 some (0,[],false)
def Jd(r1:Room)(j2:Job)(x13:Int)(_:Nat)(_:Unit)(k13:Unit->Option (Int×(List Int)×Bool)):Option (Int×(List Int)×Bool) :=
 bif decide (1000000000<(w64 (x13+j2.wall)))then(Xr ())else((Zj r1.lics x13 (w64 (x13+j2.wall))).bind λy14=>bif !(Vx j2.lic y14)then(k13 ())else((VB r1 j2.need x13 (w64 (x13+j2.wall))).bind λy15=>(ZF r1.topo y15 j2.nodes j2.level).bind λy16=>bif y16.2 then(some (x13,y16.1,true))else(k13 ())))
def Xj(_:Unit):Option (Int×(List Int)×Bool) :=
 Xr ()
def Vr(from3:Int)(x7:List Pt)(_:Nat)(v7:List Int)(k7:List Int->Option (Int×(List Int)×Bool)):Option (Int×(List Int)×Bool) :=
 rgl (MF from3) (OF k7) x7 0 v7
def Yr(r1:Room)(j2:Job)(v7:List Int):Option (Int×(List Int)×Bool) :=
 (L13 v7).bind λxs11=>rgl (Jd r1 j2) Xj (O6 xs11) 0 ()
def Ur(r1:Room)(j2:Job)(from3:Int):Option (Int×(List Int)×Bool) :=
 (UF r1).bind λb4=>bif ((!b4)||(!(U6 j2)))||(!(J6 from3))then(some (0,[],false))else((appL 24 [r1.lics] r1.profs).bind λxs5=>rgl (Vr from3) (Yr r1 j2) xs5 0 [from3])
theorem Z0H{r1:Room}{j2:Job}{from3:Int}{r:Int×(List Int)×Bool}(H:Ur r1 j2 from3=some r):Snd Tryz.prog M0c [Oe .rd r1,eJob j2,iV from3] (.tup [iV r.1,nV 1 (r.2.1.map eI),.bool r.2.2]) []:=by
 refine wS J0F [.t 6,.t 7,.t 8] ?_
 unfold Ur at H
 obtain⟨b4,h4,H⟩:=bB H
 refine wH [.c 19 (L0g h4),.g 23 [((!b4),false)] (.call _ _ _ _ _ (AEs.refl _) (λ_=>ZC j2)),.g 28 [(((!b4)||(!(U6 j2))),false)] (.call _ _ _ _ _ (AEs.refl _) (λ_=>Ls from3))] ?_
 refine M0 H ?_ ?_<;>intro H
 .refine wP ?_
  replace H:=sI H;subst H
  exact wN [(6,.d),(7,.n 1),(8,.d)] [] [] [] [] [⟨_,nw_I ([]:List Int)⟩]
 .obtain⟨xs5,h5,H⟩:=bB H
  refine wG [.u 38 (.ap _ _ _ _ λ_=>L0 (J1 .rd) h5),.u 39 (.ln _ _ λ_=>lm xs5 (J1 .rd))] λq6=>?_
  refine wR (λ(i7:Nat) (v7:List Int)=>⟨[(2,iV from3),(3,.ptr 3 0),(4,.ptr 4 0),(9,.sref 32),(38,.sref 35),(39,iV (xs5.length:Int)),(40,iV (i7:Int))],[],[(3,(Oe .rd r1).cells),(4,(eJob j2).cells)],[(32,⟨1,v7.map eI,false⟩),(35,⟨1,xs5.map (J1 .rd),false⟩)]⟩) H (λi7 x7 v7 I m k7 hxv7 hiv7 H N41=>?_) (λv7 I m H=>?_)
  .unfold Vr at H
   refine wP (wt (ltT hiv7) ?_)
   refine wG [.u 42 (.ix _ _ _ λ_=>W0 (J1 .rd) (Y1 hxv7)),.u 43 (.el _ _ _ λ_=>gm (J1 .rd) (W4 (Y1 hxv7))),.u 46 (.ln _ _ λ_=>lm x7 ePt)] λq8=>?_
   refine wR (λ(i9:Nat) (v9:List Int)=>⟨[(2,iV from3),(3,.ptr 3 0),(4,.ptr 4 0),(9,.sref 32),(38,.sref 35),(39,iV (xs5.length:Int)),(40,iV (i7:Int)),(45,rV 4 (x7.map ePt)),(46,iV (x7.length:Int)),(47,iV (i9:Int))],[],[(3,(Oe .rd r1).cells),(4,(eJob j2).cells)],[(32,⟨1,v9.map eI,false⟩),(35,⟨1,xs5.map (J1 .rd),false⟩)]⟩) H (λi9 x9 v9 I m k9 hxv9 hiv9 H N32=>?_) (λv9 I m H=>?_)
   .unfold MF at H
    refine wP (wt (ltT hiv9) ?_)
    refine wH [.u 49 (.ix _ _ _ λ_=>W0 ePt (Y1 hxv9))] ?_
    refine M0 H ?_ ?_<;>intro H
    .obtain⟨xs10,h10,H⟩:=bB H
     exact wH [.u 59 (.ap _ _ _ _ λ_=>L0 eI h10),.w 60 (wi .i64 rfl hiv9 q8.1)] (wT (N32 _ H))
    .exact wH [.w 60 (wi .i64 rfl hiv9 q8.1)] (wT (N32 _ H))
   .unfold OF at H
    refine wP (wf (ltF x7.length) ?_)
    exact wH [.w 61 (wi .i64 rfl hiv7 q6.1)] (wT (N41 _ H))
  .unfold Yr at H
   refine wP (wf (ltF xs5.length) ?_)
   obtain⟨xs11,h11,H⟩:=bB H
   refine wG [.u 63 (.cr Jg 1 _ [] [] false _ (λ_=>Y0e v7) (λ_=>trivial) (λ_=>rfl) (λ_=>M13 h11)),.u 65 (.cr Uj 1 _ [] [] true _ (λ_=>Y0e xs11) (λ_=>trivial) (λ_=>rfl) (λ_=>O0R xs11)),.u 66 (.ln _ _ λ_=>lm (O6 xs11) eI)] λq12=>?_
   refine J3 (r:=r) Xr 0 (λv17:Unit=>⟨[],[],[],[]⟩) (by kernel_rfl) (λv17 H=>?_) (λJ83=>?_)
   .unfold Xr at H
    refine wP ?_
    replace H:=sI H;subst H
    exact wN [(6,.d),(7,.n 1),(8,.d)] [] [] [] [] [⟨_,nw_I ([]:List Int)⟩]
   .refine wR (λ(i13:Nat) (v13:Unit)=>⟨[(3,.ptr 3 0),(4,.ptr 4 0),(65,.sref 66000),(66,iV ((O6 xs11).length:Int)),(67,iV (i13:Int))],[],[(3,(Oe .rd r1).cells),(4,(eJob j2).cells)],[(66000,⟨1,(O6 xs11).map eI,false⟩)]⟩) H (λi13 x13 v13 I m k13 hxv13 hiv13 H N78=>?_) (λv13 I m H=>?_)
    .unfold Jd at H
     refine wP (wt (ltT hiv13) ?_)
     refine wH [.u 69 (.ix _ _ _ λ_=>W0 eI (Y1 hxv13)),.u 70 (.el _ _ _ λ_=>gm eI (W4 (Y1 hxv13)))] ?_
     refine M0 H ?_ ?_<;>intro H
     .refine wP ?_
      exact wT (J83 () H)
     .obtain⟨y14,h14,H⟩:=bB H
      refine wH [.c 85 (XU h14),.c 86 (Y09 j2.lic y14)] ?_
      refine M0 H ?_ ?_<;>intro H
      .exact wH [.w 110 (wi .i64 rfl hiv13 q12.1)] (wT (N78 () H))
      .obtain⟨y15,h15,y16,h16,H⟩:=bB2 H
       refine wH [.c 99 (V0G h15),.c 104 (Q0X h16)] ?_
       refine M0 H ?_ ?_<;>intro H
       .refine wP ?_
        replace H:=sI H;subst H
        exact wN [(6,.d),(7,.d),(8,.d)] [] [] [] [] [⟨_,nw_I y16.1⟩]
       .exact wH [.w 110 (wi .i64 rfl hiv13 q12.1)] (wT (N78 () H))
    .unfold Xj at H
     refine wP (wf (ltF (O6 xs11).length) ?_)
     refine wP ?_
     exact wT (J83 () H)
noncomputable def M0k:L :=
 lf Tryz.prog LU [] [] [] [] [] [] []
def Jr(nodes3:List Int)(x5:Int)(i5:Nat)(_:Unit)(k5:Unit->Option Bool):Option Bool :=
 (cutL nodes3 none (some (i5:Int))).bind λxs6=>(X3 xs6 x5).bind λb7=>bif b7 then(some false)else(k5 ())
def Lr(t1:Topo)(j2:Job)(nodes3:List Int)(_:Unit):Option Bool :=
 (Oq t1 nodes3).bind λb8=>some (b8&&((nodes3.length:Int)==j2.nodes))
def Lk(t1:Topo)(j2:Job)(nodes3:List Int):Option Bool :=
 rgl (Jr nodes3) (Lr t1 j2 nodes3) nodes3 0 ()
theorem J0k{t1:Topo}{j2:Job}{nodes3:List Int}{r:Bool}(H:Lk t1 j2 nodes3=some r):Snd Tryz.prog LU [M4 .rd t1,eJob j2,rV 1 (nodes3.map eI)] (.bool r) []:=by
 refine wS M0k [.t 6] ?_
 unfold Lk at H
 refine wG [.u 10 (.ln _ _ λ_=>lm nodes3 eI)] λq4=>?_
 refine wR (λ(i5:Nat) (v5:Unit)=>⟨[(2,rV 1 (nodes3.map eI)),(3,.ptr 3 0),(4,.ptr 4 0),(9,rV 1 (nodes3.map eI)),(10,iV (nodes3.length:Int)),(11,iV (i5:Int))],[],[(3,(M4 .rd t1).cells),(4,(eJob j2).cells)],[]⟩) H (λi5 x5 v5 I m k5 hxv5 hiv5 H N20=>?_) (λv5 I m H=>?_)
 .unfold Jr at H
  refine wP (wt (ltT hiv5) ?_)
  obtain⟨xs6,h6,b7,h7,H⟩:=bB2 H
  refine wH [.u 14 (.ix _ _ _ λ_=>W0 eI (Y1 hxv5)),.u 18 (.sc _ _ _ _ λ_=>Y02 eI h6),.c 20 (M5 h7)] ?_
  refine M0 H ?_ ?_<;>intro H
  .obtain rfl:=sI H
   exact wP (wE [(6,.d)])
  .exact wH [.w 21 (wi .i64 rfl hiv5 q4.1)] (wT (N20 () H))
 .unfold Lr at H
  refine wP (wf (ltF nodes3.length) ?_)
  obtain⟨b8,h8,H⟩:=bB H
  refine wH [.c 24 (M04 h8),.g 27 [(b8,true)] (.ln _ _ λ_=>lm nodes3 eI)] ?_
  replace H:=sI H;subst H
  exact wE [(6,.d)]
noncomputable def LQ:L :=
 lf Tryz.prog U0A [] [(39,1)] [] [] [] [(7,[],[14],[0,2,6,12,14,16,18,5,9,11,20,22,24,26],15)] []
def Ob(j2:Job)(from3 to4 x10:Int)(_:Nat)(v10:(List (List Pt)))(k10:(List (List Pt))->Option (Room×Bool)):Option (Room×Bool) :=
 (idx v10 x10).bind λe11=>(Jq e11 from3 to4 j2.need).bind λy12=>bif !y12.2 then(some ((Room.mk (Topo.mk [] []) [] [] []),false))else(k10 (v10.set x10.toNat y12.1))
def Wb(j2:Job)(from3 to4:Int)(y8:Room)(v10:(List (List Pt))):Option (Room×Bool) :=
 (Jq y8.lics from3 to4 j2.lic).bind λy13=>bif !y13.2 then(some ((Room.mk (Topo.mk [] []) [] [] []),false))else(some ((Room.mk y8.topo y8.up v10 y13.1),true))
def Z7(r1:Room)(j2:Job)(from3 to4:Int)(nodes5:List Int):Option (Room×Bool) :=
 (UF r1).bind λb6=>(bif (!b6)||(!(U6 j2))then some default else(Lk r1.topo j2 nodes5)).bind λb7=>bif ((!b6)||(!(U6 j2)))||(!b7)then(some ((Room.mk (Topo.mk [] []) [] [] []),false))else((QB r1).bind λy8=>rgl (Ob j2 from3 to4) (Wb j2 from3 to4 y8) nodes5 0 y8.profs)
theorem YR{r1:Room}{j2:Job}{from3 to4:Int}{nodes5:List Int}{r:Room×Bool}(H:Z7 r1 j2 from3 to4 nodes5=some r):Snd Tryz.prog U0A [Oe .rd r1,eJob j2,iV from3,iV to4,rV 1 (nodes5.map eI),.fn Jo []] (.tup [Oe .nw r.1,.bool r.2]) []:=by
 refine wS LQ [.c 12 5 true,.t 13] ?_
 unfold Z7 at H
 obtain⟨b6,h6,b7,h7,H⟩:=bB2 H
 refine wH [.c 22 (L0g h6),.g 26 [((!b6),false)] (.call _ _ _ _ _ (AEs.refl _) (λ_=>ZC j2)),.g 34 [(_,false)] (.call _ _ _ _ _ (AEs.refl _) (λq=>J0k (bF q.1 h7)))] ?_
 refine M0 H ?_ ?_<;>intro H
 .refine wP ?_
  replace H:=sI H;subst H
  exact wN [(12,.d),(13,.d)] [(12,[.n 1,.n 4,.n 1,.n 1,.n 4])] [] [] [] [⟨_,nw_I ([]:List Int)⟩,⟨_,L2 ([]:List Node)⟩,⟨_,Mr ([]:List Bool)⟩,⟨_,Q9 ([]:List (List Pt))⟩,⟨_,Wl ([]:List Pt)⟩]
 .obtain⟨y8,h8,H⟩:=bB H
  refine wG [.c 39 (Q0G h8),.u 41 (.ln _ _ λ_=>lm nodes5 eI)] λq9=>?_
  refine wR (λ(i10:Nat) (v10:(List (List Pt)))=>⟨[(2,iV from3),(3,iV to4),(5,.fn Jo []),(7,.ptr 7 0),(12,.ptr 12 0),(14,.ptr 14 0),(40,rV 1 (nodes5.map eI)),(41,iV (nodes5.length:Int)),(42,iV (i10:Int))],[],[(7,(eJob j2).cells),(12,[.nl,.nl,.nl,.nl,.nl]),(14,[nV 1 (y8.topo.parents.map eI),nV 4 (y8.topo.nodes.map V1),nV 1 (y8.up.map eBo),.sref 40000,nV 4 (y8.lics.map ePt)])],[(40000,⟨1,v10.map (J1 .nw),false⟩)]⟩) H (λi10 x10 v10 I m k10 hxv10 hiv10 H N32=>?_) (λv10 I m H=>?_)
  .unfold Ob at H
   refine wP (wt (ltT hiv10) ?_)
   obtain⟨e11,h11,y12,h12,H⟩:=bB2 H
   refine wH [.u 44 (.ix _ _ _ λ_=>W0 eI (Y1 hxv10)),.u 51 (.ix _ _ _ λ_=>W0 (J1 .nw) h11),.u 52 (.el _ _ _ λ_=>gm (J1 .nw) (W4 h11)),.u 57 (.clsr _ _ _ _ _ (AEs.refl _) (by kernel_rfl) (λ_=>J04 h12))] ?_
   refine M0 H ?_ ?_<;>intro H
   .refine wP ?_
    replace H:=sI H;subst H
    exact wN [(12,.d),(13,.d)] [(12,[.n 1,.n 4,.n 1,.n 1,.n 4])] [] [] [] [⟨_,nw_I ([]:List Int)⟩,⟨_,L2 ([]:List Node)⟩,⟨_,Mr ([]:List Bool)⟩,⟨_,Q9 ([]:List (List Pt))⟩,⟨_,Wl ([]:List Pt)⟩]
   .exact wH [.u 67 (.ix _ _ _ λ_=>W0 (J1 .nw) h11),.u 1000000 (.sto _ _ _ (J1 .nw y12.1) _ (λ_=>gm (J1 .nw) (W4 h11)) (λ_=>VE ..)),.w 68 (wi .i64 rfl hiv10 q9.1)] (wT (N32 _ H))
  .unfold Wb at H
   refine wP (wf (ltF nodes5.length) ?_)
   obtain⟨y13,h13,H⟩:=bB H
   refine wH [.u 77 (.clsr _ _ _ _ _ (AEs.refl _) (by kernel_rfl) (λ_=>J04 h13))] ?_
   refine M0 H ?_ ?_<;>intro H
   .refine wP ?_
    replace H:=sI H;subst H
    exact wN [(12,.d),(13,.d)] [(12,[.n 1,.n 4,.n 1,.n 1,.n 4])] [] [] [] [⟨_,nw_I ([]:List Int)⟩,⟨_,L2 ([]:List Node)⟩,⟨_,Mr ([]:List Bool)⟩,⟨_,Q9 ([]:List (List Pt))⟩,⟨_,Wl ([]:List Pt)⟩]
   .refine wP ?_
    replace H:=sI H;subst H
    exact wN [(12,.d),(13,.d)] [(12,[.d,.d,.d,.f,.d])] [] [40000] [] [⟨_,nw_I y8.topo.parents⟩,⟨_,L2 y8.topo.nodes⟩,⟨_,Mr y8.up⟩,⟨_,Q9 v10⟩,⟨_,Wl y13.1⟩]
theorem Zo{j:Job}:X1 j=true↔(1<=j.id/\j.id<=999)/\(0<=j.prio/\j.prio<=999)/\(1<=j.nodes/\j.nodes<=24)/\Q0 j.need=true/\Q0 j.lic=true/\(1<=j.wall/\j.wall<=1000000)/\(0<=j.level/\j.level<=24):=by
 unfold X1
 by_cases h:(1<=j.id/\j.id<=999)/\(0<=j.prio/\j.prio<=999)/\(1<=j.nodes/\j.nodes<=24)
 .rw[show(((((decide (j.id<1)||decide (999<j.id))||decide (j.prio<0))||decide (999<j.prio))||decide (j.nodes<1))||decide (24<j.nodes))=false by simp;omega]
  simp only[yM,yD,yO]
  constructor
  .intro q;exact⟨h.1,h.2.1,h.2.2,q.1.1.1.1.1,q.1.1.1.1.2,⟨q.1.1.1.2,q.1.1.2⟩,q.1.2,q.2⟩
  .intro q;exact⟨⟨⟨⟨⟨q.2.2.2.1,q.2.2.2.2.1⟩,q.2.2.2.2.2.1.1⟩,q.2.2.2.2.2.1.2⟩,q.2.2.2.2.2.2.1⟩,q.2.2.2.2.2.2.2⟩
 .rw[show(((((decide (j.id<1)||decide (999<j.id))||decide (j.prio<0))||decide (999<j.prio))||decide (j.nodes<1))||decide (24<j.nodes))=true by
   simp only[Bool.or_eq_true,yO];omega]
  simp only[yN]
  exact Vj λq=>h ⟨q.1,q.2.1,q.2.2.1⟩
theorem Zr(j:Job):U6 j=X1 j:=by
 rw[Bool.eq_iff_iff,Zo]
 unfold U6 U0
 simp only[Mq,yD,yO,and_assoc]
structure RoomP(r:Room):Prop where
 topo:TopoP r.topo
 up:r.up.length=r.topo.nodes.length
 profs:r.profs.length=r.topo.nodes.length
 prof:∀p∈r.profs,ProfP p
 lics:ProfP r.lics
noncomputable def roomOk(r:Room):Bool:=topoOk r.topo&&decide (r.up.length=r.topo.nodes.length)&&decide (r.profs.length=r.topo.nodes.length)&&profOk r.lics&&r.profs.all profOk
theorem Zx{r:Room}:roomOk r=true↔RoomP r:=by
 unfold roomOk
 simp only[yD,yO,List.all_eq_true,QC,Uq]
 exact⟨λh=>⟨h.1.1.1.1,h.1.1.1.2,h.1.1.2,h.2,h.1.2⟩,λh=>⟨⟨⟨⟨h.topo,h.up⟩,h.profs⟩,h.lics⟩,h.prof⟩⟩
theorem O15(a b:Nat):((a:Int)!=(b:Int)) = !decide (a=b):=by
 by_cases h:a=b
 .simp[h]
 .rw[show((a:Int)!=(b:Int))=true by simp;omega];simp[h]
theorem MG(r:Room):Jm r=some (roomOk r):=by
 unfold Jm roomOk
 rw[Qs,bS]
 simp only[O15,U9]
 rw[Mn (r:=some false) (p:=λp=>!profOk p) (λx _ i k=>by unfold VP;rw[U9,bS]),← List.not_all_eq_any_not]
 cases topoOk r.topo<;>cases decide (r.up.length=r.topo.nodes.length)<;>cases decide (r.profs.length=r.topo.nodes.length)<;>cases profOk r.lics<;>cases r.profs.all profOk<;>rfl
theorem J0g(r:Room):UF r=some (roomOk r):=by
 unfold UF roomOk
 rw[OW,Qs,bS]
 simp only[O15]
 rw[Mn (r:=some false) (p:=λp=>!profOk p) (λx _ i k=>by unfold MR;rw[LW,U9,bS]),← List.not_all_eq_any_not]
 unfold OR
 rw[LW,U9,bS]
 cases topoOk r.topo<;>cases decide (r.up.length=r.topo.nodes.length)<;>cases decide (r.profs.length=r.topo.nodes.length)<;>cases profOk r.lics<;>cases r.profs.all profOk<;>rfl
structure RoomS(r:Room):Prop where
 up:r.up.length<=1048576
 par:r.topo.parents.length<=1048576
 nodes:r.topo.nodes.length<=1048576
 profs:r.profs.length<=1048576
 prof:∀p∈r.profs,p.length<=1048576
 lics:r.lics.length<=1048576
theorem RoomP.small{r:Room}(h:RoomP r):RoomS r :=
  ⟨by have:=h.up;have:=h.topo.nodes;omega,by have:=h.topo.tree.le;omega,by have:=h.topo.nodes;omega,by have:=h.profs;have:=h.topo.nodes;omega,λp hp=>by have:=(h.prof p hp).le;omega,by have:=h.lics.le;omega⟩
theorem J06{r:Room}(h:RoomS r):Mw r=some r:=by
 unfold Mw Ww
 have:=h.up;have:=h.lics;have:=h.par;have:=h.nodes;have:=h.profs
 rw[O0 (by simp;omega),bS,O0 (by simp;omega),bS,bS,O0 (by simp;omega),bS,O0 (by simp;omega),bS]
 rw[V6 (bd:=Ou) (bs:=24) (p:=λ_=>true) (f:=id) (λx hx i b k=>by
  have:=h.prof x hx
  unfold Ou Ww
  rw[O0 (by simp;omega),bS,bS];simp) (by simp;omega)]
 unfold YK
 simp[List.filter_eq_self.2]
theorem W0G{r:Room}(h:RoomS r):QB r=some r:=by
 unfold QB Lg M7 Wq
 have:=h.up;have:=h.lics;have:=h.par;have:=h.nodes;have:=h.profs
 rw[O0 (by simp;omega),bS,bS,O0 (by simp;omega),bS,bS,O0 (by simp;omega),bS,O0 (by simp;omega),bS,bS]
 rw[V6 (bd:=Qq) (bs:=24) (p:=λ_=>true) (f:=id) (λx hx i b k=>by
  have:=h.prof x hx
  unfold Qq Wq
  rw[O0 (by simp;omega),bS,bS];simp) (by simp;omega)]
 unfold JE
 simp[List.filter_eq_self.2]
theorem Y0J{α:Type}{l:List α}{i:Nat}(h:i<=l.length):cutL l none (some (i:Int))=some (l.take i):=by
 unfold cutL bhi blo
 simp[h]
theorem M0Z{l:List Int}{i:Nat}{x:Int}(hx:l[i]?=some x):(l.take (i+1)).Nodup↔(l.take i).Nodup/\x∉l.take i:=by
 obtain⟨hi,rfl⟩:=yB hx
 rw[List.take_succ_eq_append_getElem hi,List.nodup_append]
 constructor
 .intro h;exact⟨h.1,λhm=>h.2.2 _ hm _ (List.mem_singleton.2 rfl) rfl⟩
 .intro h;exact⟨h.1,by simp,λa ha b hb e=>by rw[List.mem_singleton.1 hb]at e;subst e;exact h.2 ha⟩
theorem L0Z{γ:Type}{bd:Int->Nat->Unit->(Unit->Option γ)->Option γ}{kk:Unit->Option γ}{r:Option γ}{l:List Int}
  (hb:∀i x k,i<=l.length->bd x i () k=bif (l.take i).contains x then r else k ()):rgl bd kk l 0 ()=bif decide l.Nodup then kk ()else r:=by
 refine X7 (λi (_:Unit)=>(l.take i).Nodup) (λo=>o=bif decide l.Nodup then kk ()else r) (λi x b k hx hI hk=>?_) (λb hI=>?_) (by simp)
 .have hil:=(yB hx).1
  rw[hb i x k (by omega)]
  cases hc:(l.take i).contains x with
  |true =>
   have hm:=List.contains_iff_mem.1 hc
   have:¬ l.Nodup:=λq=>((M0Z hx).1 (q.sublist (List.take_sublist _ _))).2 hm
   simp[this]
  |false=>exact hk () ((M0Z hx).2 ⟨hI,λhm=>by rw[List.contains_iff_mem.2 hm]at hc;cases hc⟩)
 .rw[List.take_of_length_le (yV _)]at hI
  simp[hI]
noncomputable def diffOk(r:Room)(j:Job)(nodes:List Int):Bool:=roomOk r&&X1 j&&decide ((nodes.length:Int)=j.nodes)&&U4 r.topo nodes&&decide nodes.Nodup
theorem M06(r:Room)(j:Job)(nodes:List Int):Ow r j nodes=some (diffOk r j nodes):=by
 unfold Ow diffOk
 rw[MG,bS]
 have e:((nodes.length:Int)!=j.nodes) = !decide ((nodes.length:Int)=j.nodes):=by
  by_cases h:(nodes.length:Int)=j.nodes<;>simp[h]
 simp only[e,Mu]
 rw[L0Z (r:=some false) (λi x k hi=>by unfold ZK;rw[Y0J hi,bS,U7,bS])]
 cases roomOk r<;>cases X1 j<;>cases decide ((nodes.length:Int)=j.nodes)<;>cases U4 r.topo nodes<;>cases decide nodes.Nodup<;>rfl
theorem Z0l{t:Topo}(ht:t.nodes.length<=1048576)(j:Job)(nodes:List Int):Lk t j nodes=some (decide ((nodes.length:Int)=j.nodes)&&U4 t nodes&&decide nodes.Nodup):=by
 unfold Lk
 rw[L0Z (r:=some false) (λi x k hi=>by unfold Jr;rw[Y0J hi,bS,Og,bS])]
 unfold Lr
 rw[L04 t nodes ht,bS]
 have e:((nodes.length:Int)==j.nodes)=decide ((nodes.length:Int)=j.nodes):=by
  by_cases h:(nodes.length:Int)=j.nodes<;>simp[h]
 rw[e]
 cases decide ((nodes.length:Int)=j.nodes)<;>cases U4 t nodes<;>cases decide nodes.Nodup<;>rfl
def Oh:Room×Bool:=(⟨⟨[],[]⟩,[],[],[]⟩,false)
def YG(r:Room)(need lic:Vec)(from_ to_:Int)(nodes:List Int):Option (Room×Bool) :=
 rgl (λx _ v k=>(idx v x).bind λe=>(Q2 e from_ to_ need).bind λy=>bif !y.2 then some Oh else k (v.set x.toNat y.1))
  (λv=>(Q2 r.lics from_ to_ lic).bind λy=>bif !y.2 then some Oh else some (⟨r.topo,r.up,v,y.1⟩,true)) nodes 0 r.profs
theorem V00{r:Room}(hr:RoomP r)(need lic:Vec)(from_ to_:Int){nodes:List Int}(hn:U4 r.topo nodes=true) :
  ∃q,YG r need lic from_ to_ nodes=some q/\(q.2=true->RoomP q.1/\q.1.topo=r.topo/\q.1.up=r.up):=by
 have hn:=(Q3.1 hn).2
 unfold YG
 refine X7 (λi (v:List (List Pt))=>v.length=r.topo.nodes.length/\∀p∈v,ProfP p) (λo=>∃q:Room×Bool,o=some q/\(q.2=true->RoomP q.1/\q.1.topo=r.topo/\q.1.up=r.up)) (λi x v k hx hI hk=>?_) (λv hI=>?_) ⟨hr.profs,hr.prof⟩
 .have hx':=hn x (yE hx)
  obtain⟨e,q1,q2⟩:=Mb (l:=v) (i:=x) hx'.1 (by rw[hI.1];exact hx'.2)
  obtain⟨y,h1,h2⟩:=(VS e from_ to_ need).2
  rw[q1,bS,h1,bS]
  cases hy:y.2 with
  |false=>exact⟨Oh,rfl,λh=>by cases h⟩
  |true =>
   refine hk _ ⟨by simp[hI.1],λp hp=>?_⟩
   rcases List.mem_or_eq_of_mem_set hp with hp|rfl
   .exact hI.2 p hp
   .exact h2 hy
 .obtain⟨y,h1,h2⟩:=(VS r.lics from_ to_ lic).2
  rw[h1,bS]
  cases hy:y.2 with
  |false=>exact⟨Oh,rfl,λh=>by cases h⟩
  |true=>exact⟨_,rfl,λ_=>⟨⟨hr.topo,hr.up,hI.1,hI.2,h2 hy⟩,rfl,rfl⟩⟩
theorem U07(r:Room)(j:Job)(t:Int)(nodes:List Int):Zn r j t nodes=bif diffOk r j nodes&&time t then YG r j.need j.lic t (w64 (t+j.wall)) nodes else some Oh:=by
 unfold Zn
 rw[M06,bS,Xi]
 cases hd:diffOk r j nodes with
 |false=>rfl
 |true =>
  cases time t with
  |false=>rfl
  |true =>
   have hr:roomOk r=true:=by unfold diffOk at hd;simp only[yD]at hd;exact hd.1.1.1.1
   simp only[yL,Bool.or_self,yM,Bool.and_self,yN]
   rw[J06 (Zx.1 hr).small,bS]
   rfl
end Go.Proofs.YtpgaganbacipnaaGreat
namespace Go.Proofs.YtpgaganbacipnaaGreat
open Go Go.RowKit Eng Go.Sort
theorem V0l{α:Type}{k:Nat}{enc:α->List Value}(hk:∀x,(enc x).length=k):∀(l:List α) (i c:Nat),c<k->(l.flatMap enc)[i*k+c]?=l[i]?.bind λx=>(enc x)[c]?
 |[],i,c,_=>by simp
 |x::l,0,c,hc=>by
  rw[ya,yK (by rw[hk];omega)]
  simp
 |x::l,i+1,c,hc=>by
  rw[ya,yS (by rw[hk,Nat.succ_mul];omega),hk]
  have:(i+1)*k+c-k=i*k+c:=by rw[Nat.succ_mul];omega
  rw[this,V0l hk l i c hc]
  simp
theorem M1k{α:Type}{k:Nat}{enc:α->List Value}(hk:∀x,(enc x).length=k)(l:List α):(l.flatMap enc).length=l.length*k:=by
 induction l with
 |nil=>simp
 |cons x l ih=>rw[ya,yU,ih,hk,yT,Nat.succ_mul];omega
theorem O1u{α:Type}[Inhabited α]{k:Nat}(h0:0<k){enc:α->List Value}(hk:∀x,(enc x).length=k)(l:List α):(flatK enc k l.toArray).toList=l.flatMap enc:=by
 apply List.ext_getElem (by rw[M1k hk];simp)
 intro t h1 h2
 have ht:t<l.length*k:=by simpa using h1
 have hi:t / k<l.length:=Nat.div_lt_of_lt_mul (by rw[Nat.mul_comm];exact ht)
 have hc:t % k<k:=Nat.mod_lt _ h0
 have e:=V0l hk l (t / k) (t % k) hc
 have e2:t / k*k+t % k=t:=by rw[Nat.mul_comm];exact Nat.div_add_mod t k
 rw[e2,yA h2,yA hi]at e
 simp only[bS]at e
 rw[yA (by rw[hk];exact hc)]at e
 rw[Option.some.inj e]
 simp only[flatK,Array.toList_map,List.getElem_map,Array.getElem_toList,Array.getElem_range]
 rw[getElem!_pos l.toArray (t / k) (by simpa using hi)]
 simp only[List.getElem_toArray]
 rw[getElem!_pos _ (t % k) (by rw[hk];exact hc)]
theorem V1u{w:World}{b:Nat}{cur F:Array Value}{ty:TypeId}(h1:w.heap[b]?=some (.cells cur ty (0,0)))(h5:cur.toList.take F.size=F.toList):Holds id w b 0 F:=by
 intro j hj
 refine⟨?_,frozen_of_row w b (0+j) cur ty h1⟩
 have hc:cur[j]?=some F[j]:=by
  have:=congrArg (·[j]?) h5
  simp only[List.getElem?_take,hj,yb,Array.getElem?_toList,Array.getElem?_eq_getElem hj]at this
  exact this
 simp only[World.cell?,h1,Option.isSome_none,yG,yc,Nat.zero_add]
 rw[hc]
 simp[hj]
theorem Y1j{w:World}{b:Nat}{cur F:Array Value}{ty:TypeId}(h1:w.heap[b]?=some (.cells cur ty (0,0)))(h2:F.size<=cur.size)(n:Nat)(os:Array Obj) :
  ∃cur':Array Value,(grow (putRow id (Sort.ahead w n) b 0 F) os).heap[b]?=some (.cells cur' ty (0,0))/\cur'.size=cur.size/\cur'.toList.take F.size=F.toList /\
   w.heap.size<=(grow (putRow id (Sort.ahead w n) b 0 F) os).heap.size/\∀k,k<w.heap.size->k≠b->(grow (putRow id (Sort.ahead w n) b 0 F) os).heap[k]?=w.heap[k]?:=by
 have hb:b<w.heap.size:=(Array.getElem?_eq_some_iff.1 h1).1
 have hg:∀k,k<w.heap.size->(grow (putRow id (Sort.ahead w n) b 0 F) os).heap[k]?=(w.heap.modify b (onCells (putCells id 0 F)))[k]?:=by
  intro k hk
  simp only[grow,putRow,mapBlock,Sort.ahead]
  rw[Array.getElem?_append_left (by simpa using hk)]
 refine⟨putCells id 0 F cur,?_,?_,?_,?_,λk hk hne=>?_⟩
 .rw[hg b hb,Array.getElem?_modify];simp only[yb,h1];rfl
 .simp[putCells]
 .apply List.ext_getElem
  .simp[putCells];omega
  .intro j q1 q2
   have hj:j<F.size:=by simpa using q2
   simp[putCells,hj]
 .simp[grow,putRow,mapBlock,Sort.ahead]
 .rw[hg k hk,Array.getElem?_modify,ye (λe=>hne e.symm)]
def Q0D(x y:Job):Bool:=!decide (x.prio<y.prio\/(x.prio=y.prio/\y.id<x.id))
def X1C(l:List Job):Prop:=(l.map (·.id)).Nodup/\(∀j∈l,-2305843009213693952<=j.prio/\j.prio<=2305843009213693952/\-2305843009213693952<=j.id/\j.id<=2305843009213693952)/\l.length<4611686018427387904
instance(l:List Job):Decidable (X1C l):=by unfold X1C;infer_instance
end Go.Proofs.YtpgaganbacipnaaGreat
namespace Go.Proofs.YtpgaganbacipnaaGreat
open Go Go.RowKit Eng
noncomputable def O0O:L :=
 lf Tryz.prog L0i [] [] [] [] [(11,8)] [] []
def Qk(l1:List Job)(i4:Nat)(x4:Job)(k4:Unit->Option Bool)(v5:Int)(k5:Int->Option Bool):Option Bool :=
 bif decide (v5<(i4:Int))then((idx l1 v5).bind λe6=>bif e6.id==x4.id then(some false)else(k5 (w64 (v5+1))))else(k4 ())
def LK(l1:List Job)(x4:Job)(i4:Nat)(_:Unit)(k4:Unit->Option Bool):Option Bool :=
 bif !(X1 x4)then(some false)else(whl (Qk l1 i4 x4 k4) 9223372036854775807 0)
def MK(_:Unit):Option Bool :=
 some true
def Yn(l1:List Job):Option Bool :=
 bif decide (60<(l1.length:Int))then(some false)else(rgl (LK l1) MK l1 0 ())
theorem WP{l1:List Job}{r:Bool}(H:Yn l1=some r):Snd Tryz.prog L0i [rV 11 (l1.map eJob)] (.bool r) []:=by
 refine wS O0O [.t 2] ?_
 unfold Yn at H
 refine wG [.u 7 (.ln _ _ λ_=>lm l1 eJob)] λq2=>?_
 refine M0 H ?_ ?_<;>intro H
 .obtain rfl:=sI H
  exact wP (wE [(2,.d)])
 .refine wG [.u 10 (.ln _ _ λ_=>lm l1 eJob)] λq3=>?_
  refine wR (λ(i4:Nat) (v4:Unit)=>⟨[(0,rV 11 (l1.map eJob)),(9,rV 11 (l1.map eJob)),(10,iV (l1.length:Int)),(11,iV (i4:Int))],[],[],[]⟩) H (λi4 x4 v4 I m k4 hxv4 hiv4 H N48=>?_) (λv4 I m H=>?_)
  .unfold LK at H
   refine wP (wt (ltT hiv4) ?_)
   refine wH [.u 14 (.ix _ _ _ λ_=>W0 eJob (Y1 hxv4)),.c 17 (XA x4)] ?_
   refine M0 H ?_ ?_<;>intro H
   .obtain rfl:=sI H
    exact wP (wE [(2,.d)])
   .refine wP ?_
    refine wW (λ(v5:Int)=>⟨[(0,rV 11 (l1.map eJob)),(3,iV (i4:Int)),(4,.ptr 4 0),(5,iV v5),(9,rV 11 (l1.map eJob)),(10,iV (l1.length:Int)),(11,iV (i4:Int))],[],[(4,(eJob x4).cells)],[]⟩) H (λv5 I m k5 H N38=>?_)
    unfold Qk at H
    refine wP ?_
    refine M0 H ?_ ?_<;>intro H
    .obtain⟨e6,h6,H⟩:=bB H
     refine wH [.u 26 (.ix _ _ _ λ_=>W0 eJob h6)] ?_
     refine M0 H ?_ ?_<;>intro H
     .obtain rfl:=sI H
      exact wP (wE [(2,.d)])
     .refine wP ?_
      exact wT (N38 _ H)
    .exact wH [.w 32 (wi .i64 rfl hiv4 q2.1)] (wT (N48 () H))
  .unfold MK at H
   refine wP (wf (ltF l1.length) ?_)
   obtain rfl:=sI H
   exact wP (wE [(2,.d)])
noncomputable def O0v:L :=
 lf Tryz.prog VM [] [] [] [] [] [] []
def Xu(a1 b2:Job):Option Bool :=
 some (decide (b2.prio<a1.prio)||((a1.prio==b2.prio)&&decide (a1.id<b2.id)))
theorem W0j{a1 b2:Job}{r:Bool}(H:Xu a1 b2=some r):Snd Tryz.prog VM [eJob a1,eJob b2] (.bool r) []:=by
 refine wS O0v [.t 4] ?_
 unfold Xu at H
 obtain rfl:=sI H
 exact wP (wE [(4,.d)])
def V7(a1 b2:Job):Bool :=
 (decide (b2.prio<a1.prio)||((a1.prio==b2.prio)&&decide (a1.id<b2.id)))
theorem V0B(a1 b2:Job):Xu a1 b2=some (V7 a1 b2):=by
 unfold Xu V7
 first|rfl|simp only[O5]
theorem Q0t(a1 b2:Job):Snd Tryz.prog VM [eJob a1,eJob b2] (.bool (V7 a1 b2)) []:=W0j (V0B a1 b2)
noncomputable def Y17:L :=
 lf Tryz.prog X0A [10,21] [] [] [] [] [] [32087347]
def Jb(x6:Job)(k6:(Bool×(List Job))->Option (List Job))(v8:Bool×(List Job)):Option (List Job) :=
 (appL 88 v8.2 [x6]).bind λxs9=>k6 (v8.1,xs9)
def Ul(x4 x6:Job)(_:Nat)(v6:Bool×(List Job))(k6:(Bool×(List Job))->Option (List Job)):Option (List Job) :=
 bif (!v6.1)&&(V7 x4 x6)then((appL 88 v6.2 [x4]).bind λxs7=>(Jb x6 k6) (true,xs7))else((Jb x6 k6) (v6.1,v6.2))
def Vl(x4:Job)(k4:List Job->Option (List Job))(v6:Bool×(List Job)):Option (List Job) :=
 bif !v6.1 then((appL 88 v6.2 [x4]).bind λxs10=>k4 xs10)else(k4 v6.2)
def YH(x4:Job)(_:Nat)(v4:List Job)(k4:List Job->Option (List Job)):Option (List Job) :=
 rgl (Ul x4) (Vl x4 k4) v4 0 (false,[])
def OV(v4:List Job):Option (List Job) :=
 some v4
def ZY(l1:List Job):Option (List Job) :=
 (Yn l1).bind λb2=>bif !b2 then(some [])else(rgl YH OV l1 0 [])
theorem W13{l1:List Job}{r:(List Job)}(H:ZY l1=some r):Snd Tryz.prog X0A [rV 11 (l1.map eJob)] (nV 11 (r.map eJob)) []:=by
 refine wS Y17 [.t 2] ?_
 unfold ZY at H
 obtain⟨b2,h2,H⟩:=bB H
 refine wH [.c 12 (WP h2)] ?_
 refine M0 H ?_ ?_<;>intro H
 .refine wP ?_
  replace H:=sI H;subst H
  exact wN [(2,.f)] [] [] [10] [] [⟨_,VC ([]:List Job)⟩]
 .refine wG [.u 16 (.ln _ _ λ_=>lm l1 eJob)] λq3=>?_
  refine wR (λ(i4:Nat) (v4:List Job)=>⟨[(3,.sref 10),(15,rV 11 (l1.map eJob)),(16,iV (l1.length:Int)),(17,iV (i4:Int))],[],[],[(10,⟨11,v4.map eJob,false⟩)]⟩) H (λi4 x4 v4 I m k4 hxv4 hiv4 H N57=>?_) (λv4 I m H=>?_)
  .unfold YH at H
   refine wP (wt (ltT hiv4) ?_)
   refine wG [.u 19 (.ix _ _ _ λ_=>W0 eJob (Y1 hxv4)),.u 23 (.ln _ _ λ_=>lm v4 eJob)] λq5=>?_
   refine wR (λ(i6:Nat) (v6:Bool×(List Job))=>⟨[(5,.ptr 5 0),(6,.sref 21),(7,.bool v6.1),(15,rV 11 (l1.map eJob)),(16,iV (l1.length:Int)),(17,iV (i4:Int)),(22,.sref 10),(23,iV (v4.length:Int)),(24,iV (i6:Int))],[],[(5,(eJob x4).cells)],[(21,⟨11,v6.2.map eJob,false⟩),(10,⟨11,v4.map eJob,false⟩)]⟩) H (λi6 x6 v6 I m k6 hxv6 hiv6 H N38=>?_) (λv6 I m H=>?_)
   .unfold Ul at H
    refine wP (wt (ltT hiv6) ?_)
    refine wH [.u 26 (.ix _ _ _ λ_=>W0 eJob (Y1 hxv6)),.u 27 (.el _ _ _ λ_=>gm eJob (W4 (Y1 hxv6))),.g 33 [((!v6.1),true)] (.call _ _ _ _ _ (AEs.refl _) (λ_=>Q0t x4 x6))] ?_
    refine J3 (r:=r) (Jb x6 k6) 0 (λv8:Bool×(List Job)=>⟨[(5,.ptr 5 0),(6,.sref 21),(7,.bool v8.1),(9,.ptr 9 0),(15,.sl .rd 11 (l1.map eJob)),(16,.int .i64 (l1.length:Int)),(17,.int .i64 (i4:Int)),(22,.sref 10),(23,.int .i64 (v4.length:Int)),(24,.int .i64 (i6:Int))],[],[(5,(eJob x4).cells),(9,(eJob x6).cells)],[(21,⟨11,v8.2.map eJob,false⟩),(10,⟨11,v4.map eJob,false⟩)]⟩) (by kernel_rfl) (λv8 H=>?_) (λJ30=>?_)
    .unfold Jb at H
     obtain⟨xs9,h9,H⟩:=bB H
     exact wH [.u 42 (.ap _ _ _ _ λ_=>L0 eJob h9),.w 43 (wi .i64 rfl hiv6 q5.1)] (wT (N38 _ H))
    .refine M0 H ?_ ?_<;>intro H
     .obtain⟨xs7,h7,H⟩:=bB H
      exact wH [.u 38 (.ap _ _ _ _ λ_=>L0 eJob h7)] (wT (J30 _ H))
     .refine wP ?_
      exact wT (J30 _ H)
   .unfold Vl at H
    refine wP (wf (ltF v4.length) ?_)
    refine wP ?_
    refine M0 H ?_ ?_<;>intro H
    .obtain⟨xs10,h10,H⟩:=bB H
     refine wH [.u 49 (.ap _ _ _ _ λ_=>L0 eJob h10),.w 51 (wi .i64 rfl hiv4 q3.1)] ?_
     exact wU (N57 _ H) [] [] [(10,(some 21,0))] []
    .refine wH [.w 51 (wi .i64 rfl hiv4 q3.1)] ?_
     exact wU (N57 _ H) [] [] [(10,(some 21,0))] []
  .unfold OV at H
   refine wP (wf (ltF l1.length) ?_)
   refine wP ?_
   replace H:=sI H;subst H
   exact wN [(2,.f)] [] [] [10] [] [⟨_,VC v4⟩]
noncomputable def W0N:L :=
 lf Tryz.prog J0h [] [] [] [] [] [] []
def Oa(id2:Int)(x4:Job)(_:Nat)(_:Unit)(k4:Unit->Option (Job×Bool)):Option (Job×Bool) :=
 bif x4.id==id2 then(some (x4,true))else(k4 ())
def JJ(_:Unit):Option (Job×Bool) :=
 some ((Job.mk 0 0 0 (Vec.mk 0 0 0) (Vec.mk 0 0 0) 0 0),false)
def Q8(l1:List Job)(id2:Int):Option (Job×Bool) :=
 rgl (Oa id2) JJ l1 0 ()
theorem Um{l1:List Job}{id2:Int}{r:Job×Bool}(H:Q8 l1 id2=some r):Snd Tryz.prog J0h [rV 11 (l1.map eJob),iV id2] (.tup [eJob r.1,.bool r.2]) []:=by
 refine wS W0N [.c 4 11 true,.t 5] ?_
 unfold Q8 at H
 refine wG [.u 9 (.ln _ _ λ_=>lm l1 eJob)] λq3=>?_
 refine wR (λ(i4:Nat) (v4:Unit)=>⟨[(1,iV id2),(4,.ptr 4 0),(8,rV 11 (l1.map eJob)),(9,iV (l1.length:Int)),(10,iV (i4:Int))],[],[(4,(eJob (Job.mk 0 0 0 (Vec.mk 0 0 0) (Vec.mk 0 0 0) 0 0)).cells)],[]⟩) H (λi4 x4 v4 I m k4 hxv4 hiv4 H N20=>?_) (λv4 I m H=>?_)
 .unfold Oa at H
  refine wP (wt (ltT hiv4) ?_)
  refine wH [.u 12 (.ix _ _ _ λ_=>W0 eJob (Y1 hxv4))] ?_
  refine M0 H ?_ ?_<;>intro H
  .refine wP ?_
   replace H:=sI H;subst H
   exact wN [(4,.d),(5,.d)] [(4,[])] [] [] [] []
  .exact wH [.w 19 (wi .i64 rfl hiv4 q3.1)] (wT (N20 () H))
 .unfold JJ at H
  refine wP (wf (ltF l1.length) ?_)
  refine wP ?_
  replace H:=sI H;subst H
  exact wN [(4,.d),(5,.d)] [(4,[])] [] [] [] []
noncomputable def O0w:L :=
 lf Tryz.prog Of [] [] [] [] [] [] []
def Wv(k1 x2:Job):Option Bool :=
 some (k1.id==x2.id)
theorem X0l{k1 x2:Job}{r:Bool}(H:Wv k1 x2=some r):Snd Tryz.prog Of [eJob k1,.ept (eJob x2) 0] (.bool r) []:=by
 refine wS O0w [.t 3] ?_
 unfold Wv at H
 obtain rfl:=sI H
 exact wP (wE [(3,.d)])
def Yt(k1 x2:Job):Bool :=
 (k1.id==x2.id)
theorem J0G(k1 x2:Job):Wv k1 x2=some (Yt k1 x2):=by
 unfold Wv Yt
 first|rfl|simp only[O5]
theorem X0x(k1 x2:Job):Snd Tryz.prog Of [eJob k1,.ept (eJob x2) 0] (.bool (Yt k1 x2)) []:=X0l (J0G k1 x2)
noncomputable def Ld:L :=
 lf Tryz.prog Q4 [] [] [] [] [] [] []
def M1(c2 x4:Job)(i4:Nat)(_:Unit)(k4:Unit->Option Int):Option Int :=
 bif Yt x4 c2 then(some (i4:Int))else(k4 ())
def Y3(_:Unit):Option Int :=
 some (-1)
def X2(s1:List Job)(c2:Job):Option Int :=
 rgl (M1 c2) Y3 s1 0 ()
theorem Md{s1:List Job}{c2:Job}{r:Int}(H:X2 s1 c2=some r):Snd Tryz.prog Q4 [rV 11 (s1.map eJob),.fn Of [.ept (eJob c2) 0]] (iV r) []:=by
 refine wS Ld [.t 4] ?_
 unfold X2 at H
 refine wG [.u 7 (.ln _ _ λ_=>lm s1 eJob)] λq3=>?_
 refine wR (λ(i4:Nat) (v4:Unit)=>⟨[(0,rV 11 (s1.map eJob)),(1,.fn Of [.ept (eJob c2) 0]),(7,iV (s1.length:Int)),(8,iV (i4:Int))],[],[],[]⟩) H (λi4 x4 v4 I m k4 hxv4 hiv4 H N20=>?_) (λv4 I m H=>?_)
 .unfold M1 at H
  refine wP (wt (ltT hiv4) ?_)
  refine wH [.u 14 (.ix _ _ _ λ_=>W0 eJob (Y1 hxv4)),.u 16 (.clsr _ _ _ _ _ (AEs.refl _) (by kernel_rfl) (λ_=>X0x x4 c2))] ?_
  refine M0 H ?_ ?_<;>intro H
  .refine wP ?_
   replace H:=sI H;subst H
   exact wE [(4,.d)]
  .exact wH [.w 18 (wi .i64 rfl hiv4 q3.1)] (wT (N20 () H))
 .unfold Y3 at H
  refine wP (wf (ltF s1.length) ?_)
  obtain rfl:=sI H
  exact wP (wE [(4,.d)])
noncomputable def Yb:L :=
 lf Tryz.prog Ya [] [] [] [] [] [] []
def U1(s1:List Job)(c2:Job):Option Bool :=
 (X2 s1 c2).bind λn3=>some (decide (0<=n3))
theorem Zb{s1:List Job}{c2:Job}{r:Bool}(H:U1 s1 c2=some r):Snd Tryz.prog Ya [rV 11 (s1.map eJob),.fn Of [.ept (eJob c2) 0]] (.bool r) []:=by
 refine wS Yb [.t 4] ?_
 unfold U1 at H
 obtain⟨n3,h3,H⟩:=bB H
 refine wH [.c 7 (Md h3)] ?_
 replace H:=sI H;subst H
 exact wE [(4,.d)]
noncomputable def Q0P:L :=
 lf Tryz.prog U0j [] [] [] [] [] [] []
def YM(l1:List Job)(x3:Job)(i3:Nat)(_:Unit)(k3:Unit->Option Bool):Option Bool :=
 (bif !(U6 x3)then some default else(cutL l1 none (some (i3:Int)))).bind λxs4=>(bif !(U6 x3)then some default else(U1 xs4 x3)).bind λb5=>bif (!(U6 x3))||b5 then(some false)else(k3 ())
def ZM(l1:List Job)(_:Unit):Option Bool :=
 some (decide ((l1.length:Int)<=60))
def VJ(l1:List Job):Option Bool :=
 rgl (YM l1) (ZM l1) l1 0 ()
theorem V0Q{l1:List Job}{r:Bool}(H:VJ l1=some r):Snd Tryz.prog U0j [rV 11 (l1.map eJob)] (.bool r) []:=by
 refine wS Q0P [.t 2] ?_
 unfold VJ at H
 refine wG [.u 6 (.ln _ _ λ_=>lm l1 eJob)] λq2=>?_
 refine wR (λ(i3:Nat) (v3:Unit)=>⟨[(0,rV 11 (l1.map eJob)),(5,rV 11 (l1.map eJob)),(6,iV (l1.length:Int)),(7,iV (i3:Int))],[],[],[]⟩) H (λi3 x3 v3 I m k3 hxv3 hiv3 H N20=>?_) (λv3 I m H=>?_)
 .unfold YM at H
  refine wP (wt (ltT hiv3) ?_)
  obtain⟨xs4,h4,b5,h5,H⟩:=bB2 H
  refine wH [.u 10 (.ix _ _ _ λ_=>W0 eJob (Y1 hxv3)),.c 13 (ZC x3),.g 18 [(_,false)] (.sc _ _ _ _ λq=>Y02 eJob (bF q.1 h4)),.g 20 [(_,false)] (.call _ _ _ _ _ (AEs.refl _) (λq=>Zb (bF q.1 h5)))] ?_
  refine M0 H ?_ ?_<;>intro H
  .obtain rfl:=sI H
   exact wP (wE [(2,.d)])
  .exact wH [.w 22 (wi .i64 rfl hiv3 q2.1)] (wT (N20 () H))
 .unfold ZM at H
  refine wP (wf (ltF l1.length) ?_)
  refine wG [.u 24 (.ln _ _ λ_=>lm l1 eJob)] λq6=>?_
  replace H:=sI H;subst H
  exact wE [(2,.d)]
noncomputable def Z0P:L :=
 lf Tryz.prog Jt [] [] [] [] [] [] []
def MH(j1:Job)(x2:Int):Option Bool :=
 some (j1.id==x2)
theorem J0w{j1:Job}{x2:Int}{r:Bool}(H:MH j1 x2=some r):Snd Tryz.prog Jt [eJob j1,.ept (.agg [iV x2]) 0] (.bool r) []:=by
 refine wS Z0P [.t 3] ?_
 unfold MH at H
 obtain rfl:=sI H
 exact wP (wE [(3,.d)])
def YJ(j1:Job)(x2:Int):Bool :=
 (j1.id==x2)
theorem X0X(j1:Job)(x2:Int):MH j1 x2=some (YJ j1 x2):=by
 unfold MH YJ
 first|rfl|simp only[O5]
theorem J0P(j1:Job)(x2:Int):Snd Tryz.prog Jt [eJob j1,.ept (.agg [iV x2]) 0] (.bool (YJ j1 x2)) []:=J0w (X0X j1 x2)
noncomputable def We:L :=
 lf Tryz.prog Q4 [] [] [] [] [] [] []
def Z2(c2:Int)(x4:Job)(i4:Nat)(_:Unit)(k4:Unit->Option Int):Option Int :=
 bif YJ x4 c2 then(some (i4:Int))else(k4 ())
def U3(_:Unit):Option Int :=
 some (-1)
def O2(s1:List Job)(c2:Int):Option Int :=
 rgl (Z2 c2) U3 s1 0 ()
theorem Qe{s1:List Job}{c2 r:Int}(H:O2 s1 c2=some r):Snd Tryz.prog Q4 [rV 11 (s1.map eJob),.fn Jt [.ept (.agg [iV c2]) 0]] (iV r) []:=by
 refine wS We [.t 4] ?_
 unfold O2 at H
 refine wG [.u 7 (.ln _ _ λ_=>lm s1 eJob)] λq3=>?_
 refine wR (λ(i4:Nat) (v4:Unit)=>⟨[(0,rV 11 (s1.map eJob)),(1,.fn Jt [.ept (.agg [iV c2]) 0]),(7,iV (s1.length:Int)),(8,iV (i4:Int))],[],[],[]⟩) H (λi4 x4 v4 I m k4 hxv4 hiv4 H N20=>?_) (λv4 I m H=>?_)
 .unfold Z2 at H
  refine wP (wt (ltT hiv4) ?_)
  refine wH [.u 14 (.ix _ _ _ λ_=>W0 eJob (Y1 hxv4)),.u 16 (.clsr _ _ _ _ _ (AEs.refl _) (by kernel_rfl) (λ_=>J0P x4 c2))] ?_
  refine M0 H ?_ ?_<;>intro H
  .refine wP ?_
   replace H:=sI H;subst H
   exact wE [(4,.d)]
  .exact wH [.w 18 (wi .i64 rfl hiv4 q3.1)] (wT (N20 () H))
 .unfold U3 at H
  refine wP (wf (ltF s1.length) ?_)
  obtain rfl:=sI H
  exact wP (wE [(4,.d)])
noncomputable def W17:L :=
 lf Tryz.prog W0A [] [] [] [] [] [] []
def MY(l1:List Job)(id2:Int):Option Int :=
 (O2 l1 id2).bind λn3=>some n3
theorem Q18{l1:List Job}{id2 r:Int}(H:MY l1 id2=some r):Snd Tryz.prog W0A [rV 11 (l1.map eJob),iV id2] (iV r) []:=by
 refine wS W17 [.t 4] ?_
 unfold MY at H
 obtain⟨n3,h3,H⟩:=bB H
 refine wH [.c 7 (Qe h3)] ?_
 replace H:=sI H;subst H
 exact wE [(4,.d)]
noncomputable def L0D:L :=
 lf Tryz.prog L0a [] [(64,1)] [] [] [] [] []
def MC(x4:Node)(_:Nat)(v4:(List (List Pt)))(k4:(List (List Pt))->Option (Room×Bool)):Option (Room×Bool) :=
 (appL 24 v4 [(Z5 x4.cap).1]).bind λxs5=>k4 xs5
def OC(s1:State)(v4:(List (List Pt))):Option (Room×Bool) :=
 (Mw (Room.mk s1.topo s1.up v4 ((Z5 s1.lic).1))).bind λy6=>some (y6,true)
def Xp(s1:State):Option (Room×Bool) :=
 (Yh s1.topo).bind λb2=>bif ((!b2)||((s1.up.length:Int)!=(s1.topo.nodes.length:Int)))||(!(Q0 s1.lic))then(some ((Room.mk (Topo.mk [] []) [] [] []),false))else(rgl MC (OC s1) s1.topo.nodes 0 [])
theorem M03{s1:State}{r:Room×Bool}(H:Xp s1=some r):Snd Tryz.prog L0a [V2 .rd s1] (.tup [.agg [nV 1 (r.1.topo.parents.map eI),nV 4 (r.1.topo.nodes.map V1),.sref 0,nV 1 (r.1.profs.map (J1 .nw)),nV 4 (r.1.lics.map ePt)],.bool r.2]) [⟨1,r.1.up.map eBo,false⟩]:=by
 refine wS L0D [.c 2 5 true,.t 3] ?_
 unfold Xp at H
 obtain⟨b2,h2,H⟩:=bB H
 refine wH [.c 16 (QV h2),.g 21 [((!b2),false)] (.ln _ _ λ_=>lm s1.up eBo),.g 25 [((!b2),false)] (.ln _ _ λ_=>lm s1.topo.nodes V1),.g 31 [(((!b2)||((s1.up.length:Int)!=(s1.topo.nodes.length:Int))),false)] (.call _ _ _ _ _ (AEs.refl _) (λ_=>Y5 s1.lic))] ?_
 refine M0 H ?_ ?_<;>intro H
 .refine wP ?_
  replace H:=sI H;subst H
  exact wN [(2,.d),(3,.d)] [(2,[.n 1,.n 4,.d,.n 1,.n 4])] [] [] [none] [⟨_,nw_I ([]:List Int)⟩,⟨_,L2 ([]:List Node)⟩,⟨_,Q9 ([]:List (List Pt))⟩,⟨_,Wl ([]:List Pt)⟩]
 .refine wG [.u 38 (.ln _ _ λ_=>lm s1.topo.nodes V1)] λq3=>?_
  refine X05 (λ(i4:Nat) (v4:(List (List Pt)))=>⟨[(1,.ptr 1 0),(2,.ptr 2 0),(4,.ptr 4 0),(37,rV 4 (s1.topo.nodes.map V1)),(38,iV (s1.topo.nodes.length:Int)),(39,iV (i4:Int))],[],[(1,(V2 .rd s1).cells),(2,[.nl,.nl,.nl,.nl,.nl]),(4,[rV 1 (s1.topo.parents.map eI),rV 4 (s1.topo.nodes.map V1),rV 1 (s1.up.map eBo),.sref 524000,.nl])],[(524000,⟨1,v4.map (J1 .nw),false⟩)]⟩) [] [(4,[.d,.d,.d,.z 524000,.d])] [(524000,(none,1))] [] (by kernel_rfl) (by kernel_rfl) H (λi4 x4 v4 I m k4 hxv4 hiv4 H N24=>?_) (λv4 I m H=>?_)
  .unfold MC at H
   refine wP (wt (ltT hiv4) ?_)
   obtain⟨xs5,h5,H⟩:=bB H
   exact wH [.u 41 (.ix _ _ _ λ_=>W0 V1 (Y1 hxv4)),.c 46 (O07 x4.cap),.u 53 (.ap _ _ _ _ λ_=>L0 (J1 .nw) h5),.w 55 (wi .i64 rfl hiv4 q3.1)] (wT (N24 _ H))
  .unfold OC at H
   refine wP (wf (ltF s1.topo.nodes.length) ?_)
   obtain⟨y6,h6,H⟩:=bB H
   refine wH [.c 59 (O07 s1.lic),.u 64 (.call _ _ _ _ _ (AEs.of (xs:=[.agg [rV 1 (s1.topo.parents.map eI),rV 4 (s1.topo.nodes.map V1),rV 1 (s1.up.map eBo),rV 1 (v4.map (J1 .nw)),rV 4 (((Z5 s1.lic).1).map ePt)]]) (by simp)) (λ_=>L06 h6))] ?_
   replace H:=sI H;subst H
   exact wN [(2,.d),(3,.d)] [(2,[.d,.d,.d,.f,.d])] [(65000,some 65000,0)] [65001] [some 65000] [⟨_,nw_I y6.topo.parents⟩,⟨_,L2 y6.topo.nodes⟩,⟨_,Q9 y6.profs⟩,⟨_,Wl y6.lics⟩,⟨_,Mr y6.up⟩]
noncomputable def X0V:L :=
 lf Tryz.prog X0r [] [] [] [] [] [] []
def Jz(s1:State)(x4:Run)(_:Nat)(v4:Room)(k4:Room->Option (Room×Bool)):Option (Room×Bool) :=
 (Ow v4 x4.job x4.nodes).bind λb5=>bif ((((!b5)||(!(M3 x4.t)))||decide (s1.now<x4.t))||decide ((w64 (x4.t+x4.job.wall))<=s1.now))||decide (1000000000<(w64 (x4.t+x4.job.wall)))then(some ((Room.mk (Topo.mk [] []) [] [] []),false))else((Zn v4 (Job.mk x4.job.id x4.job.prio x4.job.nodes x4.job.need x4.job.lic (w64 ((w64 (x4.t+x4.job.wall))-s1.now)) x4.job.level) s1.now x4.nodes).bind λy6=>bif !y6.2 then(some ((Room.mk (Topo.mk [] []) [] [] []),false))else(k4 y6.1))
def X07(v4:Room):Option (Room×Bool) :=
 some (v4,true)
def L6(s1:State):Option (Room×Bool) :=
 (Xp s1).bind λy2=>bif (!y2.2)||(!(M3 s1.now))then(some ((Room.mk (Topo.mk [] []) [] [] []),false))else(rgl (Jz s1) X07 s1.runs 0 y2.1)
theorem LG{s1:State}{r:Room×Bool}(H:L6 s1=some r):Snd Tryz.prog X0r [V2 .rd s1] (.tup [Oe .nw r.1,.bool r.2]) []:=by
 refine wS X0V [.c 2 5 true,.t 3] ?_
 unfold L6 at H
 obtain⟨y2,h2,H⟩:=bB H
 refine wH [.c 14 (M03 h2),.g 22 [((!y2.2),false)] (.call _ _ _ _ _ (AEs.refl _) (λ_=>W7 s1.now))] ?_
 refine M0 H ?_ ?_<;>intro H
 .refine wP ?_
  replace H:=sI H;subst H
  exact wN [(2,.d),(3,.d)] [(2,[.n 1,.n 4,.n 1,.n 1,.n 4])] [] [] [] [⟨_,nw_I ([]:List Int)⟩,⟨_,L2 ([]:List Node)⟩,⟨_,Mr ([]:List Bool)⟩,⟨_,Q9 ([]:List (List Pt))⟩,⟨_,Wl ([]:List Pt)⟩]
 .refine wG [.u 28 (.ln _ _ λ_=>lm s1.runs (Z1 .rd))] λq3=>?_
  refine wR (λ(i4:Nat) (v4:Room)=>⟨[(1,.ptr 1 0),(2,.ptr 2 0),(4,.ptr 4 0),(27,rV 13 (s1.runs.map (Z1 .rd))),(28,iV (s1.runs.length:Int)),(29,iV (i4:Int))],[],[(1,(V2 .rd s1).cells),(2,[.nl,.nl,.nl,.nl,.nl]),(4,(Oe .nw v4).cells)],[]⟩) H (λi4 x4 v4 I m k4 hxv4 hiv4 H N46=>?_) (λv4 I m H=>?_)
  .unfold Jz at H
   refine wP (wt (ltT hiv4) ?_)
   obtain⟨b5,h5,H⟩:=bB H
   refine wH [.u 31 (.ix _ _ _ λ_=>W0 (Z1 .rd) (Y1 hxv4)),.u 44 (.call _ _ _ _ _ (AEs.of (xs:=[.agg [rV 1 (v4.topo.parents.map eI),rV 4 (v4.topo.nodes.map V1),rV 1 (v4.up.map eBo),rV 1 (v4.profs.map (J1 .nw)),rV 4 (v4.lics.map ePt)],.agg [iV x4.job.id,iV x4.job.prio,iV x4.job.nodes,iV x4.job.need.a,iV x4.job.need.b,iV x4.job.need.c,iV x4.job.lic.a,iV x4.job.lic.b,iV x4.job.lic.c,iV x4.job.wall,iV x4.job.level],rV 1 (x4.nodes.map eI)]) (by simp)) (λ_=>O06 h5)),.g 49 [((!b5),false)] (.call _ _ _ _ _ (AEs.refl _) (λ_=>W7 x4.t))] ?_
   refine M0 H ?_ ?_<;>intro H
   .refine wP ?_
    replace H:=sI H;subst H
    exact wN [(2,.d),(3,.d)] [(2,[.n 1,.n 4,.n 1,.n 1,.n 4])] [] [] [] [⟨_,nw_I ([]:List Int)⟩,⟨_,L2 ([]:List Node)⟩,⟨_,Mr ([]:List Bool)⟩,⟨_,Q9 ([]:List (List Pt))⟩,⟨_,Wl ([]:List Pt)⟩]
   .obtain⟨y6,h6,H⟩:=bB H
    refine wH [.u 84 (.call _ _ _ _ _ (AEs.of (xs:=[.agg [rV 1 (v4.topo.parents.map eI),rV 4 (v4.topo.nodes.map V1),rV 1 (v4.up.map eBo),rV 1 (v4.profs.map (J1 .nw)),rV 4 (v4.lics.map ePt)],.agg [iV x4.job.id,iV x4.job.prio,iV x4.job.nodes,iV x4.job.need.a,iV x4.job.need.b,iV x4.job.need.c,iV x4.job.lic.a,iV x4.job.lic.b,iV x4.job.lic.c,iV (w64 ((w64 (x4.t+x4.job.wall))-s1.now)),iV x4.job.level],iV s1.now,rV 1 (x4.nodes.map eI)]) (by simp)) (λ_=>V07 h6))] ?_
    refine M0 H ?_ ?_<;>intro H
    .refine wP ?_
     replace H:=sI H;subst H
     exact wN [(2,.d),(3,.d)] [(2,[.n 1,.n 4,.n 1,.n 1,.n 4])] [] [] [] [⟨_,nw_I ([]:List Int)⟩,⟨_,L2 ([]:List Node)⟩,⟨_,Mr ([]:List Bool)⟩,⟨_,Q9 ([]:List (List Pt))⟩,⟨_,Wl ([]:List Pt)⟩]
    .exact wH [.w 91 (wi .i64 rfl hiv4 q3.1)] (wT (N46 _ H))
  .unfold X07 at H
   refine wP (wf (ltF s1.runs.length) ?_)
   refine wP ?_
   replace H:=sI H;subst H
   exact wN [(2,.d),(3,.d)] [(2,[])] [] [] [] [⟨_,nw_I v4.topo.parents⟩,⟨_,L2 v4.topo.nodes⟩,⟨_,Mr v4.up⟩,⟨_,Q9 v4.profs⟩,⟨_,Wl v4.lics⟩]
noncomputable def U0N:L :=
 lf Tryz.prog M0h [6] [] [] [] [] [] []
def MJ(x4:Run)(_:Nat)(v4:List Job)(k4:List Job->Option (List Job)):Option (List Job) :=
 (appL 88 v4 [x4.job]).bind λxs5=>k4 xs5
def OJ(v4:List Job):Option (List Job) :=
 some v4
def Mf(s1:State):Option (List Job) :=
 (appL 88 ([]:List Job) s1.queue).bind λxs2=>rgl MJ OJ s1.runs 0 xs2
theorem Zy{s1:State}{r:(List Job)}(H:Mf s1=some r):Snd Tryz.prog M0h [V2 .rd s1] (nV 11 (r.map eJob)) []:=by
 refine wS U0N [.t 2] ?_
 unfold Mf at H
 obtain⟨xs2,h2,H⟩:=bB H
 refine wG [.u 9 (.ap _ _ _ _ λ_=>L0 eJob h2),.u 12 (.ln _ _ λ_=>lm s1.runs (Z1 .rd))] λq3=>?_
 refine wR (λ(i4:Nat) (v4:List Job)=>⟨[(3,.sref 6),(11,rV 13 (s1.runs.map (Z1 .rd))),(12,iV (s1.runs.length:Int)),(13,iV (i4:Int))],[],[],[(6,⟨11,v4.map eJob,false⟩)]⟩) H (λi4 x4 v4 I m k4 hxv4 hiv4 H N15=>?_) (λv4 I m H=>?_)
 .unfold MJ at H
  refine wP (wt (ltT hiv4) ?_)
  obtain⟨xs5,h5,H⟩:=bB H
  exact wH [.u 15 (.ix _ _ _ λ_=>W0 (Z1 .rd) (Y1 hxv4)),.u 21 (.ap _ _ _ _ λ_=>L0 eJob h5),.w 22 (wi .i64 rfl hiv4 q3.1)] (wT (N15 _ H))
 .unfold OJ at H
  refine wP (wf (ltF s1.runs.length) ?_)
  refine wP ?_
  replace H:=sI H;subst H
  exact wN [(2,.f)] [] [] [6] [] [⟨_,VC v4⟩]
noncomputable def Q0O:L :=
 lf Tryz.prog O0i [] [] [] [] [(13,12)] [] []
def Xv(s1:State)(x6:Run)(x8:Int)(i8:Nat)(_:Unit)(k8:Unit->Option Bool):Option Bool :=
 (idx s1.up x8).bind λe9=>(bif !e9 then some default else(bif decide (0<(i8:Int))then(idx x6.nodes (w64 ((i8:Int)-1)))else some default)).bind λe10=>bif (!e9)||(decide (0<(i8:Int))&&decide (x8<=e10))then(some false)else(k8 ())
def La(s1:State)(x6:Run)(k6:Unit->Option Bool)(_:Unit):Option Bool :=
 (Jv s1.topo x6.nodes).bind λn11=>(X9 s1.topo n11).bind λn12=>bif decide (x6.job.level<n12)then(some false)else(k6 ())
def Zv(s1:State)(x14:End)(_:Nat)(_:Unit)(k14:Unit->Option Bool):Option Bool :=
 bif ((((decide (x14.id<1)||decide (999<x14.id))||decide (x14.t<0))||decide (s1.now<x14.t))||decide (x14.why<1))||decide (4<x14.why)then(some false)else(k14 ())
def WK(_:Unit):Option Bool :=
 some true
def Yv(s1:State)(x6:Run)(_:Nat)(_:Unit)(k6:Unit->Option Bool):Option Bool :=
 rgl (Xv s1 x6) (La s1 x6 k6) x6.nodes 0 ()
def OK(s1:State)(_:Unit):Option Bool :=
 rgl (Zv s1) WK s1.ends 0 ()
def X6(s1:State):Option Bool :=
 (L6 s1).bind λy2=>(bif ((!y2.2)||decide (s1.depth<0))||decide (60<s1.depth)then some default else(Mf s1)).bind λy3=>(bif ((!y2.2)||decide (s1.depth<0))||decide (60<s1.depth)then some default else(Yn y3)).bind λb4=>bif ((((!y2.2)||decide (s1.depth<0))||decide (60<s1.depth))||(!b4))||decide (300<(s1.ends.length:Int))then(some false)else(rgl (Yv s1) (OK s1) s1.runs 0 ())
theorem Q6{s1:State}{r:Bool}(H:X6 s1=some r):Snd Tryz.prog O0i [V2 .rd s1] (.bool r) []:=by
 refine wS Q0O [.t 2] ?_
 unfold X6 at H
 obtain⟨y2,h2,y3,h3,b4,h4,H⟩:=bB3 H
 refine wH [.c 13 (LG h2),.g 30 [(_,false)] (.call _ _ _ _ _ (AEs.refl _) (λq=>Zy (bF q.1 h3))),.g 31 [(_,false)] (.call _ _ _ _ _ (AEs.refl _) (λq=>WP (bF q.1 h4))),.g 37 [(((((!y2.2)||decide (s1.depth<0))||decide (60<s1.depth))||(!b4)),false)] (.ln _ _ λ_=>lm s1.ends eEnd)] ?_
 refine M0 H ?_ ?_<;>intro H
 .obtain rfl:=sI H
  exact wP (wE [(2,.d)])
 .refine wG [.u 42 (.ln _ _ λ_=>lm s1.runs (Z1 .rd))] λq5=>?_
  refine wR (λ(i6:Nat) (v6:Unit)=>⟨[(1,.ptr 1 0),(41,rV 13 (s1.runs.map (Z1 .rd))),(42,iV (s1.runs.length:Int)),(43,iV (i6:Int))],[],[(1,(V2 .rd s1).cells)],[]⟩) H (λi6 x6 v6 I m k6 hxv6 hiv6 H N51=>?_) (λv6 I m H=>?_)
  .unfold Yv at H
   refine wP (wt (ltT hiv6) ?_)
   refine wG [.u 45 (.ix _ _ _ λ_=>W0 (Z1 .rd) (Y1 hxv6)),.u 49 (.ln _ _ λ_=>lm x6.nodes eI)] λq7=>?_
   refine wR (λ(i8:Nat) (v8:Unit)=>⟨[(1,.ptr 1 0),(6,.ptr 6 0),(41,rV 13 (s1.runs.map (Z1 .rd))),(42,iV (s1.runs.length:Int)),(43,iV (i6:Int)),(48,rV 1 (x6.nodes.map eI)),(49,iV (x6.nodes.length:Int)),(50,iV (i8:Int))],[],[(1,(V2 .rd s1).cells),(6,(Z1 .rd x6).cells)],[]⟩) H (λi8 x8 v8 I m k8 hxv8 hiv8 H N34=>?_) (λv8 I m H=>?_)
   .unfold Xv at H
    refine wP (wt (ltT hiv8) ?_)
    obtain⟨e9,h9,e10,h10,H⟩:=bB2 H
    refine wH [.u 53 (.ix _ _ _ λ_=>W0 eI (Y1 hxv8)),.u 58 (.ix _ _ _ λ_=>W0 eBo h9),.g 69 [(_,true),(_,false)] (.ix _ _ _ λq=>W0 eI (bT q.1 (bF q.2.1 h10)))] ?_
    refine M0 H ?_ ?_<;>intro H
    .obtain rfl:=sI H
     exact wP (wE [(2,.d)])
    .exact wH [.w 75 (wi .i64 rfl hiv8 q7.1)] (wT (N34 () H))
   .unfold La at H
    refine wP (wf (ltF x6.nodes.length) ?_)
    obtain⟨n11,h11,n12,h12,H⟩:=bB2 H
    refine wH [.c 82 (U0T h11),.c 83 (Ma h12)] ?_
    refine M0 H ?_ ?_<;>intro H
    .obtain rfl:=sI H
     exact wP (wE [(2,.d)])
    .exact wH [.w 88 (wi .i64 rfl hiv6 q5.1)] (wT (N51 () H))
  .unfold OK at H
   refine wP (wf (ltF s1.runs.length) ?_)
   refine wG [.u 91 (.ln _ _ λ_=>lm s1.ends eEnd)] λq13=>?_
   refine wR (λ(i14:Nat) (v14:Unit)=>⟨[(1,.ptr 1 0),(90,rV 3 (s1.ends.map eEnd)),(91,iV (s1.ends.length:Int)),(92,iV (i14:Int))],[],[(1,(V2 .rd s1).cells)],[]⟩) H (λi14 x14 v14 I m k14 hxv14 hiv14 H N73=>?_) (λv14 I m H=>?_)
   .unfold Zv at H
    refine wP (wt (ltT hiv14) ?_)
    refine wH [.u 94 (.ix _ _ _ λ_=>W0 eEnd (Y1 hxv14))] ?_
    refine M0 H ?_ ?_<;>intro H
    .obtain rfl:=sI H
     exact wP (wE [(2,.d)])
    .exact wH [.w 126 (wi .i64 rfl hiv14 q13.1)] (wT (N73 () H))
   .unfold WK at H
    refine wP (wf (ltF s1.ends.length) ?_)
    obtain rfl:=sI H
    exact wP (wE [(2,.d)])
noncomputable def Q0N:L :=
 lf Tryz.prog L0h [18,23,28,36,48] [(6,0),(10,0),(11,0),(15,0)] [] [] [(1,12)] [] [64819]
def Yu(x7:Run)(_:Nat)(v7:List Run)(k7:List Run->Option State):Option State :=
 (appL 8 ([]:List Int) x7.nodes).bind λxs8=>(appL 120 v7 [(Run.mk x7.job x7.t xs8)]).bind λxs9=>k7 xs9
def LJ(s1:State)(xs2:List Int)(xs3:List Node)(xs4:List Bool)(xs5:List Job)(v7:List Run):Option State :=
 (appL 24 ([]:List End) s1.ends).bind λxs10=>some (State.mk (Topo.mk xs2 xs3) xs4 s1.lic s1.depth s1.now xs5 v7 xs10)
def M9(s1:State):Option State :=
 (appL 8 ([]:List Int) s1.topo.parents).bind λxs2=>(appL 32 ([]:List Node) s1.topo.nodes).bind λxs3=>(appL 1 ([]:List Bool) s1.up).bind λxs4=>(appL 88 ([]:List Job) s1.queue).bind λxs5=>rgl Yu (LJ s1 xs2 xs3 xs4 xs5) s1.runs 0 []
theorem Xe{s1 r:State}(H:M9 s1=some r):Snd Tryz.prog L0h [V2 .rd s1] (.agg [nV 1 (r.topo.parents.map eI),nV 4 (r.topo.nodes.map V1),.sref 0,iV r.lic.a,iV r.lic.b,iV r.lic.c,iV r.depth,iV r.now,.sref 1,.sref 2,.sref 3]) [⟨1,r.up.map eBo,false⟩,⟨11,r.queue.map eJob,false⟩,⟨13,r.runs.map (Z1 .nw),false⟩,⟨3,r.ends.map eEnd,false⟩]:=by
 refine wS Q0N [.c 2 11 true] ?_
 unfold M9 at H
 obtain⟨xs2,h2,xs3,h3,xs4,h4,H⟩:=bB3 H
 obtain⟨xs5,h5,H⟩:=bB H
 refine wG [.u 10 (.ap _ _ _ _ λ_=>L0 eI h2),.u 15 (.ap _ _ _ _ λ_=>L0 V1 h3),.u 21 (.ap _ _ _ _ λ_=>L0 eBo h4),.u 26 (.ap _ _ _ _ λ_=>L0 eJob h5),.u 31 (.ln _ _ λ_=>lm s1.runs (Z1 .rd))] λq6=>?_
 refine wR (λ(i7:Nat) (v7:List Run)=>⟨[(1,.ptr 1 0),(2,.ptr 2 0),(3,.sref 28),(30,rV 13 (s1.runs.map (Z1 .rd))),(31,iV (s1.runs.length:Int)),(32,iV (i7:Int))],[],[(1,[nV 1 (xs2.map eI),nV 4 (xs3.map V1),.sref 18,iV s1.lic.a,iV s1.lic.b,iV s1.lic.c,iV s1.depth,iV s1.now,.sref 23,rV 13 (s1.runs.map (Z1 .rd)),rV 3 (s1.ends.map eEnd)]),(2,[.nl,.nl,.nl,iV 0,iV 0,iV 0,iV 0,iV 0,.nl,.nl,.nl])],[(18,⟨1,xs4.map eBo,false⟩),(23,⟨11,xs5.map eJob,false⟩),(28,⟨13,v7.map (Z1 .nw),false⟩)]⟩) H (λi7 x7 v7 I m k7 hxv7 hiv7 H N20=>?_) (λv7 I m H=>?_)
 .unfold Yu at H
  refine wP (wt (ltT hiv7) ?_)
  obtain⟨xs8,h8,H⟩:=bB H
  refine wH [.u 34 (.ix _ _ _ λ_=>W0 (Z1 .rd) (Y1 hxv7)),.u 39 (.ap _ _ _ _ λ_=>L0 eI h8)] ?_
  refine M1U [(39,.f)] [(5,[.d,.d,.d,.d,.d,.d,.d,.d,.d,.d,.d,.d,.f])] [36] (by kernel_rfl) ?_
  obtain⟨xs9,h9,H⟩:=bB H
  exact wH [.u 44 (.ap _ _ _ _ λ_=>L0 (Z1 .nw) h9),.w 45 (wi .i64 rfl hiv7 q6.1)] (wT (N20 _ H))
 .unfold LJ at H
  refine wP (wf (ltF s1.runs.length) ?_)
  obtain⟨xs10,h10,H⟩:=bB H
  refine wH [.u 51 (.ap _ _ _ _ λ_=>L0 eEnd h10)] ?_
  replace H:=sI H;subst H
  exact wN [(2,.d)] [(2,[])] [(18,some 18,0),(23,some 23,0),(28,some 28,0),(48,some 48,0)] [] [some 18,some 23,some 28,some 48] [⟨_,nw_I xs2⟩,⟨_,L2 xs3⟩,⟨_,Mr xs4⟩,⟨_,VC xs5⟩,⟨_,UE v7⟩,⟨_,VY xs10⟩]
noncomputable def J0E:L :=
 lf Tryz.prog U0b [] [(29,1)] [] [] [] [] []
def LD(_:Node)(_:Nat)(v5:List Bool)(k5:List Bool->Option (State×Bool)):Option (State×Bool) :=
 (appL 1 v5 [true]).bind λxs6=>k5 xs6
def MD(t1:Topo)(lic2:Vec)(depth3:Int)(v5:List Bool):Option (State×Bool) :=
 (X6 (State.mk t1 v5 lic2 depth3 0 [] [] [])).bind λb7=>bif !b7 then(some ((State.mk (Topo.mk [] []) [] (Vec.mk 0 0 0) 0 0 [] [] []),false))else((M9 (State.mk t1 v5 lic2 depth3 0 [] [] [])).bind λy8=>some (y8,true))
def Lz(t1:Topo)(lic2:Vec)(depth3:Int):Option (State×Bool) :=
 rgl LD (MD t1 lic2 depth3) t1.nodes 0 []
theorem U0C{t1:Topo}{lic2:Vec}{depth3:Int}{r:State×Bool}(H:Lz t1 lic2 depth3=some r):Snd Tryz.prog U0b [M4 .rd t1,eVec lic2,iV depth3] (.tup [.agg [nV 1 (r.1.topo.parents.map eI),nV 4 (r.1.topo.nodes.map V1),.sref 0,iV r.1.lic.a,iV r.1.lic.b,iV r.1.lic.c,iV r.1.depth,iV r.1.now,.sref 1,.sref 2,.sref 3],.bool r.2]) [⟨1,r.1.up.map eBo,false⟩,⟨11,r.1.queue.map eJob,false⟩,⟨13,r.1.runs.map (Z1 .nw),false⟩,⟨3,r.1.ends.map eEnd,false⟩]:=by
 refine wS J0E [.c 6 11 true,.t 7] ?_
 unfold Lz at H
 refine wG [.u 15 (.ln _ _ λ_=>lm t1.nodes V1)] λq4=>?_
 refine X05 (λ(i5:Nat) (v5:List Bool)=>⟨[(6,.ptr 6 0),(8,.ptr 8 0),(15,iV (t1.nodes.length:Int)),(16,iV (i5:Int))],[],[(6,[.nl,.nl,.nl,iV 0,iV 0,iV 0,iV 0,iV 0,.nl,.nl,.nl]),(8,[rV 1 (t1.parents.map eI),rV 4 (t1.nodes.map V1),.sref 297000,iV lic2.a,iV lic2.b,iV lic2.c,iV depth3,iV 0,.nl,.nl,.nl])],[(297000,⟨1,v5.map eBo,false⟩)]⟩) [] [(8,[.d,.d,.z 297000,.d,.d,.d,.d,.d,.d,.d,.d])] [(297000,(none,1))] [] (by kernel_rfl) (by kernel_rfl) H (λi5 x5 v5 I m k5 hxv5 hiv5 H N13=>?_) (λv5 I m H=>?_)
 .unfold LD at H
  refine wP (wt (ltT hiv5) ?_)
  obtain⟨xs6,h6,H⟩:=bB H
  exact wH [.u 21 (.ap _ _ _ _ λ_=>L0 eBo h6),.w 23 (wi .i64 rfl hiv5 q4.1)] (wT (N13 _ H))
 .unfold MD at H
  refine wP (wf (ltF t1.nodes.length) ?_)
  obtain⟨b7,h7,H⟩:=bB H
  refine wH [.c 25 (Q6 h7)] ?_
  refine M0 H ?_ ?_<;>intro H
  .refine wP ?_
   replace H:=sI H;subst H
   exact wN [(6,.d),(7,.d)] [(6,[.n 1,.n 4,.d,.d,.d,.d,.d,.d,.d,.d,.d])] [] [] [none,none,none,none] [⟨_,nw_I ([]:List Int)⟩,⟨_,L2 ([]:List Node)⟩]
  .obtain⟨y8,h8,H⟩:=bB H
   refine wH [.c 29 (Xe h8)] ?_
   replace H:=sI H;subst H
   exact wN [(6,.d),(7,.d)] [(6,[])] [(30000,some 30000,0),(30001,some 30001,0),(30002,some 30002,0),(30003,some 30003,0)] [] [some 30000,some 30001,some 30002,some 30003] [⟨_,nw_I y8.topo.parents⟩,⟨_,L2 y8.topo.nodes⟩,⟨_,Mr y8.up⟩,⟨_,VC y8.queue⟩,⟨_,UE y8.runs⟩,⟨_,VY y8.ends⟩]
noncomputable def Y0U:L :=
 lf Tryz.prog O0q [8] [] [] [] [] [] []
def Lx(id2:Int)(x4:Job)(_:Nat)(v4:List Job)(k4:List Job->Option (List Job)):Option (List Job) :=
 bif x4.id != id2 then((appL 88 v4 [x4]).bind λxs5=>k4 xs5)else(k4 v4)
def LO(v4:List Job):Option (List Job) :=
 some v4
def Vm(l1:List Job)(id2:Int):Option (List Job) :=
 rgl (Lx id2) LO l1 0 []
theorem M0f{l1:List Job}{id2:Int}{r:(List Job)}(H:Vm l1 id2=some r):Snd Tryz.prog O0q [rV 11 (l1.map eJob),iV id2] (.sref 0) [⟨11,r.map eJob,false⟩]:=by
 refine wS Y0U [.t 4] ?_
 unfold Vm at H
 refine wG [.u 10 (.ln _ _ λ_=>lm l1 eJob)] λq3=>?_
 refine wR (λ(i4:Nat) (v4:List Job)=>⟨[(1,iV id2),(5,.sref 8),(9,rV 11 (l1.map eJob)),(10,iV (l1.length:Int)),(11,iV (i4:Int))],[],[],[(8,⟨11,v4.map eJob,false⟩)]⟩) H (λi4 x4 v4 I m k4 hxv4 hiv4 H N19=>?_) (λv4 I m H=>?_)
 .unfold Lx at H
  refine wP (wt (ltT hiv4) ?_)
  refine wH [.u 13 (.ix _ _ _ λ_=>W0 eJob (Y1 hxv4))] ?_
  refine M0 H ?_ ?_<;>intro H
  .obtain⟨xs5,h5,H⟩:=bB H
   exact wH [.u 22 (.ap _ _ _ _ λ_=>L0 eJob h5),.w 23 (wi .i64 rfl hiv4 q3.1)] (wT (N19 _ H))
  .exact wH [.w 23 (wi .i64 rfl hiv4 q3.1)] (wT (N19 _ H))
 .unfold LO at H
  refine wP (wf (ltF l1.length) ?_)
  refine wP ?_
  replace H:=sI H;subst H
  exact wN [(4,.d)] [] [(8,some 8,0)] [] [some 8] [⟨_,VC v4⟩]
noncomputable def V0N:L :=
 lf Tryz.prog O0h [] [] [] [] [] [] []
def WJ(x3:Run)(_:Nat)(v3:Int)(k3:Int->Option Int):Option Int :=
 bif decide (v3<0)||decide ((w64 (x3.t+x3.job.wall))<v3)then(k3 (w64 (x3.t+x3.job.wall)))else(k3 v3)
def O03(v3:Int):Option Int :=
 some v3
def Uw(s1:State):Option Int :=
 rgl WJ O03 s1.runs 0 (-1)
theorem U06{s1:State}{r:Int}(H:Uw s1=some r):Snd Tryz.prog O0h [V2 .rd s1] (iV r) []:=by
 refine wS V0N [.t 2] ?_
 unfold Uw at H
 refine wG [.u 8 (.ln _ _ λ_=>lm s1.runs (Z1 .rd))] λq2=>?_
 refine wR (λ(i3:Nat) (v3:Int)=>⟨[(3,iV v3),(7,rV 13 (s1.runs.map (Z1 .rd))),(8,iV (s1.runs.length:Int)),(9,iV (i3:Int))],[],[],[]⟩) H (λi3 x3 v3 I m k3 hxv3 hiv3 H N19=>?_) (λv3 I m H=>?_)
 .unfold WJ at H
  refine wP (wt (ltT hiv3) ?_)
  refine wH [.u 11 (.ix _ _ _ λ_=>W0 (Z1 .rd) (Y1 hxv3))] ?_
  refine M0 H ?_ ?_<;>intro H
  .exact wH [.w 31 (wi .i64 rfl hiv3 q2.1)] (wT (N19 _ H))
  .exact wH [.w 31 (wi .i64 rfl hiv3 q2.1)] (wT (N19 _ H))
 .unfold O03 at H
  refine wP (wf (ltF s1.runs.length) ?_)
  obtain rfl:=sI H
  exact wP (wE [(2,.d)])
noncomputable def J0e:L :=
 lf Tryz.prog Y03 [41,42] [] [] [] [] [] []
def O0e:List Rv:=[.t 8,.t 9,.t 10]
theorem Q0f:Qt Tryz.prog Y03 4 J0e O0e=true:=by kernel_rfl
def Ug(now2 depth4:Int)(x11:Job)(_:Nat)(v11:Room×(List Held)×(List Held))(k11:(Room×(List Held)×(List Held))->Option ((List Held)×(List Held)×Bool)):Option ((List Held)×(List Held)×Bool) :=
 (Qg v11.1 x11 now2).bind λy12=>bif (!y12.2.2)||(decide (now2<y12.1)&&decide (depth4<=(v11.2.2.length:Int)))then(k11 (v11.1,v11.2.1,v11.2.2))else((Zn v11.1 x11 y12.1 y12.2.1).bind λy13=>bif !y13.2 then(k11 (v11.1,v11.2.1,v11.2.2))else(bif y12.1==now2 then((appL 40 v11.2.1 [(Held.mk x11.id y12.1 y12.2.1)]).bind λxs14=>k11 (y13.1,xs14,v11.2.2))else((appL 40 v11.2.2 [(Held.mk x11.id y12.1 y12.2.1)]).bind λxs15=>k11 (y13.1,v11.2.1,xs15))))
def Un(v11:Room×(List Held)×(List Held)):Option ((List Held)×(List Held)×Bool) :=
 some (v11.2.1,v11.2.2,true)
def Qi(r1:Room)(now2:Int)(l3:List Job)(depth4:Int):Option ((List Held)×(List Held)×Bool) :=
 (Jm r1).bind λb5=>(bif !b5 then some default else(Yn l3)).bind λb6=>bif ((((!b5)||(!b6))||(!(M3 now2)))||decide (depth4<0))||decide (60<depth4)then(some ([],[],false))else((ZY l3).bind λy9=>rgl (Ug now2 depth4) Un y9 0 (r1,[],[]))
set_option maxRecDepth 20000 in
theorem W0e{r1:Room}{now2:Int}{l3:List Job}{depth4:Int}{r:(List Held)×(List Held)×Bool}(H:Qi r1 now2 l3 depth4=some r):ConD Tryz.prog Y03 [Oe .nw r1,iV now2,.sref 0,iV depth4] [] [(11,l3.map eJob)] (.tup [.sref 1,.sref 2,.bool r.2.2]) [] [some (l3.map eJob)] [(3,r.1.map (Y0a .nw)),(3,r.2.1.map (Y0a .nw))]:=by
 refine JW [true] Q0f rfl (by kernel_rfl) ?_
 unfold Qi at H
 obtain⟨b5,h5,b6,h6,H⟩:=bB2 H
 refine wH [.u 21 (.call _ _ _ _ _ (AEs.of (xs:=[.agg [rV 1 (r1.topo.parents.map eI),rV 4 (r1.topo.nodes.map V1),rV 1 (r1.up.map eBo),rV 1 (r1.profs.map (J1 .nw)),rV 4 (r1.lics.map ePt)]]) (by simp)) (λ_=>OG h5)),.g 25 [(_,false)] (.call _ _ _ _ _ (AEs.refl _) (λq=>WP (bF q.1 h6))),.g 30 [(((!b5)||(!b6)),false)] (.call _ _ _ _ _ (AEs.refl _) (λ_=>W7 now2))] ?_
 refine M0 H ?_ ?_<;>intro H
 .refine wP ?_
  replace H:=sI H;subst H
  exact W3 [(8,.z 700000007),(9,.z 700000008),(10,.d)] [] [(700000007,none,3),(700000008,none,3),(1000000000,some 1000000000,0)] [] [700000007,700000008] (by kernel_rfl)
 .obtain⟨y9,h9,H⟩:=bB H
  refine wG [.c 44 (W13 h9),.u 45 (.ln _ _ λ_=>lm y9 eJob)] λq10=>?_
  refine wR (λ(i11:Nat) (v11:Room×(List Held)×(List Held))=>⟨[(1,iV now2),(3,iV depth4),(4,.ptr 4 0),(11,.sref 41),(12,.sref 42),(44,nV 11 (y9.map eJob)),(45,iV (y9.length:Int)),(46,iV (i11:Int))],[],[(4,(Oe .nw v11.1).cells)],[(41,⟨3,v11.2.1.map (Y0a .nw),false⟩),(42,⟨3,v11.2.2.map (Y0a .nw),false⟩),(1000000000,⟨11,l3.map eJob,false⟩)]⟩) H (λi11 x11 v11 I m k11 hxv11 hiv11 H N45=>?_) (λv11 I m H=>?_)
  .unfold Ug at H
   refine wP (wt (ltT hiv11) ?_)
   obtain⟨y12,h12,H⟩:=bB H
   refine wH [.u 48 (.ix _ _ _ λ_=>W0 eJob (Y1 hxv11)),.u 54 (.call _ _ _ _ _ (AEs.of (xs:=[.agg [rV 1 (v11.1.topo.parents.map eI),rV 4 (v11.1.topo.nodes.map V1),rV 1 (v11.1.up.map eBo),rV 1 (v11.1.profs.map (J1 .nw)),rV 4 (v11.1.lics.map ePt)],.agg [iV x11.id,iV x11.prio,iV x11.nodes,iV x11.need.a,iV x11.need.b,iV x11.need.c,iV x11.lic.a,iV x11.lic.b,iV x11.lic.c,iV x11.wall,iV x11.level],iV now2]) (by simp)) (λ_=>YL h12)),.g 66 [((decide (now2<y12.1)),true),((!y12.2.2),false)] (.ln _ _ λ_=>lm v11.2.2 (Y0a .nw))] ?_
   refine M0 H ?_ ?_<;>intro H
   .exact wH [.w 101 (wi .i64 rfl hiv11 q10.1)] (wT (N45 _ H))
   .obtain⟨y13,h13,H⟩:=bB H
    refine wH [.u 76 (.call _ _ _ _ _ (AEs.of (xs:=[.agg [rV 1 (v11.1.topo.parents.map eI),rV 4 (v11.1.topo.nodes.map V1),rV 1 (v11.1.up.map eBo),rV 1 (v11.1.profs.map (J1 .nw)),rV 4 (v11.1.lics.map ePt)],.agg [iV x11.id,iV x11.prio,iV x11.nodes,iV x11.need.a,iV x11.need.b,iV x11.need.c,iV x11.lic.a,iV x11.lic.b,iV x11.lic.c,iV x11.wall,iV x11.level],iV y12.1,rV 1 (y12.2.1.map eI)]) (by simp)) (λ_=>V07 h13))] ?_
    refine M0 H ?_ ?_<;>intro H
    .exact wH [.w 101 (wi .i64 rfl hiv11 q10.1)] (wT (N45 _ H))
    .refine wP ?_
     refine M0 H ?_ ?_<;>intro H
     .obtain⟨xs14,h14,H⟩:=bB H
      exact wH [.u 92 (.ap _ _ _ _ λ_=>L0 (Y0a .nw) h14),.w 101 (wi .i64 rfl hiv11 q10.1)] (wT (N45 _ H))
     .obtain⟨xs15,h15,H⟩:=bB H
      exact wH [.u 100 (.ap _ _ _ _ λ_=>L0 (Y0a .nw) h15),.w 101 (wi .i64 rfl hiv11 q10.1)] (wT (N45 _ H))
  .unfold Un at H
   refine wP (wf (ltF y9.length) ?_)
   refine wP ?_
   replace H:=sI H;subst H
   exact W3 [(8,.d),(9,.d),(10,.d)] [] [(41,some 41,0),(42,some 42,0),(1000000000,some 1000000000,0)] [] [41,42] (by kernel_rfl)
noncomputable def Q01:L :=
 lf Tryz.prog L7 [] [(25,2),(47,1)] [] [] [] [] []
def M00:List Rv:=[.c 2 11 true]
theorem X02:Qt Tryz.prog L7 1 Q01 M00=true:=by kernel_rfl
def Va(s1:State)(x5:Held)(_:Nat)(v5:(List Job)×(List Run))(k5:((List Job)×(List Run))->Option State):Option State :=
 (Q8 v5.1 x5.id).bind λy6=>(Vm v5.1 x5.id).bind λy7=>(appL 120 v5.2 [(Run.mk y6.1 s1.now x5.nodes)]).bind λxs8=>k5 (y7,xs8)
def Vw(s1:State)(v5:(List Job)×(List Run)):Option State :=
 some (State.mk s1.topo s1.up s1.lic s1.depth s1.now v5.1 v5.2 s1.ends)
def U2(s1:State):Option State :=
 (L6 s1).bind λy2=>(Qi y2.1 s1.now s1.queue s1.depth).bind λy3=>rgl (Va s1) (Vw s1) y3.1 0 (s1.queue,s1.runs)
set_option maxRecDepth 20000 in
theorem W5{s1 r:State}(H:U2 s1=some r):ConD Tryz.prog L7 [.agg [nV 1 (s1.topo.parents.map eI),nV 4 (s1.topo.nodes.map V1),.sref 0,iV s1.lic.a,iV s1.lic.b,iV s1.lic.c,iV s1.depth,iV s1.now,.sref 1,.sref 2,.sref 3]] [] [(1,s1.up.map eBo),(11,s1.queue.map eJob),(13,s1.runs.map (Z1 .nw)),(3,s1.ends.map eEnd)] (.agg [nV 1 (r.topo.parents.map eI),nV 4 (r.topo.nodes.map V1),.sref 4,iV r.lic.a,iV r.lic.b,iV r.lic.c,iV r.depth,iV r.now,.sref 5,.sref 6,.sref 7]) [] [none,none,none,none] [(1,r.up.map eBo),(11,r.queue.map eJob),(13,r.runs.map (Z1 .nw)),(3,r.ends.map eEnd)]:=by
 refine JW [false,false,false,false] X02 rfl (by kernel_rfl) ?_
 unfold U2 at H
 obtain⟨y2,h2,y3,h3,H⟩:=bB2 H
 refine wG [.u 14 (.call _ _ _ _ _ (AEs.of (xs:=[.agg [rV 1 (s1.topo.parents.map eI),rV 4 (s1.topo.nodes.map V1),rV 1 (s1.up.map eBo),iV s1.lic.a,iV s1.lic.b,iV s1.lic.c,iV s1.depth,iV s1.now,rV 11 (s1.queue.map eJob),rV 13 (s1.runs.map (Z1 .nw)),rV 3 (s1.ends.map eEnd)]]) (by simp)) (λ_=>LG h2)),.u 25 (.cw Y03 [] [500000001] [] [(11,s1.queue.map eJob)] [Oe .nw y2.1,iV s1.now,.sref 0,iV s1.depth] _ _ _ _ _ (GEs.of [true,false,true,false] (by simp)) (by simp) (by simp) (by simp) (λ_=>W0e h3)),.u 30 (.ln _ _ λ_=>lm y3.1 (Y0a .nw))] λq4=>?_
 refine wR (λ(i5:Nat) (v5:(List Job)×(List Run))=>⟨[(1,.ptr 1 0),(2,.ptr 2 0),(29,.sref 26000),(30,iV (y3.1.length:Int)),(31,iV (i5:Int))],[],[(1,[nV 1 (s1.topo.parents.map eI),nV 4 (s1.topo.nodes.map V1),.sref 500000000,iV s1.lic.a,iV s1.lic.b,iV s1.lic.c,iV s1.depth,iV s1.now,.sref 500000001,.sref 500000002,.sref 500000003]),(2,[.nl,.nl,.nl,iV 0,iV 0,iV 0,iV 0,iV 0,.nl,.nl,.nl])],[(500000000,⟨1,s1.up.map eBo,false⟩),(500000001,⟨11,v5.1.map eJob,false⟩),(500000002,⟨13,v5.2.map (Z1 .nw),false⟩),(500000003,⟨3,s1.ends.map eEnd,false⟩),(26000,⟨3,y3.1.map (Y0a .nw),false⟩)]⟩) H (λi5 x5 v5 I m k5 hxv5 hiv5 H N20=>?_) (λv5 I m H=>?_)
 .unfold Va at H
  refine wP (wt (ltT hiv5) ?_)
  obtain⟨y6,h6,y7,h7,xs8,h8,H⟩:=bB3 H
  refine wH [.u 33 (.ix _ _ _ λ_=>W0 (Y0a .nw) (Y1 hxv5)),.u 34 (.el _ _ _ λ_=>gm (Y0a .nw) (W4 (Y1 hxv5))),.c 40 (Um h6),.c 47 (M0f h7),.u 58 (.ap _ _ _ _ λ_=>L0 (Z1 .nw) h8),.w 60 (wi .i64 rfl hiv5 q4.1)] ?_
  exact wU (N20 _ H) [] [] [(500000001,(some 48000,0))] []
 .unfold Vw at H
  refine wP (wf (ltF y3.1.length) ?_)
  refine wP ?_
  replace H:=sI H;subst H
  exact W3 [(2,.d)] [(2,[])] [(500000000,some 500000000,0),(500000001,some 500000001,0),(500000002,some 500000002,0),(500000003,some 500000003,0)] [] [500000000,500000001,500000002,500000003] (by kernel_rfl)
noncomputable def Z17:L :=
 lf Tryz.prog Y0A [40] [(26,1),(79,2)] [] [] [] [] []
def WG(v6:State×Int)(x8:Run)(_:Nat)(v8:(List End)×(List Run))(k8:((List End)×(List Run))->Option (State×Bool)):Option (State×Bool) :=
 bif (w64 (x8.t+x8.job.wall))==v6.2 then((appL 24 v8.1 [(End.mk x8.job.id v6.2 1)]).bind λxs9=>k8 (xs9,v8.2))else((appL 120 v8.2 [x8]).bind λxs10=>k8 (v8.1,xs10))
def UV(v6:State×Int)(k6:(State×Int)->Option (State×Bool))(v8:(List End)×(List Run)):Option (State×Bool) :=
 bif decide (300<(v8.1.length:Int))then(some ((State.mk (Topo.mk [] []) [] (Vec.mk 0 0 0) 0 0 [] [] []),false))else((U2 (State.mk v6.1.topo v6.1.up v6.1.lic v6.1.depth v6.2 v6.1.queue v8.2 v8.1)).bind λy12=>(Uw y12).bind λn13=>k6 (y12,n13))
def Us(t2:Int)(v6:State×Int)(k6:(State×Int)->Option (State×Bool)):Option (State×Bool) :=
 bif decide (0<=v6.2)&&decide (v6.2<=t2)then(rgl (WG v6) (UV v6 k6) v6.1.runs 0 (v6.1.ends,[]))else(some ((State.mk v6.1.topo v6.1.up v6.1.lic v6.1.depth t2 v6.1.queue v6.1.runs v6.1.ends),true))
def JX(s1:State)(t2:Int):Option (State×Bool) :=
 (X6 s1).bind λb3=>bif ((!b3)||(!(M3 t2)))||decide (t2<s1.now)then(some ((State.mk (Topo.mk [] []) [] (Vec.mk 0 0 0) 0 0 [] [] []),false))else((M9 s1).bind λy4=>(Uw y4).bind λn5=>whl (Us t2) 9223372036854775807 (y4,n5))
theorem Q13{s1:State}{t2:Int}{r:State×Bool}(H:JX s1 t2=some r):Snd Tryz.prog Y0A [V2 .rd s1,iV t2] (.tup [.agg [nV 1 (r.1.topo.parents.map eI),nV 4 (r.1.topo.nodes.map V1),.sref 0,iV r.1.lic.a,iV r.1.lic.b,iV r.1.lic.c,iV r.1.depth,iV r.1.now,.sref 1,.sref 2,.sref 3],.bool r.2]) [⟨1,r.1.up.map eBo,false⟩,⟨11,r.1.queue.map eJob,false⟩,⟨13,r.1.runs.map (Z1 .nw),false⟩,⟨3,r.1.ends.map eEnd,false⟩]:=by
 refine wS Z17 [.c 4 11 true,.t 5] ?_
 unfold JX at H
 obtain⟨b3,h3,H⟩:=bB H
 refine wH [.c 11 (Q6 h3),.g 15 [((!b3),false)] (.call _ _ _ _ _ (AEs.refl _) (λ_=>W7 t2))] ?_
 refine M0 H ?_ ?_<;>intro H
 .refine wP ?_
  replace H:=sI H;subst H
  exact wN [(4,.d),(5,.d)] [(4,[.n 1,.n 4,.d,.d,.d,.d,.d,.d,.d,.d,.d])] [] [] [none,none,none,none] [⟨_,nw_I ([]:List Int)⟩,⟨_,L2 ([]:List Node)⟩]
 .obtain⟨y4,h4,n5,h5,H⟩:=bB2 H
  refine wH [.c 26 (Xe h4),.u 28 (.call _ _ _ _ _ (AEs.of (xs:=[.agg [rV 1 (y4.topo.parents.map eI),rV 4 (y4.topo.nodes.map V1),rV 1 (y4.up.map eBo),iV y4.lic.a,iV y4.lic.b,iV y4.lic.c,iV y4.depth,iV y4.now,rV 11 (y4.queue.map eJob),rV 13 (y4.runs.map (Z1 .nw)),rV 3 (y4.ends.map eEnd)]]) (by simp)) (λ_=>U06 h5))] ?_
  refine wW (λ(v6:State×Int)=>⟨[(1,iV t2),(2,.ptr 2 0),(4,.ptr 4 0),(6,iV v6.2)],[],[(2,[nV 1 (v6.1.topo.parents.map eI),nV 4 (v6.1.topo.nodes.map V1),.sref 27000,iV v6.1.lic.a,iV v6.1.lic.b,iV v6.1.lic.c,iV v6.1.depth,iV v6.1.now,.sref 27001,.sref 27002,.sref 27003]),(4,[.nl,.nl,.nl,iV 0,iV 0,iV 0,iV 0,iV 0,.nl,.nl,.nl])],[(27000,⟨1,v6.1.up.map eBo,false⟩),(27001,⟨11,v6.1.queue.map eJob,false⟩),(27002,⟨13,v6.1.runs.map (Z1 .nw),false⟩),(27003,⟨3,v6.1.ends.map eEnd,false⟩)]⟩) H (λv6 I m k6 H N55=>?_)
  unfold Us at H
  refine wP ?_
  refine M0 H ?_ ?_<;>intro H
  .refine wG [.u 43 (.ln _ _ λ_=>lm v6.1.runs (Z1 .nw))] λq7=>?_
   refine wR (λ(i8:Nat) (v8:(List End)×(List Run))=>⟨[(1,iV t2),(2,.ptr 2 0),(4,.ptr 4 0),(6,iV v6.2),(7,.sref 40),(42,.sref 27002),(43,iV (v6.1.runs.length:Int)),(44,iV (i8:Int))],[],[(2,[nV 1 (v6.1.topo.parents.map eI),nV 4 (v6.1.topo.nodes.map V1),.sref 27000,iV v6.1.lic.a,iV v6.1.lic.b,iV v6.1.lic.c,iV v6.1.depth,iV v6.2,.sref 27001,.sref 27002,.sref 27003]),(4,[.nl,.nl,.nl,iV 0,iV 0,iV 0,iV 0,iV 0,.nl,.nl,.nl])],[(27000,⟨1,v6.1.up.map eBo,false⟩),(27001,⟨11,v6.1.queue.map eJob,false⟩),(27002,⟨13,v6.1.runs.map (Z1 .nw),false⟩),(27003,⟨3,v8.1.map eEnd,false⟩),(40,⟨13,v8.2.map (Z1 .nw),false⟩)]⟩) H (λi8 x8 v8 I m k8 hxv8 hiv8 H N34=>?_) (λv8 I m H=>?_)
   .unfold WG at H
    refine wP (wt (ltT hiv8) ?_)
    refine wH [.u 46 (.ix _ _ _ λ_=>W0 (Z1 .nw) (Y1 hxv8)),.u 47 (.el _ _ _ λ_=>gm (Z1 .nw) (W4 (Y1 hxv8)))] ?_
    refine M0 H ?_ ?_<;>intro H
    .obtain⟨xs9,h9,H⟩:=bB H
     exact wH [.u 64 (.ap _ _ _ _ λ_=>L0 eEnd h9),.w 70 (wi .i64 rfl hiv8 q7.1)] (wT (N34 _ H))
    .obtain⟨xs10,h10,H⟩:=bB H
     exact wH [.u 69 (.ap _ _ _ _ λ_=>L0 (Z1 .nw) h10),.w 70 (wi .i64 rfl hiv8 q7.1)] (wT (N34 _ H))
   .unfold UV at H
    refine wP (wf (ltF v6.1.runs.length) ?_)
    refine wG [.u 75 (.ln _ _ λ_=>lm v8.1 eEnd)] λq11=>?_
    refine M0 H ?_ ?_<;>intro H
    .refine wP ?_
     replace H:=sI H;subst H
     exact wN [(4,.d),(5,.d)] [(4,[.n 1,.n 4,.d,.d,.d,.d,.d,.d,.d,.d,.d])] [] [] [none,none,none,none] [⟨_,nw_I ([]:List Int)⟩,⟨_,L2 ([]:List Node)⟩]
    .obtain⟨y12,h12,n13,h13,H⟩:=bB2 H
     refine wH [.u 79 (.cw L7 [] [27000,27001,40,27003] [] [(1,v6.1.up.map eBo),(11,v6.1.queue.map eJob),(13,v8.2.map (Z1 .nw)),(3,v8.1.map eEnd)] [.agg [nV 1 (v6.1.topo.parents.map eI),nV 4 (v6.1.topo.nodes.map V1),.sref 0,iV v6.1.lic.a,iV v6.1.lic.b,iV v6.1.lic.c,iV v6.1.depth,iV v6.2,.sref 1,.sref 2,.sref 3]] _ _ _ _ _ (GEs.of [true] (by simp)) (by simp) (by simp) (by simp) (λ_=>have k:=W5 h12;k)),.u 37 (.call _ _ _ _ _ (AEs.of (xs:=[.agg [rV 1 (y12.topo.parents.map eI),rV 4 (y12.topo.nodes.map V1),rV 1 (y12.up.map eBo),iV y12.lic.a,iV y12.lic.b,iV y12.lic.c,iV y12.depth,iV y12.now,rV 11 (y12.queue.map eJob),rV 13 (y12.runs.map (Z1 .nw)),rV 3 (y12.ends.map eEnd)]]) (by simp)) (λ_=>U06 h13))] ?_
     exact wU (N55 _ H) [] [] [(27000,(some 80000,0)),(27001,(some 80001,0)),(27002,(some 80002,0)),(27003,(some 80003,0))] []
  .refine wP ?_
   replace H:=sI H;subst H
   exact wN [(4,.d),(5,.d)] [(4,[])] [(27000,some 27000,0),(27001,some 27001,0),(27002,some 27002,0),(27003,some 27003,0)] [] [some 27000,some 27001,some 27002,some 27003] [⟨_,nw_I v6.1.topo.parents⟩,⟨_,L2 v6.1.topo.nodes⟩,⟨_,Mr v6.1.up⟩,⟨_,VC v6.1.queue⟩,⟨_,UE v6.1.runs⟩,⟨_,VY v6.1.ends⟩]
noncomputable def J0D:L :=
 lf Tryz.prog J0a [] [(13,1)] [] [] [] [] []
def JC(_:Bool)(i5:Nat)(v5:List Bool)(k5:List Bool->Option Bool):Option Bool :=
 (idx v5 (i5:Int)).bind λ_=>k5 (v5.set (i5:Int).toNat true)
def LC(j2:Job)(y3:Room×Bool)(v5:List Bool):Option Bool :=
 (Qg (Room.mk y3.1.topo v5 y3.1.profs y3.1.lics) j2 0).bind λy7=>some (y3.2&&y7.2.2)
def Uy(s1:State)(j2:Job):Option Bool :=
 (Xp s1).bind λy3=>rgl JC (LC j2 y3) y3.1.up 0 y3.1.up
theorem Y0B{s1:State}{j2:Job}{r:Bool}(H:Uy s1 j2=some r):Snd Tryz.prog J0a [V2 .rd s1,eJob j2] (.bool r) []:=by
 refine wS J0D [.t 4] ?_
 unfold Uy at H
 obtain⟨y3,h3,H⟩:=bB H
 refine wG [.c 13 (M03 h3),.u 18 (.ln _ _ λ_=>lm y3.1.up eBo)] λq4=>?_
 refine wR (λ(i5:Nat) (v5:List Bool)=>⟨[(3,.ptr 3 0),(5,.ptr 5 0),(6,.bool y3.2),(18,iV (y3.1.up.length:Int)),(19,iV (i5:Int))],[],[(3,(eJob j2).cells),(5,[nV 1 (y3.1.topo.parents.map eI),nV 4 (y3.1.topo.nodes.map V1),.sref 14000,nV 1 (y3.1.profs.map (J1 .nw)),nV 4 (y3.1.lics.map ePt)])],[(14000,⟨1,v5.map eBo,false⟩)]⟩) H (λi5 x5 v5 I m k5 hxv5 hiv5 H N15=>?_) (λv5 I m H=>?_)
 .unfold JC at H
  refine wP (wt (ltT hiv5) ?_)
  obtain⟨e6,h6,H⟩:=bB H
  exact wH [.u 25 (.ix _ _ _ λ_=>W0 eBo h6),.u 1000000 (.sto _ _ _ (eBo true) _ (λ_=>gm eBo (W4 h6)) (λ_=>VE ..)),.w 26 (wi .i64 rfl hiv5 q4.1)] (wT (N15 _ H))
 .unfold LC at H
  refine wP (wf (ltF y3.1.up.length) ?_)
  obtain⟨y7,h7,H⟩:=bB H
  refine wH [.u 30 (.call _ _ _ _ _ (AEs.of (xs:=[.agg [rV 1 (y3.1.topo.parents.map eI),rV 4 (y3.1.topo.nodes.map V1),rV 1 (v5.map eBo),rV 1 (y3.1.profs.map (J1 .nw)),rV 4 (y3.1.lics.map ePt)],.agg [iV j2.id,iV j2.prio,iV j2.nodes,iV j2.need.a,iV j2.need.b,iV j2.need.c,iV j2.lic.a,iV j2.lic.b,iV j2.lic.c,iV j2.wall,iV j2.level],iV 0]) (by simp)) (λ_=>YL h7))] ?_
  replace H:=sI H;subst H
  exact wE [(4,.d)]
noncomputable def Z0V:L :=
 lf Tryz.prog Z0r [] [(39,1),(47,2)] [] [] [] [] []
def OD(s1:State)(j2:Job):Option (State×Int) :=
 (X6 s1).bind λb3=>bif (!b3)||(!(X1 j2))then(some ((State.mk (Topo.mk [] []) [] (Vec.mk 0 0 0) 0 0 [] [] []),1))else((Mf s1).bind λy4=>(Q8 y4 j2.id).bind λy5=>bif y5.2 then(some ((State.mk (Topo.mk [] []) [] (Vec.mk 0 0 0) 0 0 [] [] []),2))else(bif decide (60<=(y4.length:Int))then(some ((State.mk (Topo.mk [] []) [] (Vec.mk 0 0 0) 0 0 [] [] []),3))else((Uy s1 j2).bind λb7=>bif !b7 then(some ((State.mk (Topo.mk [] []) [] (Vec.mk 0 0 0) 0 0 [] [] []),4))else((M9 s1).bind λy8=>(appL 88 y8.queue [j2]).bind λxs9=>(U2 (State.mk y8.topo y8.up y8.lic y8.depth y8.now xs9 y8.runs y8.ends)).bind λy10=>some (y10,0)))))
theorem J0f{s1:State}{j2:Job}{r:State×Int}(H:OD s1 j2=some r):Snd Tryz.prog Z0r [V2 .rd s1,eJob j2] (.tup [.agg [nV 1 (r.1.topo.parents.map eI),nV 4 (r.1.topo.nodes.map V1),.sref 0,iV r.1.lic.a,iV r.1.lic.b,iV r.1.lic.c,iV r.1.depth,iV r.1.now,.sref 1,.sref 2,.sref 3],iV r.2]) [⟨1,r.1.up.map eBo,false⟩,⟨11,r.1.queue.map eJob,false⟩,⟨13,r.1.runs.map (Z1 .nw),false⟩,⟨3,r.1.ends.map eEnd,false⟩]:=by
 refine wS Z0V [.c 4 11 true,.t 5] ?_
 unfold OD at H
 obtain⟨b3,h3,H⟩:=bB H
 refine wH [.c 10 (Q6 h3),.g 14 [((!b3),false)] (.call _ _ _ _ _ (AEs.refl _) (λ_=>XA j2))] ?_
 refine M0 H ?_ ?_<;>intro H
 .refine wP ?_
  replace H:=sI H;subst H
  exact wN [(4,.d),(5,.d)] [(4,[.n 1,.n 4,.d,.d,.d,.d,.d,.d,.d,.d,.d])] [] [] [none,none,none,none] [⟨_,nw_I ([]:List Int)⟩,⟨_,L2 ([]:List Node)⟩]
 .obtain⟨y4,h4,y5,h5,H⟩:=bB2 H
  refine wH [.c 19 (Zy h4),.c 24 (Um h5)] ?_
  refine M0 H ?_ ?_<;>intro H
  .refine wP ?_
   replace H:=sI H;subst H
   exact wN [(4,.d),(5,.d)] [(4,[.n 1,.n 4,.d,.d,.d,.d,.d,.d,.d,.d,.d])] [] [] [none,none,none,none] [⟨_,nw_I ([]:List Int)⟩,⟨_,L2 ([]:List Node)⟩]
  .refine wG [.u 30 (.ln _ _ λ_=>lm y4 eJob)] λq6=>?_
   refine M0 H ?_ ?_<;>intro H
   .refine wP ?_
    replace H:=sI H;subst H
    exact wN [(4,.d),(5,.d)] [(4,[.n 1,.n 4,.d,.d,.d,.d,.d,.d,.d,.d,.d])] [] [] [none,none,none,none] [⟨_,nw_I ([]:List Int)⟩,⟨_,L2 ([]:List Node)⟩]
   .obtain⟨b7,h7,H⟩:=bB H
    refine wH [.c 35 (Y0B h7)] ?_
    refine M0 H ?_ ?_<;>intro H
    .refine wP ?_
     replace H:=sI H;subst H
     exact wN [(4,.d),(5,.d)] [(4,[.n 1,.n 4,.d,.d,.d,.d,.d,.d,.d,.d,.d])] [] [] [none,none,none,none] [⟨_,nw_I ([]:List Int)⟩,⟨_,L2 ([]:List Node)⟩]
    .obtain⟨y8,h8,xs9,h9,y10,h10,H⟩:=bB3 H
     refine wH [.c 39 (Xe h8),.u 44 (.ap _ _ _ _ λ_=>L0 eJob h9),.u 47 (.cw L7 [] [40000,40001,40002,40003] [] [(1,y8.up.map eBo),(11,xs9.map eJob),(13,y8.runs.map (Z1 .nw)),(3,y8.ends.map eEnd)] [.agg [nV 1 (y8.topo.parents.map eI),nV 4 (y8.topo.nodes.map V1),.sref 0,iV y8.lic.a,iV y8.lic.b,iV y8.lic.c,iV y8.depth,iV y8.now,.sref 1,.sref 2,.sref 3]] _ _ _ _ _ (GEs.of [true] (by simp)) (by simp) (by simp) (by simp) (λ_=>have k:=W5 h10;k))] ?_
     replace H:=sI H;subst H
     exact wN [(4,.d),(5,.d)] [(4,[])] [(48000,some 48000,0),(48001,some 48001,0),(48002,some 48002,0),(48003,some 48003,0)] [] [some 48000,some 48001,some 48002,some 48003] [⟨_,nw_I y10.topo.parents⟩,⟨_,L2 y10.topo.nodes⟩,⟨_,Mr y10.up⟩,⟨_,VC y10.queue⟩,⟨_,UE y10.runs⟩,⟨_,VY y10.ends⟩]
noncomputable def Z06:L :=
 lf Tryz.prog Wt [12] [] [] [] [] [] []
def L05:List Rv:=[.c 8 11 true]
theorem Y06:Qt Tryz.prog Wt 4 Z06 L05=true:=by kernel_rfl
def Oj(s1:State)(why2 id3 node4:Int)(x6:Run)(_:Nat)(v6:(List End)×(List Run))(k6:((List End)×(List Run))->Option State):Option State :=
 (bif x6.job.id==id3 then some default else(J8 x6.nodes node4)).bind λb7=>bif (x6.job.id==id3)||b7 then((appL 24 v6.1 [(End.mk x6.job.id s1.now why2)]).bind λxs8=>k6 (xs8,v6.2))else((appL 120 v6.2 [x6]).bind λxs9=>k6 (v6.1,xs9))
def Xy(s1:State)(v6:(List End)×(List Run)):Option State :=
 some (State.mk s1.topo s1.up s1.lic s1.depth s1.now s1.queue v6.2 v6.1)
def L8(s1:State)(why2 id3 node4:Int):Option State :=
 rgl (Oj s1 why2 id3 node4) (Xy s1) s1.runs 0 (s1.ends,[])
set_option maxRecDepth 20000 in
theorem XC{s1:State}{why2 id3 node4:Int}{r:State}(H:L8 s1 why2 id3 node4=some r):ConD Tryz.prog Wt [.agg [nV 1 (s1.topo.parents.map eI),nV 4 (s1.topo.nodes.map V1),.sref 0,iV s1.lic.a,iV s1.lic.b,iV s1.lic.c,iV s1.depth,iV s1.now,.sref 1,.sref 2,.sref 3],iV why2,iV id3,iV node4] [] [(1,s1.up.map eBo),(11,s1.queue.map eJob),(13,s1.runs.map (Z1 .nw)),(3,s1.ends.map eEnd)] (.agg [nV 1 (r.topo.parents.map eI),nV 4 (r.topo.nodes.map V1),.sref 4,iV r.lic.a,iV r.lic.b,iV r.lic.c,iV r.depth,iV r.now,.sref 5,.sref 6,.sref 7]) [] [none,none,none,none] [(1,r.up.map eBo),(11,r.queue.map eJob),(13,r.runs.map (Z1 .nw)),(3,r.ends.map eEnd)]:=by
 refine JW [false,false,false,false] Y06 rfl (by kernel_rfl) ?_
 unfold L8 at H
 refine wG [.u 15 (.ln _ _ λ_=>lm s1.runs (Z1 .nw))] λq5=>?_
 refine wR (λ(i6:Nat) (v6:(List End)×(List Run))=>⟨[(1,iV why2),(2,iV id3),(3,iV node4),(4,.ptr 4 0),(8,.ptr 8 0),(9,.sref 12),(14,.sref 500000002),(15,iV (s1.runs.length:Int)),(16,iV (i6:Int))],[],[(4,[nV 1 (s1.topo.parents.map eI),nV 4 (s1.topo.nodes.map V1),.sref 500000000,iV s1.lic.a,iV s1.lic.b,iV s1.lic.c,iV s1.depth,iV s1.now,.sref 500000001,.sref 500000002,.sref 500000003]),(8,[.nl,.nl,.nl,iV 0,iV 0,iV 0,iV 0,iV 0,.nl,.nl,.nl])],[(500000000,⟨1,s1.up.map eBo,false⟩),(500000001,⟨11,s1.queue.map eJob,false⟩),(500000002,⟨13,s1.runs.map (Z1 .nw),false⟩),(500000003,⟨3,v6.1.map eEnd,false⟩),(12,⟨13,v6.2.map (Z1 .nw),false⟩)]⟩) H (λi6 x6 v6 I m k6 hxv6 hiv6 H N19=>?_) (λv6 I m H=>?_)
 .unfold Oj at H
  refine wP (wt (ltT hiv6) ?_)
  obtain⟨b7,h7,H⟩:=bB H
  refine wH [.u 18 (.ix _ _ _ λ_=>W0 (Z1 .nw) (Y1 hxv6)),.u 19 (.el _ _ _ λ_=>gm (Z1 .nw) (W4 (Y1 hxv6))),.g 29 [(_,false)] (.call _ _ _ _ _ (AEs.refl _) (λq=>Lb (bF q.1 h7)))] ?_
  refine M0 H ?_ ?_<;>intro H
  .obtain⟨xs8,h8,H⟩:=bB H
   exact wH [.u 41 (.ap _ _ _ _ λ_=>L0 eEnd h8),.w 47 (wi .i64 rfl hiv6 q5.1)] (wT (N19 _ H))
  .obtain⟨xs9,h9,H⟩:=bB H
   exact wH [.u 46 (.ap _ _ _ _ λ_=>L0 (Z1 .nw) h9),.w 47 (wi .i64 rfl hiv6 q5.1)] (wT (N19 _ H))
 .unfold Xy at H
  refine wP (wf (ltF s1.runs.length) ?_)
  refine wP ?_
  replace H:=sI H;subst H
  exact W3 [(8,.d)] [(8,[])] [(500000000,some 500000000,0),(500000001,some 500000001,0),(12,some 12,0),(500000003,some 500000003,0)] [] [500000000,500000001,12,500000003] (by kernel_rfl)
noncomputable def O0V:L :=
 lf Tryz.prog O0r [] [(54,1),(59,1),(74,2),(76,2)] [] [] [] [] [511]
def Mi(id2 why3:Int)(y9:State)(v12:(List Job)×(List End)):Option (State×Int) :=
 (L8 (State.mk y9.topo y9.up y9.lic y9.depth y9.now v12.1 y9.runs v12.2) why3 id2 (-1)).bind λy13=>(U2 y13).bind λy14=>some (y14,0)
def JD(s1:State)(id2 why3:Int):Option (State×Int) :=
 (X6 s1).bind λb4=>bif (!b4)||((why3 != 2)&&(why3 != 3))then(some ((State.mk (Topo.mk [] []) [] (Vec.mk 0 0 0) 0 0 [] [] []),1))else((Q8 s1.queue id2).bind λy5=>(Mf s1).bind λy6=>(Q8 y6 id2).bind λy7=>bif (!y7.2)||(y5.2&&(why3==2))then(some ((State.mk (Topo.mk [] []) [] (Vec.mk 0 0 0) 0 0 [] [] []),5))else(bif decide (300<=(s1.ends.length:Int))then(some ((State.mk (Topo.mk [] []) [] (Vec.mk 0 0 0) 0 0 [] [] []),6))else((M9 s1).bind λy9=>bif y5.2 then((Vm y9.queue id2).bind λy10=>(appL 24 y9.ends [(End.mk id2 y9.now why3)]).bind λxs11=>(Mi id2 why3 y9) (y10,xs11))else((Mi id2 why3 y9) (y9.queue,y9.ends)))))
theorem Z0g{s1:State}{id2 why3:Int}{r:State×Int}(H:JD s1 id2 why3=some r):Snd Tryz.prog O0r [V2 .rd s1,iV id2,iV why3] (.tup [.agg [nV 1 (r.1.topo.parents.map eI),nV 4 (r.1.topo.nodes.map V1),.sref 0,iV r.1.lic.a,iV r.1.lic.b,iV r.1.lic.c,iV r.1.depth,iV r.1.now,.sref 1,.sref 2,.sref 3],iV r.2]) [⟨1,r.1.up.map eBo,false⟩,⟨11,r.1.queue.map eJob,false⟩,⟨13,r.1.runs.map (Z1 .nw),false⟩,⟨3,r.1.ends.map eEnd,false⟩]:=by
 refine wS O0V [.c 6 11 true,.t 7] ?_
 unfold JD at H
 obtain⟨b4,h4,H⟩:=bB H
 refine wH [.c 13 (Q6 h4)] ?_
 refine M0 H ?_ ?_<;>intro H
 .refine wP ?_
  replace H:=sI H;subst H
  exact wN [(6,.d),(7,.d)] [(6,[.n 1,.n 4,.d,.d,.d,.d,.d,.d,.d,.d,.d])] [] [] [none,none,none,none] [⟨_,nw_I ([]:List Int)⟩,⟨_,L2 ([]:List Node)⟩]
 .obtain⟨y5,h5,y6,h6,y7,h7,H⟩:=bB3 H
  refine wH [.c 28 (Um h5),.c 33 (Zy h6),.c 35 (Um h7)] ?_
  refine M0 H ?_ ?_<;>intro H
  .refine wP ?_
   replace H:=sI H;subst H
   exact wN [(6,.d),(7,.d)] [(6,[.n 1,.n 4,.d,.d,.d,.d,.d,.d,.d,.d,.d])] [] [] [none,none,none,none] [⟨_,nw_I ([]:List Int)⟩,⟨_,L2 ([]:List Node)⟩]
  .refine wG [.u 50 (.ln _ _ λ_=>lm s1.ends eEnd)] λq8=>?_
   refine M0 H ?_ ?_<;>intro H
   .refine wP ?_
    replace H:=sI H;subst H
    exact wN [(6,.d),(7,.d)] [(6,[.n 1,.n 4,.d,.d,.d,.d,.d,.d,.d,.d,.d])] [] [] [none,none,none,none] [⟨_,nw_I ([]:List Int)⟩,⟨_,L2 ([]:List Node)⟩]
   .obtain⟨y9,h9,H⟩:=bB H
    refine wH [.c 54 (Xe h9)] ?_
    refine J3 (r:=r) (Mi id2 why3 y9) 0 (λv12:(List Job)×(List End)=>⟨[(1,.int .i64 id2),(2,.int .i64 why3),(3,.ptr 3 0),(6,.ptr 6 0)],[],[(3,[.sl .nw 1 (y9.topo.parents.map eI),.sl .nw 4 (y9.topo.nodes.map V1),.sref 55000,.int .i64 y9.lic.a,.int .i64 y9.lic.b,.int .i64 y9.lic.c,.int .i64 y9.depth,.int .i64 y9.now,.sref 60000,.sref 55002,.sref 55003]),(6,[.nl,.nl,.nl,.int .i64 0,.int .i64 0,.int .i64 0,.int .i64 0,.int .i64 0,.nl,.nl,.nl])],[(55000,⟨1,y9.up.map eBo,false⟩),(60000,⟨11,v12.1.map eJob,false⟩),(55002,⟨13,y9.runs.map (Z1 .nw),false⟩),(55003,⟨3,v12.2.map eEnd,false⟩)]⟩) (by kernel_rfl) (λv12 H=>?_) (λJ36=>?_)
    .unfold Mi at H
     obtain⟨y13,h13,y14,h14,H⟩:=bB2 H
     refine wH [.u 74 (.cw Wt [] [55000,60000,55002,55003] [] [(1,y9.up.map eBo),(11,v12.1.map eJob),(13,y9.runs.map (Z1 .nw)),(3,v12.2.map eEnd)] [.agg [nV 1 (y9.topo.parents.map eI),nV 4 (y9.topo.nodes.map V1),.sref 0,iV y9.lic.a,iV y9.lic.b,iV y9.lic.c,iV y9.depth,iV y9.now,.sref 1,.sref 2,.sref 3],iV why3,iV id2,iV (-1)] _ _ _ _ _ (GEs.of [true,false,false,false] (by simp)) (by simp) (by simp) (by simp) (λ_=>have k:=XC h13;k)),.u 76 (.cw L7 [] [75000,75001,75002,75003] [] [(1,y13.up.map eBo),(11,y13.queue.map eJob),(13,y13.runs.map (Z1 .nw)),(3,y13.ends.map eEnd)] [.agg [nV 1 (y13.topo.parents.map eI),nV 4 (y13.topo.nodes.map V1),.sref 0,iV y13.lic.a,iV y13.lic.b,iV y13.lic.c,iV y13.depth,iV y13.now,.sref 1,.sref 2,.sref 3]] _ _ _ _ _ (GEs.of [true] (by simp)) (by simp) (by simp) (by simp) (λ_=>W5 h14))] ?_
     replace H:=sI H;subst H
     exact wN [(6,.d),(7,.d)] [(6,[])] [(77000,some 77000,0),(77001,some 77001,0),(77002,some 77002,0),(77003,some 77003,0)] [] [some 77000,some 77001,some 77002,some 77003] [⟨_,nw_I y14.topo.parents⟩,⟨_,L2 y14.topo.nodes⟩,⟨_,Mr y14.up⟩,⟨_,VC y14.queue⟩,⟨_,UE y14.runs⟩,⟨_,VY y14.ends⟩]
    .refine M0 H ?_ ?_<;>intro H
     .obtain⟨y10,h10,xs11,h11,H⟩:=bB2 H
      exact wH [.c 59 (M0f h10),.u 69 (.ap _ _ _ _ λ_=>L0 eEnd h11)] (wT (J36 _ H))
     .refine wP ?_
      exact wU (J36 _ H) [] [] [(60000,(some 55001,0))] []
noncomputable def X0N:L :=
 lf Tryz.prog ZX [] [] [] [] [] [] []
def XG(s1:State)(n2:Int):Option Bool :=
 some (decide (0<=n2)&&decide (n2<(s1.topo.nodes.length:Int)))
theorem V0t{s1:State}{n2:Int}{r:Bool}(H:XG s1 n2=some r):Snd Tryz.prog ZX [V2 .rd s1,iV n2] (.bool r) []:=by
 refine wS X0N [.t 4] ?_
 unfold XG at H
 refine wH [.g 12 [((decide (0<=n2)),true)] (.ln _ _ λ_=>lm s1.topo.nodes V1)] ?_
 replace H:=sI H;subst H
 exact wE [(4,.d)]
def O9(s1:State)(n2:Int):Bool :=
 (decide (0<=n2)&&decide (n2<(s1.topo.nodes.length:Int)))
theorem U0S(s1:State)(n2:Int):XG s1 n2=some (O9 s1 n2):=by
 unfold XG O9
 first|rfl|simp only[O5]
theorem V06(s1:State)(n2:Int):Snd Tryz.prog ZX [V2 .rd s1,iV n2] (.bool (O9 s1 n2)) []:=V0t (U0S s1 n2)
noncomputable def M1e:L :=
 lf Tryz.prog X0S [] [(26,1),(48,2),(59,2)] [] [] [] [] []
def W00(n2:Int)(x7:Run)(_:Nat)(v7:List Job)(k7:List Job->Option (State×Int)):Option (State×Int) :=
 (J8 x7.nodes n2).bind λb8=>bif b8 then((appL 88 v7 [x7.job]).bind λxs9=>k7 xs9)else(k7 v7)
def Q00(n2:Int)(y5:State)(v7:List Job):Option (State×Int) :=
 (L8 (State.mk y5.topo y5.up y5.lic y5.depth y5.now v7 y5.runs y5.ends) 4 0 n2).bind λy10=>bif decide (300<(y10.ends.length:Int))then(some ((State.mk (Topo.mk [] []) [] (Vec.mk 0 0 0) 0 0 [] [] []),6))else((idx y10.up n2).bind λ_=>(U2 (State.mk y10.topo (y10.up.set n2.toNat false) y10.lic y10.depth y10.now y10.queue y10.runs y10.ends)).bind λy13=>some (y13,0))
def M07(s1:State)(n2:Int):Option (State×Int) :=
 (X6 s1).bind λb3=>bif !b3 then(some ((State.mk (Topo.mk [] []) [] (Vec.mk 0 0 0) 0 0 [] [] []),1))else((bif !(O9 s1 n2)then some default else(idx s1.up n2)).bind λe4=>bif (!(O9 s1 n2))||(!e4)then(some ((State.mk (Topo.mk [] []) [] (Vec.mk 0 0 0) 0 0 [] [] []),7))else((M9 s1).bind λy5=>rgl (W00 n2) (Q00 n2 y5) y5.runs 0 y5.queue))
theorem M1b{s1:State}{n2:Int}{r:State×Int}(H:M07 s1 n2=some r):Snd Tryz.prog X0S [V2 .rd s1,iV n2] (.tup [.agg [nV 1 (r.1.topo.parents.map eI),nV 4 (r.1.topo.nodes.map V1),.sref 0,iV r.1.lic.a,iV r.1.lic.b,iV r.1.lic.c,iV r.1.depth,iV r.1.now,.sref 1,.sref 2,.sref 3],iV r.2]) [⟨1,r.1.up.map eBo,false⟩,⟨11,r.1.queue.map eJob,false⟩,⟨13,r.1.runs.map (Z1 .nw),false⟩,⟨3,r.1.ends.map eEnd,false⟩]:=by
 refine wS M1e [.c 4 11 true,.t 5] ?_
 unfold M07 at H
 obtain⟨b3,h3,H⟩:=bB H
 refine wH [.c 9 (Q6 h3)] ?_
 refine M0 H ?_ ?_<;>intro H
 .refine wP ?_
  replace H:=sI H;subst H
  exact wN [(4,.d),(5,.d)] [(4,[.n 1,.n 4,.d,.d,.d,.d,.d,.d,.d,.d,.d])] [] [] [none,none,none,none] [⟨_,nw_I ([]:List Int)⟩,⟨_,L2 ([]:List Node)⟩]
 .obtain⟨e4,h4,H⟩:=bB H
  refine wH [.c 14 (V06 s1 n2),.g 20 [(_,false)] (.ix _ _ _ λq=>W0 eBo (bF q.1 h4))] ?_
  refine M0 H ?_ ?_<;>intro H
  .refine wP ?_
   replace H:=sI H;subst H
   exact wN [(4,.d),(5,.d)] [(4,[.n 1,.n 4,.d,.d,.d,.d,.d,.d,.d,.d,.d])] [] [] [none,none,none,none] [⟨_,nw_I ([]:List Int)⟩,⟨_,L2 ([]:List Node)⟩]
  .obtain⟨y5,h5,H⟩:=bB H
   refine wG [.c 26 (Xe h5),.u 29 (.ln _ _ λ_=>lm y5.runs (Z1 .nw))] λq6=>?_
   refine wR (λ(i7:Nat) (v7:List Job)=>⟨[(1,iV n2),(2,.ptr 2 0),(4,.ptr 4 0),(28,.sref 27002),(29,iV (y5.runs.length:Int)),(30,iV (i7:Int))],[],[(2,[nV 1 (y5.topo.parents.map eI),nV 4 (y5.topo.nodes.map V1),.sref 27000,iV y5.lic.a,iV y5.lic.b,iV y5.lic.c,iV y5.depth,iV y5.now,.sref 27001,.sref 27002,.sref 27003]),(4,[.nl,.nl,.nl,iV 0,iV 0,iV 0,iV 0,iV 0,.nl,.nl,.nl])],[(27000,⟨1,y5.up.map eBo,false⟩),(27001,⟨11,v7.map eJob,false⟩),(27002,⟨13,y5.runs.map (Z1 .nw),false⟩),(27003,⟨3,y5.ends.map eEnd,false⟩)]⟩) H (λi7 x7 v7 I m k7 hxv7 hiv7 H N33=>?_) (λv7 I m H=>?_)
   .unfold W00 at H
    refine wP (wt (ltT hiv7) ?_)
    obtain⟨b8,h8,H⟩:=bB H
    refine wH [.u 32 (.ix _ _ _ λ_=>W0 (Z1 .nw) (Y1 hxv7)),.u 33 (.el _ _ _ λ_=>gm (Z1 .nw) (W4 (Y1 hxv7))),.c 37 (Lb h8)] ?_
    refine M0 H ?_ ?_<;>intro H
    .obtain⟨xs9,h9,H⟩:=bB H
     exact wH [.u 43 (.ap _ _ _ _ λ_=>L0 eJob h9),.w 45 (wi .i64 rfl hiv7 q6.1)] (wT (N33 _ H))
    .exact wH [.w 45 (wi .i64 rfl hiv7 q6.1)] (wT (N33 _ H))
   .unfold Q00 at H
    refine wP (wf (ltF y5.runs.length) ?_)
    obtain⟨y10,h10,H⟩:=bB H
    refine wG [.u 48 (.cw Wt [] [27000,27001,27002,27003] [] [(1,y5.up.map eBo),(11,v7.map eJob),(13,y5.runs.map (Z1 .nw)),(3,y5.ends.map eEnd)] [.agg [nV 1 (y5.topo.parents.map eI),nV 4 (y5.topo.nodes.map V1),.sref 0,iV y5.lic.a,iV y5.lic.b,iV y5.lic.c,iV y5.depth,iV y5.now,.sref 1,.sref 2,.sref 3],iV 4,iV 0,iV n2] _ _ _ _ _ (GEs.of [true,false,false,false] (by simp)) (by simp) (by simp) (by simp) (λ_=>have k:=XC h10;k)),.u 51 (.ln _ _ λ_=>lm y10.ends eEnd)] λq11=>?_
    refine M0 H ?_ ?_<;>intro H
    .refine wP ?_
     replace H:=sI H;subst H
     exact wN [(4,.d),(5,.d)] [(4,[.n 1,.n 4,.d,.d,.d,.d,.d,.d,.d,.d,.d])] [] [] [none,none,none,none] [⟨_,nw_I ([]:List Int)⟩,⟨_,L2 ([]:List Node)⟩]
    .obtain⟨e12,h12,y13,h13,H⟩:=bB2 H
     refine wH [.u 57 (.ix _ _ _ λ_=>W0 eBo h12),.u 1000000 (.sto _ _ _ (eBo false) _ (λ_=>gm eBo (W4 h12)) (λ_=>VE ..)),.u 59 (.cw L7 [] [49000,49001,49002,49003] [] [(1,(y10.up.set n2.toNat false).map eBo),(11,y10.queue.map eJob),(13,y10.runs.map (Z1 .nw)),(3,y10.ends.map eEnd)] [.agg [nV 1 (y10.topo.parents.map eI),nV 4 (y10.topo.nodes.map V1),.sref 0,iV y10.lic.a,iV y10.lic.b,iV y10.lic.c,iV y10.depth,iV y10.now,.sref 1,.sref 2,.sref 3]] _ _ _ _ _ (GEs.of [true] (by simp)) (by simp) (by simp[-List.map_set]) (by simp) (λ_=>have k:=W5 h13;k))] ?_
     replace H:=sI H;subst H
     exact wN [(4,.d),(5,.d)] [(4,[])] [(60000,some 60000,0),(60001,some 60001,0),(60002,some 60002,0),(60003,some 60003,0)] [] [some 60000,some 60001,some 60002,some 60003] [⟨_,nw_I y13.topo.parents⟩,⟨_,L2 y13.topo.nodes⟩,⟨_,Mr y13.up⟩,⟨_,VC y13.queue⟩,⟨_,UE y13.runs⟩,⟨_,VY y13.ends⟩]
noncomputable def V0V:L :=
 lf Tryz.prog V0r [] [(23,1),(29,2)] [] [] [] [] []
def UP(s1:State)(n2:Int):Option (State×Int) :=
 (X6 s1).bind λb3=>bif !b3 then(some ((State.mk (Topo.mk [] []) [] (Vec.mk 0 0 0) 0 0 [] [] []),1))else((bif !(O9 s1 n2)then some default else(idx s1.up n2)).bind λe4=>bif (!(O9 s1 n2))||e4 then(some ((State.mk (Topo.mk [] []) [] (Vec.mk 0 0 0) 0 0 [] [] []),8))else((M9 s1).bind λy5=>(idx y5.up n2).bind λ_=>(U2 (State.mk y5.topo (y5.up.set n2.toNat true) y5.lic y5.depth y5.now y5.queue y5.runs y5.ends)).bind λy7=>some (y7,0)))
theorem Y0T{s1:State}{n2:Int}{r:State×Int}(H:UP s1 n2=some r):Snd Tryz.prog V0r [V2 .rd s1,iV n2] (.tup [.agg [nV 1 (r.1.topo.parents.map eI),nV 4 (r.1.topo.nodes.map V1),.sref 0,iV r.1.lic.a,iV r.1.lic.b,iV r.1.lic.c,iV r.1.depth,iV r.1.now,.sref 1,.sref 2,.sref 3],iV r.2]) [⟨1,r.1.up.map eBo,false⟩,⟨11,r.1.queue.map eJob,false⟩,⟨13,r.1.runs.map (Z1 .nw),false⟩,⟨3,r.1.ends.map eEnd,false⟩]:=by
 refine wS V0V [.c 4 11 true,.t 5] ?_
 unfold UP at H
 obtain⟨b3,h3,H⟩:=bB H
 refine wH [.c 7 (Q6 h3)] ?_
 refine M0 H ?_ ?_<;>intro H
 .refine wP ?_
  replace H:=sI H;subst H
  exact wN [(4,.d),(5,.d)] [(4,[.n 1,.n 4,.d,.d,.d,.d,.d,.d,.d,.d,.d])] [] [] [none,none,none,none] [⟨_,nw_I ([]:List Int)⟩,⟨_,L2 ([]:List Node)⟩]
 .obtain⟨e4,h4,H⟩:=bB H
  refine wH [.c 12 (V06 s1 n2),.g 18 [(_,false)] (.ix _ _ _ λq=>W0 eBo (bF q.1 h4))] ?_
  refine M0 H ?_ ?_<;>intro H
  .refine wP ?_
   replace H:=sI H;subst H
   exact wN [(4,.d),(5,.d)] [(4,[.n 1,.n 4,.d,.d,.d,.d,.d,.d,.d,.d,.d])] [] [] [none,none,none,none] [⟨_,nw_I ([]:List Int)⟩,⟨_,L2 ([]:List Node)⟩]
  .obtain⟨y5,h5,e6,h6,y7,h7,H⟩:=bB3 H
   refine wH [.c 23 (Xe h5),.u 27 (.ix _ _ _ λ_=>W0 eBo h6),.u 1000000 (.sto _ _ _ (eBo true) _ (λ_=>gm eBo (W4 h6)) (λ_=>VE ..)),.u 29 (.cw L7 [] [24000,24001,24002,24003] [] [(1,(y5.up.set n2.toNat true).map eBo),(11,y5.queue.map eJob),(13,y5.runs.map (Z1 .nw)),(3,y5.ends.map eEnd)] [.agg [nV 1 (y5.topo.parents.map eI),nV 4 (y5.topo.nodes.map V1),.sref 0,iV y5.lic.a,iV y5.lic.b,iV y5.lic.c,iV y5.depth,iV y5.now,.sref 1,.sref 2,.sref 3]] _ _ _ _ _ (GEs.of [true] (by simp)) (by simp) (by simp[-List.map_set]) (by simp) (λ_=>have k:=W5 h7;k))] ?_
   replace H:=sI H;subst H
   exact wN [(4,.d),(5,.d)] [(4,[])] [(30000,some 30000,0),(30001,some 30001,0),(30002,some 30002,0),(30003,some 30003,0)] [] [some 30000,some 30001,some 30002,some 30003] [⟨_,nw_I y7.topo.parents⟩,⟨_,L2 y7.topo.nodes⟩,⟨_,Mr y7.up⟩,⟨_,VC y7.queue⟩,⟨_,UE y7.runs⟩,⟨_,VY y7.ends⟩]
noncomputable def U0V:L :=
 lf Tryz.prog U0r [] [(18,1),(30,2)] [] [] [] [] []
def QP(s1:State)(lic2:Vec):Option (State×Int) :=
 (X6 s1).bind λb3=>bif (!b3)||(!(Q0 lic2))then(some ((State.mk (Topo.mk [] []) [] (Vec.mk 0 0 0) 0 0 [] [] []),1))else((M9 s1).bind λy4=>(L6 (State.mk y4.topo y4.up lic2 y4.depth y4.now y4.queue y4.runs y4.ends)).bind λy5=>bif !y5.2 then(some ((State.mk (Topo.mk [] []) [] (Vec.mk 0 0 0) 0 0 [] [] []),9))else((U2 (State.mk y4.topo y4.up lic2 y4.depth y4.now y4.queue y4.runs y4.ends)).bind λy6=>some (y6,0)))
theorem X0T{s1:State}{lic2:Vec}{r:State×Int}(H:QP s1 lic2=some r):Snd Tryz.prog U0r [V2 .rd s1,eVec lic2] (.tup [.agg [nV 1 (r.1.topo.parents.map eI),nV 4 (r.1.topo.nodes.map V1),.sref 0,iV r.1.lic.a,iV r.1.lic.b,iV r.1.lic.c,iV r.1.depth,iV r.1.now,.sref 1,.sref 2,.sref 3],iV r.2]) [⟨1,r.1.up.map eBo,false⟩,⟨11,r.1.queue.map eJob,false⟩,⟨13,r.1.runs.map (Z1 .nw),false⟩,⟨3,r.1.ends.map eEnd,false⟩]:=by
 refine wS U0V [.c 4 11 true,.t 5] ?_
 unfold QP at H
 obtain⟨b3,h3,H⟩:=bB H
 refine wH [.c 9 (Q6 h3),.g 13 [((!b3),false)] (.call _ _ _ _ _ (AEs.refl _) (λ_=>Y5 lic2))] ?_
 refine M0 H ?_ ?_<;>intro H
 .refine wP ?_
  replace H:=sI H;subst H
  exact wN [(4,.d),(5,.d)] [(4,[.n 1,.n 4,.d,.d,.d,.d,.d,.d,.d,.d,.d])] [] [] [none,none,none,none] [⟨_,nw_I ([]:List Int)⟩,⟨_,L2 ([]:List Node)⟩]
 .obtain⟨y4,h4,y5,h5,H⟩:=bB2 H
  refine wH [.c 18 (Xe h4),.u 23 (.call _ _ _ _ _ (AEs.of (xs:=[.agg [rV 1 (y4.topo.parents.map eI),rV 4 (y4.topo.nodes.map V1),rV 1 (y4.up.map eBo),iV lic2.a,iV lic2.b,iV lic2.c,iV y4.depth,iV y4.now,rV 11 (y4.queue.map eJob),rV 13 (y4.runs.map (Z1 .nw)),rV 3 (y4.ends.map eEnd)]]) (by simp)) (λ_=>LG h5))] ?_
  refine M0 H ?_ ?_<;>intro H
  .refine wP ?_
   replace H:=sI H;subst H
   exact wN [(4,.d),(5,.d)] [(4,[.n 1,.n 4,.d,.d,.d,.d,.d,.d,.d,.d,.d])] [] [] [none,none,none,none] [⟨_,nw_I ([]:List Int)⟩,⟨_,L2 ([]:List Node)⟩]
  .obtain⟨y6,h6,H⟩:=bB H
   refine wH [.u 30 (.cw L7 [] [19000,19001,19002,19003] [] [(1,y4.up.map eBo),(11,y4.queue.map eJob),(13,y4.runs.map (Z1 .nw)),(3,y4.ends.map eEnd)] [.agg [nV 1 (y4.topo.parents.map eI),nV 4 (y4.topo.nodes.map V1),.sref 0,iV lic2.a,iV lic2.b,iV lic2.c,iV y4.depth,iV y4.now,.sref 1,.sref 2,.sref 3]] _ _ _ _ _ (GEs.of [true] (by simp)) (by simp) (by simp) (by simp) (λ_=>have k:=W5 h6;k))] ?_
   replace H:=sI H;subst H
   exact wN [(4,.d),(5,.d)] [(4,[])] [(31000,some 31000,0),(31001,some 31001,0),(31002,some 31002,0),(31003,some 31003,0)] [] [some 31000,some 31001,some 31002,some 31003] [⟨_,nw_I y6.topo.parents⟩,⟨_,L2 y6.topo.nodes⟩,⟨_,Mr y6.up⟩,⟨_,VC y6.queue⟩,⟨_,UE y6.runs⟩,⟨_,VY y6.ends⟩]
noncomputable def U0w:L :=
 lf Tryz.prog Q05 [] [] [] [] [] [] []
def Zm(x6:Run)(_:Nat)(v6:List Run)(k6:List Run->Option State):Option State :=
 (M7 x6.nodes).bind λy7=>(appL 120 v6 [(Run.mk x6.job x6.t y7)]).bind λxs8=>k6 xs8
def UB(s1:State)(y2:Topo)(xs3:List Bool)(xs4:List Job)(v6:List Run):Option State :=
 (appL 24 ([]:List End) s1.ends).bind λxs9=>some (State.mk y2 xs3 s1.lic s1.depth s1.now xs4 v6 xs9)
def Ql(s1:State):Option State :=
 (Lg s1.topo).bind λy2=>(appL 1 ([]:List Bool) s1.up).bind λxs3=>(appL 88 ([]:List Job) s1.queue).bind λxs4=>rgl Zm (UB s1 y2 xs3 xs4) s1.runs 0 []
theorem ZZ{s1 r:State}(H:Ql s1=some r):Snd Tryz.prog Q05 [V2 .rd s1] (.agg [nV 1 (r.topo.parents.map eI),nV 4 (r.topo.nodes.map V1),nV 1 (r.up.map eBo),iV r.lic.a,iV r.lic.b,iV r.lic.c,iV r.depth,iV r.now,.sref 0,.sref 1,.sref 2]) [⟨11,r.queue.map eJob,false⟩,⟨13,r.runs.map (Z1 .nw),false⟩,⟨3,r.ends.map eEnd,false⟩]:=by
 refine wS U0w [.c 2 11 true] ?_
 unfold Ql at H
 obtain⟨y2,h2,xs3,h3,xs4,h4,H⟩:=bB3 H
 refine wG [.c 8 (VL h2),.u 12 (.ap _ _ _ _ λ_=>L0 eBo h3),.u 16 (.ap _ _ _ _ λ_=>L0 eJob h4),.u 20 (.ln _ _ λ_=>lm s1.runs (Z1 .rd))] λq5=>?_
 refine X05 (λ(i6:Nat) (v6:List Run)=>⟨[(1,.ptr 1 0),(2,.ptr 2 0),(3,.sref 515002),(19,rV 13 (s1.runs.map (Z1 .rd))),(20,iV (s1.runs.length:Int)),(21,iV (i6:Int))],[],[(1,[nV 1 (y2.parents.map eI),nV 4 (y2.nodes.map V1),.sref 12,iV s1.lic.a,iV s1.lic.b,iV s1.lic.c,iV s1.depth,iV s1.now,.sref 16,rV 13 (s1.runs.map (Z1 .rd)),rV 3 (s1.ends.map eEnd)]),(2,[.nl,.nl,.nl,iV 0,iV 0,iV 0,iV 0,iV 0,.nl,.nl,.nl])],[(12,⟨1,xs3.map eBo,false⟩),(16,⟨11,xs4.map eJob,false⟩),(515002,⟨13,v6.map (Z1 .nw),false⟩)]⟩) [(3,.z 515002)] [] [(515002,(none,13))] [] (by kernel_rfl) (by kernel_rfl) H (λi6 x6 v6 I m k6 hxv6 hiv6 H N20=>?_) (λv6 I m H=>?_)
 .unfold Zm at H
  refine wP (wt (ltT hiv6) ?_)
  obtain⟨y7,h7,xs8,h8,H⟩:=bB2 H
  exact wH [.u 23 (.ix _ _ _ λ_=>W0 (Z1 .rd) (Y1 hxv6)),.c 27 (UL h7),.u 32 (.ap _ _ _ _ λ_=>L0 (Z1 .nw) h8),.w 33 (wi .i64 rfl hiv6 q5.1)] (wT (N20 _ H))
 .unfold UB at H
  refine wP (wf (ltF s1.runs.length) ?_)
  obtain⟨xs9,h9,H⟩:=bB H
  refine wH [.u 38 (.ap _ _ _ _ λ_=>L0 eEnd h9)] ?_
  replace H:=sI H;subst H
  exact wN [(2,.d)] [(2,[.d,.d,.f,.d,.d,.d,.d,.d,.d,.d,.d])] [(16,some 16,0),(515002,some 515002,0),(38,some 38,0)] [12] [some 16,some 515002,some 38] [⟨_,nw_I y2.parents⟩,⟨_,L2 y2.nodes⟩,⟨_,Mr xs3⟩,⟨_,VC xs4⟩,⟨_,UE v6⟩,⟨_,VY xs9⟩]
noncomputable def O17:L :=
 lf Tryz.prog O0A [] [] [] [] [] [] []
def UW(x7:Node)(_:Nat)(v7:(List (List Pt)))(k7:(List (List Pt))->Option Room):Option Room :=
 (appL 24 v7 [(Wj x7.cap).1]).bind λxs8=>k7 xs8
def VW(lic3:Vec)(y4:Topo)(xs5:List Bool)(v7:(List (List Pt))):Option Room :=
 some (Room.mk y4 xs5 v7 ((Wj lic3).1))
def LY(t1:Topo)(up2:List Bool)(lic3:Vec):Option Room :=
 (Lg t1).bind λy4=>(appL 1 ([]:List Bool) up2).bind λxs5=>rgl UW (VW lic3 y4 xs5) t1.nodes 0 []
theorem M18{t1:Topo}{up2:List Bool}{lic3:Vec}{r:Room}(H:LY t1 up2 lic3=some r):Snd Tryz.prog O0A [M4 .rd t1,rV 1 (up2.map eBo),eVec lic3] (Oe .nw r) []:=by
 refine wS O17 [.c 6 5 true] ?_
 unfold LY at H
 obtain⟨y4,h4,xs5,h5,H⟩:=bB2 H
 refine wG [.c 13 (VL h4),.u 15 (.ap _ _ _ _ λ_=>L0 eBo h5),.u 19 (.ln _ _ λ_=>lm t1.nodes V1)] λq6=>?_
 refine X05 (λ(i7:Nat) (v7:(List (List Pt)))=>⟨[(5,.ptr 5 0),(6,.ptr 6 0),(7,.ptr 7 0),(18,rV 4 (t1.nodes.map V1)),(19,iV (t1.nodes.length:Int)),(20,iV (i7:Int))],[],[(5,(eVec lic3).cells),(6,[.nl,.nl,.nl,.nl,.nl]),(7,[nV 1 (y4.parents.map eI),nV 4 (y4.nodes.map V1),.sref 15,.sref 190001,.nl])],[(15,⟨1,xs5.map eBo,false⟩),(190001,⟨1,v7.map (J1 .nw),false⟩)]⟩) [] [(7,[.d,.d,.d,.z 190001,.d])] [(190001,(none,1))] [] (by kernel_rfl) (by kernel_rfl) H (λi7 x7 v7 I m k7 hxv7 hiv7 H N17=>?_) (λv7 I m H=>?_)
 .unfold UW at H
  refine wP (wt (ltT hiv7) ?_)
  obtain⟨xs8,h8,H⟩:=bB H
  exact wH [.u 22 (.ix _ _ _ λ_=>W0 V1 (Y1 hxv7)),.c 27 (O09 x7.cap),.u 34 (.ap _ _ _ _ λ_=>L0 (J1 .nw) h8),.w 36 (wi .i64 rfl hiv7 q6.1)] (wT (N17 _ H))
 .unfold VW at H
  refine wP (wf (ltF t1.nodes.length) ?_)
  refine wH [.c 39 (O09 lic3)] ?_
  replace H:=sI H;subst H
  exact wN [(6,.d)] [(6,[.d,.d,.f,.f,.d])] [] [15,190001] [] [⟨_,nw_I y4.parents⟩,⟨_,L2 y4.nodes⟩,⟨_,Mr xs5⟩,⟨_,Q9 v7⟩,⟨_,Wl ((Wj lic3).1)⟩]
noncomputable def L0W:L :=
 lf Tryz.prog U0s [] [] [] [] [] [] []
def LB(s1:State)(x5:Run)(_:Nat)(v5:Room)(k5:Room->Option (Room×Bool)):Option (Room×Bool) :=
 bif ((!(U6 x5.job))||(!(U0 x5.t 0 s1.now)))||(!(U0 (w64 (x5.t+x5.job.wall)) (w64 (s1.now+1)) 1000000000))then(some ((Room.mk (Topo.mk [] []) [] [] []),false))else((Z7 v5 x5.job s1.now (w64 (x5.t+x5.job.wall)) x5.nodes).bind λy6=>bif !y6.2 then(some ((Room.mk (Topo.mk [] []) [] [] []),false))else(k5 y6.1))
def U09(v5:Room):Option (Room×Bool) :=
 some (v5,true)
def QF(s1:State):Option (Room×Bool) :=
 (Wo s1.topo).bind λb2=>bif (((!b2)||((s1.up.length:Int)!=(s1.topo.nodes.length:Int)))||(!(Q1 s1.lic)))||(!(J6 s1.now))then(some ((Room.mk (Topo.mk [] []) [] [] []),false))else((LY s1.topo s1.up s1.lic).bind λy3=>rgl (LB s1) U09 s1.runs 0 y3)
theorem Z0h{s1:State}{r:Room×Bool}(H:QF s1=some r):Snd Tryz.prog U0s [V2 .rd s1] (.tup [Oe .nw r.1,.bool r.2]) []:=by
 refine wS L0W [.c 2 5 true,.t 3] ?_
 unfold QF at H
 obtain⟨b2,h2,H⟩:=bB H
 refine wH [.c 11 (WW h2),.g 16 [((!b2),false)] (.ln _ _ λ_=>lm s1.up eBo),.g 20 [((!b2),false)] (.ln _ _ λ_=>lm s1.topo.nodes V1),.g 26 [(((!b2)||((s1.up.length:Int)!=(s1.topo.nodes.length:Int))),false)] (.call _ _ _ _ _ (AEs.refl _) (λ_=>W6 s1.lic)),.g 32 [((((!b2)||((s1.up.length:Int)!=(s1.topo.nodes.length:Int)))||(!(Q1 s1.lic))),false)] (.call _ _ _ _ _ (AEs.refl _) (λ_=>Ls s1.now))] ?_
 refine M0 H ?_ ?_<;>intro H
 .refine wP ?_
  replace H:=sI H;subst H
  exact wN [(2,.d),(3,.d)] [(2,[.n 1,.n 4,.n 1,.n 1,.n 4])] [] [] [] [⟨_,nw_I ([]:List Int)⟩,⟨_,L2 ([]:List Node)⟩,⟨_,Mr ([]:List Bool)⟩,⟨_,Q9 ([]:List (List Pt))⟩,⟨_,Wl ([]:List Pt)⟩]
 .obtain⟨y3,h3,H⟩:=bB H
  refine wG [.c 42 (M18 h3),.u 45 (.ln _ _ λ_=>lm s1.runs (Z1 .rd))] λq4=>?_
  refine wR (λ(i5:Nat) (v5:Room)=>⟨[(1,.ptr 1 0),(2,.ptr 2 0),(4,.ptr 4 0),(44,rV 13 (s1.runs.map (Z1 .rd))),(45,iV (s1.runs.length:Int)),(46,iV (i5:Int))],[],[(1,(V2 .rd s1).cells),(2,[.nl,.nl,.nl,.nl,.nl]),(4,(Oe .nw v5).cells)],[]⟩) H (λi5 x5 v5 I m k5 hxv5 hiv5 H N40=>?_) (λv5 I m H=>?_)
  .unfold LB at H
   refine wP (wt (ltT hiv5) ?_)
   refine wH [.u 48 (.ix _ _ _ λ_=>W0 (Z1 .rd) (Y1 hxv5)),.c 52 (ZC x5.job),.g 59 [((!(U6 x5.job)),false)] (.call _ _ _ _ _ (AEs.refl _) (λ_=>Y2 x5.t 0 s1.now)),.g 72 [(((!(U6 x5.job))||(!(U0 x5.t 0 s1.now))),false)] (.call _ _ _ _ _ (AEs.refl _) (λ_=>Y2 (w64 (x5.t+x5.job.wall)) (w64 (s1.now+1)) 1000000000))] ?_
   refine M0 H ?_ ?_<;>intro H
   .refine wP ?_
    replace H:=sI H;subst H
    exact wN [(2,.d),(3,.d)] [(2,[.n 1,.n 4,.n 1,.n 1,.n 4])] [] [] [] [⟨_,nw_I ([]:List Int)⟩,⟨_,L2 ([]:List Node)⟩,⟨_,Mr ([]:List Bool)⟩,⟨_,Q9 ([]:List (List Pt))⟩,⟨_,Wl ([]:List Pt)⟩]
   .obtain⟨y6,h6,H⟩:=bB H
    refine wH [.u 90 (.call _ _ _ _ _ (AEs.of (xs:=[.agg [rV 1 (v5.topo.parents.map eI),rV 4 (v5.topo.nodes.map V1),rV 1 (v5.up.map eBo),rV 1 (v5.profs.map (J1 .nw)),rV 4 (v5.lics.map ePt)],.agg [iV x5.job.id,iV x5.job.prio,iV x5.job.nodes,iV x5.job.need.a,iV x5.job.need.b,iV x5.job.need.c,iV x5.job.lic.a,iV x5.job.lic.b,iV x5.job.lic.c,iV x5.job.wall,iV x5.job.level],iV s1.now,iV (w64 (x5.t+x5.job.wall)),rV 1 (x5.nodes.map eI),.fn Jo []]) (by simp)) (λ_=>YR h6))] ?_
    refine M0 H ?_ ?_<;>intro H
    .refine wP ?_
     replace H:=sI H;subst H
     exact wN [(2,.d),(3,.d)] [(2,[.n 1,.n 4,.n 1,.n 1,.n 4])] [] [] [] [⟨_,nw_I ([]:List Int)⟩,⟨_,L2 ([]:List Node)⟩,⟨_,Mr ([]:List Bool)⟩,⟨_,Q9 ([]:List (List Pt))⟩,⟨_,Wl ([]:List Pt)⟩]
    .exact wH [.w 97 (wi .i64 rfl hiv5 q4.1)] (wT (N40 _ H))
  .unfold U09 at H
   refine wP (wf (ltF s1.runs.length) ?_)
   refine wP ?_
   replace H:=sI H;subst H
   exact wN [(2,.d),(3,.d)] [(2,[])] [] [] [] [⟨_,nw_I v5.topo.parents⟩,⟨_,L2 v5.topo.nodes⟩,⟨_,Mr v5.up⟩,⟨_,Q9 v5.profs⟩,⟨_,Wl v5.lics⟩]
noncomputable def W0w:L :=
 lf Tryz.prog O05 [6] [] [] [] [] [] []
def YU(x4:Run)(_:Nat)(v4:List Job)(k4:List Job->Option (List Job)):Option (List Job) :=
 (appL 88 v4 [x4.job]).bind λxs5=>k4 xs5
def ZU(v4:List Job):Option (List Job) :=
 some v4
def Zt(s1:State):Option (List Job) :=
 (appL 88 ([]:List Job) s1.queue).bind λxs2=>rgl YU ZU s1.runs 0 xs2
theorem XZ{s1:State}{r:(List Job)}(H:Zt s1=some r):Snd Tryz.prog O05 [V2 .rd s1] (nV 11 (r.map eJob)) []:=by
 refine wS W0w [.t 2] ?_
 unfold Zt at H
 obtain⟨xs2,h2,H⟩:=bB H
 refine wG [.u 9 (.ap _ _ _ _ λ_=>L0 eJob h2),.u 12 (.ln _ _ λ_=>lm s1.runs (Z1 .rd))] λq3=>?_
 refine wR (λ(i4:Nat) (v4:List Job)=>⟨[(3,.sref 6),(11,rV 13 (s1.runs.map (Z1 .rd))),(12,iV (s1.runs.length:Int)),(13,iV (i4:Int))],[],[],[(6,⟨11,v4.map eJob,false⟩)]⟩) H (λi4 x4 v4 I m k4 hxv4 hiv4 H N15=>?_) (λv4 I m H=>?_)
 .unfold YU at H
  refine wP (wt (ltT hiv4) ?_)
  obtain⟨xs5,h5,H⟩:=bB H
  exact wH [.u 15 (.ix _ _ _ λ_=>W0 (Z1 .rd) (Y1 hxv4)),.u 21 (.ap _ _ _ _ λ_=>L0 eJob h5),.w 22 (wi .i64 rfl hiv4 q3.1)] (wT (N15 _ H))
 .unfold ZU at H
  refine wP (wf (ltF s1.runs.length) ?_)
  refine wP ?_
  replace H:=sI H;subst H
  exact wN [(2,.f)] [] [] [6] [] [⟨_,VC v4⟩]
noncomputable def U0P:L :=
 lf Tryz.prog V0j [] [] [] [] [(13,18)] [] []
def JL(s1:State)(x8:Int)(_:Nat)(_:Unit)(k8:Unit->Option Bool):Option Bool :=
 (idx s1.up x8).bind λe9=>bif !e9 then(some false)else(k8 ())
def LL(s1:State)(x6:Run)(k6:Unit->Option Bool)(_:Unit):Option Bool :=
 (Ji x6.nodes).bind λb10=>(bif !b10 then some default else(WF s1.topo x6.nodes)).bind λn11=>(bif !b10 then some default else(Yx s1.topo n11)).bind λn12=>bif (!b10)||decide (x6.job.level<n12)then(some false)else(k6 ())
def Uv(s1:State)(x14:End)(_:Nat)(_:Unit)(k14:Unit->Option Bool):Option Bool :=
 bif ((!(U0 x14.id 1 999))||(!(U0 x14.t 0 s1.now)))||(!(U0 x14.why 1 4))then(some false)else(k14 ())
def OL(_:Unit):Option Bool :=
 some true
def Qv(s1:State)(x6:Run)(_:Nat)(_:Unit)(k6:Unit->Option Bool):Option Bool :=
 rgl (JL s1) (LL s1 x6 k6) x6.nodes 0 ()
def ML(s1:State)(_:Unit):Option Bool :=
 rgl (Uv s1) OL s1.ends 0 ()
def Oo(s1:State):Option Bool :=
 (QF s1).bind λy2=>(bif (!y2.2)||(!(U0 s1.depth 0 60))then some default else(Zt s1)).bind λy3=>(bif (!y2.2)||(!(U0 s1.depth 0 60))then some default else(VJ y3)).bind λb4=>bif (((!y2.2)||(!(U0 s1.depth 0 60)))||(!b4))||decide (300<(s1.ends.length:Int))then(some false)else(rgl (Qv s1) (ML s1) s1.runs 0 ())
theorem WR{s1:State}{r:Bool}(H:Oo s1=some r):Snd Tryz.prog V0j [V2 .rd s1] (.bool r) []:=by
 refine wS U0P [.t 2] ?_
 unfold Oo at H
 obtain⟨y2,h2,y3,h3,b4,h4,H⟩:=bB3 H
 refine wH [.c 13 (Z0h h2),.g 21 [((!y2.2),false)] (.call _ _ _ _ _ (AEs.refl _) (λ_=>Y2 s1.depth 0 60)),.g 26 [(_,false)] (.call _ _ _ _ _ (AEs.refl _) (λq=>XZ (bF q.1 h3))),.g 27 [(_,false)] (.call _ _ _ _ _ (AEs.refl _) (λq=>V0Q (bF q.1 h4))),.g 33 [((((!y2.2)||(!(U0 s1.depth 0 60)))||(!b4)),false)] (.ln _ _ λ_=>lm s1.ends eEnd)] ?_
 refine M0 H ?_ ?_<;>intro H
 .obtain rfl:=sI H
  exact wP (wE [(2,.d)])
 .refine wG [.u 38 (.ln _ _ λ_=>lm s1.runs (Z1 .rd))] λq5=>?_
  refine wR (λ(i6:Nat) (v6:Unit)=>⟨[(1,.ptr 1 0),(37,rV 13 (s1.runs.map (Z1 .rd))),(38,iV (s1.runs.length:Int)),(39,iV (i6:Int))],[],[(1,(V2 .rd s1).cells)],[]⟩) H (λi6 x6 v6 I m k6 hxv6 hiv6 H N52=>?_) (λv6 I m H=>?_)
  .unfold Qv at H
   refine wP (wt (ltT hiv6) ?_)
   refine wG [.u 41 (.ix _ _ _ λ_=>W0 (Z1 .rd) (Y1 hxv6)),.u 45 (.ln _ _ λ_=>lm x6.nodes eI)] λq7=>?_
   refine wR (λ(i8:Nat) (v8:Unit)=>⟨[(1,.ptr 1 0),(6,.ptr 6 0),(37,rV 13 (s1.runs.map (Z1 .rd))),(38,iV (s1.runs.length:Int)),(39,iV (i6:Int)),(44,rV 1 (x6.nodes.map eI)),(45,iV (x6.nodes.length:Int)),(46,iV (i8:Int))],[],[(1,(V2 .rd s1).cells),(6,(Z1 .rd x6).cells)],[]⟩) H (λi8 x8 v8 I m k8 hxv8 hiv8 H N35=>?_) (λv8 I m H=>?_)
   .unfold JL at H
    refine wP (wt (ltT hiv8) ?_)
    obtain⟨e9,h9,H⟩:=bB H
    refine wH [.u 48 (.ix _ _ _ λ_=>W0 eI (Y1 hxv8)),.u 53 (.ix _ _ _ λ_=>W0 eBo h9)] ?_
    refine M0 H ?_ ?_<;>intro H
    .obtain rfl:=sI H
     exact wP (wE [(2,.d)])
    .exact wH [.w 56 (wi .i64 rfl hiv8 q7.1)] (wT (N35 () H))
   .unfold LL at H
    refine wP (wf (ltF x6.nodes.length) ?_)
    obtain⟨b10,h10,n11,h11,n12,h12,H⟩:=bB3 H
    refine wH [.c 59 (Y0f h10),.g 68 [(_,false)] (.call _ _ _ _ _ (AEs.refl _) (λq=>X0Y (bF q.1 h11))),.g 69 [(_,false)] (.call _ _ _ _ _ (AEs.refl _) (λq=>UN (bF q.1 h12)))] ?_
    refine M0 H ?_ ?_<;>intro H
    .obtain rfl:=sI H
     exact wP (wE [(2,.d)])
    .exact wH [.w 75 (wi .i64 rfl hiv6 q5.1)] (wT (N52 () H))
  .unfold ML at H
   refine wP (wf (ltF s1.runs.length) ?_)
   refine wG [.u 78 (.ln _ _ λ_=>lm s1.ends eEnd)] λq13=>?_
   refine wR (λ(i14:Nat) (v14:Unit)=>⟨[(1,.ptr 1 0),(77,rV 3 (s1.ends.map eEnd)),(78,iV (s1.ends.length:Int)),(79,iV (i14:Int))],[],[(1,(V2 .rd s1).cells)],[]⟩) H (λi14 x14 v14 I m k14 hxv14 hiv14 H N74=>?_) (λv14 I m H=>?_)
   .unfold Uv at H
    refine wP (wt (ltT hiv14) ?_)
    refine wH [.u 81 (.ix _ _ _ λ_=>W0 eEnd (Y1 hxv14)),.c 85 (Y2 x14.id 1 999),.g 92 [((!(U0 x14.id 1 999)),false)] (.call _ _ _ _ _ (AEs.refl _) (λ_=>Y2 x14.t 0 s1.now)),.g 98 [(((!(U0 x14.id 1 999))||(!(U0 x14.t 0 s1.now))),false)] (.call _ _ _ _ _ (AEs.refl _) (λ_=>Y2 x14.why 1 4))] ?_
    refine M0 H ?_ ?_<;>intro H
    .obtain rfl:=sI H
     exact wP (wE [(2,.d)])
    .exact wH [.w 101 (wi .i64 rfl hiv14 q13.1)] (wT (N74 () H))
   .unfold OL at H
    refine wP (wf (ltF s1.ends.length) ?_)
    obtain rfl:=sI H
    exact wP (wE [(2,.d)])
theorem U18(r:Room)(j:Job)(from_ to_:Int)(nodes:List Int):Z7 r j from_ to_ nodes=bif diffOk r j nodes then YG r j.need j.lic from_ to_ nodes else some Oh:=by
 unfold Z7 diffOk
 rw[J0g,bS,Zr]
 cases hr:roomOk r with
 |false=>rfl
 |true =>
  have hR:=Zx.1 hr
  rw[Z0l hR.small.nodes]
  cases X1 j with
  |false=>rfl
  |true =>
   simp only[yL,Bool.or_self,yM,Bool.true_and,bS]
   cases(decide ((nodes.length:Int)=j.nodes)&&U4 r.topo nodes&&decide nodes.Nodup)with
   |false=>rfl
   |true =>
    simp only[yL,Bool.or_self,yM,yN]
    rw[W0G hR.small,bS]
    unfold YG Ob Wb
    simp only[λp f t v=>(VS p f t v).1]
    rfl
def idsOk(l:List Job):Bool:=decide (l.map Job.id).Nodup
noncomputable def queueOk(l:List Job):Bool:=decide (l.length<=60)&&l.all X1&&idsOk l
theorem Z1q{l:List Job}{i:Nat}{x:Job}(hx:l[i]?=some x):((l.take (i+1)).map Job.id).Nodup↔((l.take i).map Job.id).Nodup/\∀y∈l.take i,y.id≠x.id:=by
 obtain⟨hi,rfl⟩:=yB hx
 rw[List.take_succ_eq_append_getElem hi,List.map_append,List.nodup_append]
 constructor
 .intro h;exact⟨h.1,λy hy e=>h.2.2 _ (List.mem_map_of_mem hy) _ (List.mem_singleton.2 rfl) e⟩
 .intro h;exact⟨h.1,by simp,λa ha b hb e=>by
   obtain⟨y,hy,rfl⟩:=yY ha
   rw[show b=l[i].id by simpa using hb]at e
   exact h.2 y hy e⟩
theorem Q0Z{γ:Type}{bd:Job->Nat->Unit->(Unit->Option γ)->Option γ}{kk:Unit->Option γ}{r:Option γ}{l:List Job}
  (hb:∀i x k,l[i]?=some x->bd x i () k=bif (!X1 x)||(l.take i).any (λy=>y.id==x.id)then r else k ()):rgl bd kk l 0 ()=bif l.all X1&&idsOk l then kk ()else r:=by
 refine X7 (λi (_:Unit)=>(∀y∈l.take i,X1 y=true)/\((l.take i).map Job.id).Nodup) (λo=>o=bif l.all X1&&idsOk l then kk ()else r) (λi x b k hx hI hk=>?_) (λb hI=>?_) (by simp)
 .have hil:=(yB hx).1
  rw[hb i x k hx]
  cases hj:X1 x with
  |false =>
   have:l.all X1=false:=List.all_eq_false.2 ⟨x,yE hx,by rw[hj];simp⟩
   rw[this];rfl
  |true =>
   cases hc:(l.take i).any (λy=>y.id==x.id)with
   |true =>
    obtain⟨y,hy,he⟩:=List.any_eq_true.1 hc
    have:idsOk l=false:=by
     unfold idsOk
     rw[decide_eq_false_iff_not]
     intro q
     have q2:((l.take (i+1)).map Job.id).Nodup:=q.sublist ((List.take_sublist _ _).map _)
     exact((Z1q hx).1 q2).2 y hy (by simpa using he)
    rw[this,Bool.and_false];rfl
   |false =>
    refine hk () ⟨λy hy=>?_,(Z1q hx).2 ⟨hI.2,λy hy e=>?_⟩⟩
    .obtain⟨hi,rfl⟩:=yB hx
     rw[List.take_succ_eq_append_getElem hi]at hy
     rcases List.mem_append.1 hy with hy|hy
     .exact hI.1 y hy
     .rw[List.mem_singleton.1 hy];exact hj
    .have:=List.any_eq_false.1 hc y hy
     simp[e]at this
 .rw[List.take_of_length_le (yV _)]at hI
  rw[List.all_eq_true.2 hI.1]
  unfold idsOk
  rw[decide_eq_true hI.2];rfl
theorem OP(l:List Job):Yn l=some (queueOk l):=by
 unfold Yn queueOk
 by_cases h:60<l.length
 .simp[show(60:Int)<l.length by omega,show ¬ l.length<=60 by omega]
 .rw[show decide ((60:Int)<(l.length:Int))=false by simp;omega,show decide (l.length<=60)=true by simp;omega]
  simp only[yM,Bool.true_and]
  rw[Q0Z (r:=some false) (λi x k hx=>?_)]
  .unfold MK
   cases(l.all X1&&idsOk l)<;>rfl
  .have hil:=(yB hx).1
   unfold LK
   cases X1 x with
   |false=>rfl
   |true =>
    simp only[yL,yM,Bool.false_or]
    have h:=Q0j (bd:=Qk l i x k) (λ(i:Nat) (_:Unit)=>(i:Int)) (n:=i)
     (B:=λm _ _ k=>bif match l[m]? with|some e=>e.id==x.id|none=>false then some false else k ()) (kk:=λ_=>k ()) (λm st k hm=>by
      obtain⟨e,he⟩:∃e,l[m]?=some e:=⟨_,yA (by omega)⟩
      have hlt:(m:Int)<(i:Int):=by omega
      simp only[Qk,hlt,decide_true,yN,Y7,he,bS,X06 (n:=m) (by omega)])
     (λm st k hm=>by
      have hlt:¬ (m:Int)<(i:Int):=by omega
      simp only[Qk,hlt,decide_false,yM]) 9223372036854775807 0 () (by omega)
    refine h.trans ?_
    rw[Mn (r:=some false) (p:=λ(m:Nat)=>match l[m]? with|some e=>e.id==x.id|none=>false) (λm _ i k=>rfl)]
    have e:(List.range' 0 (i-0)).any (λ(m:Nat)=>match l[m]? with|some e=>e.id==x.id|none=>false)=(l.take i).any (λy=>y.id==x.id):=by
     rw[Bool.eq_iff_iff,List.any_eq_true,List.any_eq_true]
     constructor
     .rintro⟨m,hm,hq⟩
      obtain⟨j,hj,rfl⟩:=List.mem_range'.1 hm
      have hlt:0+1*j<l.length:=by omega
      rw[yA hlt]at hq
      exact⟨_,List.mem_take_iff_getElem.2 ⟨0+1*j,by omega,rfl⟩,hq⟩
     .rintro⟨y,hy,hq⟩
      obtain⟨m,hm,rfl⟩:=List.mem_take_iff_getElem.1 hy
      exact⟨m,List.mem_range'.2 ⟨m,by omega,by omega⟩,by rw[yA (by omega)];exact hq⟩
    rw[e]
theorem Z1l(l:List Job)(c:Job):U1 l c=some (l.any λy=>y.id==c.id):=by
 unfold U1 X2
 have:∃r:Int,rgl (M1 c) Y3 l 0 ()=some r/\decide (0<=r)=l.any λy=>y.id==c.id:=by
  refine X7 (λi (_:Unit)=>∀y∈l.take i,(y.id==c.id)=false) (λo=>∃r:Int,o=some r/\decide (0<=r)=l.any λy=>y.id==c.id) (λi x b k hx hI hk=>?_) (λb hI=>?_) (by simp)
  .unfold M1 Yt
   cases h:(x.id==c.id)with
   |true=>exact⟨i,rfl,by rw[List.any_eq_true.2 ⟨x,yE hx,h⟩];simp⟩
   |false =>
    refine hk () λy hy=>?_
    obtain⟨hi,rfl⟩:=yB hx
    rw[List.take_succ_eq_append_getElem hi]at hy
    rcases List.mem_append.1 hy with hy|hy
    .exact hI y hy
    .rw[List.mem_singleton.1 hy];exact h
  .rw[List.take_of_length_le (yV _)]at hI
   exact⟨-1,rfl,by rw[List.any_eq_false.2 λy hy=>by rw[hI y hy];simp];rfl⟩
 obtain⟨r,h1,h2⟩:=this
 rw[h1,bS,h2]
theorem U0Q(l:List Job):VJ l=some (queueOk l):=by
 unfold VJ queueOk
 rw[Q0Z (r:=some false) (λi x k hx=>?_)]
 .unfold ZM
  have e:decide ((l.length:Int)<=60)=decide (l.length<=60):=by rw[Bool.eq_iff_iff];simp;omega
  rw[e]
  cases l.all X1<;>cases idsOk l<;>cases decide (l.length<=60)<;>rfl
 .have hil:=(yB hx).1
  unfold YM
  rw[Zr,Y0J (by omega)]
  cases X1 x with
  |false=>rfl
  |true =>
   simp only[yL,yM,bS,Z1l,Bool.false_or]
theorem Q0Q(v:Vec):Wj v=Z5 v:=rfl
def Ut(t:Topo)(up:List Bool)(lic:Vec):Room:=⟨t,up,t.nodes.map λx=>(Z5 x.cap).1,(Z5 lic).1⟩
theorem O11{v:Vec}(h:Q0 v=true):ProfP (Z5 v).1:=by
 unfold Z5
 rw[h]
 simp only[yL,yM]
 exact⟨by simp,by simp,λx hx=>by simp at hx;rw[← hx],λx hx=>by simp at hx;subst hx;exact⟨rfl,h⟩,λi x y hx hy=>by simp at hy⟩
theorem Z0a{t:Topo}(h:TopoP t){up:List Bool}(hu:up.length=t.nodes.length){lic:Vec}(hl:Q0 lic=true):RoomP (Ut t up lic) :=
  ⟨h,hu,by simp[Ut],λp hp=>by
    obtain⟨x,hx,rfl⟩:=yY hp
    exact O11 (h.node x hx).2.2.2,O11 hl⟩
theorem L18{t:Topo}(h:TopoP t){up:List Bool}(hu:up.length=t.nodes.length)(lic:Vec):LY t up lic=some (Ut t up lic):=by
 have:=h.tree.le;have:=h.nodes
 unfold LY Lg M7
 rw[O0 (by simp;omega),bS,bS,O0 (by simp;omega),bS,bS,O0 (by simp;omega),bS]
 rw[V6 (bd:=UW) (bs:=24) (p:=λ_=>true) (f:=λx=>(Z5 x.cap).1) (λx hx i b k=>rfl) (by simp;omega)]
 unfold VW Ut
 simp[List.filter_eq_self.2,Q0Q]
theorem L03(s:State):Xp s=some (bif topoOk s.topo&&decide (s.up.length=s.topo.nodes.length)&&Q0 s.lic then(Ut s.topo s.up s.lic,true)else Oh):=by
 unfold Xp
 rw[Qs,bS,O15]
 cases ht:topoOk s.topo with
 |false=>rfl
 |true =>
 cases hu:decide (s.up.length=s.topo.nodes.length)with
 |false=>rfl
 |true =>
 cases hl:Q0 s.lic with
 |false=>rfl
 |true =>
  have h:=QC.1 ht
  have hu:=of_decide_eq_true hu
  have:=h.nodes
  simp only[yL,Bool.or_self,yM,Bool.and_self,yN]
  rw[V6 (bd:=MC) (bs:=24) (p:=λ_=>true) (f:=λx=>(Z5 x.cap).1) (λx hx i b k=>rfl) (by simp;omega)]
  unfold OC
  rw[show(s.topo.nodes.filter λ_=>true)=s.topo.nodes from List.filter_eq_self.2 λ_ _=>rfl,List.nil_append]
  have hR:=Z0a h hu hl
  unfold Ut at hR
  rw[J06 hR.small,bS]
  rfl
def O0C(s:State)(x:Run):Bool:=time x.t&&decide (x.t<=s.now)&&decide (s.now<x.t+x.job.wall)&&decide (x.t+x.job.wall<=1000000000)
noncomputable def XH(s:State)(x:Run)(v:Room):Option (Room×Bool):=bif diffOk v x.job x.nodes&&O0C s x then YG v x.job.need x.job.lic s.now (x.t+x.job.wall) x.nodes else some Oh
theorem O12{s:State}(hs:time s.now=true)(x:Run)(i:Nat)(v:Room)(k:Room->Option (Room×Bool)):Jz s x i v k=(XH s x v).bind λy=>bif !y.2 then some Oh else k y.1:=by
 have hn:=Ol.1 hs
 unfold Jz XH
 rw[M06,bS,Xi]
 cases hd:diffOk v x.job x.nodes with
 |false=>rfl
 |true =>
  have hj:X1 x.job=true:=by unfold diffOk at hd;simp only[yD]at hd;exact hd.1.1.1.2
  have hj':=Zo.1 hj
  unfold O0C
  by_cases ht:time x.t=true/\x.t<=s.now
  .have ht1:=Ol.1 ht.1
   rw[ht.1,Q5 (n:=x.t+x.job.wall) (by omega),show decide (s.now<x.t)=false by simp;omega,show decide (x.t<=s.now)=true by simpa using ht.2]
   by_cases h3:s.now<x.t+x.job.wall
   .rw[show decide (x.t+x.job.wall<=s.now)=false by simp;omega,show decide (s.now<x.t+x.job.wall)=true by simpa using h3]
    by_cases h4:x.t+x.job.wall<=1000000000
    .rw[show decide (1000000000<x.t+x.job.wall)=false by simp;omega,show decide (x.t+x.job.wall<=1000000000)=true by simpa using h4]
     simp only[yL,Bool.or_self,yM,Bool.and_self,yN]
     rw[Q5 (n:=x.t+x.job.wall-s.now) (by omega),U07]
     have e:diffOk v ⟨x.job.id,x.job.prio,x.job.nodes,x.job.need,x.job.lic,x.t+x.job.wall-s.now,x.job.level⟩ x.nodes=true:=by
      have hj2:X1 ⟨x.job.id,x.job.prio,x.job.nodes,x.job.need,x.job.lic,x.t+x.job.wall-s.now,x.job.level⟩=true:=by
       rw[Zo];simp only;refine⟨hj'.1,hj'.2.1,hj'.2.2.1,hj'.2.2.2.1,hj'.2.2.2.2.1,by omega,hj'.2.2.2.2.2.2⟩
      unfold diffOk at hd ⊢
      rw[hj]at hd
      rw[hj2];exact hd
     rw[e,hs]
     simp only[Bool.and_self,yN]
     rw[show s.now+(x.t+x.job.wall-s.now)=x.t+x.job.wall by omega,Q5 (by omega)]
     rfl
    .rw[show decide (1000000000<x.t+x.job.wall)=true by simp;omega,show decide (x.t+x.job.wall<=1000000000)=false by simpa using h4]
     simp[Oh]
   .rw[show decide (x.t+x.job.wall<=s.now)=true by simp;omega,show decide (s.now<x.t+x.job.wall)=false by simpa using h3]
    simp[Oh]
  .have:(time x.t&&decide (x.t<=s.now))=false:=by
    rw[Bool.eq_false_iff];intro q;simp only[yD,yO]at q;exact ht q
   rw[this]
   have h2:(!(time x.t)||decide (s.now<x.t))=true:=by
    cases hx:time x.t with
    |false=>rfl
    |true =>
     have:¬ x.t<=s.now:=λq=>ht ⟨hx,q⟩
     simp;omega
   simp only[yL,Bool.false_or,h2,Bool.true_or,yN,Bool.false_and,Bool.and_false,yM,bS]
   rfl
theorem V18{s:State}(hs:time s.now=true)(x:Run)(i:Nat)(v:Room)(k:Room->Option (Room×Bool)):LB s x i v k=(XH s x v).bind λy=>bif !y.2 then some Oh else k y.1:=by
 have hn:=Ol.1 hs
 unfold LB XH
 rw[Zr,U18]
 cases hj:X1 x.job with
 |false =>
  have hd:diffOk v x.job x.nodes=false:=by unfold diffOk;rw[hj];simp
  rw[hd];rfl
 |true =>
  have hj':=Zo.1 hj
  by_cases h1:0<=x.t/\x.t<=s.now
  .rw[Q5 (n:=x.t+x.job.wall) (by omega),Q5 (n:=s.now+1) (by omega)]
   have e1:U0 x.t 0 s.now=true:=by simp[U0];exact h1
   have e2:U0 (x.t+x.job.wall) (s.now+1) 1000000000=(decide (s.now<x.t+x.job.wall)&&decide (x.t+x.job.wall<=1000000000)):=by
    unfold U0;congr 1
   have e3:time x.t=true:=by rw[Ol];omega
   unfold O0C
   rw[e1,e2,e3,show decide (x.t<=s.now)=true by simpa using h1.2]
   simp only[yL,Bool.false_or,Bool.and_self,Bool.true_and]
   cases(decide (s.now<x.t+x.job.wall)&&decide (x.t+x.job.wall<=1000000000))<;>cases diffOk v x.job x.nodes<;>rfl
  .have e1:U0 x.t 0 s.now=false:=by
    unfold U0;rw[Bool.eq_false_iff];intro q;simp only[yD,yO]at q;exact h1 q
   have e2:O0C s x=false:=by
    unfold O0C;rw[Bool.eq_false_iff];intro q;simp only[yD,yO,Ol]at q;exact h1 ⟨q.1.1.1.1,q.1.1.2⟩
   rw[e1,e2]
   simp[Oh]
noncomputable def V0d(s:State):Option (Room×Bool):=rgl (λx _ v k=>(XH s x v).bind λy=>bif !y.2 then some Oh else k y.1) (λv=>some (v,true)) s.runs 0 (Ut s.topo s.up s.lic)
noncomputable def Zp(s:State):Bool:=topoOk s.topo&&decide (s.up.length=s.topo.nodes.length)&&Q0 s.lic&&time s.now
theorem WV(s:State):L6 s=bif Zp s then V0d s else some Oh:=by
 unfold L6 Zp
 rw[L03,bS,Xi]
 cases(topoOk s.topo&&decide (s.up.length=s.topo.nodes.length)&&Q0 s.lic)with
 |false=>rfl
 |true =>
  cases hs:time s.now with
  |false=>rfl
  |true =>
   simp only[yN,yL,Bool.or_self,yM,Bool.and_self]
   unfold V0d
   exact Q0n (λi x b k _=>O12 hs x i b k) λb=>rfl
theorem Y0h(s:State):QF s=L6 s:=by
 rw[WV]
 unfold QF Zp
 rw[OW,Qs,bS,O15,Mq,XW]
 cases ht:topoOk s.topo with
 |false=>rfl
 |true =>
 cases hu:decide (s.up.length=s.topo.nodes.length)with
 |false=>rfl
 |true =>
 cases hl:Q0 s.lic with
 |false=>rfl
 |true =>
 cases hs:time s.now with
 |false=>rfl
 |true =>
  simp only[yL,Bool.or_self,yM,Bool.and_self,yN]
  rw[L18 (QC.1 ht) (of_decide_eq_true hu),bS]
  unfold V0d
  exact Q0n (λi x b k _=>V18 hs x i b k) λb=>rfl
structure RunsP(s:State):Prop where
 job:∀x∈s.runs,X1 x.job=true/\(x.nodes.length:Int)=x.job.nodes/\U4 s.topo x.nodes=true/\x.nodes.Nodup/\O0C s x=true
theorem W14{s:State}(h:Zp s=true):∃q,V0d s=some q/\(q.2=true->RoomP q.1/\q.1.topo=s.topo/\q.1.up=s.up/\RunsP s):=by
 unfold Zp at h
 simp only[yD,yO,QC]at h
 unfold V0d
 refine X7 (λi (v:Room)=>RoomP v/\v.topo=s.topo/\v.up=s.up/\∀x∈s.runs.take i,X1 x.job=true/\(x.nodes.length:Int)=x.job.nodes/\U4 s.topo x.nodes=true/\x.nodes.Nodup/\O0C s x=true) (λo=>∃q:Room×Bool,o=some q/\(q.2=true->RoomP q.1/\q.1.topo=s.topo/\q.1.up=s.up/\RunsP s)) (λi x v k hx hI hk=>?_) (λv hI=>?_) ⟨Z0a h.1.1.1 h.1.1.2 h.1.2,rfl,rfl,by simp⟩
 .obtain⟨h1,h2,h3,h4⟩:=hI
  unfold XH
  cases hd:(diffOk v x.job x.nodes&&O0C s x)with
  |false=>exact⟨Oh,rfl,λh=>by cases h⟩
  |true =>
   simp only[yD]at hd
   have hd1:=hd.1
   unfold diffOk at hd1
   simp only[yD,yO]at hd1
   obtain⟨q,q1,q2⟩:=V00 h1 x.job.need x.job.lic s.now (x.t+x.job.wall) hd1.1.2
   simp only[yN]
   rw[q1,bS]
   cases hq:q.2 with
   |false=>exact⟨Oh,rfl,λh=>by cases h⟩
   |true =>
    obtain⟨a1,a2,a3⟩:=q2 hq
    refine hk q.1 ⟨a1,a2.trans h2,a3.trans h3,λy hy=>?_⟩
    obtain⟨hi,rfl⟩:=yB hx
    rw[List.take_succ_eq_append_getElem hi]at hy
    rcases List.mem_append.1 hy with hy|hy
    .exact h4 y hy
    .rw[List.mem_singleton.1 hy]
     exact⟨hd1.1.1.1.2,hd1.1.1.2,by rw[← h2];exact hd1.1.2,hd1.2,hd.2⟩
 .obtain⟨h1,h2,h3,h4⟩:=hI
  rw[List.take_of_length_le (yV _)]at h4
  exact⟨_,rfl,λ_=>⟨h1,h2,h3,⟨h4⟩⟩⟩
theorem Uk(s:State):∃q,L6 s=some q/\(q.2=true->Zp s=true/\RoomP q.1/\q.1.topo=s.topo/\q.1.up=s.up/\RunsP s):=by
 rw[WV]
 cases h:Zp s with
 |false=>exact⟨Oh,rfl,λh=>by cases h⟩
 |true =>
  obtain⟨q,h1,h2⟩:=W14 h
  exact⟨q,h1,λh=>⟨rfl,h2 h⟩⟩
def allJobs(s:State):List Job:=s.queue++s.runs.map Run.job
theorem Yy{s:State}(h:s.queue.length+s.runs.length<=1048576):Mf s=some (allJobs s):=by
 unfold Mf
 rw[O0 (by simp;omega),bS,V6 (bd:=MJ) (bs:=88) (p:=λ_=>true) (f:=Run.job) (λx hx i b k=>rfl) (by simp;omega)]
 unfold OJ allJobs
 simp[List.filter_eq_self.2]
theorem VZ(s:State):Zt s=Mf s:=rfl
end Go.Proofs.YtpgaganbacipnaaGreat
