/-
  Lemmas, part 9: the engine that steps through the code, the walks of functions, and the laws of what they compute.
-/
import Derived.Test.YtodafdoninblmaaGreatMS8
import Derived.Sort.Grow
import Derived.Lib.SlicesCompact
import Derived.Shelf.SlSortCmp.NoneTotal
import Derived.Ground.SlsfProg
import Derived.Shelf.Small.Bits
import Derived.Shelf.Small.Wraps
import Derived.Shelf.Strconv.Itoa0
import Derived.Shelf.Sort.Plain
import Derived.Shelf.Slices.Turned
import Derived.Ground.Names2Prog
import Derived.Shelf.Slices.CompactI
import Derived.Shelf.Slices.SearchI
import Derived.Shelf.Slices.Cells
import Derived.Shelf.Slices.In.SortNone
import Derived.Shelf.SlSortCmp.Insertion
import Derived.Shelf.SlSortCmp.SiftDown1
import Derived.Shelf.SlSortCmp.HeapSort1
import Derived.Shelf.SlSortCmp.Insertion1
import Derived.Shelf.SlSortCmp.Median1
import Derived.Shelf.SlSortCmp.Pivot1
import Derived.Shelf.SlSortCmp.ReverseRange1
import Derived.Shelf.SlSortCmp.PartialInsertion1
import Derived.Shelf.SlSortCmp.PartitionEqual1
import Derived.Shelf.SlSortCmp.Partition1
import Derived.Shelf.SlSortCmp.Pdq1
import Derived.Shelf.SlSortCmp.Whole1
import Derived.Test.YtodafdoninblmaaGreatProg
namespace Go.Proofs.YtodafdoninblmaaGreat.Eng
open Go Go.RowKit
structure Enc{α:Type}(sz:Nat)(enc:α->AV)(val:α->List Value):Prop where
 len:∀x,(enc x).cells.length=sz
 vlen:∀x,(val x).length=sz
 one:∀x,∀a∈(enc x).cells,a.one=true
 vone:∀x,∀v∈val x,v.oneCell'=true
 rd:∀(w:World) (S:Nat->Nat->Prop) (T:Tag->Nat->Value->Prop) x (j:Nat) (a:AV) (u:Value),(enc x).cells[j]?=some a->(val x)[j]?=some u->Rd w S T a u
 inv:∀(w:World) (S:Nat->Nat->Prop) (T:Tag->Nat->Value->Prop) x (j:Nat) (a:AV) (u v:Value),(enc x).cells[j]?=some a->(val x)[j]?=some u->Rd w S T a v->v=u
theorem Enc.flen{α:Type}{sz:Nat}{enc:α->AV}{val:α->List Value}(E:Enc sz enc val)(zs:List α):(zs.flatMap val).length=zs.length*sz:=by
 induction zs with
 |nil=>simp
 |cons x l ih=>simp only[ya,yU,ih,E.vlen,yT,Nat.succ_mul];omega
theorem Enc.elen{α:Type}{sz:Nat}{enc:α->AV}{val:α->List Value}(E:Enc sz enc val)(zs:List α):(flat (zs.map enc)).length=zs.length*sz:=by
 induction zs with
 |nil=>simp[flat]
 |cons x l ih=>simp only[flat,List.map_cons,ya,yU,yT,Nat.succ_mul]at ih ⊢;rw[ih,E.len];omega
theorem Enc.pair{α:Type}{sz:Nat}{enc:α->AV}{val:α->List Value}(E:Enc sz enc val){zs:List α}:∀{j:Nat} {a:AV} {u:Value},(flat (zs.map enc))[j]?=some a->(zs.flatMap val)[j]?=some u->∃(x:α) (i:Nat),(enc x).cells[i]?=some a/\(val x)[i]?=some u:=by
 induction zs with
 |nil=>intro j a u h;simp[flat]at h
 |cons x l ih =>
  intro j a u h1 h2
  simp only[flat,List.map_cons,ya]at ih h1 h2
  by_cases hj:j<sz
  .rw[yK (by rw[E.len];exact hj)]at h1
   rw[yK (by rw[E.vlen];exact hj)]at h2
   exact⟨x,j,h1,h2⟩
  .rw[yS (by rw[E.len];omega),E.len]at h1
   rw[yS (by rw[E.vlen];omega),E.vlen]at h2
   exact ih h1 h2
theorem Enc.flat_inv{α:Type}{sz:Nat}{enc:α->AV}{val:α->List Value}(E:Enc sz enc val){zs:List α}{w:World}{S:Nat->Nat->Prop}{T:Tag->Nat->Value->Prop}{j:Nat}{a:AV}{u v:Value}(h1:(flat (zs.map enc))[j]?=some a)(h2:(zs.flatMap val)[j]?=some u)(h:Rd w S T a v):v=u:=by
 obtain⟨x,i,q1,q2⟩:=E.pair h1 h2
 exact E.inv w S T x i a u v q1 q2 h
theorem Zaq{α:Type}{sz:Nat}{enc:α->AV}{val:α->List Value}(E:Enc sz enc val){w:World}{S:Nat->Nat->Prop}{T:Tag->Nat->Value->Prop}{zs:List α}{b cap:Nat}{cur:Array Value}{ty:TypeId}(h1:w.heap[b]?=some (.cells cur ty (0,0)))(h2:zs.length<=cap)(h3:cap<=maxLen)
  (h4:cur.size=cap*sz) (h5:cur.toList.take (zs.length*sz)=zs.flatMap val):Zh6 w S T ⟨sz,zs.map enc,false⟩ (.slice (some ⟨b,0,none⟩) zs.length cap):=by
 refine⟨zs.flatMap val,ty,?_,fun e he=>?_,fun j a u ha hu=>?_⟩
 .simp only[List.length_map]
  exact⟨E.flen zs,.inr ⟨b,cap,cur,rfl,Nat.zero_le _,h1,h2,h3,h4,h5⟩⟩
 .obtain⟨x,_,rfl⟩:=yY he;exact E.len x
 .obtain⟨x,i,q1,q2⟩:=E.pair ha hu
  exact⟨E.one x a (yE q1),E.vone x u (yE q2),E.rd _ _ _ x i a u q1 q2⟩
def RowX{α:Type}(P:Program)(f:FuncId)(sz:Nat)(enc:α->AV)(val:α->List Value)(xa:List AV)(zs zs':List α)(ret:Bool):Prop :=
 ∀(w:World) (g:Gh) (n0:Nat) (us:List Value),Heap w g (hSt n0 [] [some ⟨sz,zs.map enc,false⟩])->us.length=xa.length ->
  (∀(i:Nat) (a:AV) (v:Value),xa[i]?=some a->us[i]?=some v->Gv w g (hSt n0 [] [some ⟨sz,zs.map enc,false⟩]) a v) ->
 (zs=[]->Calls P f (.slice none 0 0::us).toArray w fun e w'=>e=.returned (if ret then .slice none 0 0 else .tuple #[])/\w'=w) /\
 ∀(b cap:Nat) (cur:Array Value) (ty:TypeId),w.heap[b]?=some (.cells cur ty (0,0))->zs.length<=cap->cap<=maxLen->cur.size=cap*sz->cur.toList.take (zs.length*sz)=zs.flatMap val->(∀o,¬ g.S b o) ->
  Calls P f (.slice (some ⟨b,0,none⟩) zs.length cap::us).toArray w fun e w'=>e=.returned (if ret then .slice (some ⟨b,0,none⟩) zs'.length cap else .tuple #[]) /\
   ∃cur':Array Value,w'.heap[b]?=some (.cells cur' ty (0,0))/\cur'.size=cap*sz/\cur'.toList.take (zs'.length*sz)=zs'.flatMap val/\zs'.length<=cap /\
    w'.os=w.os/\w'.tape=w.tape/\w'.output=w.output/\w.heap.size<=w'.heap.size/\∀k,k<w.heap.size->k≠b->w'.heap[k]?=w.heap[k]?
theorem Zth{α:Type}{sz:Nat}{enc:α->AV}{val:α->List Value}(E:Enc sz enc val){P:Program}{f:FuncId}{zs zs':List α}{ret:Bool}{xa:List AV}(h0:zs=[]->zs'=[])(hr:ret=false->zs'.length=zs.length)(h:RowX P f sz enc val xa zs zs' ret):ZRe P f sz (zs.map enc) xa ret (zs'.map enc):=by
 intro n0 w g vs H hN hl hvs
 match vs,hl with
 |v::us,hl =>
 obtain⟨hnil,hblk⟩:=h w g n0 us H (by simpa using hl) fun i a u ha hu=>hvs (i+1) a u (by simpa using ha) (by simpa using hu)
 have hv:v=g.rv 0:=by
  have q:=hvs 0 _ v rfl rfl
  exact q.sref_inv (by rfl)
 subst hv
 have hrow:=H.rws 0 ⟨sz,zs.map enc,false⟩ rfl
 have hrn:=H.rwn 0 ⟨sz,zs.map enc,false⟩ rfl
 obtain⟨xs,ty,hown,_,hc⟩:=hrow
 have hzl:(zs.map enc).length=zs.length:=by simp
 have fin:∀(v':Value) (w':World) (e:Ending),e=.returned (if ret then v' else .tuple #[])->(ret=false->v'=g.rv 0)->v'.ownBlock=(g.rv 0).ownBlock->v'.oneCell'=true->Zh6 w' g.S g.T ⟨sz,zs'.map enc,false⟩ v'->w'.os=w.os->w'.tape=w.tape->w'.output=w.output->w.heap.size<=w'.heap.size ->
   (∀k,k<w.heap.size->(g.rv 0).ownBlock≠some k->w'.heap[k]?=w.heap[k]?) ->
   ∃v,e=.returned v/\Kept (OwnB g 0 1) w w'/\∃n1 res bout upd new,n0<=n1/\(bout=[]/\(match ret with|true=>res=.sref 1/\upd=[none]/\new=[⟨sz,zs'.map enc,false⟩]|false=>res=.tup []/\upd=[some (zs'.map enc)]/\new=[])) /\
   bout.map List.length=([]:List (List AV)).map List.length/\upd.length=1/\∃g':Gh,(∀b o,g'.S b o->(g.S b o\/w.heap.size<=b\/OwnB g 0 1 b)/\(w.heap.size<=b\/OwnB g 0 1 b->UnfB w' b))/\(∀b,g'.N b->g.N b) /\
   (∀i,i<0->g'.bb i=g.bb i)/\(∀i es,upd[i]?=some (some es)->g'.rv i=g.rv i)/\Heap w' g' (hSt n1 bout (Z01 [⟨sz,zs.map enc,false⟩] upd new)) /\
   (∀(j:Nat) (r:Row),new[j]?=some r->∀b,(g'.rv (1+j)).ownBlock=some b->w.heap.size<=b\/OwnB g 0 1 b) /\
   (∀i,i<n0->g'.ov i=g.ov i)/\(∀i D,n0<=i->g'.ov i=some D->∀b,D b->w.heap.size<=b\/OwnB g 0 1 b) /\
   Gv w' g' (hSt n1 bout (Z01 [⟨sz,zs.map enc,false⟩] upd new)) res v:=by
  intro v' w' e he hv' hb' h1 hro q1 q2 q3 q4 q5
  have hownB:∀b,g.own b->b<w.heap.size/\(g.rv 0).ownBlock≠some b:=fun b hb=>⟨H.ow.size hb,fun q=>H.ow.rw 0 _ rfl b q hb⟩
  have noU:∀b o,g.S b o->(g.S b o\/w.heap.size<=b\/OwnB g 0 1 b)/\(w.heap.size<=b\/OwnB g 0 1 b->UnfB w' b):=fun b o h=>⟨.inl h,fun q=>by
   rcases q with q|⟨i,hi,_⟩|⟨i,hi,e⟩
   .exact absurd (H.sw b o h) (Nat.not_lt.2 q)
   .omega
   .have:i=0:=by omega
    subst this
    exact absurd h ((hrn.2 b e).2 o)⟩
  have hK:Kept (OwnB g 0 1) w w':=⟨q1,q2,q3,q4,fun k hk hno=>q5 k hk fun q=>hno (.inr ⟨0,by omega,q⟩)⟩
  cases ret with
  |false =>
   have hv':=hv' rfl
   subst hv'
   refine⟨.tuple #[],by simpa using he,hK,n0,.tup [],[],[some (zs'.map enc)],[],yV _,⟨rfl,rfl,rfl,rfl⟩,rfl,rfl,g,noU,fun b h=>h,fun i hi=>by omega,fun i es _=>rfl,?_,fun j r h=>by simp at h,fun _ _=>rfl,
    fun i D hi ho=>fun _ _=>absurd (H.ow.lt i D ho) (by simp only[hSt];omega),.tup [] [] rfl fun i a v h=>by simp at h⟩
   have hrw:∀k r,(hSt n0 [] (Z01 [⟨sz,zs.map enc,false⟩] [some (zs'.map enc)] [])).rw k=some r->k=0/\r=⟨sz,zs'.map enc,false⟩:=by
    intro k r hk
    match k with
    |0=>simp[hSt,Z01]at hk;exact⟨rfl,hk.symm⟩
    |k+1=>simp[hSt,Z01]at hk
   refine⟨fun k cs h=>by simp[hSt]at h,fun k cs h=>by simp[hSt]at h,fun k r hk=>?_,fun k r hk=>?_,fun k k' cs cs' h=>by simp[hSt]at h,fun k k' cs r h=>by simp[hSt]at h,fun k k' r r' hk hk' hne=>?_,fun b o h=>Nat.lt_of_lt_of_le (H.sw b o h) q4,?_⟩
   .obtain⟨rfl,rfl⟩:=hrw k r hk;exact hro
   .obtain⟨rfl,rfl⟩:=hrw k r hk;exact⟨rfl,hrn.2⟩
   .obtain⟨rfl,_⟩:=hrw k r hk;obtain⟨rfl,_⟩:=hrw k' r' hk';exact absurd rfl hne
   .refine H.ow.turn rfl (fun _ h=>h) (yV _) (fun b hb=>q5 b (hownB b hb).1 (hownB b hb).2) (fun k cs h=>by simp[hSt]at h) fun k r hk b hb=>?_
    obtain⟨rfl,_⟩:=hrw k r hk
    exact H.ow.rw 0 _ rfl b hb
  |true =>
   refine⟨v',by simpa using he,hK,n0,.sref 1,[],[none],[⟨sz,zs'.map enc,false⟩],yV _,⟨rfl,rfl,rfl,rfl⟩,rfl,rfl,{ g with rv:=fun i=>if i=1 then v' else g.rv i },noU,fun b h=>h,fun i hi=>by omega,fun i es h=>?_,?_,fun j r h b hb=>?_,fun _ _=>rfl,
    fun i D hi ho=>fun _ _=>absurd (H.ow.lt i D ho) (by simp only[hSt];omega),.sref 1 v' h1 fun r hr=>by simp⟩
   .match i with
    |0=>simp at h
    |i+1=>simp at h
   .have hrw:∀k r,(hSt n0 [] (Z01 [⟨sz,zs.map enc,false⟩] [none] [⟨sz,zs'.map enc,false⟩])).rw k=some r->k=1/\r=⟨sz,zs'.map enc,false⟩:=by
     intro k r hk
     match k with
     |0=>simp[hSt,Z01]at hk
     |1=>simp[hSt,Z01]at hk;exact⟨rfl,hk.symm⟩
     |k+2=>simp[hSt,Z01]at hk
    have hT:({ g with rv:=fun i=>if i=1 then v' else g.rv i }:Gh).T=g.T:=Gh.T_eq rfl rfl
    refine⟨fun k cs h=>by simp[hSt]at h,fun k cs h=>by simp[hSt]at h,fun k r hk=>?_,fun k r hk=>?_,fun k k' cs cs' h=>by simp[hSt]at h,fun k k' cs r h=>by simp[hSt]at h,fun k k' r r' hk hk' hne=>?_,fun b o h=>Nat.lt_of_lt_of_le (H.sw b o h) q4,?_⟩
    .obtain⟨rfl,rfl⟩:=hrw k r hk
     rw[hT];exact hro
    .obtain⟨rfl,rfl⟩:=hrw k r hk
     refine⟨rfl,fun b hb=>hrn.2 b ?_⟩
     simp only[yb]at hb
     rw[← hb',hb]
    .obtain⟨rfl,_⟩:=hrw k r hk;obtain⟨rfl,_⟩:=hrw k' r' hk';exact absurd rfl hne
    .refine H.ow.turn rfl (fun _ h=>h) (yV _) (fun b hb=>q5 b (hownB b hb).1 (hownB b hb).2) (fun k cs h=>by simp[hSt]at h) fun k r hk b hb=>?_
     obtain⟨rfl,_⟩:=hrw k r hk
     simp only[yb]at hb
     exact H.ow.rw 0 _ rfl b (by rw[← hb',hb])
   .match j with
    |0 =>
     simp only[Nat.add_zero,yb]at hb
     exact .inr (.inr ⟨0,by omega,by rw[← hb',hb]⟩)
    |j+1=>simp at h
 rcases hown.2 with⟨hv,hn⟩|⟨b,cap,cur,hv,_,hb,hnc,hcm,hcs,htk⟩
 .have hz:zs=[]:=by
   rw[hzl]at hn
   exact List.eq_nil_of_length_eq_zero hn
  subst hz
  have hz':=h0 rfl
  subst hz'
  have:=hnil rfl
  rw[← hv]at this
  refine this.mono fun e w' hw=>?_
  obtain⟨he,rfl⟩:=hw
  refine fin (g.rv 0) w' e (by rw[he]) (fun _=>rfl) rfl (by rw[hv];rfl) ?_ rfl rfl rfl (yV _) fun _ _ _=>rfl
  exact⟨xs,ty,hown,fun e he=>by simp at he,fun j a u ha=>by simp[flat]at ha⟩
 .rw[hzl]at hv hnc
  rw[hzl]at htk
  have hxs:xs=zs.flatMap val:=by
   have hxl:xs.length=zs.length*sz:=by rw[hown.1,hzl]
   have hvl:(zs.flatMap val).length=zs.length*sz:=E.flen zs
   apply List.ext_getElem (by rw[hxl,hvl])
   intro j h1 h2
   have hfl:(flat (zs.map enc)).length=zs.length*sz:=E.elen zs
   have hj:j<(flat (zs.map enc)).length:=by omega
   have q:=(hc j _ xs[j] (yA hj) (yA h1)).2.2
   exact E.flat_inv (yA hj) (yA h2) q
  have:=hblk b cap cur ty hb hnc hcm hcs (by rw[htk,hxs]) (hrn.2 b (by rw[hv];rfl)).2
  rw[← hv]at this
  refine this.mono fun e w' hw=>?_
  obtain⟨he,cur',c1,c2,c3,c4,q1,q2,q3,q4,q5⟩:=hw
  have hrob:=Zaq E (S:=g.S) (T:=g.T) c1 c4 hcm c2 c3
  refine fin (.slice (some ⟨b,0,none⟩) zs'.length cap) w' e he (fun hr'=>by rw[hv,hr hr']) (by rw[hv];rfl) rfl hrob q1 q2 q3 q4 fun k hk hne=>q5 k hk fun e=>hne (by rw[hv,e];rfl)
def i64s(zs:List Int):List AV:=zs.map fun n=>.int .i64 n
def i64v(zs:List Int):List Value:=zs.map fun n=>.int .i64 n
theorem Zzr(zs:List Int):flat (i64s zs)=i64s zs:=by
 induction zs with
 |nil=>rfl
 |cons n l ih=>simp only[i64s,flat,List.map_cons,ya,AV.cells]at ih ⊢;rw[ih];rfl
theorem ZYc(zs:List Int):noOL (i64s zs):=Zw1.2 fun a ha=>by
 obtain⟨n,_,rfl⟩:=yY ha
 trivial
def Zxu(P:Program)(f:FuncId)(zs zs':List Int)(ret:Bool):Prop :=
 (∀(w:World),Calls P f #[.slice none 0 0] w fun e w'=>e=.returned (if ret then .slice none 0 0 else .tuple #[])/\w'=w) /\
 ∀(w:World) (b cap:Nat) (cur:Array Value) (ty:TypeId),w.heap[b]?=some (.cells cur ty (0,0))->zs.length<=cap->cap<=maxLen->cur.size=cap->cur.toList.take zs.length=i64v zs ->
  Calls P f #[.slice (some ⟨b,0,none⟩) zs.length cap] w fun e w'=>e=.returned (if ret then .slice (some ⟨b,0,none⟩) zs'.length cap else .tuple #[]) /\
   ∃cur':Array Value,w'.heap[b]?=some (.cells cur' ty (0,0))/\cur'.size=cap/\cur'.toList.take zs'.length=i64v zs'/\zs'.length<=cap /\
    w'.os=w.os/\w'.tape=w.tape/\w'.output=w.output/\w.heap.size<=w'.heap.size/\∀k,k<w.heap.size->k≠b->w'.heap[k]?=w.heap[k]?
theorem Zvr:Enc 1 (fun n:Int=>AV.int .i64 n) (fun n=>[Value.int .i64 n]):=by
 have key:∀(x:Int) (j:Nat) (a:AV) (u:Value),(AV.int .i64 x).cells[j]?=some a->[Value.int .i64 x][j]?=some u->a=.int .i64 x/\u=.int .i64 x:=by
  intro x j a u h1 h2
  match j with
  |0=>exact⟨(Option.some.inj h1).symm,(Option.some.inj h2).symm⟩
  |j+1=>simp at h2
 refine⟨fun x=>rfl,fun x=>rfl,fun x a ha=>?_,fun x v hv=>?_,fun w S T x j a u h1 h2=>?_,fun w S T x j a u v h1 h2 h=>?_⟩
 .rw[List.mem_singleton.1 ha];rfl
 .rw[List.mem_singleton.1 hv];rfl
 .obtain⟨rfl,rfl⟩:=key x j a u h1 h2
  exact .int _ _
 .obtain⟨rfl,rfl⟩:=key x j a u h1 h2
  cases h;rfl
theorem ZDe(zs:List Int):zs.flatMap (fun n=>[Value.int .i64 n])=i64v zs:=by
 induction zs with
 |nil=>rfl
 |cons n l ih=>rw[ya,ih];rfl
theorem ZSh{P:Program}{f:FuncId}{zs zs':List Int}{ret:Bool}(h0:zs=[]->zs'=[])(hr:ret=false->zs'.length=zs.length)(h:Zxu P f zs zs' ret):ZRe P f 1 (i64s zs) [] ret (i64s zs'):=by
 refine Zth Zvr h0 hr fun w g n0 us _ hl _=>?_
 match us,hl with
 |[],_ =>
 refine⟨fun _=>h.1 w,fun b cap cur ty h1 h2 h3 h4 h5 _=>?_⟩
 have:=h.2 w b cap cur ty h1 h2 h3 (by omega) (by rw[← ZDe,← h5,Nat.mul_one])
 simpa only[ZDe,Nat.mul_one]using this
theorem Zpf{w:World}{b cap:Nat}{cur:Array Value}{ty:TypeId}{zs:List Int}(h1:w.heap[b]?=some (.cells cur ty (0,0)))(h4:cur.size=cap)(h2:zs.length<=cap)(n:Nat)(os:Array Obj) :
  ∃cur':Array Value,(Go.Sort.grow (Go.Sort.putRow (Value.int .i64) (Go.Sort.ahead w n) b 0 zs.toArray) os).heap[b]?=some (.cells cur' ty (0,0))/\cur'.size=cap/\cur'.toList.take zs.length=i64v zs /\
   w.heap.size<=(Go.Sort.grow (Go.Sort.putRow (Value.int .i64) (Go.Sort.ahead w n) b 0 zs.toArray) os).heap.size/\∀k,k<w.heap.size->k≠b->(Go.Sort.grow (Go.Sort.putRow (Value.int .i64) (Go.Sort.ahead w n) b 0 zs.toArray) os).heap[k]?=w.heap[k]?:=by
 have hb:b<w.heap.size:=(Array.getElem?_eq_some_iff.1 h1).1
 have hg:∀k,k<w.heap.size->(Go.Sort.grow (Go.Sort.putRow (Value.int .i64) (Go.Sort.ahead w n) b 0 zs.toArray) os).heap[k]?=(w.heap.modify b (Go.Sort.onCells (Go.Sort.putCells (Value.int .i64) 0 zs.toArray)))[k]?:=by
  intro k hk
  simp only[Go.Sort.grow,Go.Sort.putRow,Go.Sort.mapBlock,Go.Sort.ahead]
  rw[Array.getElem?_append_left (by simpa using hk)]
 refine⟨Go.Sort.putCells (Value.int .i64) 0 zs.toArray cur,?_,?_,?_,?_,fun k hk hne=>?_⟩
 .rw[hg b hb,Array.getElem?_modify];simp only[yb,h1];rfl
 .simp[Go.Sort.putCells,h4]
 .apply List.ext_getElem
  .simp[Go.Sort.putCells,i64v,h4];omega
  .intro j q1 q2
   have hj:j<zs.length:=by simp[i64v]at q2;exact q2
   simp[Go.Sort.putCells,i64v,hj]
 .simp[Go.Sort.grow,Go.Sort.putRow,Go.Sort.mapBlock,Go.Sort.ahead]
 .rw[hg k hk,Array.getElem?_modify,ye (fun e=>hne e.symm)]
theorem Zgj{w:World}{b:Nat}{cur:Array Value}{ty:TypeId}{zs:List Int}(h1:w.heap[b]?=some (.cells cur ty (0,0)))(h5:cur.toList.take zs.length=i64v zs):Go.Sort.Holds (Value.int .i64) w b 0 zs.toArray:=by
 intro j hj
 have hj':j<zs.length:=by simpa using hj
 refine⟨?_,frozen_of_row w b (0+j) cur ty h1⟩
 have hc:cur[j]?=some (.int .i64 zs[j]):=by
  have:=congrArg (·[j]?) h5
  simp only[i64v,yF,List.getElem?_take,hj',yb,yA hj',Option.map_some]at this
  simpa using this
 simp only[World.cell?,h1,Option.isSome_none,yG,yc,Nat.zero_add]
 rw[hc]
 simp[hj']
end Go.Proofs.YtodafdoninblmaaGreat.Eng
namespace Go.Proofs
open Go.Shelf
def Tryz.lays189_ren:Go.Shelf.Ren:=⟨fun|189=>154|125=>185|257=>227|128=>245|129=>246|294=>261|295=>262|296=>263|297=>264|298=>265|299=>266|216=>267|300=>268|301=>269|328=>285|329=>274|330=>275|331=>286|332=>287|215=>288|343=>299|n=>n,fun|28=>22|3=>3|46=>197|0=>0|51=>246|53=>248|4=>4|183=>240|182=>239|131=>176|5=>5|9=>9|218=>265|222=>269|228=>281|229=>282|n=>n,fun|n=>n⟩
theorem Tryz.lays189:Go.Proofs.Lays.n189 Tryz.prog Tryz.lays189_ren:={
 mixed:=by kernel_rfl
 f125:=Tryz.func185.trans (congrArg some (by kernel_rfl))
 f128:=Tryz.func245.trans (congrArg some (by kernel_rfl))
 f129:=Tryz.func246.trans (congrArg some (by kernel_rfl))
 f189:=Tryz.func154.trans (congrArg some (by kernel_rfl))
 f215:=Tryz.func288.trans (congrArg some (by kernel_rfl))
 f216:=Tryz.func267.trans (congrArg some (by kernel_rfl))
 f257:=Tryz.func227.trans (congrArg some (by kernel_rfl))
 f294:=Tryz.func261.trans (congrArg some (by kernel_rfl))
 f295:=Tryz.func262.trans (congrArg some (by kernel_rfl))
 f296:=Tryz.func263.trans (congrArg some (by kernel_rfl))
 f297:=Tryz.func264.trans (congrArg some (by kernel_rfl))
 f298:=Tryz.func265.trans (congrArg some (by kernel_rfl))
 f299:=Tryz.func266.trans (congrArg some (by kernel_rfl))
 f300:=Tryz.func268.trans (congrArg some (by kernel_rfl))
 f301:=Tryz.func269.trans (congrArg some (by kernel_rfl))
 f328:=Tryz.func285.trans (congrArg some (by kernel_rfl))
 f329:=Tryz.func274.trans (congrArg some (by kernel_rfl))
 f330:=Tryz.func275.trans (congrArg some (by kernel_rfl))
 f331:=Tryz.func286.trans (congrArg some (by kernel_rfl))
 f332:=Tryz.func287.trans (congrArg some (by kernel_rfl))
 f343:=Tryz.func299.trans (congrArg some (by kernel_rfl))
 t0:=Tryz.underlying0
 a0:=Tryz.isAgg0
 z0:=Tryz.sizeOf0
 v0:=Tryz.zeroValue0
 t3:=Tryz.underlying3
 a3:=Tryz.isAgg3
 z3:=Tryz.sizeOf3
 v3:=Tryz.zeroValue3
 t4:=Tryz.underlying4
 a4:=Tryz.isAgg4
 z4:=Tryz.sizeOf4
 v4:=Tryz.zeroValue4
 t5:=Tryz.underlying5
 a5:=Tryz.isAgg5
 z5:=Tryz.sizeOf5
 v5:=Tryz.zeroValue5
 t9:=Tryz.underlying9
 a9:=Tryz.isAgg9
 z9:=Tryz.sizeOf9
 v9:=Tryz.zeroValue9
 t28:=Tryz.underlying22
 a28:=Tryz.isAgg22
 z28:=Tryz.sizeOf22
 v28:=Tryz.zeroValue22
 t46:=Tryz.underlying197
 a46:=Tryz.isAgg197
 z46:=Tryz.sizeOf197
 v46:=Tryz.zeroValue197
 t51:=Tryz.underlying246
 a51:=Tryz.isAgg246
 z51:=Tryz.sizeOf246
 v51:=Tryz.zeroValue246
 t53:=Tryz.underlying248
 a53:=Tryz.isAgg248
 z53:=Tryz.sizeOf248
 v53:=Tryz.zeroValue248
 t131:=Tryz.underlying176
 a131:=Tryz.isAgg176
 z131:=Tryz.sizeOf176
 v131:=Tryz.zeroValue176
 t182:=Tryz.underlying239
 a182:=Tryz.isAgg239
 z182:=Tryz.sizeOf239
 v182:=Tryz.zeroValue239
 t183:=Tryz.underlying240
 a183:=Tryz.isAgg240
 z183:=Tryz.sizeOf240
 v183:=Tryz.zeroValue240
 t218:=Tryz.underlying265
 a218:=Tryz.isAgg265
 z218:=Tryz.sizeOf265
 v218:=Tryz.zeroValue265
 t222:=Tryz.underlying269
 a222:=Tryz.isAgg269
 z222:=Tryz.sizeOf269
 v222:=Tryz.zeroValue269
 t228:=Tryz.underlying281
 a228:=Tryz.isAgg281
 z228:=Tryz.sizeOf281
 v228:=Tryz.zeroValue281
 t229:=Tryz.underlying282
 a229:=Tryz.isAgg282
 z229:=Tryz.sizeOf282
 v229:=Tryz.zeroValue282 }
open Go.Sort Go.RowKit in
theorem Tryz.slices_Sort_int(blk off cap:Nat)(zs:List Int)(w:World)(hH:Holds (Value.int .i64) w blk off zs.toArray)(hblk:blk<w.heap.size)(hsz:zs.length<4611686018427387904) :
  Calls Tryz.prog 154 #[.slice (some ⟨blk,off,none⟩) zs.length cap] w fun e w' =>
   e=.returned (.tuple #[])/\∃n os,w'=grow (putRow (Value.int .i64) (Sort.ahead w n) blk off (zs.mergeSort fun x y=>decide (x<=y)).toArray) os:=Any.slices_Sort_int Tryz.lays189 blk off cap zs w hH hblk hsz
def Tryz.laysNm220_ren:Go.Shelf.Ren:=⟨fun|20=>155|n=>n,fun|22=>22|3=>3|4=>4|0=>0|n=>n,fun|n=>n⟩
theorem Tryz.laysNm220:Go.Proofs.Lays2.n20 Tryz.prog Tryz.laysNm220_ren:={
 mixed:=by kernel_rfl
 f20:=Tryz.func155.trans (congrArg some (by kernel_rfl))
 t0:=Tryz.underlying0
 a0:=Tryz.isAgg0
 z0:=Tryz.sizeOf0
 v0:=Tryz.zeroValue0
 t3:=Tryz.underlying3
 a3:=Tryz.isAgg3
 z3:=Tryz.sizeOf3
 v3:=Tryz.zeroValue3
 t4:=Tryz.underlying4
 a4:=Tryz.isAgg4
 z4:=Tryz.sizeOf4
 v4:=Tryz.zeroValue4
 t22:=Tryz.underlying22
 a22:=Tryz.isAgg22
 z22:=Tryz.sizeOf22
 v22:=Tryz.zeroValue22
 i3:=by kernel_rfl }
open Go.RowKit Go.Lib Go.Sort in
theorem Tryz.slices_Compact_int(blk off cap:Nat)(zs:List Int)(w:World)(hH:Holds (Value.int .i64) w blk off zs.toArray)(hsz:zs.length<=9223372036854775807)(hcap:zs.length<=cap) :
  Calls Tryz.prog 155 #[.slice (some ⟨blk,off,none⟩) zs.length cap] w fun e w'=>e=.returned (.slice (some ⟨blk,off,none⟩) (Lib.compact zs).length cap)/\∃q,w'=putRow (Value.int .i64) (Sort.ahead w q) blk off (Lib.compact zs++List.replicate (zs.length-(Lib.compact zs).length) 0).toArray:=Any.slices_Compact_int Tryz.laysNm220 blk off cap zs w hH hsz hcap
open Go.RowKit Go.Lib Go.Sort in
theorem Tryz.slices_Compact_int_empty(a:Option Addr)(cap:Nat)(w:World) :
  Calls Tryz.prog 155 #[.slice a 0 cap] w fun e w'=>e=.returned (.slice a 0 cap)/\w'=w:=Any.slices_Compact_int_empty Tryz.laysNm220 a cap w
open Go.RowKit Go.Sort in
theorem Tryz.slices_Sort_int_none(p:Option Addr)(cap:Nat)(w:World) :
  Calls Tryz.prog 154 #[.slice p 0 cap] w fun e w'=>e=.returned (.tuple #[])/\w'=w:=Any.slices_Sort_int_none Tryz.lays189 p cap w
def Tryz.laysSlF6_f231_ren:Go.Shelf.Ren:=⟨fun|6=>231|15=>185|14=>270|28=>245|29=>246|20=>289|21=>290|22=>291|23=>292|24=>293|25=>294|26=>295|27=>296|46=>300|47=>274|48=>275|49=>301|50=>302|57=>311|n=>n,fun|22=>22|24=>3|25=>231|3=>3|39=>197|0=>0|53=>246|55=>248|4=>4|46=>240|45=>239|50=>176|5=>5|9=>9|66=>265|70=>269|76=>281|77=>282|n=>n,fun|n=>n⟩
def Tryz.sortFI_ren:Go.Shelf.Ren:=⟨fun|6=>231|15=>185|14=>270|28=>245|29=>246|20=>289|21=>290|22=>291|23=>292|24=>293|25=>294|26=>295|27=>296|46=>300|47=>274|48=>275|49=>301|50=>302|57=>311|n=>n,fun|22=>22|24=>3|25=>231|3=>3|39=>197|0=>0|53=>246|55=>248|4=>4|46=>240|45=>239|50=>176|5=>5|9=>9|66=>265|70=>269|76=>281|77=>282|n=>n,fun|n=>n⟩
theorem Tryz.sortFI:Go.Proofs.SlLaysF.n6 Tryz.prog Tryz.sortFI_ren:={
 mixed:=by kernel_rfl
 f6:=⟨Tryz.f231.name,by decide,Tryz.func231.trans (congrArg some (by kernel_rfl))⟩
 f14:=⟨Tryz.f270.name,by decide,Tryz.func270.trans (congrArg some (by kernel_rfl))⟩
 f15:=Tryz.func185.trans (congrArg some (by kernel_rfl))
 f20:=⟨Tryz.f289.name,by decide,Tryz.func289.trans (congrArg some (by kernel_rfl))⟩
 f21:=⟨Tryz.f290.name,by decide,Tryz.func290.trans (congrArg some (by kernel_rfl))⟩
 f22:=⟨Tryz.f291.name,by decide,Tryz.func291.trans (congrArg some (by kernel_rfl))⟩
 f23:=⟨Tryz.f292.name,by decide,Tryz.func292.trans (congrArg some (by kernel_rfl))⟩
 f24:=⟨Tryz.f293.name,by decide,Tryz.func293.trans (congrArg some (by kernel_rfl))⟩
 f25:=⟨Tryz.f294.name,by decide,Tryz.func294.trans (congrArg some (by kernel_rfl))⟩
 f26:=⟨Tryz.f295.name,by decide,Tryz.func295.trans (congrArg some (by kernel_rfl))⟩
 f27:=⟨Tryz.f296.name,by decide,Tryz.func296.trans (congrArg some (by kernel_rfl))⟩
 f28:=Tryz.func245.trans (congrArg some (by kernel_rfl))
 f29:=Tryz.func246.trans (congrArg some (by kernel_rfl))
 f46:=⟨Tryz.f300.name,by decide,Tryz.func300.trans (congrArg some (by kernel_rfl))⟩
 f47:=Tryz.func274.trans (congrArg some (by kernel_rfl))
 f48:=Tryz.func275.trans (congrArg some (by kernel_rfl))
 f49:=⟨Tryz.f301.name,by decide,Tryz.func301.trans (congrArg some (by kernel_rfl))⟩
 f50:=⟨Tryz.f302.name,by decide,Tryz.func302.trans (congrArg some (by kernel_rfl))⟩
 f57:=⟨Tryz.f311.name,by decide,Tryz.func311.trans (congrArg some (by kernel_rfl))⟩
 t0:=Tryz.underlying0
 a0:=Tryz.isAgg0
 z0:=Tryz.sizeOf0
 v0:=Tryz.zeroValue0
 t3:=Tryz.underlying3
 a3:=Tryz.isAgg3
 z3:=Tryz.sizeOf3
 v3:=Tryz.zeroValue3
 t4:=Tryz.underlying4
 a4:=Tryz.isAgg4
 z4:=Tryz.sizeOf4
 v4:=Tryz.zeroValue4
 t5:=Tryz.underlying5
 a5:=Tryz.isAgg5
 z5:=Tryz.sizeOf5
 v5:=Tryz.zeroValue5
 t9:=Tryz.underlying9
 a9:=Tryz.isAgg9
 z9:=Tryz.sizeOf9
 v9:=Tryz.zeroValue9
 t22:=Tryz.underlying22
 a22:=Tryz.isAgg22
 z22:=Tryz.sizeOf22
 v22:=Tryz.zeroValue22
 a24:=Tryz.isAgg3
 z24:=Tryz.sizeOf3
 t25:=Tryz.underlying231
 a25:=Tryz.isAgg231
 z25:=Tryz.sizeOf231
 v25:=Tryz.zeroValue231
 t39:=Tryz.underlying197
 a39:=Tryz.isAgg197
 z39:=Tryz.sizeOf197
 v39:=Tryz.zeroValue197
 t45:=Tryz.underlying239
 a45:=Tryz.isAgg239
 z45:=Tryz.sizeOf239
 v45:=Tryz.zeroValue239
 t46:=Tryz.underlying240
 a46:=Tryz.isAgg240
 z46:=Tryz.sizeOf240
 v46:=Tryz.zeroValue240
 t50:=Tryz.underlying176
 a50:=Tryz.isAgg176
 z50:=Tryz.sizeOf176
 v50:=Tryz.zeroValue176
 t53:=Tryz.underlying246
 a53:=Tryz.isAgg246
 z53:=Tryz.sizeOf246
 v53:=Tryz.zeroValue246
 t55:=Tryz.underlying248
 a55:=Tryz.isAgg248
 z55:=Tryz.sizeOf248
 v55:=Tryz.zeroValue248
 t66:=Tryz.underlying265
 a66:=Tryz.isAgg265
 z66:=Tryz.sizeOf265
 v66:=Tryz.zeroValue265
 t70:=Tryz.underlying269
 a70:=Tryz.isAgg269
 z70:=Tryz.sizeOf269
 v70:=Tryz.zeroValue269
 t76:=Tryz.underlying281
 a76:=Tryz.isAgg281
 z76:=Tryz.sizeOf281
 v76:=Tryz.zeroValue281
 t77:=Tryz.underlying282
 a77:=Tryz.isAgg282
 z77:=Tryz.sizeOf282
 v77:=Tryz.zeroValue282 }
def Tryz.sortFJ_ren:Go.Shelf.Ren:=⟨fun|6=>279|15=>185|14=>298|28=>245|29=>246|20=>303|21=>304|22=>305|23=>306|24=>307|25=>308|26=>309|27=>310|46=>312|47=>274|48=>275|49=>313|50=>314|57=>315|n=>n,fun|22=>39|24=>56|25=>272|3=>3|39=>197|0=>0|53=>246|55=>248|4=>4|46=>240|45=>239|50=>176|5=>5|9=>9|66=>265|70=>269|76=>281|77=>282|n=>n,fun|n=>n⟩
theorem Tryz.sortFJ:Go.Proofs.SlLaysF0.n6 Tryz.prog Tryz.sortFJ_ren:={
 mixed:=by kernel_rfl
 f6:=⟨Tryz.f279.name,by decide,Tryz.func279.trans (congrArg some (by kernel_rfl))⟩
 f14:=⟨Tryz.f298.name,by decide,Tryz.func298.trans (congrArg some (by kernel_rfl))⟩
 f15:=Tryz.func185.trans (congrArg some (by kernel_rfl))
 f20:=⟨Tryz.f303.name,by decide,Tryz.func303.trans (congrArg some (by kernel_rfl))⟩
 f21:=⟨Tryz.f304.name,by decide,Tryz.func304.trans (congrArg some (by kernel_rfl))⟩
 f22:=⟨Tryz.f305.name,by decide,Tryz.func305.trans (congrArg some (by kernel_rfl))⟩
 f23:=⟨Tryz.f306.name,by decide,Tryz.func306.trans (congrArg some (by kernel_rfl))⟩
 f24:=⟨Tryz.f307.name,by decide,Tryz.func307.trans (congrArg some (by kernel_rfl))⟩
 f25:=⟨Tryz.f308.name,by decide,Tryz.func308.trans (congrArg some (by kernel_rfl))⟩
 f26:=⟨Tryz.f309.name,by decide,Tryz.func309.trans (congrArg some (by kernel_rfl))⟩
 f27:=⟨Tryz.f310.name,by decide,Tryz.func310.trans (congrArg some (by kernel_rfl))⟩
 f28:=Tryz.func245.trans (congrArg some (by kernel_rfl))
 f29:=Tryz.func246.trans (congrArg some (by kernel_rfl))
 f46:=⟨Tryz.f312.name,by decide,Tryz.func312.trans (congrArg some (by kernel_rfl))⟩
 f47:=Tryz.func274.trans (congrArg some (by kernel_rfl))
 f48:=Tryz.func275.trans (congrArg some (by kernel_rfl))
 f49:=⟨Tryz.f313.name,by decide,Tryz.func313.trans (congrArg some (by kernel_rfl))⟩
 f50:=⟨Tryz.f314.name,by decide,Tryz.func314.trans (congrArg some (by kernel_rfl))⟩
 f57:=⟨Tryz.f315.name,by decide,Tryz.func315.trans (congrArg some (by kernel_rfl))⟩
 t0:=Tryz.underlying0
 a0:=Tryz.isAgg0
 z0:=Tryz.sizeOf0
 v0:=Tryz.zeroValue0
 t3:=Tryz.underlying3
 a3:=Tryz.isAgg3
 z3:=Tryz.sizeOf3
 v3:=Tryz.zeroValue3
 t4:=Tryz.underlying4
 a4:=Tryz.isAgg4
 z4:=Tryz.sizeOf4
 v4:=Tryz.zeroValue4
 t5:=Tryz.underlying5
 a5:=Tryz.isAgg5
 z5:=Tryz.sizeOf5
 v5:=Tryz.zeroValue5
 t9:=Tryz.underlying9
 a9:=Tryz.isAgg9
 z9:=Tryz.sizeOf9
 v9:=Tryz.zeroValue9
 t22:=Tryz.underlying39
 a22:=Tryz.isAgg39
 z22:=Tryz.sizeOf39
 v22:=Tryz.zeroValue39
 t25:=Tryz.underlying272
 a25:=Tryz.isAgg272
 z25:=Tryz.sizeOf272
 v25:=Tryz.zeroValue272
 t39:=Tryz.underlying197
 a39:=Tryz.isAgg197
 z39:=Tryz.sizeOf197
 v39:=Tryz.zeroValue197
 t45:=Tryz.underlying239
 a45:=Tryz.isAgg239
 z45:=Tryz.sizeOf239
 v45:=Tryz.zeroValue239
 t46:=Tryz.underlying240
 a46:=Tryz.isAgg240
 z46:=Tryz.sizeOf240
 v46:=Tryz.zeroValue240
 t50:=Tryz.underlying176
 a50:=Tryz.isAgg176
 z50:=Tryz.sizeOf176
 v50:=Tryz.zeroValue176
 t53:=Tryz.underlying246
 a53:=Tryz.isAgg246
 z53:=Tryz.sizeOf246
 v53:=Tryz.zeroValue246
 t55:=Tryz.underlying248
 a55:=Tryz.isAgg248
 z55:=Tryz.sizeOf248
 v55:=Tryz.zeroValue248
 t66:=Tryz.underlying265
 a66:=Tryz.isAgg265
 z66:=Tryz.sizeOf265
 v66:=Tryz.zeroValue265
 t70:=Tryz.underlying269
 a70:=Tryz.isAgg269
 z70:=Tryz.sizeOf269
 v70:=Tryz.zeroValue269
 t76:=Tryz.underlying281
 a76:=Tryz.isAgg281
 z76:=Tryz.sizeOf281
 v76:=Tryz.zeroValue281
 t77:=Tryz.underlying282
 a77:=Tryz.isAgg282
 z77:=Tryz.sizeOf282
 v77:=Tryz.zeroValue282 }
end Go.Proofs
namespace Go.Proofs.YtodafdoninblmaaGreat
open Go Go.RowKit Eng
section
def Zlf(zs:List Int):List Int:=zs.mergeSort fun x y=>decide (x<=y)
def ZRl(zs:List Int):Option (List Int):=if zs.length<4611686018427387904 then some (Zlf zs)else none
def Z51(zs:List Int):List Int:=Lib.compact zs
theorem Zqo:Z51 []=[]:=by simp[Z51,Lib.compact,Lib.compactUpTo]
theorem Zro(zs:List Int):(Z51 zs).length<=zs.length:=by
 simp only[Z51,Lib.compact,Lib.compactUpTo,List.length_map]
 exact Nat.le_trans (List.length_filter_le ..) (by simp)
theorem ZOh(zs:List Int):(Zlf zs).length=zs.length:=by simp[Zlf]
theorem ZQl{zs r:List Int}(h:ZRl zs=some r):ZRe Tryz.prog ZS 1 (zs.map eI) [] false (r.map eI):=by
 unfold ZRl at h
 split at h
 .rename_i hl
  cases h
  refine ZSh (zs:=zs) (zs':=Zlf zs) (fun e=>by subst e;simp[Zlf]) (fun _=>ZOh zs) ⟨fun w=>?_,fun w b cap cur ty h1 h2 h3 h4 h5=>?_⟩
  .exact(Tryz.slices_Sort_int_none none 0 w).mono fun e w' h=>⟨by simp[h.1],h.2⟩
  .refine(Tryz.slices_Sort_int b 0 cap zs w (Zgj h1 h5) (Array.getElem?_eq_some_iff.1 h1).1 hl).mono fun e w' h=>?_
   obtain⟨he,n,os,hw⟩:=h
   rw[hw]
   obtain⟨cur',q1,q2,q3,q4,q5⟩:=Zpf (zs:=Zlf zs) h1 h4 (by rw[ZOh];exact h2) n os
   exact⟨by simp[he],cur',q1,q2,q3,by rw[ZOh];exact h2,rfl,rfl,rfl,q4,q5⟩
 .cases h
theorem Zrj(zs:List Int):ZRe Tryz.prog Z81 1 (zs.map eI) [] true ((Z51 zs).map eI):=by
 refine ZSh (zs:=zs) (zs':=Z51 zs) (fun e=>by subst e;exact Zqo) (fun h=>by cases h) ⟨fun w=>?_,fun w b cap cur ty h1 h2 h3 h4 h5=>?_⟩
 .exact(Tryz.slices_Compact_int_empty none 0 w).mono fun e w' h=>⟨by simp[h.1],h.2⟩
 .refine(Tryz.slices_Compact_int b 0 cap zs w (Zgj h1 h5) (by simp only[maxLen]at h3;omega) h2).mono fun e w' h=>?_
  obtain⟨he,q,hw⟩:=h
  rw[hw]
  have hcl:=Zro zs
  have e0:(Lib.compact zs++List.replicate (zs.length-(Lib.compact zs).length) 0).length=zs.length:=by
   rw[yU,List.length_replicate];unfold Z51 at hcl;omega
  obtain⟨cur',q1,q2,q3,q4,q5⟩:=Zpf (zs:=Lib.compact zs++List.replicate (zs.length-(Lib.compact zs).length) 0) h1 h4 (by rw[e0];exact h2) q #[]
  rw[Go.Sort.grow_empty]at q1 q4 q5
  refine⟨by simp[he,Z51],cur',q1,q2,?_,by omega,rfl,rfl,rfl,q4,q5⟩
  have:=congrArg (·.take (Z51 zs).length) q3
  simp only[List.take_take,i64v,← List.map_take]at this
  rw[e0,Nat.min_eq_left hcl]at this
  rw[this,i64v]
  congr 1
  exact List.take_left
section
variable{α β γ σ:Type}
theorem ZV1{n:Int}(h:-9223372036854775808<=n/\n<=9223372036854775807):w64 n=n:=ZDq h.1 h.2
theorem Zj2{n:Nat}(h:n<9223372036854775807):w64 ((n:Int)+1)=((n+1:Nat):Int):=by rw[ZV1 (by omega)];omega
theorem Zqh{n:Nat}(h0:0<n)(h:n<=9223372036854775807):w64 ((n:Int)-1)=((n-1:Nat):Int):=by rw[ZV1 (by omega)];omega
theorem Zq{l:List α}{i:Nat}:idx l (i:Int)=l[i]?:=by simp[idx]
theorem ZAh{l:List α}{i:Int}(h0:0<=i)(h:i<l.length):∃x,idx l i=some x/\l[i.toNat]?=some x:=by
 have:i.toNat<l.length:=by omega
 exact⟨l[i.toNat],by simp[idx,h0,this],by simp[this]⟩
theorem Z4{bs:Nat}{l m:List α}(h:(l.length+m.length)*bs<=140737488355328):appL bs l m=some (l++m):=by simp[appL,h]
theorem Zx2{p:Prop}(h:¬ p):(false=true↔p):=by simp[h]
@[simp] theorem Zmw {c:Bool}{a b:Option α}{f:α->Option β}:(bif c then a else b).bind f=bif c then a.bind f else b.bind f:=by cases c<;>rfl
theorem ZYl{α2:Type}{β2:Type}{bd:α->Nat->β->(β->Option γ)->Option γ}{kk:β->Option γ}{bd2:α2->Nat->β2->(β2->Option γ)->Option γ}{kk2:β2->Option γ}
  (R:Nat->β->β2->Prop) {l0:List α} {m0:List α2} (hl:l0.length=m0.length)
  (h:∀i x y b c (k:β->Option γ) (k2:β2->Option γ),l0[i]?=some x->m0[i]?=some y->R i b c->(∀b' c',R (i+1) b' c'->k b'=k2 c')->bd x i b k=bd2 y i c k2)
  (hk:∀b c,R l0.length b c->kk b=kk2 c) {b:β} {c:β2} (h0:R 0 b c):rgl bd kk l0 0 b=rgl bd2 kk2 m0 0 c:=by
 have key:∀(n i:Nat) (b:β) (c:β2),l0.length-i=n->i<=l0.length->R i b c->rgl bd kk (l0.drop i) i b=rgl bd2 kk2 (m0.drop i) i c:=by
  intro n
  induction n with
  |zero =>
   intro i b c hn hi hr
   have:i=l0.length:=by omega
   subst this
   rw[List.drop_length,hl,List.drop_length]
   exact hk b c (by simpa using hr)
  |succ n ih =>
   intro i b c hn hi hr
   have h1:i<l0.length:=by omega
   have h2:i<m0.length:=by omega
   rw[List.drop_eq_getElem_cons h1,List.drop_eq_getElem_cons h2,rgl,rgl]
   exact h i _ _ b c _ _ (yA h1) (yA h2) hr fun b' c' hr'=>ih (i+1) b' c' (by omega) (by omega) hr'
 have:=key l0.length 0 b c (by simp) (Nat.zero_le _) h0
 simpa using this
theorem ZWb{bd bd2:α->Nat->β->(β->Option γ)->Option γ}{kk kk2:β->Option γ}{l:List α}{b:β}
  (h:∀i x b (k:β->Option γ),l[i]?=some x->bd x i b k=bd2 x i b k) (hk:∀b,kk b=kk2 b):rgl bd kk l 0 b=rgl bd2 kk2 l 0 b :=
 ZYl (fun _ b c=>b=c) rfl (fun i x y b c k k2 hx hy hr hkk=>by
  subst hr;rw[hx]at hy;cases hy
  rw[h i x b k hx]
  congr 1
  funext b'
  exact hkk b' b' rfl) (fun b c hr=>by subst hr;exact hk b) rfl
theorem ZG2{bd:α->Nat->β->(β->Option γ)->Option γ}{kk:β->Option γ}(I:Nat->β->Prop)(Q:Option γ->Prop){l0:List α}
  (h:∀i x b (k:β->Option γ),l0[i]?=some x->I i b->(∀b',I (i+1) b'->Q (k b'))->Q (bd x i b k)) (hk:∀b,I l0.length b->Q (kk b)) {b:β} (h0:I 0 b):Q (rgl bd kk l0 0 b):=by
 have key:∀(n i:Nat) (b:β),l0.length-i=n->i<=l0.length->I i b->Q (rgl bd kk (l0.drop i) i b):=by
  intro n
  induction n with
  |zero =>
   intro i b hn hi hr
   have:i=l0.length:=by omega
   subst this
   rw[List.drop_length]
   exact hk b hr
  |succ n ih =>
   intro i b hn hi hr
   have h1:i<l0.length:=by omega
   rw[List.drop_eq_getElem_cons h1,rgl]
   exact h i _ b _ (yA h1) hr fun b' hr'=>ih (i+1) b' (by omega) (by omega) hr'
 have:=key l0.length 0 b (by simp) (Nat.zero_le _) h0
 simpa using this
theorem Za3{bd:α->Nat->β->(β->Option γ)->Option γ}{kk:β->Option γ}{f:β->α->β}:∀{l:List α} {i:Nat} {b:β},(∀x∈l,∀i b k,bd x i b k=k (f b x))->rgl bd kk l i b=kk (l.foldl f b)
 |[],_,_,_=>rfl
 |x::l,i,b,h=>by
  rw[rgl,h x (yJ ..),List.foldl_cons]
  exact Za3 fun y hy=>h y (yH _ hy)
theorem ZU2{bd:α->Nat->Unit->(Unit->Option γ)->Option γ}{kk:Unit->Option γ}{p:α->Bool}{r:Option γ}:∀{l:List α} {i:Nat},(∀x∈l,∀i k,bd x i () k=bif p x then r else k ())->rgl bd kk l i ()=bif l.any p then r else kk ()
 |[],_,_=>rfl
 |x::l,i,h=>by
  rw[rgl,h x (yJ ..),ZU2 fun y hy=>h y (yH _ hy),List.any_cons]
  cases p x<;>rfl
theorem ZTq{α2:Type}{bd:α->Nat->β->(β->Option γ)->Option γ}{kk:β->Option γ}{f:α2->α}:∀{l:List α2} {i:Nat} {b:β},rgl bd kk (l.map f) i b=rgl (fun x=>bd (f x)) kk l i b
 |[],_,_=>rfl
 |x::l,i,b=>by
  rw[List.map_cons,rgl,rgl]
  congr 1
  funext b'
  exact ZTq
theorem Z71{bs:Nat}{bd:α->Nat->List β->(List β->Option γ)->Option γ}{kk:List β->Option γ}{p:α->Bool}{f:α->β}:∀{l:List α} {i:Nat} {acc:List β},
  (∀x∈l,∀i b k,bd x i b k=bif p x then(appL bs b [f x]).bind k else k b)->(acc.length+l.length)*bs<=140737488355328->rgl bd kk l i acc=kk (acc++(l.filter p).map f)
 |[],_,acc,_,_=>by simp[rgl]
 |x::l,i,acc,h,hb=>by
  rw[rgl,h x (yJ ..)]
  have hb1:(acc.length+1+l.length)*bs<=140737488355328:=by simpa[Nat.add_assoc,Nat.add_comm 1]using hb
  cases hp:p x with
  |true =>
   have:(acc.length+1)*bs<=(acc.length+1+l.length)*bs:=Nat.mul_le_mul_right _ (by omega)
   rw[yN,Z4 (by simp;omega),bS,Z71 (fun y hy=>h y (yH _ hy)) (by simpa using hb1)]
   simp[hp]
  |false =>
   have:(acc.length+l.length)*bs<=(acc.length+1+l.length)*bs:=Nat.mul_le_mul_right _ (by omega)
   rw[yM,Z71 (fun y hy=>h y (yH _ hy)) (by omega)]
   simp[hp]
theorem ZCd{bd:β->(β->Option γ)->Option γ}(mk:Nat->σ->β){B:Nat->Nat->σ->(σ->Option γ)->Option γ}{kk:σ->Option γ}{n:Nat}
  (h1:∀i st k,i<n->bd (mk i st) k=B i i st fun st'=>k (mk (i+1) st')) (h2:∀i st k,n<=i->bd (mk i st) k=kk st):∀(fuel i:Nat) (st:σ),n-i<fuel->whl bd fuel (mk i st)=rgl B kk (List.range' i (n-i)) i st
 |0,i,st,h=>by omega
 |fuel+1,i,st,h=>by
  rw[whl]
  by_cases hi:i<n
  .rw[h1 i st _ hi,show n-i=n-(i+1)+1 by omega,List.range'_succ,rgl]
   congr 1
   funext st'
   exact ZCd mk h1 h2 fuel (i+1) st' (by omega)
  .rw[h2 i st _ (by omega),show n-i=0 by omega]
   rfl
theorem ZDd{bd:β->(β->Option γ)->Option γ}(Q:β->Option γ->Prop)(m:β->Nat)(I:β->Prop)(h:∀b (k:β->Option γ),I b->(∀b',I b'->m b'<m b->Q b' (k b'))->Q b (bd b k)):∀(fuel:Nat) (b:β),I b->m b<fuel->Q b (whl bd fuel b)
 |0,_,_,h=>by omega
 |fuel+1,b,hI,hm=>by
  rw[whl]
  exact h b _ hI fun b' hI' hlt=>ZDd Q m I h fuel b' hI' (by omega)
end
end
def Zck:L :=
.seq (rE 2 (cB false))
 (sR [mV 3 0,.bi 4 .geq (.t 3) (kI 0),mV 5 4,.g 5 true (mV 6 0),.g 5 true (.bi 7 .leq (.t 6) (kI 1000000)),.pk 8 (.t 5) (.t 7) (cB false),mV 2 8]
 gR)
def Zr7(n1:Int):Option Bool :=
 some ((decide (0<=n1))&&(decide (n1<=1000000)))
theorem ZAg{n1:Int}{r:Bool}(H:Zr7 n1=some r):Snd Tryz.prog Zx5 [.int .i64 n1] (.bool r) []:=by
 refine wS Zck [.t 2] ?_
 unfold Zr7 at H
 refine wP ?_
 replace H:=sI H;subst H
 exact wE [(2,.d)]
def Zi1(n1:Int):Bool :=
 ((decide (0<=n1))&&(decide (n1<=1000000)))
theorem ZIl(n1:Int):Zr7 n1=some (Zi1 n1):=by
 unfold Zr7 Zi1
 first|rfl|simp only[Zl]
theorem Zr9(n1:Int):Snd Tryz.prog Zx5 [.int .i64 n1] (.bool (Zi1 n1)) []:=ZAg (ZIl n1)
def ZGi:L :=
.seq (rE 2 (cB false))
 (sR [mV 3 0,.bi 4 .geq (.t 3) (kI 0),mV 5 4,.g 5 true (mV 6 0),.g 5 true (.bi 7 .leq (.t 6) (kI 1000000000)),.pk 8 (.t 5) (.t 7) (cB false),mV 2 8]
 gR)
def Zk6(n1:Int):Option Bool :=
 some ((decide (0<=n1))&&(decide (n1<=1000000000)))
theorem Zhf{n1:Int}{r:Bool}(H:Zk6 n1=some r):Snd Tryz.prog Z21 [.int .i64 n1] (.bool r) []:=by
 refine wS ZGi [.t 2] ?_
 unfold Zk6 at H
 refine wP ?_
 replace H:=sI H;subst H
 exact wE [(2,.d)]
def Zo(n1:Int):Bool :=
 ((decide (0<=n1))&&(decide (n1<=1000000000)))
theorem ZAj(n1:Int):Zk6 n1=some (Zo n1):=by
 unfold Zk6 Zo
 first|rfl|simp only[Zl]
theorem Za1(n1:Int):Snd Tryz.prog Z21 [.int .i64 n1] (.bool (Zo n1)) []:=Zhf (ZAj n1)
def Zzm:L :=
sR [.bx 1 (.t 0),.mv 2 (cB false)]
 (sR [fA 3 1 0,lD 4 3 1 false,cQ 5 Zx5 [4],mV 6 5,.g 6 true (fA 7 1 1),.g 6 true (lD 8 7 1 false),.g 6 true (cQ 9 Zx5 [8]),.pk 10 (.t 6) (.t 9) (cB false),mV 11 10,.g 11 true (fA 12 1 2),.g 11 true (lD 13 12 1 false),.g 11 true (cQ 14 Zx5 [13]),.pk 15 (.t 11) (.t 14) (cB false),mV 2 15]
 gR)
def ZX8(v1:Vec):Option Bool :=
 some (((Zi1 v1.a)&&(Zi1 v1.b))&&(Zi1 v1.c))
theorem ZMh{v1:Vec}{r:Bool}(H:ZX8 v1=some r):Snd Tryz.prog ZR [eVec v1] (.bool r) []:=by
 refine wS Zzm [.t 2] ?_
 unfold ZX8 at H
 refine wG [.c 5 (Zr9 v1.a),.g 9 [((Zi1 v1.a),true)] (.call _ _ _ _ _ (AEs.refl _) (fun _=>Zr9 v1.b)),.g 14 [(((Zi1 v1.a)&&(Zi1 v1.b)),true)] (.call _ _ _ _ _ (AEs.refl _) (fun _=>Zr9 v1.c))] fun _=>?_
 replace H:=sI H;subst H
 exact wE [(2,.d)]
def Z2(v1:Vec):Bool :=
 (((Zi1 v1.a)&&(Zi1 v1.b))&&(Zi1 v1.c))
theorem Zwn(v1:Vec):ZX8 v1=some (Z2 v1):=by
 unfold ZX8 Z2
 first|rfl|simp only[Zl]
theorem ZT(v1:Vec):Snd Tryz.prog ZR [eVec v1] (.bool (Z2 v1)) []:=ZMh (Zwn v1)
def ZHi:L :=
sR [.bx 2 (.t 0),.bx 3 (.t 1),.mv 4 (cB false)]
 (sR [lD 5 2 3 true,cQ 6 ZR [5],mV 7 6,.g 7 true (lD 8 3 3 true),.g 7 true (cQ 9 ZR [8]),.pk 10 (.t 7) (.t 9) (cB false),mV 11 10,.g 11 true (fA 12 2 0),.g 11 true (lD 13 12 1 false),.g 11 true (fA 14 3 0),.g 11 true (lD 15 14 1 false),.g 11 true (bI 16 .leq 13 15),.pk 17 (.t 11) (.t 16) (cB false),mV 18 17,.g 18 true (fA 19 2 1),.g 18 true (lD 20 19 1 false),.g 18 true (fA 21 3 1),.g 18 true (lD 22 21 1 false),.g 18 true (bI 23 .leq 20 22),.pk 24 (.t 18) (.t 23) (cB false),mV 25 24,.g 25 true (fA 26 2 2),.g 25 true (lD 27 26 1 false),.g 25 true (fA 28 3 2),.g 25 true (lD 29 28 1 false),.g 25 true (bI 30 .leq 27 29),.pk 31 (.t 25) (.t 30) (cB false),mV 4 31]
 gR)
def Zl6(a1:Vec)(b2:Vec):Option Bool :=
 some (((((Z2 a1)&&(Z2 b2))&&(decide (a1.a<=b2.a)))&&(decide (a1.b<=b2.b)))&&(decide (a1.c<=b2.c)))
theorem Zif{a1:Vec}{b2:Vec}{r:Bool}(H:Zl6 a1 b2=some r):Snd Tryz.prog Z74 [eVec a1,eVec b2] (.bool r) []:=by
 refine wS ZHi [.t 4] ?_
 unfold Zl6 at H
 refine wG [.c 6 (ZT a1),.g 9 [((Z2 a1),true)] (.call _ _ _ _ _ (AEs.refl _) (fun _=>ZT b2))] fun _=>?_
 replace H:=sI H;subst H
 exact wE [(4,.d)]
def Zp(a1:Vec)(b2:Vec):Bool :=
 (((((Z2 a1)&&(Z2 b2))&&(decide (a1.a<=b2.a)))&&(decide (a1.b<=b2.b)))&&(decide (a1.c<=b2.c)))
theorem ZDj(a1:Vec)(b2:Vec):Zl6 a1 b2=some (Zp a1 b2):=by
 unfold Zl6 Zp
 first|rfl|simp only[Zl]
theorem Z98(a1:Vec)(b2:Vec):Snd Tryz.prog Z74 [eVec a1,eVec b2] (.bool (Zp a1 b2)) []:=Zif (ZDj a1 b2)
def Zgk:L :=
sR [.bx 2 (.t 0),.bx 3 (.t 1),.al 4 [.int .i64 0,.int .i64 0,.int .i64 0],.mv 5 (cB false)]
 (.seq (sR [lD 7 2 3 true,cQ 8 ZR [7],.un 9 (.t 8),mV 10 9,.g 10 false (lD 11 3 3 true),.g 10 false (cQ 12 ZR [11]),.g 10 false (.un 13 (.t 12)),.pk 14 (.t 10) (cB true) (.t 13)]
 (.cond (.t 14) (sR [.bd 15 [.int .i64 0,.int .i64 0,.int .i64 0] [],.st (.t 4) (.t 15) 3,.mv 5 (cB false)]
 gR)
 .skip))
 (sR [fA 16 2 0,lD 17 16 1 false,fA 18 3 0,lD 19 18 1 false,bI 20 .add 17 19,fA 21 2 1,lD 22 21 1 false,fA 23 3 1,lD 24 23 1 false,bI 25 .add 22 24,fA 26 2 2,lD 27 26 1 false,fA 28 3 2,lD 29 28 1 false,bI 30 .add 27 29,.bd 31 [.int .i64 0,.int .i64 0,.int .i64 0] [(0,1,(.t 20)),(1,1,(.t 25)),(2,1,(.t 30))],.al 6 [.int .i64 0,.int .i64 0,.int .i64 0],.st (.t 6) (.t 31) 3]
 (.seq (sR [lD 32 6 3 true,cQ 33 ZR [32],.un 34 (.t 33)]
 (.cond (.t 34) (sR [.bd 35 [.int .i64 0,.int .i64 0,.int .i64 0] [],.st (.t 4) (.t 35) 3,.mv 5 (cB false)]
 gR)
 .skip))
 (sR [lD 36 6 3 true,.st (.t 4) (.t 36) 3,.mv 5 (cB true)]
 gR))))
def Zv7(a1:Vec)(b2:Vec):Option (Vec×Bool) :=
 bif ((!(Z2 a1))||(!(Z2 b2)))then(some ((Vec.mk 0 0 0),false))else(bif (!(Z2 (Vec.mk (w64 (a1.a+b2.a)) (w64 (a1.b+b2.b)) (w64 (a1.c+b2.c)))))then(some ((Vec.mk 0 0 0),false))else(some ((Vec.mk (w64 (a1.a+b2.a)) (w64 (a1.b+b2.b)) (w64 (a1.c+b2.c))),true)))
theorem ZFg{a1:Vec}{b2:Vec}{r:Vec×Bool}(H:Zv7 a1 b2=some r):Snd Tryz.prog ZSa [eVec a1,eVec b2] (.tup [eVec r.1,.bool r.2]) []:=by
 refine wS Zgk [.c 4 3 true,.t 5] ?_
 unfold Zv7 at H
 refine wG [.c 8 (ZT a1),.g 12 [((!(Z2 a1)),false)] (.call _ _ _ _ _ (AEs.refl _) (fun _=>ZT b2))] fun _=>?_
 refine Z3 H (fun H=>?_) fun H=>?_
 .refine wP ?_
  replace H:=sI H;subst H
  exact wN [(4,.d),(5,.d)] [(4,[])] [] [] [] []
 .refine wG [.u 33 (.call _ _ _ _ _ (AEs.refl _) (fun _=>ZT (Vec.mk (w64 (a1.a+b2.a)) (w64 (a1.b+b2.b)) (w64 (a1.c+b2.c)))))] fun _=>?_
  refine Z3 H (fun H=>?_) fun H=>?_
  .refine wP ?_
   replace H:=sI H;subst H
   exact wN [(4,.d),(5,.d)] [(4,[])] [] [] [] []
  .refine wP ?_
   replace H:=sI H;subst H
   exact wN [(4,.d),(5,.d)] [(4,[])] [] [] [] []
def ZM5(a1:Vec)(b2:Vec):Vec×Bool :=
 bif ((!(Z2 a1))||(!(Z2 b2)))then(((Vec.mk 0 0 0),false))else(bif (!(Z2 (Vec.mk (w64 (a1.a+b2.a)) (w64 (a1.b+b2.b)) (w64 (a1.c+b2.c)))))then(((Vec.mk 0 0 0),false))else(((Vec.mk (w64 (a1.a+b2.a)) (w64 (a1.b+b2.b)) (w64 (a1.c+b2.c))),true)))
theorem ZMl(a1:Vec)(b2:Vec):Zv7 a1 b2=some (ZM5 a1 b2):=by
 unfold Zv7 ZM5
 first|rfl|simp only[Zl]
theorem ZEj(a1:Vec)(b2:Vec):Snd Tryz.prog ZSa [eVec a1,eVec b2] (.tup [eVec ((ZM5 a1 b2).1),.bool ((ZM5 a1 b2).2)]) []:=ZFg (ZMl a1 b2)
def Zek:L :=
sR [.bx 2 (.t 0),.bx 3 (.t 1),.al 4 [.int .i64 0,.int .i64 0,.int .i64 0],.mv 5 (cB false)]
 (.seq (sR [lD 6 3 3 true,lD 7 2 3 true,cQ 8 Z74 [6,7],.un 9 (.t 8)]
 (.cond (.t 9) (sR [.bd 10 [.int .i64 0,.int .i64 0,.int .i64 0] [],.st (.t 4) (.t 10) 3,.mv 5 (cB false)]
 gR)
 .skip))
 (sR [fA 11 2 0,lD 12 11 1 false,fA 13 3 0,lD 14 13 1 false,bI 15 .sub 12 14,fA 16 2 1,lD 17 16 1 false,fA 18 3 1,lD 19 18 1 false,bI 20 .sub 17 19,fA 21 2 2,lD 22 21 1 false,fA 23 3 2,lD 24 23 1 false,bI 25 .sub 22 24,.bd 26 [.int .i64 0,.int .i64 0,.int .i64 0] [(0,1,(.t 15)),(1,1,(.t 20)),(2,1,(.t 25))],.st (.t 4) (.t 26) 3,.mv 5 (cB true)]
 gR))
def Zt7(a1:Vec)(b2:Vec):Option (Vec×Bool) :=
 bif (!(Zp b2 a1))then(some ((Vec.mk 0 0 0),false))else(some ((Vec.mk (w64 (a1.a-b2.a)) (w64 (a1.b-b2.b)) (w64 (a1.c-b2.c))),true))
theorem ZCg{a1:Vec}{b2:Vec}{r:Vec×Bool}(H:Zt7 a1 b2=some r):Snd Tryz.prog ZQa [eVec a1,eVec b2] (.tup [eVec r.1,.bool r.2]) []:=by
 refine wS Zek [.c 4 3 true,.t 5] ?_
 unfold Zt7 at H
 refine wG [.c 8 (Z98 b2 a1)] fun _=>?_
 refine Z3 H (fun H=>?_) fun H=>?_
 .refine wP ?_
  replace H:=sI H;subst H
  exact wN [(4,.d),(5,.d)] [(4,[])] [] [] [] []
 .refine wP ?_
  replace H:=sI H;subst H
  exact wN [(4,.d),(5,.d)] [(4,[])] [] [] [] []
def ZE(a1:Vec)(b2:Vec):Vec×Bool :=
 bif (!(Zp b2 a1))then(((Vec.mk 0 0 0),false))else(((Vec.mk (w64 (a1.a-b2.a)) (w64 (a1.b-b2.b)) (w64 (a1.c-b2.c))),true))
theorem ZKl(a1:Vec)(b2:Vec):Zt7 a1 b2=some (ZE a1 b2):=by
 unfold Zt7 ZE
 first|rfl|simp only[Zl]
theorem ZBj(a1:Vec)(b2:Vec):Snd Tryz.prog ZQa [eVec a1,eVec b2] (.tup [eVec ((ZE a1 b2).1),.bool ((ZE a1 b2).2)]) []:=ZCg (ZKl a1 b2)
def Zdk:L :=
.seq (rE 4 (kI 0))
 (.seq (sR [mV 5 0,mV 6 1,bI 7 .lss 5 6]
 (.cond (.t 7) (sR [mV 8 0,mV 4 8]
 gR)
 .skip))
 (sR [mV 9 1,mV 4 9]
 gR))
def Zs7(a1:Int)(b2:Int):Option Int :=
 bif (decide (a1<b2))then(some a1)else(some b2)
theorem ZBg{a1:Int}{b2:Int}{r:Int}(H:Zs7 a1 b2=some r):Snd Tryz.prog Zy5 [.int .i64 a1,.int .i64 b2] (.int .i64 r) []:=by
 refine wS Zdk [.t 4] ?_
 unfold Zs7 at H
 refine wP ?_
 refine Z3 H (fun H=>?_) fun H=>?_
 .refine wP ?_
  replace H:=sI H;subst H
  exact wE [(4,.d)]
 .refine wP ?_
  replace H:=sI H;subst H
  exact wE [(4,.d)]
def ZD(a1:Int)(b2:Int):Int :=
 bif (decide (a1<b2))then(a1)else(b2)
theorem ZJl(a1:Int)(b2:Int):Zs7 a1 b2=some (ZD a1 b2):=by
 unfold Zs7 ZD
 first|rfl|simp only[Zl]
theorem Zs9(a1:Int)(b2:Int):Snd Tryz.prog Zy5 [.int .i64 a1,.int .i64 b2] (.int .i64 (ZD a1 b2)) []:=ZBg (ZJl a1 b2)
def Zfk:L :=
sR [.bx 2 (.t 0),.bx 3 (.t 1),.al 4 [.int .i64 0,.int .i64 0,.int .i64 0]]
 (.seq (sR [lD 5 2 3 true,cQ 6 ZR [5],.un 7 (.t 6),mV 8 7,.g 8 false (lD 9 3 3 true),.g 8 false (cQ 10 ZR [9]),.g 8 false (.un 11 (.t 10)),.pk 12 (.t 8) (cB true) (.t 11)]
 (.cond (.t 12) (sR [.bd 13 [.int .i64 0,.int .i64 0,.int .i64 0] [],.st (.t 4) (.t 13) 3]
 gR)
 .skip))
 (.seq (.rq 16 [fA 14 2 0,lD 15 14 1 false,fA 16 3 0,lD 17 16 1 false,cQ 18 Zy5 [15,17],fA 19 2 1,lD 20 19 1 false,fA 21 3 1,lD 22 21 1 false,cQ 23 Zy5 [20,22],fA 24 2 2,lD 25 24 1 false,fA 26 3 2,lD 27 26 1 false,cQ 28 Zy5 [25,27],.bd 29 [.int .i64 0,.int .i64 0,.int .i64 0] [(0,1,(.t 18)),(1,1,(.t 23)),(2,1,(.t 28))],.st (.t 4) (.t 29) 3])
 gR))
def Zu7(a1:Vec)(b2:Vec):Option Vec :=
 bif ((!(Z2 a1))||(!(Z2 b2)))then(some (Vec.mk 0 0 0))else(some (Vec.mk (ZD a1.a b2.a) (ZD a1.b b2.b) (ZD a1.c b2.c)))
theorem ZEg{a1:Vec}{b2:Vec}{r:Vec}(H:Zu7 a1 b2=some r):Snd Tryz.prog ZRa [eVec a1,eVec b2] (eVec r) []:=by
 refine wS Zfk [.c 4 3 true] ?_
 unfold Zu7 at H
 refine wG [.c 6 (ZT a1),.g 10 [((!(Z2 a1)),false)] (.call _ _ _ _ _ (AEs.refl _) (fun _=>ZT b2))] fun _=>?_
 refine Z3 H (fun H=>?_) fun H=>?_
 .refine wP ?_
  replace H:=sI H;subst H
  exact wN [(4,.d)] [(4,[])] [] [] [] []
 .refine wG [.c 18 (Zs9 a1.a b2.a),.c 23 (Zs9 a1.b b2.b),.c 28 (Zs9 a1.c b2.c)] fun _=>?_
  replace H:=sI H;subst H
  exact wN [(4,.d)] [(4,[])] [] [] [] []
def Zi(a1:Vec)(b2:Vec):Vec :=
 bif ((!(Z2 a1))||(!(Z2 b2)))then((Vec.mk 0 0 0))else((Vec.mk (ZD a1.a b2.a) (ZD a1.b b2.b) (ZD a1.c b2.c)))
theorem ZLl(a1:Vec)(b2:Vec):Zu7 a1 b2=some (Zi a1 b2):=by
 unfold Zu7 Zi
 first|rfl|simp only[Zl]
theorem ZCj(a1:Vec)(b2:Vec):Snd Tryz.prog ZRa [eVec a1,eVec b2] (eVec (Zi a1 b2)) []:=ZEg (ZLl a1 b2)
def ZEk:L :=
.seq (rE 6 (cB false))
 (sR [mV 7 0,mV 8 1,bI 9 .geq 7 8,mV 10 9,.g 10 true (mV 11 0),.g 10 true (mV 12 2),.g 10 true (bI 13 .leq 11 12),.pk 14 (.t 10) (.t 13) (cB false),mV 6 14]
 gR)
def ZH7(x1:Int)(lo2:Int)(hi3:Int):Option Bool :=
 some ((decide (lo2<=x1))&&(decide (x1<=hi3)))
theorem Zdh{x1:Int}{lo2:Int}{hi3:Int}{r:Bool}(H:ZH7 x1 lo2 hi3=some r):Snd Tryz.prog Ze [.int .i64 x1,.int .i64 lo2,.int .i64 hi3] (.bool r) []:=by
 refine wS ZEk [.t 6] ?_
 unfold ZH7 at H
 refine wP ?_
 replace H:=sI H;subst H
 exact wE [(6,.d)]
def Z0(x1:Int)(lo2:Int)(hi3:Int):Bool :=
 ((decide (lo2<=x1))&&(decide (x1<=hi3)))
theorem Z1n(x1:Int)(lo2:Int)(hi3:Int):ZH7 x1 lo2 hi3=some (Z0 x1 lo2 hi3):=by
 unfold ZH7 Z0
 first|rfl|simp only[Zl]
theorem Zc(x1:Int)(lo2:Int)(hi3:Int):Snd Tryz.prog Ze [.int .i64 x1,.int .i64 lo2,.int .i64 hi3] (.bool (Z0 x1 lo2 hi3)) []:=Zdh (Z1n x1 lo2 hi3)
def ZFk:L :=
.seq (rE 2 (cB false))
 (sR [mV 3 0,.cq 4 Ze [(.t 3),(kI 0),(kI 1000000000)],mV 2 4]
 gR)
def ZJ7(t1:Int):Option Bool :=
 some (Z0 t1 0 1000000000)
theorem Zeh{t1:Int}{r:Bool}(H:ZJ7 t1=some r):Snd Tryz.prog ZJ1 [.int .i64 t1] (.bool r) []:=by
 refine wS ZFk [.t 2] ?_
 unfold ZJ7 at H
 refine wG [.c 4 (Zc t1 0 1000000000)] fun _=>?_
 replace H:=sI H;subst H
 exact wE [(2,.d)]
def ZK(t1:Int):Bool :=
 (Z0 t1 0 1000000000)
theorem Z6n(t1:Int):ZJ7 t1=some (ZK t1):=by
 unfold ZJ7 ZK
 first|rfl|simp only[Zl]
theorem Ze2(t1:Int):Snd Tryz.prog ZJ1 [.int .i64 t1] (.bool (ZK t1)) []:=Zeh (Z6n t1)
def Z8h:L :=
sR [.mv 2 (.c (.nl))]
 (sR [mV 3 0,.ap 4 (.c (.nl)) (.t 3) 1 8,mV 2 4]
 gR)
def Z82(l1:List Int):Option (List Int) :=
 (appL 8 ([]:List Int) l1).bind fun xs2=>some xs2
theorem Zpb{l1:List Int}{r:(List Int)}(H:Z82 l1=some r):Snd Tryz.prog ZM8 [.sl .rd 1 (l1.map eI)] (.sl .nw 1 (r.map eI)) []:=by
 refine wS Z8h [.t 2] ?_
 unfold Z82 at H
 obtain⟨xs2,h2,H⟩:=bB H
 refine wG [.u 4 (.ap _ _ _ _ fun _=>Z6 eI h2)] fun _=>?_
 replace H:=sI H;subst H
 exact wN [(2,.f)] [] [] [4] [] [⟨_,nw_I xs2⟩]
def ZWm:L :=
sR [.bx 1 (.t 0),.mv 2 (cB false)]
 (sR [fA 3 1 0,lD 4 3 1 false,.cq 5 Ze [(.t 4),(kI 0),(kI 1000000)],mV 6 5,.g 6 true (fA 7 1 1),.g 6 true (lD 8 7 1 false),.g 6 true (.cq 9 Ze [(.t 8),(kI 0),(kI 1000000)]),.pk 10 (.t 6) (.t 9) (cB false),mV 11 10,.g 11 true (fA 12 1 2),.g 11 true (lD 13 12 1 false),.g 11 true (.cq 14 Ze [(.t 13),(kI 0),(kI 1000000)]),.pk 15 (.t 11) (.t 14) (cB false),mV 2 15]
 gR)
def Zb9(v1:Vec):Option Bool :=
 some (((Z0 v1.a 0 1000000)&&(Z0 v1.b 0 1000000))&&(Z0 v1.c 0 1000000))
theorem Z9j{v1:Vec}{r:Bool}(H:Zb9 v1=some r):Snd Tryz.prog ZZ [eVec v1] (.bool r) []:=by
 refine wS ZWm [.t 2] ?_
 unfold Zb9 at H
 refine wG [.c 5 (Zc v1.a 0 1000000),.g 9 [((Z0 v1.a 0 1000000),true)] (.call _ _ _ _ _ (AEs.refl _) (fun _=>Zc v1.b 0 1000000)),.g 14 [(((Z0 v1.a 0 1000000)&&(Z0 v1.b 0 1000000)),true)] (.call _ _ _ _ _ (AEs.refl _) (fun _=>Zc v1.c 0 1000000))] fun _=>?_
 replace H:=sI H;subst H
 exact wE [(2,.d)]
def Zb(v1:Vec):Bool :=
 (((Z0 v1.a 0 1000000)&&(Z0 v1.b 0 1000000))&&(Z0 v1.c 0 1000000))
theorem Zao(v1:Vec):Zb9 v1=some (Zb v1):=by
 unfold Zb9 Zb
 first|rfl|simp only[Zl]
theorem Z41(v1:Vec):Snd Tryz.prog ZZ [eVec v1] (.bool (Zb v1)) []:=Z9j (Zao v1)
def ZZi:L :=
sR [.bx 2 (.t 0),.bx 3 (.t 1),.mv 4 (cB false)]
 (sR [lD 5 2 3 true,cQ 6 ZZ [5],mV 7 6,.g 7 true (lD 8 3 3 true),.g 7 true (cQ 9 ZZ [8]),.pk 10 (.t 7) (.t 9) (cB false),mV 11 10,.g 11 true (fA 12 2 0),.g 11 true (lD 13 12 1 false),.g 11 true (fA 14 3 0),.g 11 true (lD 15 14 1 false),.g 11 true (bI 16 .leq 13 15),.pk 17 (.t 11) (.t 16) (cB false),mV 18 17,.g 18 true (fA 19 2 1),.g 18 true (lD 20 19 1 false),.g 18 true (fA 21 3 1),.g 18 true (lD 22 21 1 false),.g 18 true (bI 23 .leq 20 22),.pk 24 (.t 18) (.t 23) (cB false),mV 25 24,.g 25 true (fA 26 2 2),.g 25 true (lD 27 26 1 false),.g 25 true (fA 28 3 2),.g 25 true (lD 29 28 1 false),.g 25 true (bI 30 .leq 27 29),.pk 31 (.t 25) (.t 30) (cB false),mV 4 31]
 gR)
def Zv6(a1:Vec)(b2:Vec):Option Bool :=
 some (((((Zb a1)&&(Zb b2))&&(decide (a1.a<=b2.a)))&&(decide (a1.b<=b2.b)))&&(decide (a1.c<=b2.c)))
theorem ZLf{a1:Vec}{b2:Vec}{r:Bool}(H:Zv6 a1 b2=some r):Snd Tryz.prog ZG6 [eVec a1,eVec b2] (.bool r) []:=by
 refine wS ZZi [.t 4] ?_
 unfold Zv6 at H
 refine wG [.c 6 (Z41 a1),.g 9 [((Zb a1),true)] (.call _ _ _ _ _ (AEs.refl _) (fun _=>Z41 b2))] fun _=>?_
 replace H:=sI H;subst H
 exact wE [(4,.d)]
def ZP4(a1:Vec)(b2:Vec):Bool :=
 (((((Zb a1)&&(Zb b2))&&(decide (a1.a<=b2.a)))&&(decide (a1.b<=b2.b)))&&(decide (a1.c<=b2.c)))
theorem Z1l(a1:Vec)(b2:Vec):Zv6 a1 b2=some (ZP4 a1 b2):=by
 unfold Zv6 ZP4
 first|rfl|simp only[Zl]
theorem Z8c(a1:Vec)(b2:Vec):Snd Tryz.prog ZG6 [eVec a1,eVec b2] (.bool (ZP4 a1 b2)) []:=ZLf (Z1l a1 b2)
def ZNm:L :=
sR [.bx 3 (.t 0),.bx 4 (.t 1),.bx 5 (.t 2),.al 6 [.int .i64 0,.int .i64 0,.int .i64 0],.mv 7 (cB false)]
 (.seq (sR [lD 8 3 3 true,cQ 9 ZZ [8],.un 10 (.t 9),mV 11 10,.g 11 false (lD 12 4 3 true),.g 11 false (cQ 13 ZZ [12]),.g 11 false (.un 14 (.t 13)),.pk 15 (.t 11) (cB true) (.t 14),mV 16 15,.g 16 false (lD 17 5 3 true),.g 16 false (cQ 18 ZZ [17]),.g 16 false (.un 19 (.t 18)),.pk 20 (.t 16) (cB true) (.t 19)]
 (.cond (.t 20) (sR [.bd 21 [.int .i64 0,.int .i64 0,.int .i64 0] [],.st (.t 6) (.t 21) 3,.mv 7 (cB false)]
 gR)
 .skip))
 (sR [lD 22 5 3 true,.st (.t 6) (.t 22) 3,.mv 7 (cB true)]
 gR))
def Za9(a1:Vec)(b2:Vec)(v3:Vec):Option (Vec×Bool) :=
 bif (((!(Zb a1))||(!(Zb b2)))||(!(Zb v3)))then(some ((Vec.mk 0 0 0),false))else(some (v3,true))
theorem Z6j{a1:Vec}{b2:Vec}{v3:Vec}{r:Vec×Bool}(H:Za9 a1 b2 v3=some r):Snd Tryz.prog Zl9 [eVec a1,eVec b2,eVec v3] (.tup [eVec r.1,.bool r.2]) []:=by
 refine wS ZNm [.c 6 3 true,.t 7] ?_
 unfold Za9 at H
 refine wG [.c 9 (Z41 a1),.g 13 [((!(Zb a1)),false)] (.call _ _ _ _ _ (AEs.refl _) (fun _=>Z41 b2)),.g 18 [(((!(Zb a1))||(!(Zb b2))),false)] (.call _ _ _ _ _ (AEs.refl _) (fun _=>Z41 v3))] fun _=>?_
 refine Z3 H (fun H=>?_) fun H=>?_
 .refine wP ?_
  replace H:=sI H;subst H
  exact wN [(6,.d),(7,.d)] [(6,[])] [] [] [] []
 .refine wP ?_
  replace H:=sI H;subst H
  exact wN [(6,.d),(7,.d)] [(6,[])] [] [] [] []
def Z02(a1:Vec)(b2:Vec)(v3:Vec):Vec×Bool :=
 bif (((!(Zb a1))||(!(Zb b2)))||(!(Zb v3)))then(((Vec.mk 0 0 0),false))else((v3,true))
theorem Z9o(a1:Vec)(b2:Vec)(v3:Vec):Za9 a1 b2 v3=some (Z02 a1 b2 v3):=by
 unfold Za9 Z02
 first|rfl|simp only[Zl]
theorem Zve(a1:Vec)(b2:Vec)(v3:Vec):Snd Tryz.prog Zl9 [eVec a1,eVec b2,eVec v3] (.tup [eVec ((Z02 a1 b2 v3).1),.bool ((Z02 a1 b2 v3).2)]) []:=Z6j (Z9o a1 b2 v3)
def ZKk:L :=
sR [.bx 2 (.t 0),.bx 3 (.t 1),.al 4 [.int .i64 0,.int .i64 0,.int .i64 0],.mv 5 (cB false)]
 (sR [lD 6 2 3 true,lD 7 3 3 true,fA 8 2 0,lD 9 8 1 false,fA 10 3 0,lD 11 10 1 false,bI 12 .sub 9 11,fA 13 2 1,lD 14 13 1 false,fA 15 3 1,lD 16 15 1 false,bI 17 .sub 14 16,fA 18 2 2,lD 19 18 1 false,fA 20 3 2,lD 21 20 1 false,bI 22 .sub 19 21,.bd 23 [.int .i64 0,.int .i64 0,.int .i64 0] [(0,1,(.t 12)),(1,1,(.t 17)),(2,1,(.t 22))],cQ 24 Zl9 [6,7,23],eX 25 24 0,eX 26 24 1,.st (.t 4) (.t 25) 3,mV 5 26]
 gR)
def ZL7(a1:Vec)(b2:Vec):Option (Vec×Bool) :=
 some (((Z02 a1 b2 (Vec.mk (w64 (a1.a-b2.a)) (w64 (a1.b-b2.b)) (w64 (a1.c-b2.c)))).1),(Z02 a1 b2 (Vec.mk (w64 (a1.a-b2.a)) (w64 (a1.b-b2.b)) (w64 (a1.c-b2.c)))).2)
theorem Zkh{a1:Vec}{b2:Vec}{r:Vec×Bool}(H:ZL7 a1 b2=some r):Snd Tryz.prog Z5b [eVec a1,eVec b2] (.tup [eVec r.1,.bool r.2]) []:=by
 refine wS ZKk [.c 4 3 true,.t 5] ?_
 unfold ZL7 at H
 refine wG [.u 24 (.call _ _ _ _ _ (AEs.refl _) (fun _=>Zve a1 b2 (Vec.mk (w64 (a1.a-b2.a)) (w64 (a1.b-b2.b)) (w64 (a1.c-b2.c)))))] fun _=>?_
 replace H:=sI H;subst H
 exact wN [(4,.d),(5,.d)] [(4,[])] [] [] [] []
def Zg2(a1:Vec)(b2:Vec):Vec×Bool :=
 (((Z02 a1 b2 (Vec.mk (w64 (a1.a-b2.a)) (w64 (a1.b-b2.b)) (w64 (a1.c-b2.c)))).1),(Z02 a1 b2 (Vec.mk (w64 (a1.a-b2.a)) (w64 (a1.b-b2.b)) (w64 (a1.c-b2.c)))).2)
theorem Zbn(a1:Vec)(b2:Vec):ZL7 a1 b2=some (Zg2 a1 b2):=by
 unfold ZL7 Zg2
 first|rfl|simp only[Zl]
theorem ZXk(a1:Vec)(b2:Vec):Snd Tryz.prog Z5b [eVec a1,eVec b2] (.tup [eVec ((Zg2 a1 b2).1),.bool ((Zg2 a1 b2).2)]) []:=Zkh (Zbn a1 b2)
def ZLk:L :=
sR [.bx 2 (.t 0),.bx 3 (.t 1),.al 4 [.int .i64 0,.int .i64 0,.int .i64 0]]
 (sR [lD 8 2 3 true,lD 9 3 3 true,fA 10 2 0,lD 11 10 1 false,fA 12 3 0,lD 13 12 1 false,.mm 14 false (.t 11) (.t 13),fA 15 2 1,lD 16 15 1 false,fA 17 3 1,lD 18 17 1 false,.mm 19 false (.t 16) (.t 18),fA 20 2 2,lD 21 20 1 false,fA 22 3 2,lD 23 22 1 false,.mm 24 false (.t 21) (.t 23),.bd 25 [.int .i64 0,.int .i64 0,.int .i64 0] [(0,1,(.t 14)),(1,1,(.t 19)),(2,1,(.t 24))],cQ 26 Zl9 [8,9,25],mV 7 26,eX 27 7 0,eX 28 7 1,.al 5 [.int .i64 0,.int .i64 0,.int .i64 0],.st (.t 5) (.t 27) 3,mV 6 28]
 (sR [lD 29 5 3 true,.st (.t 4) (.t 29) 3]
 gR))
def ZM7(a1:Vec)(b2:Vec):Option Vec :=
 some ((Z02 a1 b2 (Vec.mk (min a1.a b2.a) (min a1.b b2.b) (min a1.c b2.c))).1)
theorem Zlh{a1:Vec}{b2:Vec}{r:Vec}(H:ZM7 a1 b2=some r):Snd Tryz.prog Z6b [eVec a1,eVec b2] (eVec r) []:=by
 refine wS ZLk [.c 4 3 true] ?_
 unfold ZM7 at H
 refine wG [.u 26 (.call _ _ _ _ _ (AEs.refl _) (fun _=>Zve a1 b2 (Vec.mk (min a1.a b2.a) (min a1.b b2.b) (min a1.c b2.c))))] fun _=>?_
 replace H:=sI H;subst H
 exact wN [(4,.d)] [(4,[])] [] [] [] []
def Z96(a1:Vec)(b2:Vec):Vec :=
 ((Z02 a1 b2 (Vec.mk (min a1.a b2.a) (min a1.b b2.b) (min a1.c b2.c))).1)
theorem Zcn(a1:Vec)(b2:Vec):ZM7 a1 b2=some (Z96 a1 b2):=by
 unfold ZM7 Z96
 first|rfl|simp only[Zl]
theorem ZZk(a1:Vec)(b2:Vec):Snd Tryz.prog Z6b [eVec a1,eVec b2] (eVec (Z96 a1 b2)) []:=Zlh (Zcn a1 b2)
def time (n:Int):Bool:=decide (0<=n)&&decide (n<=1000000000)
theorem ZE1{n:Int}:time n=true↔0<=n/\n<=1000000000:=by simp[time]
theorem Zk2{v:Vec}:Z2 v=true↔(0<=v.a/\v.a<=1000000)/\(0<=v.b/\v.b<=1000000)/\(0<=v.c/\v.c<=1000000):=by
 simp[Z2,Zi1,and_assoc]
theorem ZC3(v:Vec):Zb v=Z2 v:=rfl
theorem Z04(n:Int):ZK n=time n:=rfl
theorem ZQ1(n:Int):Zo n=time n:=rfl
theorem Z9c(a b:Vec):ZP4 a b=Zp a b:=rfl
theorem ZYk{a b:Vec}(ha:Z2 a=true):Zg2 a b=ZE a b:=by
 have h:=Zk2.1 ha
 unfold Zg2 Z02 ZE Zp
 simp only[ZC3,ha]
 cases hb:Z2 b with
 |false=>simp
 |true =>
  have h2:=Zk2.1 hb
  have w1:w64 (a.a-b.a)=a.a-b.a:=ZV1 (by omega)
  have w2:w64 (a.b-b.b)=a.b-b.b:=ZV1 (by omega)
  have w3:w64 (a.c-b.c)=a.c-b.c:=ZV1 (by omega)
  simp only[w1,w2,w3]
  cases hc:Z2 (Vec.mk (a.a-b.a) (a.b-b.b) (a.c-b.c))with
  |false =>
   have:¬ ((b.a<=a.a/\b.b<=a.b)/\b.c<=a.c):=fun q=>by
    rw[Zk2.2 (by simp only;omega)]at hc;cases hc
   by_cases q1:b.a<=a.a<;>by_cases q2:b.b<=a.b<;>by_cases q3:b.c<=a.c<;>simp[q1,q2,q3]at this ⊢
  |true =>
   have q:=Zk2.1 hc
   simp only at q
   have q1:b.a<=a.a:=by omega
   have q2:b.b<=a.b:=by omega
   have q3:b.c<=a.c:=by omega
   simp[q1,q2,q3]
theorem Z0l(a b:Vec):Z96 a b=Zi a b:=by
 have e:∀x y:Int,min x y=ZD x y:=fun x y=>by unfold ZD;by_cases h:x<y<;>simp[h]<;>omega
 unfold Z96 Z02 Zi
 simp only[ZC3,e]
 cases ha:Z2 a with
 |false=>simp
 |true =>
  cases hb:Z2 b with
  |false=>simp
  |true =>
   have h:=Zk2.1 ha
   have h2:=Zk2.1 hb
   have:Z2 (Vec.mk (ZD a.a b.a) (ZD a.b b.b) (ZD a.c b.c))=true:=by
    rw[Zk2];simp only[← e];omega
   simp[this]
theorem Z0a{a b:Vec}(ha:Z2 a=true)(hb:Z2 b=true):Z2 (Zi a b)=true:=by
 have e:∀x y:Int,ZD x y=min x y:=fun x y=>by unfold ZD;by_cases h:x<y<;>simp[h]<;>omega
 have h:=Zk2.1 ha
 have h2:=Zk2.1 hb
 unfold Zi
 simp only[ha,hb,yL,Bool.or_self,yM]
 rw[Zk2];simp only[e];omega
theorem ZDg{a:Vec}(ha:Z2 a=true):Zi a a=a:=by
 have e:∀x:Int,ZD x x=x:=fun x=>by simp[ZD]
 unfold Zi
 simp[ha,e]
def ZFi:L :=
sR [.bx 2 (.t 0),.mv 4 (.c (.nl))]
 (sR [.bs 7 1 [] true,mV 5 7]
 (.seq (.seq (rE 6 (kI 1))
 (.blk 0 (.loop (.gw (.seq (sR [mV 8 6,fA 9 2 0,lD 10 9 1 false,.ln 11 (.t 10),bI 12 .lss 8 11]
 (.cond (.t 12) .skip
 (.exit 0)))
 (.seq (.blk 1 (sR [fA 15 2 0,lD 16 15 1 false,mV 17 6,iA 18 16 17 1,lD 19 18 1 false,mV 20 1,bI 21 .eql 19 20]
 (.cond (.t 21) (.reg [mV 22 5,mV 23 6,.bs 24 1 [(.t 23)] false,.ap 25 (.t 22) (.t 24) 1 8,mV 5 25])
 .skip)))
 (.reg [mV 13 6,.bi 14 .add (.t 13) (kI 1),mV 6 14])))))))
 (sR [mV 26 5,mV 4 26]
 gR)))
def ZM2(t1:Topo)(s2:Int)(v3:Int×(List Int))(k3:(Int×(List Int))->Option (List Int)):Option (List Int) :=
 bif (decide (v3.1<(t1.parents.length:Int)))then((idx t1.parents v3.1).bind fun e5=>bif (e5==s2)then((appL 8 v3.2 [v3.1]).bind fun xs6=>k3 ((w64 (v3.1+1)),xs6))else(k3 ((w64 (v3.1+1)),v3.2)))else(some v3.2)
def Z13(t1:Topo)(s2:Int):Option (List Int) :=
 whl (ZM2 t1 s2) 9223372036854775807 (1,[])
theorem Z78{t1:Topo}{s2:Int}{r:(List Int)}(H:Z13 t1 s2=some r):Snd Tryz.prog ZB6 [Zy .rd t1,.int .i64 s2] (.sl .nw 1 (r.map eI)) []:=by
 refine wS ZFi [.t 4] ?_
 unfold Z13 at H
 refine wP ?_
 refine wW (fun(v3:Int×(List Int))=>⟨[(1,.int .i64 s2),(2,.ptr 2 0),(5,.sref 7),(6,.int .i64 v3.1)],[],[(2,(Zy .rd t1).cells)],[(7,⟨1,v3.2.map eI,false⟩)]⟩) H (fun v3 I m k3 H N17=>?_)
 unfold ZM2 at H
 refine wG [.u 11 (.ln _ _ fun _=>lm t1.parents eI)] fun q4=>?_
 refine Z3 H (fun H=>?_) fun H=>?_
 .obtain⟨e5,h5,H⟩:=bB H
  refine wG [.u 18 (.ix _ _ _ fun _=>Z1 eI h5)] fun _=>?_
  refine Z3 H (fun H=>?_) fun H=>?_
  .obtain⟨xs6,h6,H⟩:=bB H
   refine wG [.u 25 (.ap _ _ _ _ fun _=>Z6 eI h6)] fun _=>?_
   exact wT (N17 _ H)
  .refine wP ?_
   exact wT (N17 _ H)
 .refine wP ?_
  replace H:=sI H;subst H
  exact wN [(4,.f)] [] [] [7] [] [⟨_,nw_I v3.2⟩]
def ZZg:L :=
sR [.bx 2 (.t 0),.mv 4 (kI 0)]
 (.seq (rE 5 (kI (-1)))
 (.seq (sR [lD 9 2 2 true,mV 10 1,cQ 11 ZB6 [9,10],.ln 12 (.t 11),.mv 13 (kI 0)]
 (.blk 0 (.loop (.gw (sR [bI 14 .lss 13 12]
 (.seq (.cond (.t 14) .skip
 (.exit 0))
 (.seq (.blk 1 (sR [mV 15 13,iA 16 11 13 1,lD 17 16 1 false,mV 6 15,mV 7 17]
 (sR [lD 18 2 2 true,mV 19 7,cQ 20 Z11 [18,19],mV 8 20]
 (.seq (sR [mV 21 8,.bi 22 .lss (.t 21) (kI 0),mV 23 22,.g 23 false (mV 24 6),.g 23 false (.bi 25 .gtr (.t 24) (kI 0)),.g 23 false (mV 26 25),.g 26 true (mV 27 8),.g 26 true (mV 28 5),.g 26 true (bI 29 .neq 27 28),.g 23 false (.pk 30 (.t 26) (.t 29) (cB false)),.pk 31 (.t 23) (cB true) (.t 30)]
 (.cond (.t 31) (.seq (rE 4 (kI (-1)))
 gR)
 .skip))
 (.reg [mV 32 8,mV 5 32])))))
 (.reg [.bi 33 .add (.t 13) (kI 1),mV 13 33]))))))))
 (sR [mV 34 5,.bi 35 .add (.t 34) (kI 1),mV 4 35]
 gR)))
def ZL5(rc:Topo->Int->Option Int)(t1:Topo)(x5:Int)(i5:Nat)(v5:Int)(k5:Int->Option Int):Option Int :=
 (rc t1 x5).bind fun n6=>bif ((decide (n6<0))||((decide (0<(i5:Int)))&&(n6 != v5)))then(some (-1))else(k5 n6)
def ZK5(v5:Int):Option Int :=
 some (w64 (v5+1))
def Zm2:Nat->Topo->Int->Option Int
 |0,_,_=>none
 |fuel+1,t1,s2 =>
 (Z13 t1 s2).bind fun y3=>rgl (ZL5 (Zm2 fuel) t1) ZK5 y3 0 (-1)
def Zm1(t1:Topo)(s2:Int):Option Int:=Zm2 100000000 t1 s2
theorem Z3e(fuel:Nat):∀{t1:Topo} {s2:Int} {r:Int} (_:Zm2 fuel t1 s2=some r),Snd Tryz.prog Z11 [Zy .rd t1,.int .i64 s2] (.int .i64 r) []:=by
 induction fuel with
 |zero=>intro t1 s2 r H;cases H
 |succ fuel IH =>
 intro t1 s2 r H
 refine wS ZZg [.t 4] ?_
 rw[Zm2]at H
 obtain⟨y3,h3,H⟩:=bB H
 refine wG [.c 11 (Z78 h3),.u 12 (.ln _ _ fun _=>lm y3 eI)] fun q4=>?_
 refine wR (fun(i5:Nat) (v5:Int)=>⟨[(2,.ptr 2 0),(5,.int .i64 v5),(11,.sl .nw 1 (y3.map eI)),(12,.int .i64 (y3.length:Int)),(13,.int .i64 (i5:Int))],[],[(2,(Zy .rd t1).cells)],[]⟩) H (fun i5 x5 v5 I m k5 hxv5 hiv5 H N25=>?_) (fun v5 I m H=>?_)
 .unfold ZL5 at H
  refine wP ?_
  refine wt (ltT hiv5) ?_
  obtain⟨n6,h6,H⟩:=bB H
  refine wG [.u 16 (.ix _ _ _ fun _=>Z1 eI (Z5 hxv5)),.c 20 (IH h6)] fun _=>?_
  refine Z3 H (fun H=>?_) fun H=>?_
  .refine wP ?_
   replace H:=sI H;subst H
   exact wE [(4,.d)]
  .refine wG [.w 33 (wi .i64 rfl hiv5 q4.1)] fun _=>?_
   exact wT (N25 _ H)
 .unfold ZK5 at H
  refine wP ?_
  refine wf (ltF y3.length) ?_
  refine wP ?_
  replace H:=sI H;subst H
  exact wE [(4,.d)]
theorem Zx1{t1:Topo}{s2:Int}{r:Int}(H:Zm1 t1 s2=some r):Snd Tryz.prog Z11 [Zy .rd t1,.int .i64 s2] (.int .i64 r) []:=Z3e _ H
def Zhk:L :=
sR [.bx 1 (.t 0),.mv 2 (cB false)]
 (.seq (sR [fA 6 1 0,lD 7 6 1 false,.ln 8 (.t 7),.bi 9 .lss (.t 8) (kI 1),mV 10 9,.g 10 false (fA 11 1 0),.g 10 false (lD 12 11 1 false),.g 10 false (.ln 13 (.t 12)),.g 10 false (.bi 14 .gtr (.t 13) (kI 24)),.pk 15 (.t 10) (cB true) (.t 14),mV 16 15,.g 16 false (fA 17 1 1),.g 16 false (lD 18 17 1 false),.g 16 false (.ln 19 (.t 18)),.g 16 false (.bi 20 .gtr (.t 19) (kI 24)),.pk 21 (.t 16) (cB true) (.t 20),mV 22 21,.g 22 false (fA 23 1 0),.g 22 false (lD 24 23 1 false),.g 22 false (.ia 25 (.t 24) (kI 0) 1),.g 22 false (lD 26 25 1 false),.g 22 false (.bi 27 .neq (.t 26) (kI 0)),.pk 28 (.t 22) (cB true) (.t 27)]
 (.cond (.t 28) (.seq (rE 2 (cB false))
 gR)
 .skip))
 (.seq (.seq (rE 3 (kI 1))
 (.blk 0 (.loop (.gw (.seq (sR [mV 29 3,fA 30 1 0,lD 31 30 1 false,.ln 32 (.t 31),bI 33 .lss 29 32]
 (.cond (.t 33) .skip
 (.exit 0)))
 (.seq (.blk 1 (sR [fA 36 1 0,lD 37 36 1 false,mV 38 3,iA 39 37 38 1,lD 40 39 1 false,.bi 41 .lss (.t 40) (kI 0),mV 42 41,.g 42 false (fA 43 1 0),.g 42 false (lD 44 43 1 false),.g 42 false (mV 45 3),.g 42 false (iA 46 44 45 1),.g 42 false (lD 47 46 1 false),.g 42 false (mV 48 3),.g 42 false (bI 49 .geq 47 48),.pk 50 (.t 42) (cB true) (.t 49)]
 (.cond (.t 50) (.seq (rE 2 (cB false))
 gR)
 .skip)))
 (.reg [mV 34 3,.bi 35 .add (.t 34) (kI 1),mV 3 35])))))))
 (.seq (sR [fA 51 1 1,lD 52 51 1 false,.ln 53 (.t 52),.mv 54 (kI 0)]
 (.blk 2 (.loop (.gw (sR [bI 55 .lss 54 53]
 (.seq (.cond (.t 55) .skip
 (.exit 2))
 (.seq (.blk 3 (sR [iA 56 52 54 4,lD 57 56 4 true,.al 5 [.int .i64 0,.int .i64 0,.int .i64 0,.int .i64 0],.st (.t 5) (.t 57) 4]
 (sR [fA 58 5 0,lD 59 58 1 false,.bi 60 .lss (.t 59) (kI 0),mV 61 60,.g 61 false (fA 62 5 0),.g 61 false (lD 63 62 1 false),.g 61 false (fA 64 1 0),.g 61 false (lD 65 64 1 false),.g 61 false (.ln 66 (.t 65)),.g 61 false (bI 67 .geq 63 66),.pk 68 (.t 61) (cB true) (.t 67),mV 69 68,.g 69 false (lD 70 1 2 true),.g 69 false (fA 71 5 0),.g 69 false (lD 72 71 1 false),.g 69 false (cQ 73 ZB6 [70,72]),.g 69 false (.ln 74 (.t 73)),.g 69 false (.bi 75 .gtr (.t 74) (kI 0)),.pk 76 (.t 69) (cB true) (.t 75),mV 77 76,.g 77 false (fA 78 5 1),.g 77 false (lD 79 78 3 true),.g 77 false (cQ 80 ZR [79]),.g 77 false (.un 81 (.t 80)),.pk 82 (.t 77) (cB true) (.t 81)]
 (.cond (.t 82) (.seq (rE 2 (cB false))
 gR)
 .skip))))
 (.reg [.bi 83 .add (.t 54) (kI 1),mV 54 83]))))))))
 (sR [lD 84 1 2 true,.cq 85 Z11 [(.t 84),(kI 0)],.bi 86 .geq (.t 85) (kI 0),mV 2 86]
 gR))))
def Z23(t1:Topo)(x8:Node)(_:Nat)(_:Unit)(k8:Unit->Option Bool):Option Bool :=
 (bif ((decide (x8.leaf<0))||(decide ((t1.parents.length:Int)<=x8.leaf)))then some default else(Z13 t1 x8.leaf)).bind fun y9=>bif ((((decide (x8.leaf<0))||(decide ((t1.parents.length:Int)<=x8.leaf)))||(decide (0<(y9.length:Int))))||(!(Z2 x8.cap)))then(some false)else(k8 ())
def Z35(t1:Topo)(_:Unit):Option Bool :=
 (Zm1 t1 0).bind fun n10=>some (decide (0<=n10))
def Z33(t1:Topo)(v4:Int)(k4:Int->Option Bool):Option Bool :=
 bif (decide (v4<(t1.parents.length:Int)))then((idx t1.parents v4).bind fun e6=>bif ((decide (e6<0))||(decide (v4<=e6)))then(some false)else(k4 (w64 (v4+1))))else(rgl (Z23 t1) (Z35 t1) t1.nodes 0 ())
def Zc2(t1:Topo):Option Bool :=
 (bif (((decide ((t1.parents.length:Int)<1))||(decide (24<(t1.parents.length:Int))))||(decide (24<(t1.nodes.length:Int))))then some default else(idx t1.parents 0)).bind fun e2=>bif ((((decide ((t1.parents.length:Int)<1))||(decide (24<(t1.parents.length:Int))))||(decide (24<(t1.nodes.length:Int))))||(e2 != 0))then(some false)else(whl (Z33 t1) 9223372036854775807 1)
theorem Zu9{t1:Topo}{r:Bool}(H:Zc2 t1=some r):Snd Tryz.prog ZQ7 [Zy .rd t1] (.bool r) []:=by
 refine wS Zhk [.t 2] ?_
 unfold Zc2 at H
 obtain⟨e2,h2,H⟩:=bB H
 refine wG [.u 8 (.ln _ _ fun _=>lm t1.parents eI),.g 13 [((decide ((t1.parents.length:Int)<1)),false)] (.ln _ _ fun _=>lm t1.parents eI),.g 19 [(((decide ((t1.parents.length:Int)<1))||(decide (24<(t1.parents.length:Int)))),false)] (.ln _ _ fun _=>lm t1.nodes Zf),.g 25 [(_,false)] (.ix _ _ _ fun q=>Z1 eI (bF q.1 h2))] fun q3=>?_
 refine Z3 H (fun H=>?_) fun H=>?_
 .refine wP ?_
  replace H:=sI H;subst H
  exact wE [(2,.d)]
 .refine wP ?_
  refine wW (fun(v4:Int)=>⟨[(1,.ptr 1 0),(3,.int .i64 v4)],[],[(1,(Zy .rd t1).cells)],[]⟩) H (fun v4 I m k4 H N25=>?_)
  unfold Z33 at H
  refine wG [.u 32 (.ln _ _ fun _=>lm t1.parents eI)] fun q5=>?_
  refine Z3 H (fun H=>?_) fun H=>?_
  .obtain⟨e6,h6,H⟩:=bB H
   refine wG [.u 39 (.ix _ _ _ fun _=>Z1 eI h6),.g 46 [((decide (e6<0)),false)] (.ix _ _ _ fun _=>Z1 eI h6)] fun _=>?_
   refine Z3 H (fun H=>?_) fun H=>?_
   .refine wP ?_
    replace H:=sI H;subst H
    exact wE [(2,.d)]
   .refine wP ?_
    exact wT (N25 _ H)
  .refine wG [.u 53 (.ln _ _ fun _=>lm t1.nodes Zf)] fun q7=>?_
   refine wR (fun(i8:Nat) (v8:Unit)=>⟨[(1,.ptr 1 0),(52,.sl .rd 4 (t1.nodes.map Zf)),(53,.int .i64 (t1.nodes.length:Int)),(54,.int .i64 (i8:Int))],[],[(1,(Zy .rd t1).cells)],[]⟩) H (fun i8 x8 v8 I m k8 hxv8 hiv8 H N47=>?_) (fun v8 I m H=>?_)
   .unfold Z23 at H
    refine wP ?_
    refine wt (ltT hiv8) ?_
    obtain⟨y9,h9,H⟩:=bB H
    refine wG [.u 56 (.ix _ _ _ fun _=>Z1 Zf (Z5 hxv8)),.g 66 [((decide (x8.leaf<0)),false)] (.ln _ _ fun _=>lm t1.parents eI),.g 73 [(_,false)] (.call _ _ _ _ _ (AEs.refl _) (fun q=>Z78 (bF q.1 h9))),.g 74 [(((decide (x8.leaf<0))||(decide ((t1.parents.length:Int)<=x8.leaf))),false)] (.ln _ _ fun _=>lm y9 eI),.g 80 [((((decide (x8.leaf<0))||(decide ((t1.parents.length:Int)<=x8.leaf)))||(decide (0<(y9.length:Int)))),false)] (.call _ _ _ _ _ (AEs.refl _) (fun _=>ZT x8.cap))] fun _=>?_
    refine Z3 H (fun H=>?_) fun H=>?_
    .refine wP ?_
     replace H:=sI H;subst H
     exact wE [(2,.d)]
    .refine wG [.w 83 (wi .i64 rfl hiv8 q7.1)] fun _=>?_
     exact wT (N47 () H)
   .unfold Z35 at H
    refine wP ?_
    refine wf (ltF t1.nodes.length) ?_
    obtain⟨n10,h10,H⟩:=bB H
    refine wG [.c 85 (Zx1 h10)] fun _=>?_
    replace H:=sI H;subst H
    exact wE [(2,.d)]
def Zym:L :=
sR [.bx 2 (.t 0),.mv 4 (.c (.nl))]
 (sR [mV 6 1,.bs 7 1 [(.t 6)] true,mV 5 7]
 (.seq (.blk 0 (.loop (.gw (.seq (sR [mV 8 1,.bi 9 .gtr (.t 8) (kI 0)]
 (.cond (.t 9) .skip
 (.exit 0)))
 (.blk 1 (sR [fA 10 2 0,lD 11 10 1 false,mV 12 1,iA 13 11 12 1,lD 14 13 1 false,mV 1 14]
 (.reg [mV 15 5,mV 16 1,.bs 17 1 [(.t 16)] false,.ap 18 (.t 15) (.t 17) 1 8,mV 5 18])))))))
 (sR [mV 19 5,mV 4 19]
 gR)))
def Zq9(t1:Topo)(v3:Int×(List Int))(k3:(Int×(List Int))->Option (List Int)):Option (List Int) :=
 bif (decide (0<v3.1))then((idx t1.parents v3.1).bind fun e4=>(appL 8 v3.2 [e4]).bind fun xs5=>k3 (e4,xs5))else(some v3.2)
def ZH4(t1:Topo)(s2:Int):Option (List Int) :=
 whl (Zq9 t1) 9223372036854775807 (s2,[s2])
theorem Z2e{t1:Topo}{s2:Int}{r:(List Int)}(H:ZH4 t1 s2=some r):Snd Tryz.prog Zwc [Zy .rd t1,.int .i64 s2] (.sl .nw 1 (r.map eI)) []:=by
 refine wS Zym [.t 4] ?_
 unfold ZH4 at H
 refine wP ?_
 refine wW (fun(v3:Int×(List Int))=>⟨[(1,.int .i64 v3.1),(2,.ptr 2 0),(5,.sref 7)],[],[(2,(Zy .rd t1).cells)],[(7,⟨1,v3.2.map eI,false⟩)]⟩) H (fun v3 I m k3 H N12=>?_)
 unfold Zq9 at H
 refine wP ?_
 refine Z3 H (fun H=>?_) fun H=>?_
 .obtain⟨e4,h4,H⟩:=bB H
  obtain⟨xs5,h5,H⟩:=bB H
  refine wG [.u 13 (.ix _ _ _ fun _=>Z1 eI h4),.u 18 (.ap _ _ _ _ fun _=>Z6 eI h5)] fun _=>?_
  exact wT (N12 _ H)
 .refine wP ?_
  replace H:=sI H;subst H
  exact wN [(4,.f)] [] [] [7] [] [⟨_,nw_I v3.2⟩]
def Zbk:L :=
.seq (rE 4 (cB false))
 (.seq (sR [mV 7 0,.ln 8 (.t 7),.mv 9 (kI 0)]
 (.blk 0 (.loop (.gw (sR [bI 10 .lss 9 8]
 (.seq (.cond (.t 10) .skip
 (.exit 0))
 (.seq (.blk 1 (sR [iA 11 7 9 1,lD 12 11 1 false,mV 6 12]
 (sR [mV 13 6,mV 14 1,bI 15 .eql 13 14]
 (.cond (.t 15) (.seq (rE 4 (cB true))
 gR)
 .skip))))
 (.reg [.bi 16 .add (.t 9) (kI 1),mV 9 16]))))))))
 (.seq (rE 4 (cB false))
 gR))
def ZJb(n2:Int)(x4:Int)(_:Nat)(_:Unit)(k4:Unit->Option Bool):Option Bool :=
 bif (x4==n2)then(some true)else(k4 ())
def Z88(_:Unit):Option Bool :=
 some false
def Zb2(l1:List Int)(n2:Int):Option Bool :=
 rgl (ZJb n2) Z88 l1 0 ()
theorem ZT3{l1:List Int}{n2:Int}{r:Bool}(H:Zb2 l1 n2=some r):Snd Tryz.prog ZK3 [.sl .rd 1 (l1.map eI),.int .i64 n2] (.bool r) []:=by
 refine wS Zbk [.t 4] ?_
 unfold Zb2 at H
 refine wG [.u 8 (.ln _ _ fun _=>lm l1 eI)] fun q3=>?_
 refine wR (fun(i4:Nat) (v4:Unit)=>⟨[(1,.int .i64 n2),(7,.sl .rd 1 (l1.map eI)),(8,.int .i64 (l1.length:Int)),(9,.int .i64 (i4:Int))],[],[],[]⟩) H (fun i4 x4 v4 I m k4 hxv4 hiv4 H N20=>?_) (fun v4 I m H=>?_)
 .unfold ZJb at H
  refine wP ?_
  refine wt (ltT hiv4) ?_
  refine wG [.u 11 (.ix _ _ _ fun _=>Z1 eI (Z5 hxv4))] fun _=>?_
  refine Z3 H (fun H=>?_) fun H=>?_
  .refine wP ?_
   replace H:=sI H;subst H
   exact wE [(4,.d)]
  .refine wG [.w 16 (wi .i64 rfl hiv4 q3.1)] fun _=>?_
   exact wT (N20 () H)
 .unfold Z88 at H
  refine wP ?_
  refine wf (ltF l1.length) ?_
  refine wP ?_
  replace H:=sI H;subst H
  exact wE [(4,.d)]
def ZYg:L :=
sR [.bx 2 (.t 0),.mv 4 (cB false)]
 (.seq (sR [mV 7 1,.ln 8 (.t 7),.mv 9 (kI 0)]
 (.blk 0 (.loop (.gw (sR [bI 10 .lss 9 8]
 (.seq (.cond (.t 10) .skip
 (.exit 0))
 (.seq (.blk 1 (sR [iA 11 7 9 1,lD 12 11 1 false,mV 6 12]
 (sR [mV 13 6,.bi 14 .lss (.t 13) (kI 0),mV 15 14,.g 15 false (mV 16 6),.g 15 false (fA 17 2 1),.g 15 false (lD 18 17 1 false),.g 15 false (.ln 19 (.t 18)),.g 15 false (bI 20 .geq 16 19),.pk 21 (.t 15) (cB true) (.t 20)]
 (.cond (.t 21) (.seq (rE 4 (cB false))
 gR)
 .skip))))
 (.reg [.bi 22 .add (.t 9) (kI 1),mV 9 22]))))))))
 (sR [lD 23 2 2 true,cQ 24 ZQ7 [23],mV 4 24]
 gR))
def Zw3(t1:Topo)(x4:Int)(_:Nat)(_:Unit)(k4:Unit->Option Bool):Option Bool :=
 bif ((decide (x4<0))||(decide ((t1.nodes.length:Int)<=x4)))then(some false)else(k4 ())
def Zv3(t1:Topo)(_:Unit):Option Bool :=
 (Zc2 t1).bind fun b5=>some b5
def Z32(t1:Topo)(nodes2:List Int):Option Bool :=
 rgl (Zw3 t1) (Zv3 t1) nodes2 0 ()
theorem Z57{t1:Topo}{nodes2:List Int}{r:Bool}(H:Z32 t1 nodes2=some r):Snd Tryz.prog Zw5 [Zy .rd t1,.sl .rd 1 (nodes2.map eI)] (.bool r) []:=by
 refine wS ZYg [.t 4] ?_
 unfold Z32 at H
 refine wG [.u 8 (.ln _ _ fun _=>lm nodes2 eI)] fun q3=>?_
 refine wR (fun(i4:Nat) (v4:Unit)=>⟨[(2,.ptr 2 0),(7,.sl .rd 1 (nodes2.map eI)),(8,.int .i64 (nodes2.length:Int)),(9,.int .i64 (i4:Int))],[],[(2,(Zy .rd t1).cells)],[]⟩) H (fun i4 x4 v4 I m k4 hxv4 hiv4 H N20=>?_) (fun v4 I m H=>?_)
 .unfold Zw3 at H
  refine wP ?_
  refine wt (ltT hiv4) ?_
  refine wG [.u 11 (.ix _ _ _ fun _=>Z1 eI (Z5 hxv4)),.g 19 [((decide (x4<0)),false)] (.ln _ _ fun _=>lm t1.nodes Zf)] fun _=>?_
  refine Z3 H (fun H=>?_) fun H=>?_
  .refine wP ?_
   replace H:=sI H;subst H
   exact wE [(4,.d)]
  .refine wG [.w 22 (wi .i64 rfl hiv4 q3.1)] fun _=>?_
   exact wT (N20 () H)
 .unfold Zv3 at H
  refine wP ?_
  refine wf (ltF nodes2.length) ?_
  obtain⟨b5,h5,H⟩:=bB H
  refine wG [.c 24 (Zu9 h5)] fun _=>?_
  replace H:=sI H;subst H
  exact wE [(4,.d)]
def Zlk:L :=
sR [.bx 2 (.t 0),.mv 4 (kI 0)]
 (.seq (rE 5 (kI (-1)))
 (.seq (sR [lD 10 2 2 true,mV 11 1,cQ 12 Zw5 [10,11],.un 13 (.t 12),mV 14 13,.g 14 false (mV 15 1),.g 14 false (.ln 16 (.t 15)),.g 14 false (.bi 17 .eql (.t 16) (kI 0)),.pk 18 (.t 14) (cB true) (.t 17)]
 (.cond (.t 18) (sR [mV 19 5,mV 4 19]
 gR)
 .skip))
 (.seq (sR [fA 20 2 0,lD 21 20 1 false,.ln 22 (.t 21),.mv 23 (kI 0)]
 (.blk 0 (.loop (.gw (sR [bI 24 .lss 23 22]
 (.seq (.cond (.t 24) .skip
 (.exit 0))
 (.seq (.blk 1 (sR [mV 25 23,mV 6 25]
 (.seq (rE 7 (cB true))
 (.seq (sR [mV 26 1,.ln 27 (.t 26),.mv 28 (kI 0)]
 (.blk 2 (.loop (.gw (sR [bI 29 .lss 28 27]
 (.seq (.cond (.t 29) .skip
 (.exit 2))
 (.seq (.blk 3 (sR [iA 30 26 28 1,lD 31 30 1 false,mV 9 31]
 (.seq (.rq 11 [lD 32 2 2 true,fA 33 2 1,lD 34 33 1 false,mV 35 9,iA 36 34 35 4,fA 37 36 0,lD 38 37 1 false,cQ 39 Zwc [32,38],mV 40 6,cQ 41 ZK3 [39,40],.un 42 (.t 41)])
 (.cond (.t 42) (rE 7 (cB false))
 .skip))))
 (.reg [.bi 43 .add (.t 28) (kI 1),mV 28 43]))))))))
 (.seq (.rq 14 [mV 44 7,mV 45 44,.g 45 true (mV 46 5),.g 45 true (.bi 47 .lss (.t 46) (kI 0)),.g 45 true (mV 48 47),.g 48 false (lD 49 2 2 true),.g 48 false (mV 50 6),.g 48 false (cQ 51 Z11 [49,50]),.g 48 false (lD 52 2 2 true),.g 48 false (mV 53 5),.g 48 false (cQ 54 Z11 [52,53]),.g 48 false (bI 55 .leq 51 54),.g 45 true (.pk 56 (.t 48) (cB true) (.t 55)),.pk 57 (.t 45) (.t 56) (cB false)])
 (.cond (.t 57) (.reg [mV 58 6,mV 5 58])
 .skip))))))
 (.reg [.bi 59 .add (.t 23) (kI 1),mV 23 59]))))))))
 (sR [mV 60 5,mV 4 60]
 gR))))
def Z73(t1:Topo)(i5:Nat)(x7:Int)(_:Nat)(v7:Bool)(k7:Bool->Option Int):Option Int :=
 (idx t1.nodes x7).bind fun e8=>(ZH4 t1 e8.leaf).bind fun y9=>(Zb2 y9 (i5:Int)).bind fun b10=>bif (!b10)then(k7 false)else(k7 v7)
def Zn2(t1:Topo)(v5:Int)(i5:Nat)(k5:Int->Option Int)(v7:Bool):Option Int :=
 (bif v7 then(bif (decide (v5<0))then some default else(Zm1 t1 (i5:Int)))else some default).bind fun n11=>(bif v7 then(bif (decide (v5<0))then some default else(Zm1 t1 v5))else some default).bind fun n12=>bif (v7&&((decide (v5<0))||(decide (n11<=n12))))then(k5 (i5:Int))else(k5 v5)
def Zo2(t1:Topo)(nodes2:List Int)(_:Int)(i5:Nat)(v5:Int)(k5:Int->Option Int):Option Int :=
 rgl (Z73 t1 i5) (Zn2 t1 v5 i5 k5) nodes2 0 true
def Z85(v5:Int):Option Int :=
 some v5
def Zs4(t1:Topo)(nodes2:List Int):Option Int :=
 (Z32 t1 nodes2).bind fun b3=>bif ((!b3)||((nodes2.length:Int)==0))then(some (-1))else(rgl (Zo2 t1 nodes2) Z85 t1.parents 0 (-1))
theorem ZGj{t1:Topo}{nodes2:List Int}{r:Int}(H:Zs4 t1 nodes2=some r):Snd Tryz.prog ZVe [Zy .rd t1,.sl .rd 1 (nodes2.map eI)] (.int .i64 r) []:=by
 refine wS Zlk [.t 4] ?_
 unfold Zs4 at H
 obtain⟨b3,h3,H⟩:=bB H
 refine wG [.c 12 (Z57 h3),.g 16 [((!b3),false)] (.ln _ _ fun _=>lm nodes2 eI)] fun _=>?_
 refine Z3 H (fun H=>?_) fun H=>?_
 .refine wP ?_
  replace H:=sI H;subst H
  exact wE [(4,.d)]
 .refine wG [.u 22 (.ln _ _ fun _=>lm t1.parents eI)] fun q4=>?_
  refine wR (fun(i5:Nat) (v5:Int)=>⟨[(1,.sl .rd 1 (nodes2.map eI)),(2,.ptr 2 0),(5,.int .i64 v5),(22,.int .i64 (t1.parents.length:Int)),(23,.int .i64 (i5:Int))],[],[(2,(Zy .rd t1).cells)],[]⟩) H (fun i5 x5 v5 I m k5 hxv5 hiv5 H N49=>?_) (fun v5 I m H=>?_)
  .unfold Zo2 at H
   refine wP ?_
   refine wt (ltT hiv5) ?_
   refine wG [.u 27 (.ln _ _ fun _=>lm nodes2 eI)] fun q6=>?_
   refine wR (fun(i7:Nat) (v7:Bool)=>⟨[(1,.sl .rd 1 (nodes2.map eI)),(2,.ptr 2 0),(5,.int .i64 v5),(6,.int .i64 (i5:Int)),(7,.bool v7),(22,.int .i64 (t1.parents.length:Int)),(23,.int .i64 (i5:Int)),(26,.sl .rd 1 (nodes2.map eI)),(27,.int .i64 (nodes2.length:Int)),(28,.int .i64 (i7:Int))],[],[(2,(Zy .rd t1).cells)],[]⟩) H (fun i7 x7 v7 I m k7 hxv7 hiv7 H N33=>?_) (fun v7 I m H=>?_)
   .unfold Z73 at H
    refine wP ?_
    refine wt (ltT hiv7) ?_
    obtain⟨e8,h8,H⟩:=bB H
    obtain⟨y9,h9,H⟩:=bB H
    obtain⟨b10,h10,H⟩:=bB H
    refine wG [.u 30 (.ix _ _ _ fun _=>Z1 eI (Z5 hxv7)),.u 36 (.ix _ _ _ fun _=>Z1 Zf h8),.c 39 (Z2e h9),.c 41 (ZT3 h10)] fun _=>?_
    refine Z3 H (fun H=>?_) fun H=>?_
    .refine wG [.w 43 (wi .i64 rfl hiv7 q6.1)] fun _=>?_
     exact wT (N33 _ H)
    .refine wG [.w 43 (wi .i64 rfl hiv7 q6.1)] fun _=>?_
     exact wT (N33 _ H)
   .unfold Zn2 at H
    refine wP ?_
    refine wf (ltF nodes2.length) ?_
    obtain⟨n11,h11,H⟩:=bB H
    obtain⟨n12,h12,H⟩:=bB H
    refine wG [.g 51 [(_,false),(_,true)] (.call _ _ _ _ _ (AEs.refl _) (fun q=>Zx1 (bF q.1 (bT q.2.1 h11)))),.g 54 [(_,false),(_,true)] (.call _ _ _ _ _ (AEs.refl _) (fun q=>Zx1 (bF q.1 (bT q.2.1 h12))))] fun _=>?_
    refine Z3 H (fun H=>?_) fun H=>?_
    .refine wG [.w 59 (wi .i64 rfl hiv5 q4.1)] fun _=>?_
     exact wT (N49 _ H)
    .refine wG [.w 59 (wi .i64 rfl hiv5 q4.1)] fun _=>?_
     exact wT (N49 _ H)
  .unfold Z85 at H
   refine wP ?_
   refine wf (ltF t1.parents.length) ?_
   refine wP ?_
   replace H:=sI H;subst H
   exact wE [(4,.d)]
def Z5h:L :=
sR [.bx 1 (.t 0),.al 2 [.nl,.nl]]
 (.seq (.rq 5 [fA 3 1 0,lD 4 3 1 false,cQ 5 ZM8 [4],fA 6 1 1,lD 7 6 1 false,.ap 8 (.c (.nl)) (.t 7) 4 32,.bd 9 [.nl,.nl] [(0,1,(.t 5)),(1,1,(.t 8))],.st (.t 2) (.t 9) 2])
 gR)
def Z72(t1:Topo):Option Topo :=
 (Z82 t1.parents).bind fun y2=>(appL 32 ([]:List Node) t1.nodes).bind fun xs3=>some (Topo.mk y2 xs3)
theorem Ze7{t1:Topo}{r:Topo}(H:Z72 t1=some r):Snd Tryz.prog ZB5 [Zy .rd t1] (Zy .nw r) []:=by
 refine wS Z5h [.c 2 2 true] ?_
 unfold Z72 at H
 obtain⟨y2,h2,H⟩:=bB H
 obtain⟨xs3,h3,H⟩:=bB H
 refine wG [.c 5 (Zpb h2),.u 8 (.ap _ _ _ _ fun _=>Z6 Zf h3)] fun _=>?_
 replace H:=sI H;subst H
 exact wN [(2,.d)] [(2,[.d,.f])] [] [8] [] [⟨_,nw_I y2⟩,⟨_,Zx xs3⟩]
def ZHk:L :=
.seq (rE 4 (cB false))
 (.seq (.seq (rE 5 (kI 1))
 (.blk 0 (.loop (.gw (.seq (sR [mV 6 5,mV 7 0,.ln 8 (.t 7),bI 9 .lss 6 8]
 (.cond (.t 9) .skip
 (.exit 0)))
 (.seq (.blk 1 (sR [mV 12 0,mV 13 5,iA 14 12 13 1,lD 15 14 1 false,mV 16 1,bI 17 .eql 15 16]
 (.cond (.t 17) (.seq (rE 4 (cB false))
 gR)
 .skip)))
 (.reg [mV 10 5,.bi 11 .add (.t 10) (kI 1),mV 5 11])))))))
 (.seq (rE 4 (cB true))
 gR))
def Zh3(parents1:List Int)(s2:Int)(v3:Int)(k3:Int->Option Bool):Option Bool :=
 bif (decide (v3<(parents1.length:Int)))then((idx parents1 v3).bind fun e5=>bif (e5==s2)then(some false)else(k3 (w64 (v3+1))))else(some true)
def Z16(parents1:List Int)(s2:Int):Option Bool :=
 whl (Zh3 parents1 s2) 9223372036854775807 1
theorem Zjd{parents1:List Int}{s2:Int}{r:Bool}(H:Z16 parents1 s2=some r):Snd Tryz.prog Z4b [.sl .rd 1 (parents1.map eI),.int .i64 s2] (.bool r) []:=by
 refine wS ZHk [.t 4] ?_
 unfold Z16 at H
 refine wP ?_
 refine wW (fun(v3:Int)=>⟨[(0,.sl .rd 1 (parents1.map eI)),(1,.int .i64 s2),(5,.int .i64 v3)],[],[],[]⟩) H (fun v3 I m k3 H N18=>?_)
 unfold Zh3 at H
 refine wG [.u 8 (.ln _ _ fun _=>lm parents1 eI)] fun q4=>?_
 refine Z3 H (fun H=>?_) fun H=>?_
 .obtain⟨e5,h5,H⟩:=bB H
  refine wG [.u 14 (.ix _ _ _ fun _=>Z1 eI h5)] fun _=>?_
  refine Z3 H (fun H=>?_) fun H=>?_
  .refine wP ?_
   replace H:=sI H;subst H
   exact wE [(4,.d)]
  .refine wP ?_
   exact wT (N18 _ H)
 .refine wP ?_
  replace H:=sI H;subst H
  exact wE [(4,.d)]
def ZTm:L :=
.seq (rE 4 (kI 0))
 (.seq (rE 5 (kI 0))
 (.seq (.blk 0 (.loop (.gw (.seq (sR [mV 6 1,.bi 7 .gtr (.t 6) (kI 0)]
 (.cond (.t 7) .skip
 (.exit 0)))
 (.blk 1 (sR [mV 8 0,mV 9 1,iA 10 8 9 1,lD 11 10 1 false,mV 1 11]
 (.reg [mV 12 5,.bi 13 .add (.t 12) (kI 1),mV 5 13])))))))
 (sR [mV 14 5,mV 4 14]
 gR)))
def ZB9(parents1:List Int)(v3:Int×Int)(k3:(Int×Int)->Option Int):Option Int :=
 bif (decide (0<v3.1))then((idx parents1 v3.1).bind fun e4=>k3 (e4,(w64 (v3.2+1))))else(some v3.2)
def Z36(parents1:List Int)(s2:Int):Option Int :=
 whl (ZB9 parents1) 9223372036854775807 (s2,0)
theorem ZGa{parents1:List Int}{s2:Int}{r:Int}(H:Z36 parents1 s2=some r):Snd Tryz.prog Zm9 [.sl .rd 1 (parents1.map eI),.int .i64 s2] (.int .i64 r) []:=by
 refine wS ZTm [.t 4] ?_
 unfold Z36 at H
 refine wP ?_
 refine wW (fun(v3:Int×Int)=>⟨[(0,.sl .rd 1 (parents1.map eI)),(1,.int .i64 v3.1),(5,.int .i64 v3.2)],[],[],[]⟩) H (fun v3 I m k3 H N12=>?_)
 unfold ZB9 at H
 refine wP ?_
 refine Z3 H (fun H=>?_) fun H=>?_
 .obtain⟨e4,h4,H⟩:=bB H
  refine wG [.u 10 (.ix _ _ _ fun _=>Z1 eI h4)] fun _=>?_
  exact wT (N12 _ H)
 .refine wP ?_
  replace H:=sI H;subst H
  exact wE [(4,.d)]
def ZIk:L :=
.seq (rE 2 (kI 0))
 (sR [mV 3 0,mV 4 0,.ln 5 (.t 4),.bi 6 .sub (.t 5) (kI 1),cQ 7 Zm9 [3,6],mV 2 7]
 gR)
def ZFa(parents1:List Int):Option Int :=
 (Z36 parents1 (w64 ((parents1.length:Int)-1))).bind fun n2=>some n2
theorem ZUk{parents1:List Int}{r:Int}(H:ZFa parents1=some r):Snd Tryz.prog Z6f [.sl .rd 1 (parents1.map eI)] (.int .i64 r) []:=by
 refine wS ZIk [.t 2] ?_
 unfold ZFa at H
 obtain⟨n2,h2,H⟩:=bB H
 refine wG [.u 5 (.ln _ _ fun _=>lm parents1 eI),.c 7 (ZGa h2)] fun q3=>?_
 replace H:=sI H;subst H
 exact wE [(2,.d)]
def ZMk:L :=
sR [.bx 1 (.t 0),.mv 2 (cB false)]
 (.seq (sR [fA 9 1 0,lD 10 9 1 false,.ln 11 (.t 10),.cq 12 Ze [(.t 11),(kI 1),(kI 24)],.un 13 (.t 12),mV 14 13,.g 14 false (fA 15 1 0),.g 14 false (lD 16 15 1 false),.g 14 false (.ia 17 (.t 16) (kI 0) 1),.g 14 false (lD 18 17 1 false),.g 14 false (.bi 19 .neq (.t 18) (kI 0)),.pk 20 (.t 14) (cB true) (.t 19),mV 21 20,.g 21 false (fA 22 1 1),.g 21 false (lD 23 22 1 false),.g 21 false (.ln 24 (.t 23)),.g 21 false (.bi 25 .gtr (.t 24) (kI 24)),.pk 26 (.t 21) (cB true) (.t 25)]
 (.cond (.t 26) (.seq (rE 2 (cB false))
 gR)
 .skip))
 (.seq (.seq (rE 3 (kI 1))
 (.blk 0 (.loop (.gw (.seq (sR [mV 27 3,fA 28 1 0,lD 29 28 1 false,.ln 30 (.t 29),bI 31 .lss 27 30]
 (.cond (.t 31) .skip
 (.exit 0)))
 (.seq (.blk 1 (sR [fA 34 1 0,lD 35 34 1 false,mV 36 3,iA 37 35 36 1,lD 38 37 1 false,mV 39 3,.bi 40 .sub (.t 39) (kI 1),.cq 41 Ze [(.t 38),(kI 0),(.t 40)],.un 42 (.t 41)]
 (.cond (.t 42) (.seq (rE 2 (cB false))
 gR)
 .skip)))
 (.reg [mV 32 3,.bi 33 .add (.t 32) (kI 1),mV 3 33])))))))
 (.seq (rE 4 (kI (-1)))
 (.seq (sR [fA 43 1 0,lD 44 43 1 false,.ln 45 (.t 44),.mv 46 (kI 0)]
 (.blk 2 (.loop (.gw (sR [bI 47 .lss 46 45]
 (.seq (.cond (.t 47) .skip
 (.exit 2))
 (.seq (.blk 3 (sR [mV 48 46,mV 5 48]
 (.seq (sR [fA 49 1 0,lD 50 49 1 false,mV 51 5,cQ 52 Z4b [50,51],.un 53 (.t 52)]
 (.cond (.t 53) (.exit 3)
 .skip))
 (sR [fA 54 1 0,lD 55 54 1 false,mV 56 5,cQ 57 Zm9 [55,56],mV 6 57]
 (.seq (sR [mV 58 4,.bi 59 .geq (.t 58) (kI 0),mV 60 59,.g 60 true (mV 61 6),.g 60 true (mV 62 4),.g 60 true (bI 63 .neq 61 62),.pk 64 (.t 60) (.t 63) (cB false)]
 (.cond (.t 64) (.seq (rE 2 (cB false))
 gR)
 .skip))
 (.reg [mV 65 6,mV 4 65]))))))
 (.reg [.bi 66 .add (.t 46) (kI 1),mV 46 66]))))))))
 (.seq (sR [fA 67 1 1,lD 68 67 1 false,.ln 69 (.t 68),.mv 70 (kI 0)]
 (.blk 4 (.loop (.gw (sR [bI 71 .lss 70 69]
 (.seq (.cond (.t 71) .skip
 (.exit 4))
 (.seq (.blk 5 (sR [iA 72 68 70 4,lD 73 72 4 true,.al 8 [.int .i64 0,.int .i64 0,.int .i64 0,.int .i64 0],.st (.t 8) (.t 73) 4]
 (sR [fA 74 8 0,lD 75 74 1 false,fA 76 1 0,lD 77 76 1 false,.ln 78 (.t 77),.bi 79 .sub (.t 78) (kI 1),.cq 80 Ze [(.t 75),(kI 0),(.t 79)],.un 81 (.t 80),mV 82 81,.g 82 false (fA 83 1 0),.g 82 false (lD 84 83 1 false),.g 82 false (fA 85 8 0),.g 82 false (lD 86 85 1 false),.g 82 false (cQ 87 Z4b [84,86]),.g 82 false (.un 88 (.t 87)),.pk 89 (.t 82) (cB true) (.t 88),mV 90 89,.g 90 false (fA 91 8 1),.g 90 false (lD 92 91 3 true),.g 90 false (cQ 93 ZZ [92]),.g 90 false (.un 94 (.t 93)),.pk 95 (.t 90) (cB true) (.t 94)]
 (.cond (.t 95) (.seq (rE 2 (cB false))
 gR)
 .skip))))
 (.reg [.bi 96 .add (.t 70) (kI 1),mV 70 96]))))))))
 (.seq (rE 2 (cB true))
 gR))))))
def Zp5(t1:Topo)(x12:Node)(_:Nat)(_:Unit)(k12:Unit->Option Bool):Option Bool :=
 (bif (!(Z0 x12.leaf 0 (w64 ((t1.parents.length:Int)-1))))then some default else(Z16 t1.parents x12.leaf)).bind fun b13=>bif (((!(Z0 x12.leaf 0 (w64 ((t1.parents.length:Int)-1))))||(!b13))||(!(Zb x12.cap)))then(some false)else(k12 ())
def Zac(_:Unit):Option Bool :=
 some true
def Zq5(t1:Topo)(_:Int)(i8:Nat)(v8:Int)(k8:Int->Option Bool):Option Bool :=
 (Z16 t1.parents (i8:Int)).bind fun b9=>bif (!b9)then(k8 v8)else((Z36 t1.parents (i8:Int)).bind fun n10=>bif ((decide (0<=v8))&&(n10 != v8))then(some false)else(k8 n10))
def Zo5(t1:Topo)(_:Int):Option Bool :=
 rgl (Zp5 t1) Zac t1.nodes 0 ()
def Zj3(t1:Topo)(v4:Int)(k4:Int->Option Bool):Option Bool :=
 bif (decide (v4<(t1.parents.length:Int)))then((idx t1.parents v4).bind fun e6=>bif (!(Z0 e6 0 (w64 (v4-1))))then(some false)else(k4 (w64 (v4+1))))else(rgl (Zq5 t1) (Zo5 t1) t1.parents 0 (-1))
def Zk3(t1:Topo):Option Bool :=
 (bif (!(Z0 (t1.parents.length:Int) 1 24))then some default else(idx t1.parents 0)).bind fun e2=>bif (((!(Z0 (t1.parents.length:Int) 1 24))||(e2 != 0))||(decide (24<(t1.nodes.length:Int))))then(some false)else(whl (Zj3 t1) 9223372036854775807 1)
theorem ZE9{t1:Topo}{r:Bool}(H:Zk3 t1=some r):Snd Tryz.prog ZS7 [Zy .rd t1] (.bool r) []:=by
 refine wS ZMk [.t 2] ?_
 unfold Zk3 at H
 obtain⟨e2,h2,H⟩:=bB H
 refine wG [.u 11 (.ln _ _ fun _=>lm t1.parents eI),.u 12 (.call _ _ _ _ _ (AEs.refl _) (fun _=>Zc (t1.parents.length:Int) 1 24)),.g 17 [(_,false)] (.ix _ _ _ fun q=>Z1 eI (bF q.1 h2)),.g 24 [(((!(Z0 (t1.parents.length:Int) 1 24))||(e2 != 0)),false)] (.ln _ _ fun _=>lm t1.nodes Zf)] fun q3=>?_
 refine Z3 H (fun H=>?_) fun H=>?_
 .refine wP ?_
  replace H:=sI H;subst H
  exact wE [(2,.d)]
 .refine wP ?_
  refine wW (fun(v4:Int)=>⟨[(1,.ptr 1 0),(3,.int .i64 v4)],[],[(1,(Zy .rd t1).cells)],[]⟩) H (fun v4 I m k4 H N25=>?_)
  unfold Zj3 at H
  refine wG [.u 30 (.ln _ _ fun _=>lm t1.parents eI)] fun q5=>?_
  refine Z3 H (fun H=>?_) fun H=>?_
  .obtain⟨e6,h6,H⟩:=bB H
   refine wG [.u 37 (.ix _ _ _ fun _=>Z1 eI h6),.u 41 (.call _ _ _ _ _ (AEs.refl _) (fun _=>Zc e6 0 (w64 (v4-1))))] fun _=>?_
   refine Z3 H (fun H=>?_) fun H=>?_
   .refine wP ?_
    replace H:=sI H;subst H
    exact wE [(2,.d)]
   .refine wP ?_
    exact wT (N25 _ H)
  .refine wG [.u 45 (.ln _ _ fun _=>lm t1.parents eI)] fun q7=>?_
   refine wR (fun(i8:Nat) (v8:Int)=>⟨[(1,.ptr 1 0),(4,.int .i64 v8),(45,.int .i64 (t1.parents.length:Int)),(46,.int .i64 (i8:Int))],[],[(1,(Zy .rd t1).cells)],[]⟩) H (fun i8 x8 v8 I m k8 hxv8 hiv8 H N58=>?_) (fun v8 I m H=>?_)
   .unfold Zq5 at H
    refine wP ?_
    refine wt (ltT hiv8) ?_
    obtain⟨b9,h9,H⟩:=bB H
    refine wG [.c 52 (Zjd h9)] fun _=>?_
    refine Z3 H (fun H=>?_) fun H=>?_
    .refine wG [.w 66 (wi .i64 rfl hiv8 q3.1)] fun _=>?_
     exact wT (N58 _ H)
    .obtain⟨n10,h10,H⟩:=bB H
     refine wG [.c 57 (ZGa h10)] fun _=>?_
     refine Z3 H (fun H=>?_) fun H=>?_
     .refine wP ?_
      replace H:=sI H;subst H
      exact wE [(2,.d)]
     .refine wG [.w 66 (wi .i64 rfl hiv8 q3.1)] fun _=>?_
      exact wT (N58 _ H)
   .unfold Zo5 at H
    refine wP ?_
    refine wf (ltF t1.parents.length) ?_
    refine wG [.u 69 (.ln _ _ fun _=>lm t1.nodes Zf)] fun q11=>?_
    refine wR (fun(i12:Nat) (v12:Unit)=>⟨[(1,.ptr 1 0),(68,.sl .rd 4 (t1.nodes.map Zf)),(69,.int .i64 (t1.nodes.length:Int)),(70,.int .i64 (i12:Int))],[],[(1,(Zy .rd t1).cells)],[]⟩) H (fun i12 x12 v12 I m k12 hxv12 hiv12 H N80=>?_) (fun v12 I m H=>?_)
    .unfold Zp5 at H
     refine wP ?_
     refine wt (ltT hiv12) ?_
     obtain⟨b13,h13,H⟩:=bB H
     refine wG [.u 72 (.ix _ _ _ fun _=>Z1 Zf (Z5 hxv12)),.u 78 (.ln _ _ fun _=>lm t1.parents eI),.u 80 (.call _ _ _ _ _ (AEs.refl _) (fun _=>Zc x12.leaf 0 (w64 ((t1.parents.length:Int)-1)))),.g 87 [(_,false)] (.call _ _ _ _ _ (AEs.refl _) (fun q=>Zjd (bF q.1 h13))),.g 93 [(((!(Z0 x12.leaf 0 (w64 ((t1.parents.length:Int)-1))))||(!b13)),false)] (.call _ _ _ _ _ (AEs.refl _) (fun _=>Z41 x12.cap))] fun q14=>?_
     refine Z3 H (fun H=>?_) fun H=>?_
     .refine wP ?_
      replace H:=sI H;subst H
      exact wE [(2,.d)]
     .refine wG [.w 96 (wi .i64 rfl hiv12 q11.1)] fun _=>?_
      exact wT (N80 () H)
    .unfold Zac at H
     refine wP ?_
     refine wf (ltF t1.nodes.length) ?_
     refine wP ?_
     replace H:=sI H;subst H
     exact wE [(2,.d)]
def ZQm:L :=
sR [.bx 2 (.t 0),.mv 4 (kI 0)]
 (.seq (.rq 9 [fA 5 2 0,lD 6 5 1 false,cQ 7 Z6f [6],fA 8 2 0,lD 9 8 1 false,mV 10 1,cQ 11 Zm9 [9,10],bI 12 .sub 7 11,mV 4 12])
 gR)
def ZO4(t1:Topo)(s2:Int):Option Int :=
 (ZFa t1.parents).bind fun n3=>(Z36 t1.parents s2).bind fun n4=>some (w64 (n3-n4))
theorem ZI7{t1:Topo}{s2:Int}{r:Int}(H:ZO4 t1 s2=some r):Snd Tryz.prog ZV6 [Zy .rd t1,.int .i64 s2] (.int .i64 r) []:=by
 refine wS ZQm [.t 4] ?_
 unfold ZO4 at H
 obtain⟨n3,h3,H⟩:=bB H
 obtain⟨n4,h4,H⟩:=bB H
 refine wG [.c 7 (ZUk h3),.c 11 (ZGa h4)] fun _=>?_
 replace H:=sI H;subst H
 exact wE [(4,.d)]
def ZVm:L :=
sR [.bx 2 (.t 0),.mv 4 (.c (.nl))]
 (sR [mV 6 1,.bs 7 1 [(.t 6)] true,mV 5 7]
 (.seq (.blk 0 (.loop (.gw (.seq (sR [mV 8 1,.bi 9 .gtr (.t 8) (kI 0)]
 (.cond (.t 9) .skip
 (.exit 0)))
 (.blk 1 (sR [fA 10 2 0,lD 11 10 1 false,mV 12 1,iA 13 11 12 1,lD 14 13 1 false,mV 1 14]
 (.reg [mV 15 5,mV 16 1,.bs 17 1 [(.t 16)] false,.ap 18 (.t 15) (.t 17) 1 8,mV 5 18])))))))
 (sR [mV 19 5,mV 4 19]
 gR)))
def Zmd(t1:Topo)(v3:Int×(List Int))(k3:(Int×(List Int))->Option (List Int)):Option (List Int) :=
 bif (decide (0<v3.1))then((idx t1.parents v3.1).bind fun e4=>(appL 8 v3.2 [e4]).bind fun xs5=>k3 (e4,xs5))else(some v3.2)
def Zga(t1:Topo)(s2:Int):Option (List Int) :=
 whl (Zmd t1) 9223372036854775807 (s2,[s2])
theorem Zze{t1:Topo}{s2:Int}{r:(List Int)}(H:Zga t1 s2=some r):Snd Tryz.prog ZHc [Zy .rd t1,.int .i64 s2] (.sl .nw 1 (r.map eI)) []:=by
 refine wS ZVm [.t 4] ?_
 unfold Zga at H
 refine wP ?_
 refine wW (fun(v3:Int×(List Int))=>⟨[(1,.int .i64 v3.1),(2,.ptr 2 0),(5,.sref 7)],[],[(2,(Zy .rd t1).cells)],[(7,⟨1,v3.2.map eI,false⟩)]⟩) H (fun v3 I m k3 H N12=>?_)
 unfold Zmd at H
 refine wP ?_
 refine Z3 H (fun H=>?_) fun H=>?_
 .obtain⟨e4,h4,H⟩:=bB H
  obtain⟨xs5,h5,H⟩:=bB H
  refine wG [.u 13 (.ix _ _ _ fun _=>Z1 eI h4),.u 18 (.ap _ _ _ _ fun _=>Z6 eI h5)] fun _=>?_
  exact wT (N12 _ H)
 .refine wP ?_
  replace H:=sI H;subst H
  exact wN [(4,.f)] [] [] [7] [] [⟨_,nw_I v3.2⟩]
def Z9h:L :=
sR [.bx 2 (.t 0),.mv 4 (cB false)]
 (.seq (sR [mV 7 1,.ln 8 (.t 7),.mv 9 (kI 0)]
 (.blk 0 (.loop (.gw (sR [bI 10 .lss 9 8]
 (.seq (.cond (.t 10) .skip
 (.exit 0))
 (.seq (.blk 1 (sR [iA 11 7 9 1,lD 12 11 1 false,mV 6 12]
 (sR [mV 13 6,fA 14 2 1,lD 15 14 1 false,.ln 16 (.t 15),.bi 17 .sub (.t 16) (kI 1),.cq 18 Ze [(.t 13),(kI 0),(.t 17)],.un 19 (.t 18)]
 (.cond (.t 19) (.seq (rE 4 (cB false))
 gR)
 .skip))))
 (.reg [.bi 20 .add (.t 9) (kI 1),mV 9 20]))))))))
 (sR [lD 21 2 2 true,cQ 22 ZS7 [21],mV 4 22]
 gR))
def Z86(t1:Topo)(x4:Int)(_:Nat)(_:Unit)(k4:Unit->Option Bool):Option Bool :=
 bif (!(Z0 x4 0 (w64 ((t1.nodes.length:Int)-1))))then(some false)else(k4 ())
def Z76(t1:Topo)(_:Unit):Option Bool :=
 (Zk3 t1).bind fun b6=>some b6
def ZB3(t1:Topo)(nodes2:List Int):Option Bool :=
 rgl (Z86 t1) (Z76 t1) nodes2 0 ()
theorem Zqb{t1:Topo}{nodes2:List Int}{r:Bool}(H:ZB3 t1 nodes2=some r):Snd Tryz.prog ZO8 [Zy .rd t1,.sl .rd 1 (nodes2.map eI)] (.bool r) []:=by
 refine wS Z9h [.t 4] ?_
 unfold ZB3 at H
 refine wG [.u 8 (.ln _ _ fun _=>lm nodes2 eI)] fun q3=>?_
 refine wR (fun(i4:Nat) (v4:Unit)=>⟨[(2,.ptr 2 0),(7,.sl .rd 1 (nodes2.map eI)),(8,.int .i64 (nodes2.length:Int)),(9,.int .i64 (i4:Int))],[],[(2,(Zy .rd t1).cells)],[]⟩) H (fun i4 x4 v4 I m k4 hxv4 hiv4 H N20=>?_) (fun v4 I m H=>?_)
 .unfold Z86 at H
  refine wP ?_
  refine wt (ltT hiv4) ?_
  refine wG [.u 11 (.ix _ _ _ fun _=>Z1 eI (Z5 hxv4)),.u 16 (.ln _ _ fun _=>lm t1.nodes Zf),.u 18 (.call _ _ _ _ _ (AEs.refl _) (fun _=>Zc x4 0 (w64 ((t1.nodes.length:Int)-1))))] fun q5=>?_
  refine Z3 H (fun H=>?_) fun H=>?_
  .refine wP ?_
   replace H:=sI H;subst H
   exact wE [(4,.d)]
  .refine wG [.w 20 (wi .i64 rfl hiv4 q3.1)] fun _=>?_
   exact wT (N20 () H)
 .unfold Z76 at H
  refine wP ?_
  refine wf (ltF nodes2.length) ?_
  obtain⟨b6,h6,H⟩:=bB H
  refine wG [.c 22 (ZE9 h6)] fun _=>?_
  replace H:=sI H;subst H
  exact wE [(4,.d)]
def ZBa:L :=
.seq (rE 4 (kI 0))
 (.seq (sR [mV 6 0,.ln 7 (.t 6),.mv 8 (kI 0)]
 (.blk 0 (.loop (.gw (sR [bI 9 .lss 8 7]
 (.seq (.cond (.t 9) .skip
 (.exit 0))
 (.seq (.blk 1 (sR [mV 10 8,mV 5 10]
 (sR [mV 11 1,mV 12 0,mV 13 5,iA 14 12 13 1,lD 15 14 1 false,bI 16 .eql 11 15]
 (.cond (.t 16) (sR [mV 17 5,mV 4 17]
 gR)
 .skip))))
 (.reg [.bi 18 .add (.t 8) (kI 1),mV 8 18]))))))))
 (.seq (rE 4 (kI (-1)))
 gR))
def Zp2(v2:Int)(x4:Int)(i4:Nat)(_:Unit)(k4:Unit->Option Int):Option Int :=
 bif (v2==x4)then(some (i4:Int))else(k4 ())
def ZJ4(_:Unit):Option Int :=
 some (-1)
def ZD1(s1:List Int)(v2:Int):Option Int :=
 rgl (Zp2 v2) ZJ4 s1 0 ()
theorem Zqa{s1:List Int}{v2:Int}{r:Int}(H:ZD1 s1 v2=some r):Snd Tryz.prog ZD5 [.sl .rd 1 (s1.map eI),.int .i64 v2] (.int .i64 r) []:=by
 refine wS ZBa [.t 4] ?_
 unfold ZD1 at H
 refine wG [.u 7 (.ln _ _ fun _=>lm s1 eI)] fun q3=>?_
 refine wR (fun(i4:Nat) (v4:Unit)=>⟨[(0,.sl .rd 1 (s1.map eI)),(1,.int .i64 v2),(7,.int .i64 (s1.length:Int)),(8,.int .i64 (i4:Int))],[],[],[]⟩) H (fun i4 x4 v4 I m k4 hxv4 hiv4 H N20=>?_) (fun v4 I m H=>?_)
 .unfold Zp2 at H
  refine wP ?_
  refine wt (ltT hiv4) ?_
  refine wG [.u 14 (.ix _ _ _ fun _=>Z1 eI (Z5 hxv4))] fun _=>?_
  refine Z3 H (fun H=>?_) fun H=>?_
  .refine wP ?_
   replace H:=sI H;subst H
   exact wE [(4,.d)]
  .refine wG [.w 18 (wi .i64 rfl hiv4 q3.1)] fun _=>?_
   exact wT (N20 () H)
 .unfold ZJ4 at H
  refine wP ?_
  refine wf (ltF s1.length) ?_
  refine wP ?_
  replace H:=sI H;subst H
  exact wE [(4,.d)]
def ZR8:L :=
.seq (rE 4 (cB false))
 (sR [mV 5 0,mV 6 1,cQ 7 ZD5 [5,6],.bi 8 .geq (.t 7) (kI 0),mV 4 8]
 gR)
def Zu(s1:List Int)(v2:Int):Option Bool :=
 (ZD1 s1 v2).bind fun n3=>some (decide (0<=n3))
theorem Zg1{s1:List Int}{v2:Int}{r:Bool}(H:Zu s1 v2=some r):Snd Tryz.prog Z31 [.sl .rd 1 (s1.map eI),.int .i64 v2] (.bool r) []:=by
 refine wS ZR8 [.t 4] ?_
 unfold Zu at H
 obtain⟨n3,h3,H⟩:=bB H
 refine wG [.c 7 (Zqa h3)] fun _=>?_
 replace H:=sI H;subst H
 exact wE [(4,.d)]
def ZQk:L :=
sR [.bx 2 (.t 0),.mv 4 (kI 0)]
 (.seq (sR [lD 10 2 2 true,mV 11 1,cQ 12 ZO8 [10,11],.un 13 (.t 12),mV 14 13,.g 14 false (mV 15 1),.g 14 false (.ln 16 (.t 15)),.g 14 false (.bi 17 .eql (.t 16) (kI 0)),.pk 18 (.t 14) (cB true) (.t 17)]
 (.cond (.t 18) (.seq (rE 4 (kI (-1)))
 gR)
 .skip))
 (.seq (rE 5 (kI (-1)))
 (.seq (sR [fA 19 2 0,lD 20 19 1 false,.ln 21 (.t 20),.mv 22 (kI 0)]
 (.blk 0 (.loop (.gw (sR [bI 23 .lss 22 21]
 (.seq (.cond (.t 23) .skip
 (.exit 0))
 (.seq (.blk 1 (sR [mV 24 22,mV 6 24]
 (.seq (rE 7 (cB true))
 (.seq (sR [mV 25 1,.ln 26 (.t 25),.mv 27 (kI 0)]
 (.blk 2 (.loop (.gw (sR [bI 28 .lss 27 26]
 (.seq (.cond (.t 28) .skip
 (.exit 2))
 (.seq (.blk 3 (sR [iA 29 25 27 1,lD 30 29 1 false,mV 9 30]
 (.rq 13 [mV 31 7,mV 32 31,.g 32 true (lD 33 2 2 true),.g 32 true (fA 34 2 1),.g 32 true (lD 35 34 1 false),.g 32 true (mV 36 9),.g 32 true (iA 37 35 36 4),.g 32 true (fA 38 37 0),.g 32 true (lD 39 38 1 false),.g 32 true (cQ 40 ZHc [33,39]),.g 32 true (mV 41 6),.g 32 true (cQ 42 Z31 [40,41]),.pk 43 (.t 32) (.t 42) (cB false),mV 7 43])))
 (.reg [.bi 44 .add (.t 27) (kI 1),mV 27 44]))))))))
 (.seq (.rq 14 [mV 45 7,mV 46 45,.g 46 true (mV 47 5),.g 46 true (.bi 48 .lss (.t 47) (kI 0)),.g 46 true (mV 49 48),.g 49 false (lD 50 2 2 true),.g 49 false (mV 51 6),.g 49 false (cQ 52 ZV6 [50,51]),.g 49 false (lD 53 2 2 true),.g 49 false (mV 54 5),.g 49 false (cQ 55 ZV6 [53,54]),.g 49 false (bI 56 .leq 52 55),.g 46 true (.pk 57 (.t 49) (cB true) (.t 56)),.pk 58 (.t 46) (.t 57) (cB false)])
 (.cond (.t 58) (.reg [mV 59 6,mV 5 59])
 .skip))))))
 (.reg [.bi 60 .add (.t 22) (kI 1),mV 22 60]))))))))
 (sR [mV 61 5,mV 4 61]
 gR))))
def Zm3(t1:Topo)(i5:Nat)(x7:Int)(_:Nat)(v7:Bool)(k7:Bool->Option Int):Option Int :=
 (bif v7 then(idx t1.nodes x7)else some default).bind fun e8=>(bif v7 then(Zga t1 e8.leaf)else some default).bind fun y9=>(bif v7 then(Zu y9 (i5:Int))else some default).bind fun b10=>k7 (v7&&b10)
def Zv2(t1:Topo)(v5:Int)(i5:Nat)(k5:Int->Option Int)(v7:Bool):Option Int :=
 (bif v7 then(bif (decide (v5<0))then some default else(ZO4 t1 (i5:Int)))else some default).bind fun n11=>(bif v7 then(bif (decide (v5<0))then some default else(ZO4 t1 v5))else some default).bind fun n12=>bif (v7&&((decide (v5<0))||(decide (n11<=n12))))then(k5 (i5:Int))else(k5 v5)
def Zt5(t1:Topo)(nodes2:List Int)(_:Int)(i5:Nat)(v5:Int)(k5:Int->Option Int):Option Int :=
 rgl (Zm3 t1 i5) (Zv2 t1 v5 i5 k5) nodes2 0 true
def ZI8(v5:Int):Option Int :=
 some v5
def Zc6(t1:Topo)(nodes2:List Int):Option Int :=
 (ZB3 t1 nodes2).bind fun b3=>bif ((!b3)||((nodes2.length:Int)==0))then(some (-1))else(rgl (Zt5 t1 nodes2) ZI8 t1.parents 0 (-1))
theorem Z4l{t1:Topo}{nodes2:List Int}{r:Int}(H:Zc6 t1 nodes2=some r):Snd Tryz.prog Z8f [Zy .rd t1,.sl .rd 1 (nodes2.map eI)] (.int .i64 r) []:=by
 refine wS ZQk [.t 4] ?_
 unfold Zc6 at H
 obtain⟨b3,h3,H⟩:=bB H
 refine wG [.c 12 (Zqb h3),.g 16 [((!b3),false)] (.ln _ _ fun _=>lm nodes2 eI)] fun _=>?_
 refine Z3 H (fun H=>?_) fun H=>?_
 .refine wP ?_
  replace H:=sI H;subst H
  exact wE [(4,.d)]
 .refine wG [.u 21 (.ln _ _ fun _=>lm t1.parents eI)] fun q4=>?_
  refine wR (fun(i5:Nat) (v5:Int)=>⟨[(1,.sl .rd 1 (nodes2.map eI)),(2,.ptr 2 0),(5,.int .i64 v5),(21,.int .i64 (t1.parents.length:Int)),(22,.int .i64 (i5:Int))],[],[(2,(Zy .rd t1).cells)],[]⟩) H (fun i5 x5 v5 I m k5 hxv5 hiv5 H N45=>?_) (fun v5 I m H=>?_)
  .unfold Zt5 at H
   refine wP ?_
   refine wt (ltT hiv5) ?_
   refine wG [.u 26 (.ln _ _ fun _=>lm nodes2 eI)] fun q6=>?_
   refine wR (fun(i7:Nat) (v7:Bool)=>⟨[(1,.sl .rd 1 (nodes2.map eI)),(2,.ptr 2 0),(5,.int .i64 v5),(6,.int .i64 (i5:Int)),(7,.bool v7),(21,.int .i64 (t1.parents.length:Int)),(22,.int .i64 (i5:Int)),(25,.sl .rd 1 (nodes2.map eI)),(26,.int .i64 (nodes2.length:Int)),(27,.int .i64 (i7:Int))],[],[(2,(Zy .rd t1).cells)],[]⟩) H (fun i7 x7 v7 I m k7 hxv7 hiv7 H N29=>?_) (fun v7 I m H=>?_)
   .unfold Zm3 at H
    refine wP ?_
    refine wt (ltT hiv7) ?_
    obtain⟨e8,h8,H⟩:=bB H
    obtain⟨y9,h9,H⟩:=bB H
    obtain⟨b10,h10,H⟩:=bB H
    refine wG [.u 29 (.ix _ _ _ fun _=>Z1 eI (Z5 hxv7)),.g 37 [(_,true)] (.ix _ _ _ fun q=>Z1 Zf (bT q.1 h8)),.g 40 [(_,true)] (.call _ _ _ _ _ (AEs.refl _) (fun q=>Zze (bT q.1 h9))),.g 42 [(_,true)] (.call _ _ _ _ _ (AEs.refl _) (fun q=>Zg1 (bT q.1 h10))),.w 44 (wi .i64 rfl hiv7 q6.1)] fun _=>?_
    exact wT (N29 _ H)
   .unfold Zv2 at H
    refine wP ?_
    refine wf (ltF nodes2.length) ?_
    obtain⟨n11,h11,H⟩:=bB H
    obtain⟨n12,h12,H⟩:=bB H
    refine wG [.g 52 [(_,false),(_,true)] (.call _ _ _ _ _ (AEs.refl _) (fun q=>ZI7 (bF q.1 (bT q.2.1 h11)))),.g 55 [(_,false),(_,true)] (.call _ _ _ _ _ (AEs.refl _) (fun q=>ZI7 (bF q.1 (bT q.2.1 h12))))] fun _=>?_
    refine Z3 H (fun H=>?_) fun H=>?_
    .refine wG [.w 60 (wi .i64 rfl hiv5 q4.1)] fun _=>?_
     exact wT (N45 _ H)
    .refine wG [.w 60 (wi .i64 rfl hiv5 q4.1)] fun _=>?_
     exact wT (N45 _ H)
  .unfold ZI8 at H
   refine wP ?_
   refine wf (ltF t1.parents.length) ?_
   refine wP ?_
   replace H:=sI H;subst H
   exact wE [(4,.d)]
structure TreeP(P:List Int):Prop where
 pos:0<P.length
 le:P.length<=24
 root:P[0]?=some 0
 par:∀(i:Nat),1<=i->∀(p:Int),P[i]?=some p->0<=p/\p<i
def prt(P:List Int)(i:Nat):Nat:=(P.getD i 0).toNat
def dep(P:List Int)(s:Nat):Nat:=if h:0<s/\prt P s<s then dep P (prt P s)+1 else 0
termination_by s
decreasing_by exact h.2
def ups(P:List Int)(s:Nat):List Nat:=if _:0<s/\prt P s<s then s::ups P (prt P s)else[s]
termination_by s
decreasing_by exact(‹0<s/\prt P s<s›:0<s/\prt P s<s).2
def kids(P:List Int)(s:Int):List Nat:=(List.range' 1 (P.length-1)).filter fun i=>P[i]?==some s
theorem ZDp{P:List Int}{s:Int}{c:Nat}:c∈kids P s↔1<=c/\c<P.length/\P[c]?=some s:=by
 simp only[kids,List.mem_filter,List.mem_range',beq_iff_eq]
 constructor
 .rintro⟨⟨i,hi,rfl⟩,h⟩;exact⟨by omega,by omega,h⟩
 .rintro⟨h1,h2,h3⟩;exact⟨⟨c-1,by omega,by omega⟩,h3⟩
theorem TreeP.par_lt{P:List Int}(T:TreeP P){i:Nat}(h1:1<=i)(h:i<P.length):prt P i<i/\P[i]?=some (prt P i:Int):=by
 have e:P[i]?=some P[i]:=yA h
 have:=T.par i h1 _ e
 have q:prt P i=P[i].toNat:=by simp[prt,h]
 rw[q]
 exact⟨by omega,by rw[e];congr 1;omega⟩
theorem ZMs(P:List Int):dep P 0=0:=by rw[dep];simp
theorem TreeP.dep_succ{P:List Int}(T:TreeP P){i:Nat}(h1:1<=i)(h:i<P.length):dep P i=dep P (prt P i)+1:=by
 rw[dep,dif_pos ⟨by omega,(T.par_lt h1 h).1⟩]
theorem Zzl(P:List Int):ups P 0=[0]:=by rw[ups];simp
theorem TreeP.ups_succ{P:List Int}(T:TreeP P){i:Nat}(h1:1<=i)(h:i<P.length):ups P i=i::ups P (prt P i):=by
 rw[ups,dif_pos ⟨by omega,(T.par_lt h1 h).1⟩]
theorem ZUr(P:List Int):∀s,dep P s<=s:=by
 intro s
 induction s using Nat.strongRecOn with
 |_ s ih =>
  rw[dep]
  split
  .rename_i h;have:=ih _ h.2;omega
  .omega
theorem Z7e(P:List Int)(s:Nat):s∈ups P s:=by rw[ups];split<;>simp
theorem TreeP.ups_mem{P:List Int}(T:TreeP P):∀l,l<P.length->∀s,s∈ups P l->s<=l/\∀x,x∈ups P s->x∈ups P l:=by
 intro l
 induction l using Nat.strongRecOn with
 |_ l ih =>
  intro hl s hs
  by_cases h0:l=0
  .subst h0;rw[Zzl]at hs;simp at hs;subst hs;exact⟨yV _,fun x hx=>hx⟩
  .have hp:=T.par_lt (i:=l) (by omega) hl
   rw[T.ups_succ (by omega) hl]at hs ⊢
   rcases yX hs with rfl|hs
   .exact⟨yV _,fun x hx=>by rwa [T.ups_succ (by omega) hl]at hx⟩
   .obtain⟨q1,q2⟩:=ih _ hp.1 (by omega) s hs
    exact⟨by omega,fun x hx=>yH _ (q2 x hx)⟩
theorem TreeP.kid_of{P:List Int}(T:TreeP P):∀l,l<P.length->∀s,s∈ups P l->s≠l->∃c,c∈kids P (s:Int)/\c∈ups P l:=by
 intro l
 induction l using Nat.strongRecOn with
 |_ l ih =>
  intro hl s hs hne
  by_cases h0:l=0
  .subst h0;rw[Zzl]at hs;simp at hs;exact absurd hs hne
  .have hp:=T.par_lt (i:=l) (by omega) hl
   rw[T.ups_succ (by omega) hl]at hs ⊢
   rcases yX hs with rfl|hs
   .exact absurd rfl hne
   .by_cases he:s=prt P l
    .subst he
     exact⟨l,ZDp.2 ⟨by omega,hl,hp.2⟩,yJ ..⟩
    .obtain⟨c,q1,q2⟩:=ih _ hp.1 (by omega) s hs he
     exact⟨c,q1,yH _ q2⟩
theorem TreeP.kid_par{P:List Int}(T:TreeP P){s c:Nat}(h:c∈kids P (s:Int)):1<=c/\c<P.length/\prt P c=s/\s<c:=by
 obtain⟨h1,h2,h3⟩:=ZDp.1 h
 have hp:=T.par_lt h1 h2
 rw[hp.2]at h3
 have:prt P c=s:=by have:=Option.some.inj h3;omega
 exact⟨h1,h2,this,by omega⟩
structure LeafP(P:List Int)(s l:Nat):Prop where
 lt:l<P.length
 leaf:kids P (l:Int)=[]
 up:s∈ups P l
theorem TreeP.some_leaf{P:List Int}(T:TreeP P):∀(n s:Nat),P.length-s=n->s<P.length->∃l,LeafP P s l:=by
 intro n
 induction n using Nat.strongRecOn with
 |_ n ih =>
  intro s hn hs
  cases hk:kids P (s:Int)with
  |nil=>exact⟨s,hs,hk,Z7e P s⟩
  |cons c ks =>
   have hc:c∈kids P (s:Int):=by rw[hk];exact yJ ..
   obtain⟨q1,q2,q3,q4⟩:=T.kid_par hc
   obtain⟨l,hl⟩:=ih (P.length-c) (by omega) c rfl q2
   refine⟨l,hl.lt,hl.leaf,(T.ups_mem l hl.lt c hl.up).2 s ?_⟩
   rw[T.ups_succ q1 q2,q3]
   exact yH _ (Z7e P s)
theorem TreeP.leaf_kid{P:List Int}(T:TreeP P){s c l:Nat}(hc:c∈kids P (s:Int))(h:LeafP P c l):LeafP P s l:=by
 obtain⟨q1,q2,q3,q4⟩:=T.kid_par hc
 refine⟨h.lt,h.leaf,(T.ups_mem l h.lt c h.up).2 s ?_⟩
 rw[T.ups_succ q1 q2,q3]
 exact yH _ (Z7e P s)
theorem TreeP.leaf_cases{P:List Int}(T:TreeP P){s l:Nat}(h:LeafP P s l):s=l\/∃c,c∈kids P (s:Int)/\LeafP P c l:=by
 by_cases e:s=l
 .exact .inl e
 .obtain⟨c,q1,q2⟩:=T.kid_of l h.lt s h.up e
  exact .inr ⟨c,q1,h.lt,h.leaf,q2⟩
theorem TreeP.zero_up{P:List Int}(T:TreeP P):∀l,l<P.length->0∈ups P l:=by
 intro l
 induction l using Nat.strongRecOn with
 |_ l ih =>
  intro hl
  by_cases h0:l=0
  .subst h0;exact Z7e P 0
  .rw[T.ups_succ (by omega) hl]
   exact yH _ (ih _ (T.par_lt (by omega) hl).1 (by have:=(T.par_lt (i:=l) (by omega) hl).1;omega))
theorem Z25(t:Topo)(s:Int)(hl:t.parents.length<=1048576):Z13 t s=some ((kids t.parents s).map fun(i:Nat)=>(i:Int)):=by
 unfold Z13
 have h:=ZCd (bd:=ZM2 t s) (fun(i:Nat) (st:List Int)=>((i:Int),st)) (n:=t.parents.length)
  (B:=fun x _ st k=>bif t.parents[x]?==some s then(appL 8 st [(x:Int)]).bind k else k st) (kk:=some) (fun i st k hi=>by
   obtain⟨e,he⟩:∃e,t.parents[i]?=some e:=⟨_,yA hi⟩
   have hlt:(i:Int)<(t.parents.length:Int):=by omega
   simp only[ZM2,hlt,decide_true,yN,Zq,he,bS,Zj2 (n:=i) (by omega)]
   rw[show(some e==some s)=(e==s) from rfl])
  (fun i st k hi=>by
   have hlt:¬ (i:Int)<(t.parents.length:Int):=by omega
   simp only[ZM2,hlt,decide_false,yM]) 9223372036854775807 1 [] (by omega)
 refine h.trans ?_
 rw[Z71 (p:=fun(x:Nat)=>t.parents[x]?==some s) (f:=fun(x:Nat)=>(x:Int)) (fun x _ i b k=>rfl) (by simp;omega)]
 rfl
def LevP(P:List Int)(s:Nat)(v:Int):Prop :=
 (0<=v/\v<=P.length-s/\∀l,LeafP P s l->(dep P l:Int)=dep P s+v)\/(v = -1/\∃l1 l2,LeafP P s l1/\LeafP P s l2/\dep P l1≠dep P l2)
theorem Z4e{t:Topo}(T:TreeP t.parents):∀(n s fuel:Nat),t.parents.length-s=n->s<t.parents.length->n<=fuel->∃v,Zm2 fuel t (s:Int)=some v/\LevP t.parents s v:=by
 intro n
 induction n using Nat.strongRecOn with
 |_ n ih =>
  intro s fuel hn hs hf
  obtain⟨fuel,rfl⟩:∃m,fuel=m+1:=⟨fuel-1,by omega⟩
  have hle:=T.le
  rw[Zm2,Z25 t s (by omega),bS,ZTq]
  refine ZG2 (fun i (v:Int)=>(i=0->v = -1)/\(0<i->0<=v/\v<=t.parents.length-s-1/\∀j c,j<i->(kids t.parents (s:Int))[j]?=some c->∀l,LeafP t.parents c l->(dep t.parents l:Int)=dep t.parents s+1+v)) (fun r=>∃v,r=some v/\LevP t.parents s v) ?_ ?_ ⟨fun _=>rfl,fun h=>by omega⟩
  .intro i c v k hi hI hk
   have hc:c∈kids t.parents (s:Int):=yE hi
   obtain⟨q1,q2,q3,q4⟩:=T.kid_par hc
   have hd:dep t.parents c=dep t.parents s+1:=by rw[T.dep_succ q1 q2,q3]
   obtain⟨n6,hn6,hl6⟩:=ih (t.parents.length-c) (by omega) c fuel rfl q2 (by omega)
   rw[ZL5,hn6,bS]
   rcases hl6 with⟨p1,p2,p3⟩|⟨rfl,l1,l2,h1,h2,hne⟩
   .have e1:decide (n6<0)=false:=by simpa using p1
    rw[e1,Bool.false_or]
    by_cases h0:i=0
    .subst h0
     simp only[Int.natCast_zero,Int.lt_irrefl,decide_false,Bool.false_and,yM]
     refine hk n6 ⟨fun h=>by omega,fun _=>⟨p1,by omega,fun j c' hj hc' l hl=>?_⟩⟩
     have:j=0:=by omega
     subst this
     rw[hi]at hc';cases hc'
     rw[p3 l hl,hd];omega
    .have e2:decide ((0:Int)<(i:Int))=true:=by simp;omega
     obtain⟨r1,r2,r3⟩:=hI.2 (by omega)
     rw[e2,Bool.true_and]
     by_cases hv:n6=v
     .subst hv
      simp only[bne_self_eq_false,yM]
      refine hk n6 ⟨fun h=>by omega,fun _=>⟨p1,r2,fun j c' hj hc' l hl=>?_⟩⟩
      by_cases hji:j=i
      .subst hji
       rw[hi]at hc';cases hc'
       rw[p3 l hl,hd];omega
      .exact r3 j c' (by omega) hc' l hl
     .have e3:(n6 != v)=true:=by simpa using hv
      rw[e3,yN]
      refine⟨-1,rfl,.inr ⟨rfl,?_⟩⟩
      obtain⟨c0,hc0⟩:∃c0,(kids t.parents (s:Int))[0]?=some c0:=⟨_,yA (by have:=(yB hi).1;omega)⟩
      have hm0:=yE hc0
      obtain⟨w1,w2,w3,w4⟩:=T.kid_par hm0
      obtain⟨la,hla⟩:=T.some_leaf _ c0 rfl w2
      obtain⟨lb,hlb⟩:=T.some_leaf _ c rfl q2
      refine⟨la,lb,T.leaf_kid hm0 hla,T.leaf_kid hc hlb,fun e=>hv ?_⟩
      have a1:=r3 0 c0 (by omega) hc0 la hla
      have a2:=p3 lb hlb
      omega
   .refine⟨-1,by rfl,.inr ⟨rfl,l1,l2,T.leaf_kid hc h1,T.leaf_kid hc h2,hne⟩⟩
  .intro v hI
   rw[ZK5]
   by_cases h0:(kids t.parents (s:Int)).length=0
   .rw[hI.1 h0]
    refine⟨0,rfl,.inl ⟨by omega,by omega,fun l hl=>?_⟩⟩
    rcases T.leaf_cases hl with rfl|⟨c,hc,_⟩
    .omega
    .rw[List.eq_nil_of_length_eq_zero h0]at hc;cases hc
   .obtain⟨r1,r2,r3⟩:=hI.2 (by omega)
    rw[ZV1 (by omega)]
    refine⟨v+1,rfl,.inl ⟨by omega,by omega,fun l hl=>?_⟩⟩
    rcases T.leaf_cases hl with rfl|⟨c,hc,hlc⟩
    .have:=hl.leaf
     rw[this]at h0;simp at h0
    .obtain⟨j,hj⟩:=List.getElem?_of_mem hc
     rw[r3 j c (yB hj).1 hj l hlc];omega
theorem Zdb{t:Topo}(T:TreeP t.parents){s:Nat}(hs:s<t.parents.length):∃v,Zm1 t (s:Int)=some v/\LevP t.parents s v :=
 Z4e T _ s _ rfl hs (by have:=T.le;omega)
structure TopoP(t:Topo):Prop where
 tree:TreeP t.parents
 nodes:t.nodes.length<=24
 node:∀x∈t.nodes,0<=x.leaf/\x.leaf<t.parents.length/\kids t.parents x.leaf=[]/\Z2 x.cap=true
 even:∀l1 l2,l1<t.parents.length->l2<t.parents.length->kids t.parents (l1:Int)=[]->kids t.parents (l2:Int)=[]->dep t.parents l1=dep t.parents l2
theorem Za8(t:Topo):∃b,Zc2 t=some b/\(b=true↔TopoP t):=by
 unfold Zc2
 by_cases h1:t.parents.length<1
 .exact⟨false,by simp[show((t.parents.length:Int)<1) by omega],Zx2 fun h=>by have:=h.tree.pos;omega⟩
 by_cases h2:24<t.parents.length
 .exact⟨false,by simp[show((24:Int)<t.parents.length) by omega],Zx2 fun h=>by have:=h.tree.le;omega⟩
 by_cases h3:24<t.nodes.length
 .exact⟨false,by simp[show((24:Int)<t.nodes.length) by omega],Zx2 fun h=>by have:=h.nodes;omega⟩
 obtain⟨p0,hp0⟩:∃p0,t.parents[0]?=some p0:=⟨_,yA (by omega)⟩
 have e1:decide ((t.parents.length:Int)<1)=false:=by simp;omega
 have e2:decide ((24:Int)<(t.parents.length:Int))=false:=by simp;omega
 have e3:decide ((24:Int)<(t.nodes.length:Int))=false:=by simp;omega
 rw[e1,e2,e3]
 simp only[Bool.or_self,yM,Bool.false_or,show idx t.parents 0=some p0 from by rw[← hp0];exact Zq (i:=0),bS]
 by_cases h4:p0=0
 .subst h4
  simp only[bne_self_eq_false,yM]
  have h:=ZCd (bd:=Z33 t) (fun(i:Nat) (_:Unit)=>(i:Int)) (n:=t.parents.length)
   (B:=fun x _ _ k=>bif (match t.parents[x]? with|some e=>decide (e<0)||decide ((x:Int)<=e)|none=>true)then some false else k ())
   (kk:=fun _=>rgl (Z23 t) (Z35 t) t.nodes 0 ()) (fun i st k hi=>by
    obtain⟨e,he⟩:∃e,t.parents[i]?=some e:=⟨_,yA hi⟩
    have hlt:(i:Int)<(t.parents.length:Int):=by omega
    simp only[Z33,hlt,decide_true,yN,Zq,he,bS,Zj2 (n:=i) (by omega)])
   (fun i st k hi=>by
    have hlt:¬ (i:Int)<(t.parents.length:Int):=by omega
    simp only[Z33,hlt,decide_false,yM]) 9223372036854775807 1 () (by omega)
  rw[show(1:Int)=((1:Nat):Int) from rfl,h,ZU2 (p:=fun(x:Nat)=>match t.parents[x]? with|some e=>decide (e<0)||decide ((x:Int)<=e)|none=>true) (fun x _ i k=>rfl)]
  cases hany:(List.range' 1 (t.parents.length-1)).any (fun(x:Nat)=>match t.parents[x]? with|some e=>decide (e<0)||decide ((x:Int)<=e)|none=>true)with
  |true =>
   refine⟨false,rfl,Zx2 fun hT=>?_⟩
   obtain⟨x,hx,hq⟩:=List.any_eq_true.1 hany
   obtain⟨j,hj,rfl⟩:=List.mem_range'.1 hx
   obtain⟨e,he⟩:∃e,t.parents[1+1*j]?=some e:=⟨_,yA (by omega)⟩
   have:=hT.tree.par _ (by omega) e he
   rw[he]at hq
   simp at hq
   omega
  |false =>
   have T:TreeP t.parents:=⟨by omega,by omega,hp0,fun i hi p hp=>by
    have hlt:i<t.parents.length:=(yB hp).1
    have:=List.any_eq_false.1 hany i (List.mem_range'.2 ⟨i-1,by omega,by omega⟩)
    rw[hp]at this
    simp at this
    omega⟩
   rw[yM]
   have hb:∀x∈t.nodes,∀i k,Z23 t x i () k=bif (!(decide (0<=x.leaf)&&decide (x.leaf<t.parents.length)&&(kids t.parents x.leaf).isEmpty&&Z2 x.cap))then some false else k ():=by
    intro x _ i k
    unfold Z23
    by_cases q1:x.leaf<0
    .simp[q1,show ¬ 0<=x.leaf by omega]
    .by_cases q2:(t.parents.length:Int)<=x.leaf
     .simp[q1,q2,show ¬ x.leaf<t.parents.length by omega]
     .rw[show decide (x.leaf<0)=false by simpa using q1,show decide ((t.parents.length:Int)<=x.leaf)=false by simpa using q2]
      simp only[Bool.or_self,yM,Bool.false_or,Z25 t x.leaf (by omega),bS,List.length_map]
      rw[show decide (0<=x.leaf)=true by simpa using q1,show decide (x.leaf<(t.parents.length:Int))=true by simpa using q2]
      cases hk:kids t.parents x.leaf with
      |nil=>simp
      |cons a l=>simp
   rw[ZU2 hb]
   cases hany2:t.nodes.any (fun x=>!(decide (0<=x.leaf)&&decide (x.leaf<t.parents.length)&&(kids t.parents x.leaf).isEmpty&&Z2 x.cap))with
   |true =>
    refine⟨false,rfl,Zx2 fun hT=>?_⟩
    obtain⟨x,hx,hq⟩:=List.any_eq_true.1 hany2
    obtain⟨a1,a2,a3,a4⟩:=hT.node x hx
    simp[a1,a2,a3,a4]at hq
   |false =>
    obtain⟨v,hv,hl⟩:=Zdb T (s:=0) (by omega)
    rw[yM,Z35,show(0:Int)=((0:Nat):Int) from rfl,hv,bS]
    have mem:∀l,l<t.parents.length->kids t.parents (l:Int)=[]->LeafP t.parents 0 l:=fun l h1 h2=>⟨h1,h2,T.zero_up l h1⟩
    refine⟨_,rfl,?_⟩
    rw[decide_eq_true_iff]
    constructor
    .intro h0
     refine⟨T,by omega,fun x hx=>?_,fun l1 l2 a1 a2 a3 a4=>?_⟩
     .have:=List.any_eq_false.1 hany2 x hx
      simpa[and_assoc]using this
     .rcases hl with⟨_,_,hl⟩|⟨rfl,_⟩
      .have:=hl l1 (mem l1 a1 a3)
       have:=hl l2 (mem l2 a2 a4)
       omega
      .simp at h0
    .intro hT
     rcases hl with⟨h0,_⟩|⟨rfl,l1,l2,a1,a2,hne⟩
     .exact h0
     .exact absurd (hT.even l1 l2 a1.lt a2.lt a1.leaf a2.leaf) hne
 .refine⟨false,by rw[show(p0 != 0)=true by simpa using h4];rfl,Zx2 fun h=>h4 ?_⟩
  have:=h.tree.root
  rw[hp0]at this;exact Option.some.inj this
theorem Zkd(P:List Int)(s:Int)(hl:P.length<=1048576):Z16 P s=some (kids P s).isEmpty:=by
 unfold Z16
 have h:=ZCd (bd:=Zh3 P s) (fun(i:Nat) (_:Unit)=>(i:Int)) (n:=P.length)
  (B:=fun x _ _ k=>bif P[x]?==some s then some false else k ()) (kk:=fun _=>some true) (fun i st k hi=>by
   obtain⟨e,he⟩:∃e,P[i]?=some e:=⟨_,yA hi⟩
   have hlt:(i:Int)<(P.length:Int):=by omega
   simp only[Zh3,hlt,decide_true,yN,Zq,he,bS,Zj2 (n:=i) (by omega)]
   rw[show(some e==some s)=(e==s) from rfl])
  (fun i st k hi=>by
   have hlt:¬ (i:Int)<(P.length:Int):=by omega
   simp only[Zh3,hlt,decide_false,yM]) 9223372036854775807 1 () (by omega)
 refine h.trans ?_
 rw[ZU2 (p:=fun(x:Nat)=>P[x]?==some s) (fun x _ i k=>rfl)]
 unfold kids
 generalize List.range' 1 (P.length-1)=l
 induction l with
 |nil=>rfl
 |cons x l ih =>
  rw[List.any_cons,List.filter_cons]
  cases h:(P[x]?==some s)with
  |true=>simp
  |false=>simpa using ih
theorem ZHa{P:List Int}(T:TreeP P){s:Nat}(hs:s<P.length):Z36 P (s:Int)=some (dep P s:Int):=by
 unfold Z36
 refine ZDd (fun _ r=>r=some (dep P s:Int)) (fun b=>b.1.toNat) (fun b=>∃m:Nat,b.1=(m:Int)/\m<P.length/\b.2+(dep P m:Int)=(dep P s:Int)/\0<=b.2) ?_ 9223372036854775807 _ ⟨s,rfl,hs,by simp,by simp⟩ (by have:=T.le;simp only;omega)
 rintro⟨x,n⟩ k ⟨m,hm,h1,h2,h3⟩ hk
 simp only at hm h2 hk h3
 subst hm
 have hle:=T.le
 have hdl:=ZUr P s
 unfold ZB9
 by_cases h0:0<m
 .have hp:=T.par_lt (i:=m) (by omega) h1
  have hlt:(0:Int)<(m:Int):=by omega
  simp only[hlt,decide_true,yN,Zq,hp.2,bS]
  have hd:=T.dep_succ (i:=m) (by omega) h1
  rw[ZV1 (by omega)]
  refine hk _ ⟨_,rfl,by omega,by simp only;omega,by simp only;omega⟩ (by simp only;omega)
 .have:m=0:=by omega
  subst this
  rw[ZMs]at h2
  simp only[Int.natCast_zero,Int.lt_irrefl,decide_false,yM]
  congr 1
  omega
theorem Zbj(t:Topo):∃b,Zk3 t=some b/\(b=true↔TopoP t):=by
 unfold Zk3
 cases hw:Z0 (t.parents.length:Int) 1 24 with
 |false =>
  refine⟨false,by simp,Zx2 fun h=>?_⟩
  have:=h.tree.pos;have:=h.tree.le
  simp[Z0]at hw
  omega
 |true =>
 have hw':1<=t.parents.length/\t.parents.length<=24:=by simp[Z0]at hw;omega
 obtain⟨p0,hp0⟩:∃p0,t.parents[0]?=some p0:=⟨_,yA (by omega)⟩
 simp only[yL,yM,Bool.false_or,show idx t.parents 0=some p0 from by rw[← hp0];exact Zq (i:=0),bS]
 by_cases h4:p0=0
 rotate_left
 .refine⟨false,by rw[show(p0 != 0)=true by simpa using h4];rfl,Zx2 fun h=>h4 ?_⟩
  have:=h.tree.root
  rw[hp0]at this;exact Option.some.inj this
 subst h4
 by_cases h3:24<t.nodes.length
 .exact⟨false,by simp[show((24:Int)<t.nodes.length) by omega],Zx2 fun h=>by have:=h.nodes;omega⟩
 have e3:decide ((24:Int)<(t.nodes.length:Int))=false:=by simp;omega
 rw[e3]
 simp only[bne_self_eq_false,Bool.or_self,yM]
 have h:=ZCd (bd:=Zj3 t) (fun(i:Nat) (_:Unit)=>(i:Int)) (n:=t.parents.length)
  (B:=fun x _ _ k=>bif (match t.parents[x]? with|some e=>!(Z0 e 0 (w64 ((x:Int)-1)))|none=>true)then some false else k ())
  (kk:=fun _=>rgl (Zq5 t) (Zo5 t) t.parents 0 (-1)) (fun i st k hi=>by
   obtain⟨e,he⟩:∃e,t.parents[i]?=some e:=⟨_,yA hi⟩
   have hlt:(i:Int)<(t.parents.length:Int):=by omega
   simp only[Zj3,hlt,decide_true,yN,Zq,he,bS,Zj2 (n:=i) (by omega)])
  (fun i st k hi=>by
   have hlt:¬ (i:Int)<(t.parents.length:Int):=by omega
   simp only[Zj3,hlt,decide_false,yM]) 9223372036854775807 1 () (by omega)
 rw[show(1:Int)=((1:Nat):Int) from rfl,h,ZU2 (p:=fun(x:Nat)=>match t.parents[x]? with|some e=>!(Z0 e 0 (w64 ((x:Int)-1)))|none=>true) (fun x _ i k=>rfl)]
 cases hany:(List.range' 1 (t.parents.length-1)).any (fun(x:Nat)=>match t.parents[x]? with|some e=>!(Z0 e 0 (w64 ((x:Int)-1)))|none=>true)with
 |true =>
  refine⟨false,rfl,Zx2 fun hT=>?_⟩
  obtain⟨x,hx,hq⟩:=List.any_eq_true.1 hany
  obtain⟨j,hj,rfl⟩:=List.mem_range'.1 hx
  obtain⟨e,he⟩:∃e,t.parents[1+1*j]?=some e:=⟨_,yA (by omega)⟩
  have:=hT.tree.par _ (by omega) e he
  rw[he]at hq
  simp only at hq
  rw[ZV1 (by omega)]at hq
  simp[Z0]at hq
  omega
 |false =>
  have T:TreeP t.parents:=⟨by omega,by omega,hp0,fun i hi p hp=>by
   have hlt:i<t.parents.length:=(yB hp).1
   have:=List.any_eq_false.1 hany i (List.mem_range'.2 ⟨i-1,by omega,by omega⟩)
   rw[hp]at this
   simp only at this
   rw[ZV1 (by omega)]at this
   simp[Z0]at this
   omega⟩
  rw[yM]
  refine ZG2 (fun i (v:Int)=>(v = -1/\∀l,l<i->kids t.parents (l:Int)≠[])\/(0<=v/\(∃l,l<i/\kids t.parents (l:Int)=[])/\∀l,l<i->kids t.parents (l:Int)=[]->(dep t.parents l:Int)=v))
   (fun r=>∃b,r=some b/\(b=true↔TopoP t)) ?_ ?_ (.inl ⟨rfl,fun l hl=>by omega⟩)
  .intro i x v k hi hI hk
   have hil:i<t.parents.length:=(yB hi).1
   rw[Zq5,Zkd _ _ (by omega),bS]
   cases hkd:kids t.parents (i:Int)with
   |cons a l =>
    simp only[List.isEmpty_cons,Bool.not_false,yN]
    refine hk v ?_
    rcases hI with⟨q1,q2⟩|⟨q1,⟨l0,q2,q3⟩,q4⟩
    .refine .inl ⟨q1,fun l hl=>?_⟩
     by_cases e:l=i
     .subst e;rw[hkd];simp
     .exact q2 l (by omega)
    .refine .inr ⟨q1,⟨l0,by omega,q3⟩,fun l hl hl2=>?_⟩
     by_cases e:l=i
     .subst e;rw[hkd]at hl2;cases hl2
     .exact q4 l (by omega) hl2
   |nil =>
    simp only[List.isEmpty_nil,yL,yM,ZHa T hil,bS]
    have hnew:∀v',(∀l,l<i->kids t.parents (l:Int)=[]->(dep t.parents l:Int)=dep t.parents i)->v'=(dep t.parents i:Int)->(v' = -1/\∀l,l<i+1->kids t.parents (l:Int)≠[])\/(0<=v'/\(∃l,l<i+1/\kids t.parents (l:Int)=[])/\∀l,l<i+1->kids t.parents (l:Int)=[]->(dep t.parents l:Int)=v'):=by
     intro v' hq e
     subst e
     refine .inr ⟨by omega,⟨i,by omega,hkd⟩,fun l hl hl2=>?_⟩
     by_cases e:l=i
     .subst e;rfl
     .exact hq l (by omega) hl2
    rcases hI with⟨rfl,q2⟩|⟨q1,⟨l0,q2,q3⟩,q4⟩
    .simp only[show decide ((0:Int)<=-1)=false from rfl,Bool.false_and,yM]
     exact hk _ (hnew _ (fun l hl hl2=>absurd hl2 (q2 l hl)) rfl)
    .by_cases he:(dep t.parents i:Int)=v
     .rw[he]
      simp only[bne_self_eq_false,Bool.and_false,yM]
      exact hk _ (hnew _ (fun l hl hl2=>by rw[q4 l hl hl2,he]) he.symm)
     .have e1:((dep t.parents i:Int)!=v)=true:=by simpa using he
      rw[e1,show decide (0<=v)=true by simpa using q1]
      refine⟨false,rfl,Zx2 fun hT=>he ?_⟩
      rw[← q4 l0 q2 q3]
      exact_mod_cast hT.even i l0 hil (by omega) hkd q3
  .intro v hI
   rw[Zo5]
   have hb:∀x∈t.nodes,∀i k,Zp5 t x i () k=bif (!(decide (0<=x.leaf)&&decide (x.leaf<t.parents.length)&&(kids t.parents x.leaf).isEmpty&&Z2 x.cap))then some false else k ():=by
    intro x _ i k
    unfold Zp5
    rw[ZV1 (by omega)]
    by_cases q1:x.leaf<0
    .simp[Z0,show ¬ 0<=x.leaf by omega]
    .by_cases q2:(t.parents.length:Int)<=x.leaf
     .simp[Z0,show ¬ x.leaf<t.parents.length by omega,show ¬ x.leaf<=(t.parents.length:Int)-1 by omega]
     .have e:Z0 x.leaf 0 ((t.parents.length:Int)-1)=true:=by simp[Z0];omega
      rw[e]
      simp only[yL,yM,Bool.false_or,Zkd t.parents x.leaf (by omega),bS,ZC3]
      rw[show decide (0<=x.leaf)=true by simpa using q1,show decide (x.leaf<(t.parents.length:Int))=true by simpa using q2]
      cases(kids t.parents x.leaf).isEmpty<;>cases Z2 x.cap<;>rfl
   rw[ZU2 hb]
   cases hany2:t.nodes.any (fun x=>!(decide (0<=x.leaf)&&decide (x.leaf<t.parents.length)&&(kids t.parents x.leaf).isEmpty&&Z2 x.cap))with
   |true =>
    refine⟨false,rfl,Zx2 fun hT=>?_⟩
    obtain⟨x,hx,hq⟩:=List.any_eq_true.1 hany2
    obtain⟨a1,a2,a3,a4⟩:=hT.node x hx
    simp[a1,a2,a3,a4]at hq
   |false =>
    refine⟨true,rfl,⟨fun _=>⟨T,by omega,fun x hx=>?_,fun l1 l2 a1 a2 a3 a4=>?_⟩,fun _=>rfl⟩⟩
    .have:=List.any_eq_false.1 hany2 x hx
     simpa[and_assoc]using this
    .rcases hI with⟨_,q2⟩|⟨q1,_,q4⟩
     .exact absurd a3 (q2 l1 a1)
     .have:=q4 l1 a1 a3
      have:=q4 l2 a2 a4
      omega
theorem ZF9(t:Topo):Zk3 t=Zc2 t:=by
 obtain⟨a,h1,h2⟩:=Zbj t
 obtain⟨b,h3,h4⟩:=Za8 t
 rw[h1,h3]
 congr 1
 exact Bool.eq_iff_iff.2 (h2.trans h4.symm)
noncomputable def topoOk(t:Topo):Bool:=(Zc2 t).getD false
theorem ZV3(t:Topo):Zc2 t=some (topoOk t):=by
 obtain⟨b,h3,_⟩:=Za8 t
 rw[topoOk,h3];rfl
theorem ZV7{t:Topo}:topoOk t=true↔TopoP t:=by
 obtain⟨b,h3,h4⟩:=Za8 t
 rw[topoOk,h3];exact h4
theorem TopoP.last{t:Topo}(h:TopoP t):kids t.parents ((t.parents.length-1:Nat):Int)=[]:=by
 cases hk:kids t.parents ((t.parents.length-1:Nat):Int)with
 |nil=>rfl
 |cons c l =>
  obtain⟨q1,q2,q3,q4⟩:=h.tree.kid_par (s:=t.parents.length-1) (c:=c) (by rw[hk];exact yJ ..)
  omega
def lev(t:Topo)(s:Nat):Int:=(dep t.parents (t.parents.length-1):Int)-dep t.parents s
theorem Z42{t:Topo}(h:TopoP t){s:Nat}(hs:s<t.parents.length):Zm1 t (s:Int)=some (lev t s):=by
 obtain⟨v,h1,h2⟩:=Zdb h.tree hs
 rw[h1]
 have hp:=h.tree.pos
 obtain⟨l,hl⟩:=h.tree.some_leaf _ s rfl hs
 rcases h2 with⟨_,_,h2⟩|⟨_,l1,l2,a1,a2,hne⟩
 .have e1:=h2 l hl
  have e2:=h.even l (t.parents.length-1) hl.lt (by omega) hl.leaf h.last
  unfold lev
  congr 1
  omega
 .exact absurd (h.even l1 l2 a1.lt a2.lt a1.leaf a2.leaf) hne
theorem Zk5{t:Topo}(h:TopoP t){s:Nat}(hs:s<t.parents.length):ZO4 t (s:Int)=some (lev t s):=by
 have hp:=h.tree.pos
 have hle:=h.tree.le
 unfold ZO4 ZFa
 rw[ZV1 (by omega),show((t.parents.length:Int)-1)=((t.parents.length-1:Nat):Int) by omega,ZHa h.tree (by omega),bS,bS,ZHa h.tree hs,bS]
 have:=ZUr t.parents (t.parents.length-1)
 have:=ZUr t.parents s
 rw[ZV1 (by omega)];rfl
theorem ZHl{t:Topo}(T:TreeP t.parents){s:Nat}(hs:s<t.parents.length):ZH4 t (s:Int)=some ((ups t.parents s).map fun(i:Nat)=>(i:Int)):=by
 unfold ZH4
 refine ZDd (fun _ r=>r=some ((ups t.parents s).map fun(i:Nat)=>(i:Int))) (fun b=>b.1.toNat) (fun b=>∃m:Nat,b.1=(m:Int)/\m<t.parents.length/\b.2.length+m<=1000/\∃l,b.2=l++[(m:Int)]/\(ups t.parents s).map (fun(i:Nat)=>(i:Int))=l++(ups t.parents m).map fun(i:Nat)=>(i:Int)) ?_ 9223372036854775807 _ ⟨s,rfl,hs,by have:=T.le;simp;omega,[],by simp⟩ (by have:=T.le;simp only;omega)
 rintro⟨x,n⟩ k ⟨m,hm,h1,h2,l,h3,h4⟩ hk
 simp only at hm h2 hk h3
 subst hm
 have hle:=T.le
 unfold Zq9
 by_cases h0:0<m
 .have hp:=T.par_lt (i:=m) (by omega) h1
  have hlt:(0:Int)<(m:Int):=by omega
  simp only[hlt,decide_true,yN,Zq,hp.2,bS]
  rw[Z4 (by simp;omega),bS]
  refine hk _ ⟨_,rfl,by omega,by simp;omega,n,rfl,?_⟩ (by simp only;omega)
  rw[h4,h3,T.ups_succ (by omega) h1]
  simp
 .have:m=0:=by omega
  subst this
  simp only[Int.natCast_zero,Int.lt_irrefl,decide_false,yM]
  rw[h4,h3,Zzl];rfl
theorem ZAe(t:Topo)(s:Int):Zga t s=ZH4 t s:=rfl
theorem Za2(l:List Int)(n:Int):Zb2 l n=some (l.contains n):=by
 unfold Zb2
 rw[ZU2 (p:=fun x=>x==n) (fun x _ i k=>rfl)]
 unfold Z88
 rw[show l.contains n=l.any (fun x=>x==n) from by rw[List.contains_eq_any_beq];congr 1;funext x;exact Bool.beq_comm]
 cases l.any fun x=>x==n<;>rfl
theorem ZPh(l:List Int)(n:Int):∃r:Int,ZD1 l n=some r/\decide (0<=r)=l.contains n:=by
 unfold ZD1
 refine ZG2 (fun i (_:Unit)=>∀j x,j<i->l[j]?=some x->x≠n) (fun r=>∃m:Int,r=some m/\decide (0<=m)=l.contains n) ?_ ?_ (fun j x h=>by omega)
 .intro i x b k hi hI hk
  unfold Zp2
  by_cases h:n=x
  .subst h
   simp only[beq_self_eq_true,yN]
   refine⟨i,rfl,?_⟩
   have:l.contains n=true:=List.contains_iff_mem.2 (yE hi)
   rw[this];simp
  .rw[show(n==x)=false by simpa using h,yM]
   refine hk () fun j y hj hy=>?_
   by_cases e:j=i
   .subst e;rw[hi]at hy;cases hy;exact fun e=>h e.symm
   .exact hI j y (by omega) hy
 .intro b hI
  refine⟨-1,rfl,?_⟩
  have:l.contains n=false:=by
   rw[Bool.eq_false_iff]
   intro h
   obtain⟨j,hj⟩:=List.getElem?_of_mem (List.contains_iff_mem.1 h)
   exact hI j n (yB hj).1 hj rfl
  rw[this];rfl
theorem ZX2(l:List Int)(n:Int):Zu l n=some (l.contains n):=by
 obtain⟨r,h1,h2⟩:=ZPh l n
 unfold Zu
 rw[h1,bS,h2]
noncomputable def ZJ(t:Topo)(l:List Int):Bool:=l.all (fun n=>decide (0<=n)&&decide (n<t.nodes.length))&&topoOk t
theorem Zv{t:Topo}{l:List Int}:ZJ t l=true↔TopoP t/\∀n∈l,0<=n/\n<t.nodes.length:=by
 simp[ZJ,ZV7,and_comm]
theorem Ze4(t:Topo)(l:List Int):Z32 t l=some (ZJ t l):=by
 unfold Z32 ZJ
 rw[ZU2 (r:=some false) (p:=fun(x:Int)=>!(decide (0<=x)&&decide (x<t.nodes.length))) (fun x _ i k=>by
  unfold Zw3
  by_cases h1:x<0
  .simp[h1,show ¬ 0<=x by omega]
  .by_cases h2:(t.nodes.length:Int)<=x
   .simp[h1,h2,show 0<=x by omega,show ¬ x<t.nodes.length by omega]
   .simp[h1,h2,show 0<=x by omega,show x<t.nodes.length by omega])]
 unfold Zv3
 rw[ZV3,← List.not_all_eq_any_not]
 cases l.all fun n=>decide (0<=n)&&decide (n<t.nodes.length)<;>rfl
theorem Zrb(t:Topo)(l:List Int)(hl:t.nodes.length<=1048576):ZB3 t l=some (ZJ t l):=by
 rw[← Ze4]
 unfold ZB3 Z32
 refine ZWb (fun i x b k _=>?_) fun b=>?_
 .unfold Z86 Zw3
  rw[ZV1 (by omega)]
  by_cases h1:x<0
  .simp[Z0,h1,show ¬ 0<=x by omega]
  .by_cases h2:(t.nodes.length:Int)<=x
   .simp[Z0,h1,h2,show 0<=x by omega,show ¬ x<=(t.nodes.length:Int)-1 by omega]
   .simp[Z0,h1,h2,show 0<=x by omega,show x<=(t.nodes.length:Int)-1 by omega]
 .unfold Z76 Zv3
  rw[ZF9]
def hasUp(t:Topo)(n:Int)(s:Nat):Bool:=match idx t.nodes n with
 |some e=>((ups t.parents e.leaf.toNat).map fun(i:Nat)=>(i:Int)).contains (s:Int)
 |none=>false
theorem ZL6{t:Topo}{l:List Int}(h:ZJ t l=true){n:Int}(hn:n∈l):∃(e:Node) (m:Nat),idx t.nodes n=some e/\e.leaf=m/\m<t.parents.length:=by
 obtain⟨h1,h2⟩:=Zv.1 h
 obtain⟨e,q1,q2⟩:=ZAh (l:=t.nodes) (i:=n) (h2 n hn).1 (h2 n hn).2
 obtain⟨a1,a2,_,_⟩:=h1.node e (yE q2)
 exact⟨e,e.leaf.toNat,q1,by omega,by omega⟩
theorem Zfn{t:Topo}{l:List Int}(h:ZJ t l=true){n:Int}(hn:n∈l)(s:Nat){γ:Type}(f:Bool->Option γ) :
  ((idx t.nodes n).bind fun e=>(ZH4 t e.leaf).bind fun y=>(Zb2 y (s:Int)).bind f)=f (hasUp t n s):=by
 obtain⟨e,m,q1,q2,q3⟩:=ZL6 h hn
 have T:=(Zv.1 h).1.tree
 unfold hasUp
 rw[q1,bS,q2,ZHl T q3,bS,Za2,bS]
 simp[q2]
theorem Znq{t:Topo}{l:List Int}(h:ZJ t l=true){n:Int}(hn:n∈l):hasUp t n 0=true:=by
 obtain⟨e,m,q1,q2,q3⟩:=ZL6 h hn
 have T:=(Zv.1 h).1.tree
 unfold hasUp
 rw[q1]
 simp only[List.contains_iff_mem,q2]
 exact List.mem_map.2 ⟨0,T.zero_up _ (by simpa using q3),rfl⟩
theorem Zrn(p:Int->Bool):∀(l:List Int) (v:Bool),l.foldl (fun v x=>v&&p x) v=(v&&l.all p)
 |[],v=>by simp
 |x::l,v=>by rw[List.foldl_cons,Zrn p l,List.all_cons,Bool.and_assoc]
theorem Zcs{t:Topo}{l:List Int}(h:ZJ t l=true)(s:Nat)(v5:Int)(k:Int->Option Int) :
  rgl (Z73 t s) (Zn2 t v5 s k) l 0 true=Zn2 t v5 s k (l.all fun n=>hasUp t n s) /\
  rgl (Zm3 t s) (Zv2 t v5 s k) l 0 true=Zv2 t v5 s k (l.all fun n=>hasUp t n s):=by
 constructor
 .rw[Za3 (f:=fun v x=>v&&hasUp t x s) (fun x hx i b k=>by
   unfold Z73
   rw[Zfn h hx s (fun b10=>bif (!b10)then k false else k b)]
   cases hasUp t x s<;>simp),Zrn,Bool.true_and]
 .rw[Za3 (f:=fun v x=>v&&hasUp t x s) (fun x hx i b k=>by
   unfold Zm3
   cases b with
   |false=>simp only[yM,Bool.false_and];rfl
   |true =>
    simp only[yN,Bool.true_and]
    rw[← Zfn h hx s k]
    congr 1;funext e;rw[ZAe];congr 1;funext y;rw[ZX2,Za2]),Zrn,Bool.true_and]
theorem Z2p{t:Topo}{l:List Int}(h:ZJ t l=true)(hne:l≠[]):∃s:Nat,s<t.parents.length/\Zs4 t l=some (s:Int)/\Zc6 t l=some (s:Int):=by
 have hT:=(Zv.1 h).1
 have hnl:=hT.nodes
 have hpos:=hT.tree.pos
 have e1:((l.length:Int)==0)=false:=by
  cases l with
  |nil=>exact absurd rfl hne
  |cons a l=>simp;omega
 have step:∀(i:Nat) (b:Int) (k:Int->Option Int),i<t.parents.length->(b = -1\/∃s:Nat,b=s/\s<t.parents.length) ->
   rgl (Z73 t i) (Zn2 t b i k) l 0 true=k (bif (l.all fun n=>hasUp t n i)&&(decide (b<0)||decide (lev t i<=lev t b.toNat))then(i:Int)else b) /\
   rgl (Zm3 t i) (Zv2 t b i k) l 0 true=k (bif (l.all fun n=>hasUp t n i)&&(decide (b<0)||decide (lev t i<=lev t b.toNat))then(i:Int)else b):=by
  intro i b k hi hb
  obtain⟨q1,q2⟩:=Zcs h i b k
  rw[q1,q2]
  unfold Zn2 Zv2
  cases hall:l.all fun n=>hasUp t n i with
  |false=>exact⟨rfl,rfl⟩
  |true =>
   rcases hb with rfl|⟨s,rfl,hs⟩
   .exact⟨rfl,rfl⟩
   .have hn:decide ((s:Int)<0)=false:=by simp
    simp only[hn,yN,yM,Bool.true_and,Bool.false_or,Z42 hT hi,Z42 hT hs,Zk5 hT hi,Zk5 hT hs,bS,yZ]
    cases decide (lev t i<=lev t s)<;>exact⟨rfl,rfl⟩
 have fin:∀(bd:Int->Nat->Int->(Int->Option Int)->Option Int) (kk:Int->Option Int),kk=some->(∀(x:Int) (i:Nat) (b:Int) (k:Int->Option Int),i<t.parents.length->(b = -1\/∃s:Nat,b=s/\s<t.parents.length)->bd x i b k=k (bif (l.all fun n=>hasUp t n i)&&(decide (b<0)||decide (lev t i<=lev t b.toNat))then(i:Int)else b)) ->
   ∃s:Nat,s<t.parents.length/\rgl bd kk t.parents 0 (-1)=some (s:Int):=by
  intro bd kk hkk hbd
  refine ZG2 (fun i (b:Int)=>(i=0/\b = -1)\/(0<i/\∃s:Nat,b=s/\s<t.parents.length)) (fun r=>∃s:Nat,s<t.parents.length/\r=some (s:Int)) ?_ ?_ (.inl ⟨rfl,rfl⟩)
  .intro i x b k hi hI hk
   have hil:=(yB hi).1
   rw[hbd x i b k hil (by rcases hI with h|h;exact .inl h.2;exact .inr h.2)]
   refine hk _ (.inr ⟨by omega,?_⟩)
   rcases hI with⟨rfl,rfl⟩|⟨_,s,rfl,hs⟩
   .rw[show(l.all fun n=>hasUp t n 0)=true from List.all_eq_true.2 fun n hn=>Znq h hn]
    exact⟨0,rfl,hpos⟩
   .cases((l.all fun n=>hasUp t n i)&&(decide ((s:Int)<0)||decide (lev t i<=lev t (s:Int).toNat)))with
    |true=>exact⟨i,rfl,hil⟩
    |false=>exact⟨s,rfl,hs⟩
  .intro b hI
   rcases hI with⟨h0,_⟩|⟨_,s,rfl,hs⟩
   .omega
   .exact⟨s,hs,by rw[hkk]⟩
 have eq:rgl (Zt5 t l) ZI8 t.parents 0 (-1)=rgl (Zo2 t l) Z85 t.parents 0 (-1):=by
  refine ZYl (fun i (b c:Int)=>b=c/\(b = -1\/∃s:Nat,b=s/\s<t.parents.length)) rfl (fun i x y b c k k2 hx hy hr hk=>?_) (fun b c hr=>by rw[hr.1];rfl) ⟨rfl,.inl rfl⟩
  obtain⟨rfl,hb⟩:=hr
  have hil:=(yB hx).1
  unfold Zt5 Zo2
  rw[(step i b k hil hb).2,(step i b k2 hil hb).1]
  refine hk _ _ ⟨rfl,?_⟩
  cases((l.all fun n=>hasUp t n i)&&(decide (b<0)||decide (lev t i<=lev t b.toNat)))with
  |true=>exact .inr ⟨i,rfl,hil⟩
  |false=>exact hb
 obtain⟨s,h1,h2⟩:=fin (Zo2 t l) Z85 rfl fun x i b k hi hb=>by unfold Zo2;exact(step i b k hi hb).1
 refine⟨s,h1,?_,?_⟩
 .unfold Zs4
  rw[Ze4,h,bS,e1]
  exact h2
 .unfold Zc6
  rw[Zrb t l (by omega),h,bS,e1]
  exact eq.trans h2
def Zkk:L :=
sR [.bx 1 (.t 0),.mv 2 (cB false)]
 (.seq (sR [fA 5 1 0,lD 6 5 1 false,.ln 7 (.t 6),.bi 8 .lss (.t 7) (kI 1),mV 9 8,.g 9 false (fA 10 1 0),.g 9 false (lD 11 10 1 false),.g 9 false (.ln 12 (.t 11)),.g 9 false (.bi 13 .gtr (.t 12) (kI 200)),.pk 14 (.t 9) (cB true) (.t 13),mV 15 14,.g 15 false (fA 16 1 0),.g 15 false (lD 17 16 1 false),.g 15 false (.ia 18 (.t 17) (kI 0) 4),.g 15 false (fA 19 18 0),.g 15 false (lD 20 19 1 false),.g 15 false (.bi 21 .neq (.t 20) (kI 0)),.pk 22 (.t 15) (cB true) (.t 21)]
 (.cond (.t 22) (.seq (rE 2 (cB false))
 gR)
 .skip))
 (.seq (sR [fA 23 1 0,lD 24 23 1 false,.ln 25 (.t 24),.mv 26 (kI 0)]
 (.blk 0 (.loop (.gw (sR [bI 27 .lss 26 25]
 (.seq (.cond (.t 27) .skip
 (.exit 0))
 (.seq (.blk 1 (sR [mV 28 26,iA 29 24 26 4,lD 30 29 4 true,.al 4 [.int .i64 0,.int .i64 0,.int .i64 0,.int .i64 0],mV 3 28,.st (.t 4) (.t 30) 4]
 (.seq (.rq 38 [fA 31 4 0,lD 32 31 1 false,cQ 33 Z21 [32],.un 34 (.t 33),mV 35 34,.g 35 false (fA 36 4 1),.g 35 false (lD 37 36 3 true),.g 35 false (cQ 38 ZR [37]),.g 35 false (.un 39 (.t 38)),.pk 40 (.t 35) (cB true) (.t 39),mV 41 40,.g 41 false (mV 42 3),.g 41 false (.bi 43 .gtr (.t 42) (kI 0)),.g 41 false (mV 44 43),.g 44 true (fA 45 1 0),.g 44 true (lD 46 45 1 false),.g 44 true (mV 47 3),.g 44 true (.bi 48 .sub (.t 47) (kI 1)),.g 44 true (iA 49 46 48 4),.g 44 true (fA 50 49 0),.g 44 true (lD 51 50 1 false),.g 44 true (fA 52 4 0),.g 44 true (lD 53 52 1 false),.g 44 true (bI 54 .geq 51 53),.g 44 true (mV 55 54),.g 55 false (fA 56 1 0),.g 55 false (lD 57 56 1 false),.g 55 false (mV 58 3),.g 55 false (.bi 59 .sub (.t 58) (kI 1)),.g 55 false (iA 60 57 59 4),.g 55 false (fA 61 60 1),.g 55 false (lD 62 61 3 true),.g 55 false (fA 63 4 1),.g 55 false (lD 64 63 3 true),.g 55 false (.es 65 false [0,0,0] (.t 62) (.t 64)),.g 44 true (.pk 66 (.t 55) (cB true) (.t 65)),.g 41 false (.pk 67 (.t 44) (.t 66) (cB false)),.pk 68 (.t 41) (cB true) (.t 67)])
 (.cond (.t 68) (.seq (rE 2 (cB false))
 gR)
 .skip))))
 (.reg [.bi 69 .add (.t 26) (kI 1),mV 26 69]))))))))
 (.seq (rE 2 (cB true))
 gR)))
def Ze8(p1:List Pt)(x5:Pt)(i5:Nat)(_:Unit)(k5:Unit->Option Bool):Option Bool :=
 (bif ((!(Zo x5.t))||(!(Z2 x5.free)))then some default else(bif (decide (0<(i5:Int)))then(idx p1 (w64 ((i5:Int)-1)))else some default)).bind fun e6=>(bif ((!(Zo x5.t))||(!(Z2 x5.free)))then some default else(bif (decide (0<(i5:Int)))then(bif (decide (x5.t<=e6.t))then some default else(idx p1 (w64 ((i5:Int)-1))))else some default)).bind fun e7=>bif (((!(Zo x5.t))||(!(Z2 x5.free)))||((decide (0<(i5:Int)))&&((decide (x5.t<=e6.t))||(e7.free.a==x5.free.a&&(e7.free.b==x5.free.b&&(e7.free.c==x5.free.c&&true))))))then(some false)else(k5 ())
def ZPb(_:Unit):Option Bool :=
 some true
def Zz1(p1:List Pt):Option Bool :=
 (bif ((decide ((p1.length:Int)<1))||(decide (200<(p1.length:Int))))then some default else(idx p1 0)).bind fun e2=>bif (((decide ((p1.length:Int)<1))||(decide (200<(p1.length:Int))))||(e2.t != 0))then(some false)else(rgl (Ze8 p1) ZPb p1 0 ())
theorem Zo6{p1:List Pt}{r:Bool}(H:Zz1 p1=some r):Snd Tryz.prog ZA5 [.agg [.sl .rd 4 (p1.map ePt)]] (.bool r) []:=by
 refine wS Zkk [.t 2] ?_
 unfold Zz1 at H
 obtain⟨e2,h2,H⟩:=bB H
 refine wG [.u 7 (.ln _ _ fun _=>lm p1 ePt),.g 12 [((decide ((p1.length:Int)<1)),false)] (.ln _ _ fun _=>lm p1 ePt),.g 18 [(_,false)] (.ix _ _ _ fun q=>Z1 ePt (bF q.1 h2))] fun q3=>?_
 refine Z3 H (fun H=>?_) fun H=>?_
 .refine wP ?_
  replace H:=sI H;subst H
  exact wE [(2,.d)]
 .refine wG [.u 25 (.ln _ _ fun _=>lm p1 ePt)] fun q4=>?_
  refine wR (fun(i5:Nat) (v5:Unit)=>⟨[(1,.ptr 1 0),(24,.sl .rd 4 (p1.map ePt)),(25,.int .i64 (p1.length:Int)),(26,.int .i64 (i5:Int))],[],[(1,[.sl .rd 4 (p1.map ePt)])],[]⟩) H (fun i5 x5 v5 I m k5 hxv5 hiv5 H N27=>?_) (fun v5 I m H=>?_)
  .unfold Ze8 at H
   refine wP ?_
   refine wt (ltT hiv5) ?_
   obtain⟨e6,h6,H⟩:=bB H
   obtain⟨e7,h7,H⟩:=bB H
   refine wG [.u 29 (.ix _ _ _ fun _=>Z1 ePt (Z5 hxv5)),.c 33 (Za1 x5.t),.g 38 [((!(Zo x5.t)),false)] (.call _ _ _ _ _ (AEs.refl _) (fun _=>ZT x5.free)),.g 49 [(_,true),(_,false)] (.ix _ _ _ fun q=>Z1 ePt (bT q.1 (bF q.2.1 h6))),.g 60 [(_,false),(_,true),(_,false)] (.ix _ _ _ fun q=>Z1 ePt (bF q.1 (bT q.2.1 (bF q.2.2.1 h7))))] fun _=>?_
   refine Z3 H (fun H=>?_) fun H=>?_
   .refine wP ?_
    replace H:=sI H;subst H
    exact wE [(2,.d)]
   .refine wG [.w 69 (wi .i64 rfl hiv5 q3.1)] fun _=>?_
    exact wT (N27 () H)
  .unfold ZPb at H
   refine wP ?_
   refine wf (ltF p1.length) ?_
   refine wP ?_
   replace H:=sI H;subst H
   exact wE [(2,.d)]
def ZLi:L :=
sR [.bx 1 (.t 0),.al 2 [.nl],.mv 3 (cB false)]
 (.seq (sR [lD 4 1 3 true,cQ 5 ZR [4],.un 6 (.t 5)]
 (.cond (.t 6) (sR [.bd 7 [.nl] [],.st (.t 2) (.t 7) 1,.mv 3 (cB false)]
 gR)
 .skip))
 (sR [lD 8 1 3 true,.bd 9 [.int .i64 0,.int .i64 0,.int .i64 0,.int .i64 0] [(1,3,(.t 8))],.bs 10 4 [(.t 9)] true,.bd 11 [.nl] [(0,1,(.t 10))],.st (.t 2) (.t 11) 1,.mv 3 (cB true)]
 gR))
def Zp6(v1:Vec):Option ((List Pt)×Bool) :=
 bif (!(Z2 v1))then(some ([],false))else(some ([(Pt.mk 0 v1)],true))
theorem Zkf{v1:Vec}{r:(List Pt)×Bool}(H:Zp6 v1=some r):Snd Tryz.prog ZD6 [eVec v1] (.tup [Zg .nw r.1,.bool r.2]) []:=by
 refine wS ZLi [.c 2 1 true,.t 3] ?_
 unfold Zp6 at H
 refine wG [.c 5 (ZT v1)] fun _=>?_
 refine Z3 H (fun H=>?_) fun H=>?_
 .refine wP ?_
  replace H:=sI H;subst H
  exact wN [(2,.d),(3,.d)] [(2,[.n 4])] [] [] [] [⟨_,ZH2 ([]:List Pt)⟩]
 .refine wP ?_
  replace H:=sI H;subst H
  exact wN [(2,.d),(3,.d)] [(2,[.f])] [] [10] [] [⟨_,ZH2 [(Pt.mk 0 v1)]⟩]
def ZY(v1:Vec):(List Pt)×Bool :=
 bif (!(Z2 v1))then(([],false))else(([(Pt.mk 0 v1)],true))
theorem ZFj(v1:Vec):Zp6 v1=some (ZY v1):=by
 unfold Zp6 ZY
 first|rfl|simp only[Zl]
theorem ZRb(v1:Vec):Snd Tryz.prog ZD6 [eVec v1] (.tup [Zg .nw ((ZY v1).1),.bool ((ZY v1).2)]) []:=Zkf (ZFj v1)
def Zxm:L :=
sR [.bx 2 (.t 0),.al 4 [.int .i64 0,.int .i64 0,.int .i64 0]]
 (sR [.bd 8 [.int .i64 0,.int .i64 0,.int .i64 0] [],.al 5 [.int .i64 0,.int .i64 0,.int .i64 0],.st (.t 5) (.t 8) 3]
 (.seq (sR [fA 9 2 0,lD 10 9 1 false,.ln 11 (.t 10),.mv 12 (kI 0)]
 (.blk 0 (.loop (.gw (sR [bI 13 .lss 12 11]
 (.seq (.cond (.t 13) .skip
 (.exit 0))
 (.seq (.blk 1 (sR [iA 14 10 12 4,lD 15 14 4 true,.al 7 [.int .i64 0,.int .i64 0,.int .i64 0,.int .i64 0],.st (.t 7) (.t 15) 4]
 (sR [fA 16 7 0,lD 17 16 1 false,mV 18 1,bI 19 .leq 17 18]
 (.cond (.t 19) (.reg [fA 20 7 1,lD 21 20 3 true,.st (.t 5) (.t 21) 3])
 .skip))))
 (.reg [.bi 22 .add (.t 12) (kI 1),mV 12 22]))))))))
 (sR [lD 23 5 3 true,.st (.t 4) (.t 23) 3]
 gR)))
def Zp9(t2:Int)(x4:Pt)(_:Nat)(v4:Vec)(k4:Vec->Option Vec):Option Vec :=
 bif (decide (x4.t<=t2))then(k4 x4.free)else(k4 v4)
def Z9d(v4:Vec):Option Vec :=
 some v4
def ZW7(p1:List Pt)(t2:Int):Option Vec :=
 rgl (Zp9 t2) Z9d p1 0 (Vec.mk 0 0 0)
theorem Z1e{p1:List Pt}{t2:Int}{r:Vec}(H:ZW7 p1 t2=some r):Snd Tryz.prog Zvc [.agg [.sl .rd 4 (p1.map ePt)],.int .i64 t2] (eVec r) []:=by
 refine wS Zxm [.c 4 3 true] ?_
 unfold ZW7 at H
 refine wG [.u 11 (.ln _ _ fun _=>lm p1 ePt)] fun q3=>?_
 refine wR (fun(i4:Nat) (v4:Vec)=>⟨[(1,.int .i64 t2),(4,.ptr 4 0),(5,.ptr 5 0),(10,.sl .rd 4 (p1.map ePt)),(11,.int .i64 (p1.length:Int)),(12,.int .i64 (i4:Int))],[],[(4,(eVec (Vec.mk 0 0 0)).cells),(5,(eVec v4).cells)],[]⟩) H (fun i4 x4 v4 I m k4 hxv4 hiv4 H N19=>?_) (fun v4 I m H=>?_)
 .unfold Zp9 at H
  refine wP ?_
  refine wt (ltT hiv4) ?_
  refine wG [.u 14 (.ix _ _ _ fun _=>Z1 ePt (Z5 hxv4))] fun _=>?_
  refine Z3 H (fun H=>?_) fun H=>?_
  .refine wG [.w 22 (wi .i64 rfl hiv4 q3.1)] fun _=>?_
   exact wT (N19 _ H)
  .refine wG [.w 22 (wi .i64 rfl hiv4 q3.1)] fun _=>?_
   exact wT (N19 _ H)
 .unfold Z9d at H
  refine wP ?_
  refine wf (ltF p1.length) ?_
  refine wP ?_
  replace H:=sI H;subst H
  exact wN [(4,.d)] [(4,[])] [] [] [] []
def ZMi:L :=
sR [.bx 3 (.t 0),.al 6 [.int .i64 0,.int .i64 0,.int .i64 0],.mv 7 (cB false)]
 (.seq (sR [lD 11 3 1 true,cQ 12 ZA5 [11],.un 13 (.t 12),mV 14 13,.g 14 false (mV 15 1),.g 14 false (cQ 16 Z21 [15]),.g 14 false (.un 17 (.t 16)),.pk 18 (.t 14) (cB true) (.t 17),mV 19 18,.g 19 false (mV 20 2),.g 19 false (cQ 21 Z21 [20]),.g 19 false (.un 22 (.t 21)),.pk 23 (.t 19) (cB true) (.t 22),mV 24 23,.g 24 false (mV 25 1),.g 24 false (mV 26 2),.g 24 false (bI 27 .geq 25 26),.pk 28 (.t 24) (cB true) (.t 27)]
 (.cond (.t 28) (sR [.bd 29 [.int .i64 0,.int .i64 0,.int .i64 0] [],.st (.t 6) (.t 29) 3,.mv 7 (cB false)]
 gR)
 .skip))
 (sR [lD 30 3 1 true,mV 31 1,cQ 32 Zvc [30,31],.al 8 [.int .i64 0,.int .i64 0,.int .i64 0],.st (.t 8) (.t 32) 3]
 (.seq (sR [fA 33 3 0,lD 34 33 1 false,.ln 35 (.t 34),.mv 36 (kI 0)]
 (.blk 0 (.loop (.gw (sR [bI 37 .lss 36 35]
 (.seq (.cond (.t 37) .skip
 (.exit 0))
 (.seq (.blk 1 (sR [iA 38 34 36 4,lD 39 38 4 true,.al 10 [.int .i64 0,.int .i64 0,.int .i64 0,.int .i64 0],.st (.t 10) (.t 39) 4]
 (sR [fA 40 10 0,lD 41 40 1 false,mV 42 1,bI 43 .geq 41 42,mV 44 43,.g 44 true (fA 45 10 0),.g 44 true (lD 46 45 1 false),.g 44 true (mV 47 2),.g 44 true (bI 48 .lss 46 47),.pk 49 (.t 44) (.t 48) (cB false)]
 (.cond (.t 49) (.reg [lD 50 8 3 true,fA 51 10 1,lD 52 51 3 true,cQ 53 ZRa [50,52],.st (.t 8) (.t 53) 3])
 .skip))))
 (.reg [.bi 54 .add (.t 36) (kI 1),mV 36 54]))))))))
 (sR [lD 55 8 3 true,.st (.t 6) (.t 55) 3,.mv 7 (cB true)]
 gR))))
def Zb7(from2:Int)(to3:Int)(x7:Pt)(_:Nat)(v7:Vec)(k7:Vec->Option (Vec×Bool)):Option (Vec×Bool) :=
 bif ((decide (from2<=x7.t))&&(decide (x7.t<to3)))then(k7 (Zi v7 x7.free))else(k7 v7)
def Zhb(v7:Vec):Option (Vec×Bool) :=
 some (v7,true)
def Z63(p1:List Pt)(from2:Int)(to3:Int):Option (Vec×Bool) :=
 (Zz1 p1).bind fun b4=>bif ((((!b4)||(!(Zo from2)))||(!(Zo to3)))||(decide (to3<=from2)))then(some ((Vec.mk 0 0 0),false))else((ZW7 p1 from2).bind fun y5=>rgl (Zb7 from2 to3) Zhb p1 0 y5)
theorem Zf8{p1:List Pt}{from2:Int}{to3:Int}{r:Vec×Bool}(H:Z63 p1 from2 to3=some r):Snd Tryz.prog ZE6 [.agg [.sl .rd 4 (p1.map ePt)],.int .i64 from2,.int .i64 to3] (.tup [eVec r.1,.bool r.2]) []:=by
 refine wS ZMi [.c 6 3 true,.t 7] ?_
 unfold Z63 at H
 obtain⟨b4,h4,H⟩:=bB H
 refine wG [.c 12 (Zo6 h4),.g 16 [((!b4),false)] (.call _ _ _ _ _ (AEs.refl _) (fun _=>Za1 from2)),.g 21 [(((!b4)||(!(Zo from2))),false)] (.call _ _ _ _ _ (AEs.refl _) (fun _=>Za1 to3))] fun _=>?_
 refine Z3 H (fun H=>?_) fun H=>?_
 .refine wP ?_
  replace H:=sI H;subst H
  exact wN [(6,.d),(7,.d)] [(6,[])] [] [] [] []
 .obtain⟨y5,h5,H⟩:=bB H
  refine wG [.c 32 (Z1e h5),.u 35 (.ln _ _ fun _=>lm p1 ePt)] fun q6=>?_
  refine wR (fun(i7:Nat) (v7:Vec)=>⟨[(1,.int .i64 from2),(2,.int .i64 to3),(6,.ptr 6 0),(8,.ptr 8 0),(34,.sl .rd 4 (p1.map ePt)),(35,.int .i64 (p1.length:Int)),(36,.int .i64 (i7:Int))],[],[(6,(eVec (Vec.mk 0 0 0)).cells),(8,(eVec v7).cells)],[]⟩) H (fun i7 x7 v7 I m k7 hxv7 hiv7 H N26=>?_) (fun v7 I m H=>?_)
  .unfold Zb7 at H
   refine wP ?_
   refine wt (ltT hiv7) ?_
   refine wG [.u 38 (.ix _ _ _ fun _=>Z1 ePt (Z5 hxv7))] fun _=>?_
   refine Z3 H (fun H=>?_) fun H=>?_
   .refine wG [.c 53 (ZCj v7 x7.free),.w 54 (wi .i64 rfl hiv7 q6.1)] fun _=>?_
    exact wT (N26 _ H)
   .refine wG [.w 54 (wi .i64 rfl hiv7 q6.1)] fun _=>?_
    exact wT (N26 _ H)
  .unfold Zhb at H
   refine wP ?_
   refine wf (ltF p1.length) ?_
   refine wP ?_
   replace H:=sI H;subst H
   exact wN [(6,.d),(7,.d)] [(6,[])] [] [] [] []
def ZXg:L :=
sR [.bx 3 (.t 0),.mv 6 (.c (.nl))]
 (sR [.bs 16 1 [] true,mV 7 16]
 (.seq (sR [fA 17 3 0,lD 18 17 1 false,.ln 19 (.t 18),.mv 20 (kI 0)]
 (.blk 0 (.loop (.gw (sR [bI 21 .lss 20 19]
 (.seq (.cond (.t 21) .skip
 (.exit 0))
 (.seq (.blk 1 (sR [iA 22 18 20 4,lD 23 22 4 true,.al 9 [.int .i64 0,.int .i64 0,.int .i64 0,.int .i64 0],.st (.t 9) (.t 23) 4]
 (.reg [mV 24 7,fA 25 9 0,lD 26 25 1 false,.bs 27 1 [(.t 26)] false,.ap 28 (.t 24) (.t 27) 1 8,mV 7 28])))
 (.reg [.bi 29 .add (.t 20) (kI 1),mV 20 29]))))))))
 (.seq (sR [mV 30 1,mV 31 2,.bs 32 1 [(.t 30),(.t 31)] false,.ln 33 (.t 32),.mv 34 (kI 0)]
 (.blk 2 (.loop (.gw (sR [bI 35 .lss 34 33]
 (.seq (.cond (.t 35) .skip
 (.exit 2))
 (.seq (.blk 3 (sR [iA 36 32 34 1,lD 37 36 1 false,mV 11 37]
 (sR [.bs 38 1 [] true,mV 12 38]
 (.seq (rE 13 (cB false))
 (.seq (sR [mV 39 7,.ln 40 (.t 39),.mv 41 (kI 0)]
 (.blk 4 (.loop (.gw (sR [bI 42 .lss 41 40]
 (.seq (.cond (.t 42) .skip
 (.exit 4))
 (.seq (.blk 5 (sR [iA 43 39 41 1,lD 44 43 1 false,mV 15 44]
 (.seq (sR [mV 45 13,.un 46 (.t 45),mV 47 46,.g 47 true (mV 48 11),.g 47 true (mV 49 15),.g 47 true (bI 50 .leq 48 49),.pk 51 (.t 47) (.t 50) (cB false)]
 (.cond (.t 51) (sR [mV 52 12,mV 53 11,.bs 54 1 [(.t 53)] false,.ap 55 (.t 52) (.t 54) 1 8,mV 12 55]
 (rE 13 (cB true)))
 .skip))
 (.gw (sR [mV 56 15,mV 57 11,bI 58 .neq 56 57]
 (.cond (.t 58) (.reg [mV 59 12,mV 60 15,.bs 61 1 [(.t 60)] false,.ap 62 (.t 59) (.t 61) 1 8,mV 12 62])
 .skip))))))
 (.reg [.bi 63 .add (.t 41) (kI 1),mV 41 63]))))))))
 (.seq (sR [mV 64 13,.un 65 (.t 64)]
 (.cond (.t 65) (.reg [mV 66 12,mV 67 11,.bs 68 1 [(.t 67)] false,.ap 69 (.t 66) (.t 68) 1 8,mV 12 69])
 .skip))
 (.reg [mV 70 12,mV 7 70])))))))
 (.reg [.bi 71 .add (.t 34) (kI 1),mV 34 71]))))))))
 (sR [mV 72 7,mV 6 72]
 gR))))
def Zl2(x8:Int)(x10:Int)(k10:(Bool×(List Int))->Option (List Int))(v12:Bool×(List Int)):Option (List Int) :=
 bif (x10 != x8)then((appL 8 v12.2 [x10]).bind fun xs13=>k10 (v12.1,xs13))else(k10 (v12.1,v12.2))
def Zu3(x8:Int)(x10:Int)(_:Nat)(v10:Bool×(List Int))(k10:(Bool×(List Int))->Option (List Int)):Option (List Int) :=
 bif ((!v10.1)&&(decide (x8<=x10)))then((appL 8 v10.2 [x8]).bind fun xs11=>(Zl2 x8 x10 k10) (true,xs11))else((Zl2 x8 x10 k10) (v10.1,v10.2))
def Zs3(x8:Int)(k8:(List Int)->Option (List Int))(v10:Bool×(List Int)):Option (List Int) :=
 bif (!v10.1)then((appL 8 v10.2 [x8]).bind fun xs14=>k8 xs14)else(k8 v10.2)
def Zt3(x8:Int)(_:Nat)(v8:(List Int))(k8:(List Int)->Option (List Int)):Option (List Int) :=
 rgl (Zu3 x8) (Zs3 x8 k8) v8 0 (false,[])
def ZZ9(v8:(List Int)):Option (List Int) :=
 some v8
def ZJ5(x5:Pt)(_:Nat)(v5:(List Int))(k5:(List Int)->Option (List Int)):Option (List Int) :=
 (appL 8 v5 [x5.t]).bind fun xs6=>k5 xs6
def ZI5(from2:Int)(to3:Int)(v5:(List Int)):Option (List Int) :=
 rgl Zt3 ZZ9 [from2,to3] 0 v5
def Z15(p1:List Pt)(from2:Int)(to3:Int):Option (List Int) :=
 rgl ZJ5 (ZI5 from2 to3) p1 0 []
theorem Zyg{p1:List Pt}{from2:Int}{to3:Int}{r:(List Int)}(H:Z15 p1 from2 to3=some r):Snd Tryz.prog Zuc [.agg [.sl .rd 4 (p1.map ePt)],.int .i64 from2,.int .i64 to3] (.sl .nw 1 (r.map eI)) []:=by
 refine wS ZXg [.t 6] ?_
 unfold Z15 at H
 refine wG [.u 19 (.ln _ _ fun _=>lm p1 ePt)] fun q4=>?_
 refine wR (fun(i5:Nat) (v5:(List Int))=>⟨[(1,.int .i64 from2),(2,.int .i64 to3),(7,.sref 16),(18,.sl .rd 4 (p1.map ePt)),(19,.int .i64 (p1.length:Int)),(20,.int .i64 (i5:Int))],[],[],[(16,⟨1,v5.map eI,false⟩)]⟩) H (fun i5 x5 v5 I m k5 hxv5 hiv5 H N15=>?_) (fun v5 I m H=>?_)
 .unfold ZJ5 at H
  refine wP ?_
  refine wt (ltT hiv5) ?_
  obtain⟨xs6,h6,H⟩:=bB H
  refine wG [.u 22 (.ix _ _ _ fun _=>Z1 ePt (Z5 hxv5)),.u 28 (.ap _ _ _ _ fun _=>Z6 eI h6),.w 29 (wi .i64 rfl hiv5 q4.1)] fun _=>?_
  exact wT (N15 _ H)
 .unfold ZI5 at H
  refine wP ?_
  refine wf (ltF p1.length) ?_
  refine wG [.u 33 (.ln _ _ fun _=>lm ([from2,to3]:List Int) eI)] fun q7=>?_
  refine wR (fun(i8:Nat) (v8:(List Int))=>⟨[(7,.sref 16),(32,.sl .nw 1 (([from2,to3]).map eI)),(33,.int .i64 (([from2,to3]:List Int).length:Int)),(34,.int .i64 (i8:Int))],[],[],[(16,⟨1,v8.map eI,false⟩)]⟩) H (fun i8 x8 v8 I m k8 hxv8 hiv8 H N70=>?_) (fun v8 I m H=>?_)
  .unfold Zt3 at H
   refine wP ?_
   refine wt (ltT hiv8) ?_
   refine wG [.u 36 (.ix _ _ _ fun _=>Z1 eI (Z5 hxv8)),.u 40 (.ln _ _ fun _=>lm v8 eI)] fun q9=>?_
   refine wR (fun(i10:Nat) (v10:Bool×(List Int))=>⟨[(11,.int .i64 x8),(12,.sref 38),(13,.bool v10.1),(32,.sl .nw 1 (([from2,to3]).map eI)),(33,.int .i64 (([from2,to3]:List Int).length:Int)),(34,.int .i64 (i8:Int)),(39,.sref 16),(40,.int .i64 (v8.length:Int)),(41,.int .i64 (i10:Int))],[],[],[(38,⟨1,v10.2.map eI,false⟩),(16,⟨1,v8.map eI,false⟩)]⟩) H (fun i10 x10 v10 I m k10 hxv10 hiv10 H N51=>?_) (fun v10 I m H=>?_)
   .unfold Zu3 at H
    refine wP ?_
    refine wt (ltT hiv10) ?_
    refine wG [.u 43 (.ix _ _ _ fun _=>Z1 eI (Z5 hxv10)),.u 44 (.el _ _ _ fun _=>gm eI (Zk1 (Z5 hxv10)))] fun _=>?_
    refine Zqc (r:=r) (Zl2 x8 x10 k10) 0 (fun v12:Bool×(List Int)=>⟨[(11,.int .i64 x8),(12,.sref 38),(13,.bool v12.1),(15,.int .i64 x10),(32,.sl .nw 1 (([from2,to3]).map eI)),(33,.int .i64 (([from2,to3]:List Int).length:Int)),(34,.int .i64 (i8:Int)),(39,.sref 16),(40,.int .i64 (v8.length:Int)),(41,.int .i64 (i10:Int))],[],[],[(38,⟨1,v12.2.map eI,false⟩),(16,⟨1,v8.map eI,false⟩)]⟩) (by kernel_rfl) (fun v12 H=>?_) (fun J43=>?_)
    .unfold Zl2 at H
     refine wP ?_
     refine Z3 H (fun H=>?_) fun H=>?_
     .obtain⟨xs13,h13,H⟩:=bB H
      refine wG [.u 62 (.ap _ _ _ _ fun _=>Z6 eI h13),.w 63 (wi .i64 rfl hiv10 q9.1)] fun _=>?_
      exact wT (N51 _ H)
     .refine wG [.w 63 (wi .i64 rfl hiv10 q9.1)] fun _=>?_
      exact wT (N51 _ H)
    .refine Z3 H (fun H=>?_) fun H=>?_
     .obtain⟨xs11,h11,H⟩:=bB H
      refine wG [.u 55 (.ap _ _ _ _ fun _=>Z6 eI h11)] fun _=>?_
      exact wT (J43 _ H)
     .refine wP ?_
      exact wT (J43 _ H)
   .unfold Zs3 at H
    refine wP ?_
    refine wf (ltF v8.length) ?_
    refine wP ?_
    refine Z3 H (fun H=>?_) fun H=>?_
    .obtain⟨xs14,h14,H⟩:=bB H
     refine wG [.u 69 (.ap _ _ _ _ fun _=>Z6 eI h14),.w 71 (wi .i64 rfl hiv8 q7.1)] fun _=>?_
     exact Zsn (N70 _ H) [] [] [(16,(some 38,0))] [] (by kernel_rfl) (by kernel_rfl)
    .refine wG [.w 71 (wi .i64 rfl hiv8 q7.1)] fun _=>?_
     exact Zsn (N70 _ H) [] [] [(16,(some 38,0))] [] (by kernel_rfl) (by kernel_rfl)
  .unfold ZZ9 at H
   refine wP ?_
   refine wf (ltF [from2,to3].length) ?_
   refine wP ?_
   replace H:=sI H;subst H
   exact wN [(6,.f)] [] [] [16] [] [⟨_,nw_I v8⟩]
def ZFf:L :=
sR [.bx 5 (.t 0),.bx 8 (.t 3),.al 10 [.nl],.mv 11 (cB false)]
 (sR [.bd 18 [.nl] [],.al 12 [.nl],.st (.t 12) (.t 18) 1]
 (.seq (sR [lD 19 5 1 true,mV 20 1,mV 21 2,cQ 22 Zuc [19,20,21],.ln 23 (.t 22),.mv 24 (kI 0)]
 (.blk 0 (.loop (.gw (sR [bI 25 .lss 24 23]
 (.seq (.cond (.t 25) .skip
 (.exit 0))
 (.seq (.blk 1 (sR [iA 26 22 24 1,lD 27 26 1 false,mV 14 27]
 (sR [lD 28 5 1 true,mV 29 14,cQ 30 Zvc [28,29],.al 15 [.int .i64 0,.int .i64 0,.int .i64 0],.st (.t 15) (.t 30) 3]
 (.seq (sR [mV 31 14,mV 32 1,bI 33 .geq 31 32,mV 34 33,.g 34 true (mV 35 14),.g 34 true (mV 36 2),.g 34 true (bI 37 .lss 35 36),.pk 38 (.t 34) (.t 37) (cB false)]
 (.cond (.t 38) (.seq (rE 16 (cB false))
 (.seq (sR [mV 39 4]
 (.cond (.t 39) (.reg [lD 41 15 3 true,lD 42 8 3 true,cQ 43 ZSa [41,42],mV 40 43,eX 44 40 0,eX 45 40 1,.st (.t 15) (.t 44) 3,mV 16 45])
 (.reg [lD 47 15 3 true,lD 48 8 3 true,cQ 49 ZQa [47,48],mV 46 49,eX 50 46 0,eX 51 46 1,.st (.t 15) (.t 50) 3,mV 16 51])))
 (.gw (sR [mV 52 16,.un 53 (.t 52)]
 (.cond (.t 53) (sR [.bd 54 [.nl] [],.st (.t 10) (.t 54) 1,.mv 11 (cB false)]
 gR)
 .skip)))))
 .skip))
 (.gw (sR [fA 55 12 0,lD 56 55 1 false,.ln 57 (.t 56),mV 17 57]
 (.seq (.rq 13 [mV 58 17,.bi 59 .eql (.t 58) (kI 0),mV 60 59,.g 60 false (fA 61 12 0),.g 60 false (lD 62 61 1 false),.g 60 false (mV 63 17),.g 60 false (.bi 64 .sub (.t 63) (kI 1)),.g 60 false (iA 65 62 64 4),.g 60 false (fA 66 65 1),.g 60 false (lD 67 66 3 true),.g 60 false (lD 68 15 3 true),.g 60 false (.es 69 true [0,0,0] (.t 67) (.t 68)),.pk 70 (.t 60) (cB true) (.t 69)])
 (.cond (.t 70) (.reg [fA 71 12 0,lD 72 71 1 false,mV 73 14,lD 74 15 3 true,.bd 75 [.int .i64 0,.int .i64 0,.int .i64 0,.int .i64 0] [(0,1,(.t 73)),(1,3,(.t 74))],.bs 76 4 [(.t 75)] false,.ap 77 (.t 72) (.t 76) 4 32,fA 78 12 0,.st (.t 78) (.t 77) 1])
 .skip))))))))
 (.reg [.bi 79 .add (.t 24) (kI 1),mV 24 79]))))))))
 (.seq (sR [lD 80 12 1 true,cQ 81 ZA5 [80],.un 82 (.t 81)]
 (.cond (.t 82) (sR [.bd 83 [.nl] [],.st (.t 10) (.t 83) 1,.mv 11 (cB false)]
 gR)
 .skip))
 (sR [lD 84 12 1 true,.st (.t 10) (.t 84) 1,.mv 11 (cB true)]
 gR))))
def Zv1(v8:(List Pt))(x8:Int)(k8:(List Pt)->Option ((List Pt)×Bool))(v11:Vec):Option ((List Pt)×Bool) :=
 (bif ((v8.length:Int)==0)then some default else(idx v8 (w64 ((v8.length:Int)-1)))).bind fun e12=>bif (((v8.length:Int)==0)||(!(e12.free.a==v11.a&&(e12.free.b==v11.b&&(e12.free.c==v11.c&&true)))))then((appL 32 v8 [(Pt.mk x8 v11)]).bind fun xs14=>k8 xs14)else(k8 v8)
def Z22(v8:(List Pt))(x8:Int)(k8:(List Pt)->Option ((List Pt)×Bool))(v10:Vec×Bool):Option ((List Pt)×Bool) :=
 bif (!v10.2)then(some ([],false))else((Zv1 v8 x8 k8) v10.1)
def ZW2(p1:List Pt)(from2:Int)(to3:Int)(v4:Vec)(add5:Bool)(x8:Int)(_:Nat)(v8:(List Pt))(k8:(List Pt)->Option ((List Pt)×Bool)):Option ((List Pt)×Bool) :=
 (ZW7 p1 x8).bind fun y9=>bif ((decide (from2<=x8))&&(decide (x8<to3)))then(bif add5 then((Z22 v8 x8 k8) (((ZM5 y9 v4).1),(ZM5 y9 v4).2))else((Z22 v8 x8 k8) (((ZE y9 v4).1),(ZE y9 v4).2)))else((Zv1 v8 x8 k8) y9)
def Zu1(v8:(List Pt)):Option ((List Pt)×Bool) :=
 (Zz1 v8).bind fun b15=>bif (!b15)then(some ([],false))else(some (v8,true))
def ZS3(p1:List Pt)(from2:Int)(to3:Int)(v4:Vec)(add5:Bool):Option ((List Pt)×Bool) :=
 (Z15 p1 from2 to3).bind fun y6=>rgl (ZW2 p1 from2 to3 v4 add5) Zu1 y6 0 []
theorem Zgf{p1:List Pt}{from2:Int}{to3:Int}{v4:Vec}{add5:Bool}{r:(List Pt)×Bool}(H:ZS3 p1 from2 to3 v4 add5=some r):Snd Tryz.prog Zvb [.agg [.sl .rd 4 (p1.map ePt)],.int .i64 from2,.int .i64 to3,eVec v4,.bool add5] (.tup [Zg .nw r.1,.bool r.2]) []:=by
 refine wS ZFf [.c 10 1 true,.t 11] ?_
 unfold ZS3 at H
 obtain⟨y6,h6,H⟩:=bB H
 refine wG [.c 22 (Zyg h6),.u 23 (.ln _ _ fun _=>lm y6 eI)] fun q7=>?_
 refine Zpc (fun(i8:Nat) (v8:(List Pt))=>⟨[(1,.int .i64 from2),(2,.int .i64 to3),(4,.bool add5),(5,.ptr 5 0),(8,.ptr 8 0),(10,.ptr 10 0),(12,.ptr 12 0),(22,.sl .nw 1 (y6.map eI)),(23,.int .i64 (y6.length:Int)),(24,.int .i64 (i8:Int))],[],[(5,[.sl .rd 4 (p1.map ePt)]),(8,(eVec v4).cells),(10,[.nl]),(12,[.sref 147000])],[(147000,⟨4,v8.map ePt,false⟩)]⟩) [] [(12,[.z 147000])] [(147000,(none,4))] [] (by kernel_rfl) (by kernel_rfl) H (fun i8 x8 v8 I m k8 hxv8 hiv8 H N43=>?_) (fun v8 I m H=>?_)
 .unfold ZW2 at H
  refine wP ?_
  refine wt (ltT hiv8) ?_
  obtain⟨y9,h9,H⟩:=bB H
  refine wG [.u 26 (.ix _ _ _ fun _=>Z1 eI (Z5 hxv8)),.c 30 (Z1e h9)] fun _=>?_
  refine Zqc (r:=r) (Zv1 v8 x8 k8) 0 (fun v11:Vec=>⟨[(1,.int .i64 from2),(2,.int .i64 to3),(4,.bool add5),(5,.ptr 5 0),(8,.ptr 8 0),(10,.ptr 10 0),(12,.ptr 12 0),(14,.int .i64 x8),(15,.ptr 15 0),(22,.sl .nw 1 (y6.map eI)),(23,.int .i64 (y6.length:Int)),(24,.int .i64 (i8:Int))],[],[(5,[.sl .rd 4 (p1.map ePt)]),(8,(eVec v4).cells),(10,[.nl]),(12,[.sref 147000]),(15,(eVec v11).cells)],[(147000,⟨4,v8.map ePt,false⟩)]⟩) (by kernel_rfl) (fun v11 H=>?_) (fun J34=>?_)
  .unfold Zv1 at H
   obtain⟨e12,h12,H⟩:=bB H
   refine wG [.u 57 (.ln _ _ fun _=>lm v8 ePt),.g 65 [(_,false)] (.ix _ _ _ fun q=>Z1 ePt (bF q.1 h12)),.g 67 [(_,false)] (.el _ _ _ fun q=>gm ePt (Zk1 (bF q.1 h12)))] fun q13=>?_
   refine Z3 H (fun H=>?_) fun H=>?_
   .obtain⟨xs14,h14,H⟩:=bB H
    refine wG [.u 77 (.ap _ _ _ _ fun _=>Z6 ePt h14),.w 79 (wi .i64 rfl hiv8 q7.1)] fun _=>?_
    exact wT (N43 _ H)
   .refine wG [.w 79 (wi .i64 rfl hiv8 q7.1)] fun _=>?_
    exact wT (N43 _ H)
  .refine Z3 H (fun H=>?_) fun H=>?_
   .refine wP ?_
    refine Zqc (r:=r) (Z22 v8 x8 k8) 0 (fun v10:Vec×Bool=>⟨[(1,.int .i64 from2),(2,.int .i64 to3),(4,.bool add5),(5,.ptr 5 0),(8,.ptr 8 0),(10,.ptr 10 0),(12,.ptr 12 0),(14,.int .i64 x8),(15,.ptr 15 0),(16,.bool v10.2),(22,.sl .nw 1 (y6.map eI)),(23,.int .i64 (y6.length:Int)),(24,.int .i64 (i8:Int))],[],[(5,[.sl .rd 4 (p1.map ePt)]),(8,(eVec v4).cells),(10,[.nl]),(12,[.sref 147000]),(15,(eVec v10.1).cells)],[(147000,⟨4,v8.map ePt,false⟩)]⟩) (by kernel_rfl) (fun v10 H=>?_) (fun J22=>?_)
    .unfold Z22 at H
     refine wP ?_
     refine Z3 H (fun H=>?_) fun H=>?_
     .refine wP ?_
      replace H:=sI H;subst H
      exact wN [(10,.d),(11,.d)] [(10,[.n 4])] [] [] [] [⟨_,ZH2 ([]:List Pt)⟩]
     .refine wP ?_
      exact wT (J34 _ H)
    .refine Z3 H (fun H=>?_) fun H=>?_
     .refine wG [.c 43 (ZEj y9 v4)] fun _=>?_
      exact wT (J22 _ H)
     .refine wG [.c 49 (ZBj y9 v4)] fun _=>?_
      exact wT (J22 _ H)
   .refine wP ?_
    exact wT (J34 _ H)
 .unfold Zu1 at H
  refine wP ?_
  refine wf (ltF y6.length) ?_
  obtain⟨b15,h15,H⟩:=bB H
  refine wG [.c 81 (Zo6 h15)] fun _=>?_
  refine Z3 H (fun H=>?_) fun H=>?_
  .refine wP ?_
   replace H:=sI H;subst H
   exact wN [(10,.d),(11,.d)] [(10,[.n 4])] [] [] [] [⟨_,ZH2 ([]:List Pt)⟩]
  .refine wP ?_
   replace H:=sI H;subst H
   exact wN [(10,.d),(11,.d)] [(10,[.f])] [] [147000] [] [⟨_,ZH2 v8⟩]
def Z0h:L :=
sR [.bx 4 (.t 0),.bx 7 (.t 3),.al 8 [.nl],.mv 9 (cB false)]
 (sR [lD 13 4 1 true,mV 14 1,mV 15 2,cQ 16 ZE6 [13,14,15],mV 12 16,eX 17 12 0,eX 18 12 1,.al 10 [.int .i64 0,.int .i64 0,.int .i64 0],.st (.t 10) (.t 17) 3,mV 11 18]
 (.seq (sR [mV 19 11,.un 20 (.t 19)]
 (.cond (.t 20) (sR [.bd 21 [.nl] [],.st (.t 8) (.t 21) 1,.mv 9 (cB false)]
 gR)
 .skip))
 (sR [lD 22 4 1 true,mV 23 1,mV 24 2,lD 25 7 3 true,.cq 26 Zvb [(.t 22),(.t 23),(.t 24),(.t 25),(cB false)],eX 27 26 0,eX 28 26 1,.st (.t 8) (.t 27) 1,mV 9 28]
 gR)))
def ZF1(p1:List Pt)(from2:Int)(to3:Int)(v4:Vec):Option ((List Pt)×Bool) :=
 (Z63 p1 from2 to3).bind fun y5=>bif (!y5.2)then(some ([],false))else((ZS3 p1 from2 to3 v4 false).bind fun y6=>some (y6.1,y6.2))
theorem Zgb{p1:List Pt}{from2:Int}{to3:Int}{v4:Vec}{r:(List Pt)×Bool}(H:ZF1 p1 from2 to3 v4=some r):Snd Tryz.prog ZK8 [.agg [.sl .rd 4 (p1.map ePt)],.int .i64 from2,.int .i64 to3,eVec v4] (.tup [Zg .nw r.1,.bool r.2]) []:=by
 refine wS Z0h [.c 8 1 true,.t 9] ?_
 unfold ZF1 at H
 obtain⟨y5,h5,H⟩:=bB H
 refine wG [.c 16 (Zf8 h5)] fun _=>?_
 refine Z3 H (fun H=>?_) fun H=>?_
 .refine wP ?_
  replace H:=sI H;subst H
  exact wN [(8,.d),(9,.d)] [(8,[.n 4])] [] [] [] [⟨_,ZH2 ([]:List Pt)⟩]
 .obtain⟨y6,h6,H⟩:=bB H
  refine wG [.c 26 (Zgf h6)] fun _=>?_
  replace H:=sI H;subst H
  exact wN [(8,.d),(9,.d)] [(8,[])] [] [] [] [⟨_,ZH2 y6.1⟩]
def Z7h:L :=
sR [.bx 1 (.t 0),.al 2 [.nl]]
 (sR [fA 3 1 0,lD 4 3 1 false,.ap 5 (.c (.nl)) (.t 4) 4 32,.bd 6 [.nl] [(0,1,(.t 5))],.st (.t 2) (.t 6) 1]
 gR)
def ZA3(p1:List Pt):Option (List Pt) :=
 (appL 32 ([]:List Pt) p1).bind fun xs2=>some xs2
theorem Zob{p1:List Pt}{r:(List Pt)}(H:ZA3 p1=some r):Snd Tryz.prog ZL8 [.agg [.sl .rd 4 (p1.map ePt)]] (Zg .nw r) []:=by
 refine wS Z7h [.c 2 1 true] ?_
 unfold ZA3 at H
 obtain⟨xs2,h2,H⟩:=bB H
 refine wG [.u 5 (.ap _ _ _ _ fun _=>Z6 ePt h2)] fun _=>?_
 replace H:=sI H;subst H
 exact wN [(2,.d)] [(2,[.f])] [] [5] [] [⟨_,ZH2 xs2⟩]
def ZPk:L :=
sR [.bx 1 (.t 0),.mv 2 (cB false)]
 (.seq (sR [fA 5 1 0,lD 6 5 1 false,.ln 7 (.t 6),.cq 8 Ze [(.t 7),(kI 1),(kI 200)],.un 9 (.t 8),mV 10 9,.g 10 false (fA 11 1 0),.g 10 false (lD 12 11 1 false),.g 10 false (.ia 13 (.t 12) (kI 0) 4),.g 10 false (fA 14 13 0),.g 10 false (lD 15 14 1 false),.g 10 false (.bi 16 .neq (.t 15) (kI 0)),.pk 17 (.t 10) (cB true) (.t 16)]
 (.cond (.t 17) (.seq (rE 2 (cB false))
 gR)
 .skip))
 (.seq (sR [fA 18 1 0,lD 19 18 1 false,.ln 20 (.t 19),.mv 21 (kI 0)]
 (.blk 0 (.loop (.gw (sR [bI 22 .lss 21 20]
 (.seq (.cond (.t 22) .skip
 (.exit 0))
 (.seq (.blk 1 (sR [mV 23 21,iA 24 19 21 4,lD 25 24 4 true,.al 4 [.int .i64 0,.int .i64 0,.int .i64 0,.int .i64 0],mV 3 23,.st (.t 4) (.t 25) 4]
 (.seq (.rq 38 [fA 26 4 0,lD 27 26 1 false,cQ 28 ZJ1 [27],.un 29 (.t 28),mV 30 29,.g 30 false (fA 31 4 1),.g 30 false (lD 32 31 3 true),.g 30 false (cQ 33 ZZ [32]),.g 30 false (.un 34 (.t 33)),.pk 35 (.t 30) (cB true) (.t 34),mV 36 35,.g 36 false (mV 37 3),.g 36 false (.bi 38 .gtr (.t 37) (kI 0)),.g 36 false (mV 39 38),.g 39 true (fA 40 1 0),.g 39 true (lD 41 40 1 false),.g 39 true (mV 42 3),.g 39 true (.bi 43 .sub (.t 42) (kI 1)),.g 39 true (iA 44 41 43 4),.g 39 true (fA 45 44 0),.g 39 true (lD 46 45 1 false),.g 39 true (fA 47 4 0),.g 39 true (lD 48 47 1 false),.g 39 true (bI 49 .geq 46 48),.g 39 true (mV 50 49),.g 50 false (fA 51 1 0),.g 50 false (lD 52 51 1 false),.g 50 false (mV 53 3),.g 50 false (.bi 54 .sub (.t 53) (kI 1)),.g 50 false (iA 55 52 54 4),.g 50 false (fA 56 55 1),.g 50 false (lD 57 56 3 true),.g 50 false (fA 58 4 1),.g 50 false (lD 59 58 3 true),.g 50 false (.es 60 false [0,0,0] (.t 57) (.t 59)),.g 39 true (.pk 61 (.t 50) (cB true) (.t 60)),.g 36 false (.pk 62 (.t 39) (.t 61) (cB false)),.pk 63 (.t 36) (cB true) (.t 62)])
 (.cond (.t 63) (.seq (rE 2 (cB false))
 gR)
 .skip))))
 (.reg [.bi 64 .add (.t 21) (kI 1),mV 21 64]))))))))
 (.seq (rE 2 (cB true))
 gR)))
def Zgc(p1:List Pt)(x5:Pt)(i5:Nat)(_:Unit)(k5:Unit->Option Bool):Option Bool :=
 (bif ((!(ZK x5.t))||(!(Zb x5.free)))then some default else(bif (decide (0<(i5:Int)))then(idx p1 (w64 ((i5:Int)-1)))else some default)).bind fun e6=>(bif ((!(ZK x5.t))||(!(Zb x5.free)))then some default else(bif (decide (0<(i5:Int)))then(bif (decide (x5.t<=e6.t))then some default else(idx p1 (w64 ((i5:Int)-1))))else some default)).bind fun e7=>bif (((!(ZK x5.t))||(!(Zb x5.free)))||((decide (0<(i5:Int)))&&((decide (x5.t<=e6.t))||(e7.free.a==x5.free.a&&(e7.free.b==x5.free.b&&(e7.free.c==x5.free.c&&true))))))then(some false)else(k5 ())
def Zfc(_:Unit):Option Bool :=
 some true
def Zw4(p1:List Pt):Option Bool :=
 (bif (!(Z0 (p1.length:Int) 1 200))then some default else(idx p1 0)).bind fun e2=>bif ((!(Z0 (p1.length:Int) 1 200))||(e2.t != 0))then(some false)else(rgl (Zgc p1) Zfc p1 0 ())
theorem ZI9{p1:List Pt}{r:Bool}(H:Zw4 p1=some r):Snd Tryz.prog ZU7 [.agg [.sl .rd 4 (p1.map ePt)]] (.bool r) []:=by
 refine wS ZPk [.t 2] ?_
 unfold Zw4 at H
 obtain⟨e2,h2,H⟩:=bB H
 refine wG [.u 7 (.ln _ _ fun _=>lm p1 ePt),.u 8 (.call _ _ _ _ _ (AEs.refl _) (fun _=>Zc (p1.length:Int) 1 200)),.g 13 [(_,false)] (.ix _ _ _ fun q=>Z1 ePt (bF q.1 h2))] fun q3=>?_
 refine Z3 H (fun H=>?_) fun H=>?_
 .refine wP ?_
  replace H:=sI H;subst H
  exact wE [(2,.d)]
 .refine wG [.u 20 (.ln _ _ fun _=>lm p1 ePt)] fun q4=>?_
  refine wR (fun(i5:Nat) (v5:Unit)=>⟨[(1,.ptr 1 0),(19,.sl .rd 4 (p1.map ePt)),(20,.int .i64 (p1.length:Int)),(21,.int .i64 (i5:Int))],[],[(1,[.sl .rd 4 (p1.map ePt)])],[]⟩) H (fun i5 x5 v5 I m k5 hxv5 hiv5 H N27=>?_) (fun v5 I m H=>?_)
  .unfold Zgc at H
   refine wP ?_
   refine wt (ltT hiv5) ?_
   obtain⟨e6,h6,H⟩:=bB H
   obtain⟨e7,h7,H⟩:=bB H
   refine wG [.u 24 (.ix _ _ _ fun _=>Z1 ePt (Z5 hxv5)),.c 28 (Ze2 x5.t),.g 33 [((!(ZK x5.t)),false)] (.call _ _ _ _ _ (AEs.refl _) (fun _=>Z41 x5.free)),.g 44 [(_,true),(_,false)] (.ix _ _ _ fun q=>Z1 ePt (bT q.1 (bF q.2.1 h6))),.g 55 [(_,false),(_,true),(_,false)] (.ix _ _ _ fun q=>Z1 ePt (bF q.1 (bT q.2.1 (bF q.2.2.1 h7))))] fun _=>?_
   refine Z3 H (fun H=>?_) fun H=>?_
   .refine wP ?_
    replace H:=sI H;subst H
    exact wE [(2,.d)]
   .refine wG [.w 64 (wi .i64 rfl hiv5 q3.1)] fun _=>?_
    exact wT (N27 () H)
  .unfold Zfc at H
   refine wP ?_
   refine wf (ltF p1.length) ?_
   refine wP ?_
   replace H:=sI H;subst H
   exact wE [(2,.d)]
def Z4j:L :=
sR [.bx 1 (.t 0),.al 2 [.nl],.mv 3 (cB false)]
 (.seq (sR [lD 4 1 3 true,cQ 5 ZZ [4],.un 6 (.t 5)]
 (.cond (.t 6) (sR [.bd 7 [.nl] [],.st (.t 2) (.t 7) 1,.mv 3 (cB false)]
 gR)
 .skip))
 (sR [lD 8 1 3 true,.bd 9 [.int .i64 0,.int .i64 0,.int .i64 0,.int .i64 0] [(1,3,(.t 8))],.bs 10 4 [(.t 9)] true,.bd 11 [.nl] [(0,1,(.t 10))],.st (.t 2) (.t 11) 1,.mv 3 (cB true)]
 gR))
def Zy6(v1:Vec):Option ((List Pt)×Bool) :=
 bif (!(Zb v1))then(some ([],false))else(some ([(Pt.mk 0 v1)],true))
theorem ZRf{v1:Vec}{r:(List Pt)×Bool}(H:Zy6 v1=some r):Snd Tryz.prog ZH6 [eVec v1] (.tup [Zg .nw r.1,.bool r.2]) []:=by
 refine wS Z4j [.c 2 1 true,.t 3] ?_
 unfold Zy6 at H
 refine wG [.c 5 (Z41 v1)] fun _=>?_
 refine Z3 H (fun H=>?_) fun H=>?_
 .refine wP ?_
  replace H:=sI H;subst H
  exact wN [(2,.d),(3,.d)] [(2,[.n 4])] [] [] [] [⟨_,ZH2 ([]:List Pt)⟩]
 .refine wP ?_
  replace H:=sI H;subst H
  exact wN [(2,.d),(3,.d)] [(2,[.f])] [] [10] [] [⟨_,ZH2 [(Pt.mk 0 v1)]⟩]
def ZE2(v1:Vec):(List Pt)×Bool :=
 bif (!(Zb v1))then(([],false))else(([(Pt.mk 0 v1)],true))
theorem Z3l(v1:Vec):Zy6 v1=some (ZE2 v1):=by
 unfold Zy6 ZE2
 first|rfl|simp only[Zl]
theorem Zhc(v1:Vec):Snd Tryz.prog ZH6 [eVec v1] (.tup [Zg .nw ((ZE2 v1).1),.bool ((ZE2 v1).2)]) []:=ZRf (Z3l v1)
def ZJf:L :=
sR [.bx 2 (.t 0),.al 4 [.int .i64 0,.int .i64 0,.int .i64 0]]
 (sR [.bd 8 [.int .i64 0,.int .i64 0,.int .i64 0] [],.al 5 [.int .i64 0,.int .i64 0,.int .i64 0],.st (.t 5) (.t 8) 3]
 (.seq (sR [fA 9 2 0,lD 10 9 1 false,.ln 11 (.t 10),.mv 12 (kI 0)]
 (.blk 0 (.loop (.gw (sR [bI 13 .lss 12 11]
 (.seq (.cond (.t 13) .skip
 (.exit 0))
 (.seq (.blk 1 (sR [iA 14 10 12 4,lD 15 14 4 true,.al 7 [.int .i64 0,.int .i64 0,.int .i64 0,.int .i64 0],.st (.t 7) (.t 15) 4]
 (sR [fA 16 7 0,lD 17 16 1 false,mV 18 1,bI 19 .leq 17 18]
 (.cond (.t 19) (.reg [fA 20 7 1,lD 21 20 3 true,.st (.t 5) (.t 21) 3])
 .skip))))
 (.reg [.bi 22 .add (.t 12) (kI 1),mV 12 22]))))))))
 (sR [lD 23 5 3 true,.st (.t 4) (.t 23) 3]
 gR)))
def Zg9(t2:Int)(x4:Pt)(_:Nat)(v4:Vec)(k4:Vec->Option Vec):Option Vec :=
 bif (decide (x4.t<=t2))then(k4 x4.free)else(k4 v4)
def Zf9(v4:Vec):Option Vec :=
 some v4
def Z44(p1:List Pt)(t2:Int):Option Vec :=
 rgl (Zg9 t2) Zf9 p1 0 (Vec.mk 0 0 0)
theorem Zha{p1:List Pt}{t2:Int}{r:Vec}(H:Z44 p1 t2=some r):Snd Tryz.prog Zp7 [.agg [.sl .rd 4 (p1.map ePt)],.int .i64 t2] (eVec r) []:=by
 refine wS ZJf [.c 4 3 true] ?_
 unfold Z44 at H
 refine wG [.u 11 (.ln _ _ fun _=>lm p1 ePt)] fun q3=>?_
 refine wR (fun(i4:Nat) (v4:Vec)=>⟨[(1,.int .i64 t2),(4,.ptr 4 0),(5,.ptr 5 0),(10,.sl .rd 4 (p1.map ePt)),(11,.int .i64 (p1.length:Int)),(12,.int .i64 (i4:Int))],[],[(4,(eVec (Vec.mk 0 0 0)).cells),(5,(eVec v4).cells)],[]⟩) H (fun i4 x4 v4 I m k4 hxv4 hiv4 H N19=>?_) (fun v4 I m H=>?_)
 .unfold Zg9 at H
  refine wP ?_
  refine wt (ltT hiv4) ?_
  refine wG [.u 14 (.ix _ _ _ fun _=>Z1 ePt (Z5 hxv4))] fun _=>?_
  refine Z3 H (fun H=>?_) fun H=>?_
  .refine wG [.w 22 (wi .i64 rfl hiv4 q3.1)] fun _=>?_
   exact wT (N19 _ H)
  .refine wG [.w 22 (wi .i64 rfl hiv4 q3.1)] fun _=>?_
   exact wT (N19 _ H)
 .unfold Zf9 at H
  refine wP ?_
  refine wf (ltF p1.length) ?_
  refine wP ?_
  replace H:=sI H;subst H
  exact wN [(4,.d)] [(4,[])] [] [] [] []
def Zre:L :=
sR [.bx 3 (.t 0),.al 6 [.int .i64 0,.int .i64 0,.int .i64 0]]
 (sR [lD 10 3 1 true,mV 11 1,cQ 12 Zp7 [10,11],.al 7 [.int .i64 0,.int .i64 0,.int .i64 0],.st (.t 7) (.t 12) 3]
 (.seq (sR [fA 13 3 0,lD 14 13 1 false,.ln 15 (.t 14),.mv 16 (kI 0)]
 (.blk 0 (.loop (.gw (sR [bI 17 .lss 16 15]
 (.seq (.cond (.t 17) .skip
 (.exit 0))
 (.seq (.blk 1 (sR [iA 18 14 16 4,lD 19 18 4 true,.al 9 [.int .i64 0,.int .i64 0,.int .i64 0,.int .i64 0],.st (.t 9) (.t 19) 4]
 (sR [fA 20 9 0,lD 21 20 1 false,mV 22 1,bI 23 .gtr 21 22,mV 24 23,.g 24 true (fA 25 9 0),.g 24 true (lD 26 25 1 false),.g 24 true (mV 27 2),.g 24 true (bI 28 .lss 26 27),.pk 29 (.t 24) (.t 28) (cB false)]
 (.cond (.t 29) (.reg [lD 30 7 3 true,fA 31 9 1,lD 32 31 3 true,cQ 33 Z6b [30,32],.st (.t 7) (.t 33) 3])
 .skip))))
 (.reg [.bi 34 .add (.t 16) (kI 1),mV 16 34]))))))))
 (sR [lD 35 7 3 true,.st (.t 6) (.t 35) 3]
 gR)))
def Zv4(from2:Int)(to3:Int)(x6:Pt)(_:Nat)(v6:Vec)(k6:Vec->Option Vec):Option Vec :=
 bif ((decide (from2<x6.t))&&(decide (x6.t<to3)))then(k6 (Z96 v6 x6.free))else(k6 v6)
def ZG8(v6:Vec):Option Vec :=
 some v6
def Zt2(p1:List Pt)(from2:Int)(to3:Int):Option Vec :=
 (Z44 p1 from2).bind fun y4=>rgl (Zv4 from2 to3) ZG8 p1 0 y4
theorem Ze9{p1:List Pt}{from2:Int}{to3:Int}{r:Vec}(H:Zt2 p1 from2 to3=some r):Snd Tryz.prog Zi6 [.agg [.sl .rd 4 (p1.map ePt)],.int .i64 from2,.int .i64 to3] (eVec r) []:=by
 refine wS Zre [.c 6 3 true] ?_
 unfold Zt2 at H
 obtain⟨y4,h4,H⟩:=bB H
 refine wG [.c 12 (Zha h4),.u 15 (.ln _ _ fun _=>lm p1 ePt)] fun q5=>?_
 refine wR (fun(i6:Nat) (v6:Vec)=>⟨[(1,.int .i64 from2),(2,.int .i64 to3),(6,.ptr 6 0),(7,.ptr 7 0),(14,.sl .rd 4 (p1.map ePt)),(15,.int .i64 (p1.length:Int)),(16,.int .i64 (i6:Int))],[],[(6,(eVec (Vec.mk 0 0 0)).cells),(7,(eVec v6).cells)],[]⟩) H (fun i6 x6 v6 I m k6 hxv6 hiv6 H N19=>?_) (fun v6 I m H=>?_)
 .unfold Zv4 at H
  refine wP ?_
  refine wt (ltT hiv6) ?_
  refine wG [.u 18 (.ix _ _ _ fun _=>Z1 ePt (Z5 hxv6))] fun _=>?_
  refine Z3 H (fun H=>?_) fun H=>?_
  .refine wG [.c 33 (ZZk v6 x6.free),.w 34 (wi .i64 rfl hiv6 q5.1)] fun _=>?_
   exact wT (N19 _ H)
  .refine wG [.w 34 (wi .i64 rfl hiv6 q5.1)] fun _=>?_
   exact wT (N19 _ H)
 .unfold ZG8 at H
  refine wP ?_
  refine wf (ltF p1.length) ?_
  refine wP ?_
  replace H:=sI H;subst H
  exact wN [(6,.d)] [(6,[])] [] [] [] []
def ZGk:L :=
.seq (rE 4 (cB false))
 (sR [mV 5 0,cQ 6 ZJ1 [5],mV 7 6,.g 7 true (mV 8 1),.g 7 true (cQ 9 ZJ1 [8]),.pk 10 (.t 7) (.t 9) (cB false),mV 11 10,.g 11 true (mV 12 0),.g 11 true (mV 13 1),.g 11 true (bI 14 .lss 12 13),.pk 15 (.t 11) (.t 14) (cB false),mV 4 15]
 gR)
def ZK7(from1:Int)(to2:Int):Option Bool :=
 some (((ZK from1)&&(ZK to2))&&(decide (from1<to2)))
theorem Zfh{from1:Int}{to2:Int}{r:Bool}(H:ZK7 from1 to2=some r):Snd Tryz.prog Z3b [.int .i64 from1,.int .i64 to2] (.bool r) []:=by
 refine wS ZGk [.t 4] ?_
 unfold ZK7 at H
 refine wG [.c 6 (Ze2 from1),.g 9 [((ZK from1),true)] (.call _ _ _ _ _ (AEs.refl _) (fun _=>Ze2 to2))] fun _=>?_
 replace H:=sI H;subst H
 exact wE [(4,.d)]
def Z06(from1:Int)(to2:Int):Bool :=
 (((ZK from1)&&(ZK to2))&&(decide (from1<to2)))
theorem Z7n(from1:Int)(to2:Int):ZK7 from1 to2=some (Z06 from1 to2):=by
 unfold ZK7 Z06
 first|rfl|simp only[Zl]
theorem ZTk(from1:Int)(to2:Int):Snd Tryz.prog Z3b [.int .i64 from1,.int .i64 to2] (.bool (Z06 from1 to2)) []:=Zfh (Z7n from1 to2)
def Zse:L :=
sR [.bx 2 (.t 0),.al 3 [.int .i64 0,.int .i64 0,.int .i64 0],.mv 4 (cB false)]
 (sR [lD 5 2 3 true,lD 6 1 3 true,cQ 7 Z5b [5,6],eX 8 7 0,eX 9 7 1,.st (.t 3) (.t 8) 3,mV 4 9]
 gR)
def ZD3(x1:Vec)(x2:Vec):Option (Vec×Bool) :=
 some (((Zg2 x1 x2).1),(Zg2 x1 x2).2)
theorem Z6d{x1:Vec}{x2:Vec}{r:Vec×Bool}(H:ZD3 x1 x2=some r):Snd Tryz.prog Zl1 [eVec x1,.ept (eVec x2) 0] (.tup [eVec r.1,.bool r.2]) []:=by
 refine wS Zse [.c 3 3 true,.t 4] ?_
 unfold ZD3 at H
 refine wG [.c 7 (ZXk x1 x2)] fun _=>?_
 replace H:=sI H;subst H
 exact wN [(3,.d),(4,.d)] [(3,[])] [] [] [] []
def ZS1(x1:Vec)(x2:Vec):Vec×Bool :=
 (((Zg2 x1 x2).1),(Zg2 x1 x2).2)
theorem ZQf(x1:Vec)(x2:Vec):ZD3 x1 x2=some (ZS1 x1 x2):=by
 unfold ZD3 ZS1
 first|rfl|simp only[Zl]
theorem ZBe(x1:Vec)(x2:Vec):Snd Tryz.prog Zl1 [eVec x1,.ept (eVec x2) 0] (.tup [eVec ((ZS1 x1 x2).1),.bool ((ZS1 x1 x2).2)]) []:=Z6d (ZQf x1 x2)
def ZZ3:L :=
sR [.bx 4 (.t 0),.al 8 [.nl],.mv 9 (cB false)]
 (sR [mV 20 1,mV 21 2,.bs 22 1 [(.t 20),(.t 21)] true,mV 10 22]
 (.seq (sR [fA 23 4 0,lD 24 23 1 false,.ln 25 (.t 24),.mv 26 (kI 0)]
 (.blk 0 (.loop (.gw (sR [bI 27 .lss 26 25]
 (.seq (.cond (.t 27) .skip
 (.exit 0))
 (.seq (.blk 1 (sR [iA 28 24 26 4,lD 29 28 4 true,.al 12 [.int .i64 0,.int .i64 0,.int .i64 0,.int .i64 0],.st (.t 12) (.t 29) 4]
 (.reg [mV 30 10,fA 31 12 0,lD 32 31 1 false,.bs 33 1 [(.t 32)] false,.ap 34 (.t 30) (.t 33) 1 8,mV 10 34])))
 (.reg [.bi 35 .add (.t 26) (kI 1),mV 26 35]))))))))
 (sR [mV 36 10,.cm 37 ZS [(.t 36)]]
 (sR [.bd 38 [.nl] [],.al 13 [.nl],.st (.t 13) (.t 38) 1]
 (.seq (sR [mV 39 10,.cm 40 Z81 [(.t 39)],.ln 41 (.t 40),.mv 42 (kI 0)]
 (.blk 2 (.loop (.gw (sR [bI 43 .lss 42 41]
 (.seq (.cond (.t 43) .skip
 (.exit 2))
 (.seq (.blk 3 (sR [iA 44 40 42 1,lD 45 44 1 false,mV 15 45]
 (sR [lD 46 4 1 true,mV 47 15,cQ 48 Zp7 [46,47],.al 16 [.int .i64 0,.int .i64 0,.int .i64 0],.st (.t 16) (.t 48) 3]
 (.seq (sR [mV 49 15,mV 50 1,bI 51 .geq 49 50,mV 52 51,.g 52 true (mV 53 15),.g 52 true (mV 54 2),.g 52 true (bI 55 .lss 53 54),.pk 56 (.t 52) (.t 55) (cB false)]
 (.cond (.t 56) (sR [mV 58 3,lD 59 16 3 true,.cc 60 (.t 58) [(.t 59)],mV 57 60,eX 61 57 0,eX 62 57 1,.al 17 [.int .i64 0,.int .i64 0,.int .i64 0],.st (.t 17) (.t 61) 3,mV 18 62]
 (.seq (sR [mV 63 18,.un 64 (.t 63)]
 (.cond (.t 64) (sR [.bd 65 [.nl] [],.st (.t 8) (.t 65) 1,.mv 9 (cB false)]
 gR)
 .skip))
 (.reg [lD 66 17 3 true,.st (.t 16) (.t 66) 3])))
 .skip))
 (.gw (sR [fA 67 13 0,lD 68 67 1 false,.ln 69 (.t 68),mV 19 69]
 (.seq (.rq 13 [mV 70 19,.bi 71 .eql (.t 70) (kI 0),mV 72 71,.g 72 false (fA 73 13 0),.g 72 false (lD 74 73 1 false),.g 72 false (mV 75 19),.g 72 false (.bi 76 .sub (.t 75) (kI 1)),.g 72 false (iA 77 74 76 4),.g 72 false (fA 78 77 1),.g 72 false (lD 79 78 3 true),.g 72 false (lD 80 16 3 true),.g 72 false (.es 81 true [0,0,0] (.t 79) (.t 80)),.pk 82 (.t 72) (cB true) (.t 81)])
 (.cond (.t 82) (.reg [fA 83 13 0,lD 84 83 1 false,mV 85 15,lD 86 16 3 true,.bd 87 [.int .i64 0,.int .i64 0,.int .i64 0,.int .i64 0] [(0,1,(.t 85)),(1,3,(.t 86))],.bs 88 4 [(.t 87)] false,.ap 89 (.t 84) (.t 88) 4 32,fA 90 13 0,.st (.t 90) (.t 89) 1])
 .skip))))))))
 (.reg [.bi 91 .add (.t 42) (kI 1),mV 42 91]))))))))
 (.seq (sR [fA 92 13 0,lD 93 92 1 false,.ln 94 (.t 93),.bi 95 .gtr (.t 94) (kI 200)]
 (.cond (.t 95) (sR [.bd 96 [.nl] [],.st (.t 8) (.t 96) 1,.mv 9 (cB false)]
 gR)
 .skip))
 (sR [lD 97 13 1 true,.st (.t 8) (.t 97) 1,.mv 9 (cB true)]
 gR)))))))
def Zz(v10:(List Pt))(x10:Int)(k10:(List Pt)->Option ((List Pt)×Bool))(v12:Vec):Option ((List Pt)×Bool) :=
 (bif ((v10.length:Int)==0)then some default else(idx v10 (w64 ((v10.length:Int)-1)))).bind fun e13=>bif (((v10.length:Int)==0)||(!(e13.free.a==v12.a&&(e13.free.b==v12.b&&(e13.free.c==v12.c&&true)))))then((appL 32 v10 [(Pt.mk x10 v12)]).bind fun xs15=>k10 xs15)else(k10 v10)
def ZC(p1:List Pt)(from2:Int)(to3:Int)(c4:Vec)(x10:Int)(_:Nat)(v10:(List Pt))(k10:(List Pt)->Option ((List Pt)×Bool)):Option ((List Pt)×Bool) :=
 (Z44 p1 x10).bind fun y11=>bif ((decide (from2<=x10))&&(decide (x10<to3)))then(bif (!(ZS1 y11 c4).2)then(some ([],false))else((Zz v10 x10 k10) ((ZS1 y11 c4).1)))else((Zz v10 x10 k10) y11)
def ZV(v10:(List Pt)):Option ((List Pt)×Bool) :=
 bif (decide (200<(v10.length:Int)))then(some ([],false))else(some (v10,true))
def ZX(x6:Pt)(_:Nat)(v6:(List Int))(k6:(List Int)->Option ((List Pt)×Bool)):Option ((List Pt)×Bool) :=
 (appL 8 v6 [x6.t]).bind fun xs7=>k6 xs7
def ZW(p1:List Pt)(from2:Int)(to3:Int)(c4:Vec)(v6:(List Int)):Option ((List Pt)×Bool) :=
 (ZRl v6).bind fun xs8=>rgl (ZC p1 from2 to3 c4) ZV (Z51 xs8) 0 []
def ZL(p1:List Pt)(from2:Int)(to3:Int)(c4:Vec):Option ((List Pt)×Bool) :=
 rgl ZX (ZW p1 from2 to3 c4) p1 0 [from2,to3]
theorem Z54{p1:List Pt}{from2:Int}{to3:Int}{c4:Vec}{r:(List Pt)×Bool}(H:ZL p1 from2 to3 c4=some r):Snd Tryz.prog ZQ8 [.agg [.sl .rd 4 (p1.map ePt)],.int .i64 from2,.int .i64 to3,.fn Zl1 [.ept (eVec c4) 0]] (.tup [Zg .nw r.1,.bool r.2]) []:=by
 refine wS ZZ3 [.c 8 1 true,.t 9] ?_
 unfold ZL at H
 refine wG [.u 25 (.ln _ _ fun _=>lm p1 ePt)] fun q5=>?_
 refine wR (fun(i6:Nat) (v6:(List Int))=>⟨[(1,.int .i64 from2),(2,.int .i64 to3),(3,.fn Zl1 [.ept (eVec c4) 0]),(4,.ptr 4 0),(8,.ptr 8 0),(10,.sref 22),(24,.sl .rd 4 (p1.map ePt)),(25,.int .i64 (p1.length:Int)),(26,.int .i64 (i6:Int))],[],[(4,[.sl .rd 4 (p1.map ePt)]),(8,[.nl])],[(22,⟨1,v6.map eI,false⟩)]⟩) H (fun i6 x6 v6 I m k6 hxv6 hiv6 H N15=>?_) (fun v6 I m H=>?_)
 .unfold ZX at H
  refine wP ?_
  refine wt (ltT hiv6) ?_
  obtain⟨xs7,h7,H⟩:=bB H
  refine wG [.u 28 (.ix _ _ _ fun _=>Z1 ePt (Z5 hxv6)),.u 34 (.ap _ _ _ _ fun _=>Z6 eI h7),.w 35 (wi .i64 rfl hiv6 q5.1)] fun _=>?_
  exact wT (N15 _ H)
 .unfold ZW at H
  refine wP ?_
  refine wf (ltF p1.length) ?_
  obtain⟨xs8,h8,H⟩:=bB H
  refine wG [.u 37 (.cr ZS 1 _ [] [] false _ (fun _=>ZYc v6) (fun _=>trivial) (fun _=>rfl) (fun _=>ZQl h8)),.u 40 (.cr Z81 1 _ [] [] true _ (fun _=>ZYc xs8) (fun _=>trivial) (fun _=>rfl) (fun _=>Zrj xs8)),.u 41 (.ln _ _ fun _=>lm (Z51 xs8) eI)] fun q9=>?_
  refine Zpc (fun(i10:Nat) (v10:(List Pt))=>⟨[(1,.int .i64 from2),(2,.int .i64 to3),(3,.fn Zl1 [.ept (eVec c4) 0]),(4,.ptr 4 0),(8,.ptr 8 0),(13,.ptr 13 0),(40,.sref 41000),(41,.int .i64 ((Z51 xs8).length:Int)),(42,.int .i64 (i10:Int))],[],[(4,[.sl .rd 4 (p1.map ePt)]),(8,[.nl]),(13,[.sref 117000])],[(117000,⟨4,v10.map ePt,false⟩),(41000,⟨1,(Z51 xs8).map eI,false⟩)]⟩) [] [(13,[.z 117000])] [(117000,(none,4))] [] (by kernel_rfl) (by kernel_rfl) H (fun i10 x10 v10 I m k10 hxv10 hiv10 H N57=>?_) (fun v10 I m H=>?_)
  .unfold ZC at H
   refine wP ?_
   refine wt (ltT hiv10) ?_
   obtain⟨y11,h11,H⟩:=bB H
   refine wG [.u 44 (.ix _ _ _ fun _=>Z1 eI (Z5 hxv10)),.u 45 (.el _ _ _ fun _=>gm eI (Zk1 (Z5 hxv10))),.c 48 (Zha h11)] fun _=>?_
   refine Zqc (r:=r) (Zz v10 x10 k10) 0 (fun v12:Vec=>⟨[(1,.int .i64 from2),(2,.int .i64 to3),(3,.fn Zl1 [.ept (eVec c4) 0]),(4,.ptr 4 0),(8,.ptr 8 0),(13,.ptr 13 0),(15,.int .i64 x10),(16,.ptr 16 0),(40,.sref 41000),(41,.int .i64 ((Z51 xs8).length:Int)),(42,.int .i64 (i10:Int))],[],[(4,[.sl .rd 4 (p1.map ePt)]),(8,[.nl]),(13,[.sref 117000]),(16,(eVec v12).cells)],[(117000,⟨4,v10.map ePt,false⟩),(41000,⟨1,(Z51 xs8).map eI,false⟩)]⟩) (by kernel_rfl) (fun v12 H=>?_) (fun J48=>?_)
   .unfold Zz at H
    obtain⟨e13,h13,H⟩:=bB H
    refine wG [.u 69 (.ln _ _ fun _=>lm v10 ePt),.g 77 [(_,false)] (.ix _ _ _ fun q=>Z1 ePt (bF q.1 h13)),.g 79 [(_,false)] (.el _ _ _ fun q=>gm ePt (Zk1 (bF q.1 h13)))] fun q14=>?_
    refine Z3 H (fun H=>?_) fun H=>?_
    .obtain⟨xs15,h15,H⟩:=bB H
     refine wG [.u 89 (.ap _ _ _ _ fun _=>Z6 ePt h15),.w 91 (wi .i64 rfl hiv10 q9.1)] fun _=>?_
     exact wT (N57 _ H)
    .refine wG [.w 91 (wi .i64 rfl hiv10 q9.1)] fun _=>?_
     exact wT (N57 _ H)
   .refine Z3 H (fun H=>?_) fun H=>?_
    .refine wG [.u 60 (.clsr _ _ _ _ _ (AEs.refl _) (by kernel_rfl) (fun _=>ZBe y11 c4))] fun _=>?_
     refine Z3 H (fun H=>?_) fun H=>?_
     .refine wP ?_
      replace H:=sI H;subst H
      exact wN [(8,.d),(9,.d)] [(8,[.n 4])] [] [] [] [⟨_,ZH2 ([]:List Pt)⟩]
     .refine wP ?_
      exact wT (J48 _ H)
    .refine wP ?_
     exact wT (J48 _ H)
  .unfold ZV at H
   refine wP ?_
   refine wf (ltF (Z51 xs8).length) ?_
   refine wG [.u 94 (.ln _ _ fun _=>lm v10 ePt)] fun q16=>?_
   refine Z3 H (fun H=>?_) fun H=>?_
   .refine wP ?_
    replace H:=sI H;subst H
    exact wN [(8,.d),(9,.d)] [(8,[.n 4])] [] [] [] [⟨_,ZH2 ([]:List Pt)⟩]
   .refine wP ?_
    replace H:=sI H;subst H
    exact wN [(8,.d),(9,.d)] [(8,[.f])] [] [117000] [] [⟨_,ZH2 v10⟩]
def Zah:L :=
sR [.bx 4 (.t 0),.bx 7 (.t 3),.al 8 [.nl],.mv 9 (cB false)]
 (.seq (sR [lD 10 4 1 true,cQ 11 ZU7 [10],.un 12 (.t 11),mV 13 12,.g 13 false (mV 14 1),.g 13 false (mV 15 2),.g 13 false (cQ 16 Z3b [14,15]),.g 13 false (.un 17 (.t 16)),.pk 18 (.t 13) (cB true) (.t 17),mV 19 18,.g 19 false (lD 20 7 3 true),.g 19 false (cQ 21 ZZ [20]),.g 19 false (.un 22 (.t 21)),.pk 23 (.t 19) (cB true) (.t 22)]
 (.cond (.t 23) (sR [.bd 24 [.nl] [],.st (.t 8) (.t 24) 1,.mv 9 (cB false)]
 gR)
 .skip))
 (sR [.fb 7,lD 25 4 1 true,mV 26 1,mV 27 2,.mf 28 Zl1 [(.t 7)],cQ 29 ZQ8 [25,26,27,28],eX 30 29 0,eX 31 29 1,.st (.t 8) (.t 30) 1,mV 9 31]
 gR))
def ZE3(p1:List Pt)(from2:Int)(to3:Int)(v4:Vec):Option ((List Pt)×Bool) :=
 (Zw4 p1).bind fun b5=>bif (((!b5)||(!(Z06 from2 to3)))||(!(Zb v4)))then(some ([],false))else((ZL p1 from2 to3 v4).bind fun y6=>some (y6.1,y6.2))
theorem Zsb{p1:List Pt}{from2:Int}{to3:Int}{v4:Vec}{r:(List Pt)×Bool}(H:ZE3 p1 from2 to3 v4=some r):Snd Tryz.prog Zy2 [.agg [.sl .rd 4 (p1.map ePt)],.int .i64 from2,.int .i64 to3,eVec v4] (.tup [Zg .nw r.1,.bool r.2]) []:=by
 refine wS Zah [.c 8 1 true,.t 9] ?_
 unfold ZE3 at H
 obtain⟨b5,h5,H⟩:=bB H
 refine wG [.c 11 (ZI9 h5),.g 16 [((!b5),false)] (.call _ _ _ _ _ (AEs.refl _) (fun _=>ZTk from2 to3)),.g 21 [(((!b5)||(!(Z06 from2 to3))),false)] (.call _ _ _ _ _ (AEs.refl _) (fun _=>Z41 v4))] fun _=>?_
 refine Z3 H (fun H=>?_) fun H=>?_
 .refine wP ?_
  replace H:=sI H;subst H
  exact wN [(8,.d),(9,.d)] [(8,[.n 4])] [] [] [] [⟨_,ZH2 ([]:List Pt)⟩]
 .obtain⟨y6,h6,H⟩:=bB H
  refine wG [.c 29 (Z54 h6)] fun _=>?_
  replace H:=sI H;subst H
  exact wN [(8,.d),(9,.d)] [(8,[])] [] [] [] [⟨_,ZH2 y6.1⟩]
structure ProfP(p:List Pt):Prop where
 pos:0<p.length
 le:p.length<=200
 zero:∀x,p[0]?=some x->x.t=0
 ok:∀x∈p,time x.t=true/\Z2 x.free=true
 asc:∀(i:Nat) (x y:Pt),p[i]?=some x->p[i+1]?=some y->x.t<y.t/\x.free≠y.free
theorem ZJ9(p:List Pt):Zw4 p=Zz1 p:=by
 have e:(!Z0 (p.length:Int) 1 200)=(decide ((p.length:Int)<1)||decide (200<(p.length:Int))):=by
  unfold Z0
  rw[Bool.eq_iff_iff];simp
 unfold Zw4 Zz1
 rw[e]
 rfl
theorem ZEq(a b:Vec):(a.a==b.a&&(a.b==b.b&&(a.c==b.c&&true)))=decide (a=b):=by
 cases a;cases b
 simp only[Vec.mk.injEq,Bool.and_true]
 rw[Bool.eq_iff_iff]
 simp
theorem ZQb(p:List Pt):∃b,Zz1 p=some b/\(b=true↔ProfP p):=by
 unfold Zz1
 by_cases h1:p.length<1
 .exact⟨false,by simp[show((p.length:Int)<1) by omega],Zx2 fun h=>by have:=h.pos;omega⟩
 by_cases h2:200<p.length
 .exact⟨false,by simp[show((200:Int)<p.length) by omega],Zx2 fun h=>by have:=h.le;omega⟩
 obtain⟨p0,hp0⟩:∃p0,p[0]?=some p0:=⟨_,yA (by omega)⟩
 have e1:decide ((p.length:Int)<1)=false:=by simp;omega
 have e2:decide ((200:Int)<(p.length:Int))=false:=by simp;omega
 rw[e1,e2]
 simp only[Bool.or_self,yM,Bool.false_or,show idx p 0=some p0 from by rw[← hp0];exact Zq (i:=0),bS]
 by_cases h4:p0.t=0
 rotate_left
 .refine⟨false,by rw[show(p0.t != 0)=true by simpa using h4];rfl,Zx2 fun h=>h4 (h.zero _ hp0)⟩
 rw[h4]
 simp only[bne_self_eq_false,yM]
 refine ZG2 (fun i (_:Unit)=>(∀j x,j<i->p[j]?=some x->time x.t=true/\Z2 x.free=true)/\∀j x y,j+1<i->p[j]?=some x->p[j+1]?=some y->x.t<y.t/\x.free≠y.free)
  (fun r=>∃b,r=some b/\(b=true↔ProfP p)) ?_ ?_ ⟨fun j x h=>by omega,fun j x y h=>by omega⟩
 .intro i x _ k hi hI hk
  have hil:=(yB hi).1
  unfold Ze8
  rw[ZQ1]
  cases ht:time x.t with
  |false=>exact⟨false,rfl,Zx2 fun h=>by have:=(h.ok x (yE hi)).1;rw[ht]at this;cases this⟩
  |true =>
  cases hv:Z2 x.free with
  |false=>exact⟨false,rfl,Zx2 fun h=>by have:=(h.ok x (yE hi)).2;rw[hv]at this;cases this⟩
  |true =>
  simp only[yL,Bool.or_self,yM,Bool.false_or,ZEq]
  have new1:∀j y,j<i+1->p[j]?=some y->time y.t=true/\Z2 y.free=true:=by
   intro j y hj hy
   by_cases e:j=i
   .subst e;rw[hi]at hy;cases hy;exact⟨ht,hv⟩
   .exact hI.1 j y (by omega) hy
  by_cases h0:i=0
  .subst h0
   simp only[Int.natCast_zero,Int.lt_irrefl,decide_false,yM,Bool.false_and]
   exact hk () ⟨new1,fun j x y h=>by omega⟩
  .have hgt:decide ((0:Int)<(i:Int))=true:=by simp;omega
   obtain⟨q,hq⟩:∃q,p[i-1]?=some q:=⟨_,yA (by omega)⟩
   rw[hgt,Zqh (by omega) (by omega)]
   simp only[yN,Bool.true_and,Zq,hq,bS]
   by_cases h5:x.t<=q.t
   .simp only[h5,decide_true,yN,Bool.true_or]
    refine⟨false,rfl,Zx2 fun h=>?_⟩
    have:=(h.asc (i-1) q x hq (by rw[show i-1+1=i by omega];exact hi)).1
    omega
   .simp only[h5,decide_false,yM,Bool.false_or,bS]
    by_cases h6:q.free=x.free
    .simp only[h6,decide_true,yN]
     refine⟨false,rfl,Zx2 fun h=>?_⟩
     exact(h.asc (i-1) q x hq (by rw[show i-1+1=i by omega];exact hi)).2 h6
    .simp only[h6,decide_false,yM]
     refine hk () ⟨new1,fun j a b hj ha hb=>?_⟩
     by_cases e:j+1=i
     .have:j=i-1:=by omega
      subst this
      rw[hq]at ha;cases ha
      rw[show i-1+1=i by omega,hi]at hb;cases hb
      exact⟨by omega,h6⟩
     .exact hI.2 j a b (by omega) ha hb
 .intro _ hI
  refine⟨true,rfl,fun _=>⟨by omega,by omega,fun x hx=>by rw[hp0]at hx;cases hx;exact h4,fun x hx=>?_,fun i x y hx hy=>?_⟩,fun _=>rfl⟩
  .obtain⟨j,hj⟩:=List.getElem?_of_mem hx
   exact hI.1 j x (yB hj).1 hj
  .exact hI.2 i x y (yB hy).1 hx hy
noncomputable def profOk(p:List Pt):Bool:=(Zz1 p).getD false
theorem ZK1(p:List Pt):Zz1 p=some (profOk p):=by
 obtain⟨b,h3,_⟩:=ZQb p
 rw[profOk,h3];rfl
theorem Z08{p:List Pt}:profOk p=true↔ProfP p:=by
 obtain⟨b,h3,h4⟩:=ZQb p
 rw[profOk,h3];exact h4
theorem ProfP.lt{p:List Pt}(h:ProfP p):∀(j i:Nat) (x y:Pt),i<j->p[i]?=some x->p[j]?=some y->x.t<y.t:=by
 intro j
 induction j with
 |zero=>intro i x y hij;omega
 |succ j ih =>
  intro i x y hij hx hy
  obtain⟨z,hz⟩:∃z,p[j]?=some z:=⟨_,yA (by have:=(yB hy).1;omega)⟩
  have h1:=(h.asc j z y hz hy).1
  by_cases e:i=j
  .subst e;rw[hz]at hx;cases hx;exact h1
  .have:=ih i x z (by omega) hx hz
   omega
theorem ProfP.asc_times{p:List Pt}(h:ProfP p):(p.map Pt.t).Pairwise (· < ·):=by
 rw[List.pairwise_iff_getElem]
 intro i j hi hj hij
 simp only[List.length_map]at hi hj
 simp only[List.getElem_map]
 exact h.lt j i _ _ hij (yA hi) (yA hj)
def atV(p:List Pt)(t:Int):Vec:=p.foldl (fun v x=>bif decide (x.t<=t)then x.free else v) ⟨0,0,0⟩
theorem Zoa(p:List Pt)(t:Int):ZW7 p t=some (atV p t):=by
 unfold ZW7
 rw[Za3 (f:=fun v (x:Pt)=>bif decide (x.t<=t)then x.free else v) (fun x _ i b k=>by unfold Zp9;cases decide (x.t<=t)<;>rfl)]
 rfl
theorem Zcg(p:List Pt)(t:Int):Z44 p t=some (atV p t):=Zoa p t
theorem Ziu{p:List Pt}(t:Int)(h:∀x∈p,Z2 x.free=true):∀v,Z2 v=true->Z2 (p.foldl (fun v x=>bif decide (x.t<=t)then x.free else v) v)=true:=by
 induction p with
 |nil=>intro v hv;exact hv
 |cons x l ih =>
  intro v hv
  rw[List.foldl_cons]
  refine ih (fun y hy=>h y (yH _ hy)) _ ?_
  cases decide (x.t<=t)with
  |true=>exact h x (yJ ..)
  |false=>exact hv
theorem Zhg{p:List Pt}(h:ProfP p)(t:Int):Z2 (atV p t)=true:=Ziu t (fun x hx=>(h.ok x hx).2) _ (by decide)
theorem Z0w{p:List Pt}(h:(p.map Pt.t).Pairwise (· < ·)){x:Pt}(hx:x∈p):atV p x.t=x.free:=by
 have key:∀(l:List Pt) (v:Vec),(l.map Pt.t).Pairwise (· < ·)->x∈l->l.foldl (fun v y=>bif decide (y.t<=x.t)then y.free else v) v=x.free:=by
  intro l
  induction l with
  |nil=>intro v _ h;cases h
  |cons y l ih =>
   intro v hp hm
   rw[List.foldl_cons]
   rw[List.map_cons,List.pairwise_cons]at hp
   rcases yX hm with rfl|hm
   .rw[show decide (x.t<=x.t)=true by simp,yN]
    have:∀(m:List Pt) (v:Vec),(∀y∈m,x.t<y.t)->m.foldl (fun v y=>bif decide (y.t<=x.t)then y.free else v) v=v:=by
     intro m
     induction m with
     |nil=>intro v _;rfl
     |cons z m ih =>
      intro v hm
      have:=hm z (yJ ..)
      rw[List.foldl_cons,show decide (z.t<=x.t)=false by simp;omega,yM]
      exact ih v fun y hy=>hm y (yH _ hy)
    exact this l _ fun y hy=>hp.1 _ (List.mem_map_of_mem hy)
   .exact ih _ hp.2 hm
 exact key p _ h hx
theorem Zus{p:List Pt}{from_ to_:Int}{f0:Vec}(hp:∀x∈p,x.t=from_->x.free=f0)(hok:∀x∈p,Z2 x.free=true)(h0:Z2 f0=true):∀(v:Vec),Z2 v=true->Zi v f0=v ->
  p.foldl (fun v x=>bif decide (from_<=x.t)&&decide (x.t<to_)then Zi v x.free else v) v=p.foldl (fun v x=>bif decide (from_<x.t)&&decide (x.t<to_)then Zi v x.free else v) v:=by
 induction p with
 |nil=>intro v _ _;rfl
 |cons x l ih =>
  intro v hv hm
  rw[List.foldl_cons,List.foldl_cons]
  have ih:=ih (fun y hy=>hp y (yH _ hy)) (fun y hy=>hok y (yH _ hy))
  by_cases e:x.t=from_
  .rw[show decide (from_<x.t)=false by simp;omega]
   simp only[Bool.false_and,yM]
   have:(bif decide (from_<=x.t)&&decide (x.t<to_)then Zi v x.free else v)=v:=by
    rw[hp x (yJ ..) e,hm]
    cases(decide (from_<=x.t)&&decide (x.t<to_))<;>rfl
   rw[this]
   exact ih v hv hm
  .have e2:decide (from_<=x.t)=decide (from_<x.t):=by rw[Bool.eq_iff_iff];simp;omega
   rw[e2]
   cases(decide (from_<x.t)&&decide (x.t<to_))with
   |false=>exact ih v hv hm
   |true =>
    simp only[yN]
    have hx:=hok x (yJ ..)
    refine ih _ (Z0a hv hx) ?_
    have e:∀x y:Int,ZD x y=min x y:=fun x y=>by unfold ZD;by_cases h:x<y<;>simp[h]<;>omega
    have q:=Z0a hv hx
    have a1:Zi v x.free=⟨min v.a x.free.a,min v.b x.free.b,min v.c x.free.c⟩:=by unfold Zi;simp[hv,hx,e]
    have a2:Zi v f0=⟨min v.a f0.a,min v.b f0.b,min v.c f0.c⟩:=by unfold Zi;simp[hv,h0,e]
    have a3:Zi (Zi v x.free) f0=⟨min (Zi v x.free).a f0.a,min (Zi v x.free).b f0.b,min (Zi v x.free).c f0.c⟩:=by rw[Zi];simp[q,h0,e]
    rw[a3,a1]
    rw[a2]at hm
    have b1:=congrArg Vec.a hm;have b2:=congrArg Vec.b hm;have b3:=congrArg Vec.c hm
    simp only at b1 b2 b3
    simp only[Vec.mk.injEq];omega
def minV(p:List Pt)(from_ to_:Int):Vec:=p.foldl (fun v x=>bif decide (from_<=x.t)&&decide (x.t<to_)then Zi v x.free else v) (atV p from_)
theorem Z65(p:List Pt)(from_ to_:Int):Z63 p from_ to_=some (if profOk p=true/\time from_=true/\time to_=true/\from_<to_ then(minV p from_ to_,true)else(⟨0,0,0⟩,false)):=by
 unfold Z63
 rw[ZK1,bS]
 simp only[ZQ1]
 cases profOk p<;>cases time from_<;>cases time to_<;>try simp
 by_cases h:to_<=from_
 .simp[h,show ¬ from_<to_ by omega]
 .simp only[h,decide_false,yM,show from_<to_ by omega,yb,Zoa,bS]
  rw[Za3 (f:=fun v (x:Pt)=>bif decide (from_<=x.t)&&decide (x.t<to_)then Zi v x.free else v) (fun x _ i b k=>by unfold Zb7;cases(decide (from_<=x.t)&&decide (x.t<to_))<;>rfl)]
  rfl
theorem Zye{p:List Pt}(h:ProfP p)(from_ to_:Int):Zt2 p from_ to_=some (minV p from_ to_):=by
 unfold Zt2 minV
 rw[Zcg,bS]
 rw[Za3 (f:=fun v (x:Pt)=>bif decide (from_<x.t)&&decide (x.t<to_)then Zi v x.free else v) (fun x _ i b k=>by unfold Zv4;rw[Z0l];cases(decide (from_<x.t)&&decide (x.t<to_))<;>rfl)]
 rw[Zus (p:=p) (f0:=atV p from_) (fun x hx e=>by rw[← e,Z0w h.asc_times hx]) (fun x hx=>(h.ok x hx).2) (Zhg h _) _ (Zhg h _) (ZDg (Zhg h _))]
 rfl
end Go.Proofs.YtodafdoninblmaaGreat
