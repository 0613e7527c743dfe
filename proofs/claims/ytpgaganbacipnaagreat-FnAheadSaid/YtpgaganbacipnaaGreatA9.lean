/-
  Lemmas, part 9.
-/
import Derived.Test.YtpgaganbacipnaaGreatA8
import Derived.Sort.Grow
import Derived.Lib.SlicesCompact
import Derived.Shelf.SlSortCmp.NoneTotal
import Derived.Ground.SlsfProg
import Derived.Shelf.Small.Bits
import Derived.Shelf.Strconv.Itoa0
import Derived.Shelf.Sort.Plain
import Derived.Ground.Names2Prog
import Derived.Shelf.Slices.CompactI
import Derived.Shelf.Slices.SearchI
import Derived.Shelf.Slices.Cells
import Derived.Shelf.Slices.In.SortNone
import Derived.Shelf.SlSortCmp.Insertion
import Derived.Shelf.SlSortCmp.SiftDown1
import Derived.Shelf.SlSortCmp.HeapSort1
import Derived.Shelf.SlSortCmp.Insertion1
import Derived.Shelf.SlSortCmp.Median1
import Derived.Shelf.SlSortCmp.Pivot1
import Derived.Shelf.SlSortCmp.ReverseRange1
import Derived.Shelf.SlSortCmp.PartialInsertion1
import Derived.Shelf.SlSortCmp.PartitionEqual1
import Derived.Shelf.SlSortCmp.Partition1
import Derived.Shelf.SlSortCmp.Pdq1
import Derived.Shelf.SlSortCmp.Whole1
import Derived.Test.YtpgaganbacipnaaGreatProg
namespace Go.Proofs.YtpgaganbacipnaaGreat.Eng
open Go Go.RowKit
structure Enc{α:Type}(sz:Nat)(enc:α->AV)(val:α->List Value):Prop where
 len:∀x,(enc x).cells.length=sz
 vlen:∀x,(val x).length=sz
 one:∀x,∀a∈(enc x).cells,a.one=true
 vone:∀x,∀v∈val x,v.oneCell'=true
 rd:∀(w:World) (S:Nat->Nat->Prop) (T:Tag->Nat->Value->Prop) x (j:Nat) (a:AV) (u:Value),(enc x).cells[j]?=some a->(val x)[j]?=some u->Rd w S T a u
 inv:∀(w:World) (S:Nat->Nat->Prop) (T:Tag->Nat->Value->Prop) x (j:Nat) (a:AV) (u v:Value),(enc x).cells[j]?=some a->(val x)[j]?=some u->Rd w S T a v->v=u
theorem Enc.flen{α:Type}{sz:Nat}{enc:α->AV}{val:α->List Value}(E:Enc sz enc val)(zs:List α):(zs.flatMap val).length=zs.length*sz:=by
 induction zs with
 |nil=>simp
 |cons x l ih=>simp only[ya,yU,ih,E.vlen,yT,Nat.succ_mul];omega
theorem Enc.elen{α:Type}{sz:Nat}{enc:α->AV}{val:α->List Value}(E:Enc sz enc val)(zs:List α):(flat (zs.map enc)).length=zs.length*sz:=by
 induction zs with
 |nil=>simp[flat]
 |cons x l ih=>simp only[flat,List.map_cons,ya,yU,yT,Nat.succ_mul]at ih ⊢;rw[ih,E.len];omega
theorem Enc.pair{α:Type}{sz:Nat}{enc:α->AV}{val:α->List Value}(E:Enc sz enc val){zs:List α}:∀{j:Nat} {a:AV} {u:Value},(flat (zs.map enc))[j]?=some a->(zs.flatMap val)[j]?=some u->∃(x:α) (i:Nat),(enc x).cells[i]?=some a/\(val x)[i]?=some u:=by
 induction zs with
 |nil=>intro j a u h;simp[flat]at h
 |cons x l ih =>
  intro j a u h1 h2
  simp only[flat,List.map_cons,ya]at ih h1 h2
  by_cases hj:j<sz
  .rw[yK (by rw[E.len];exact hj)]at h1
   rw[yK (by rw[E.vlen];exact hj)]at h2
   exact⟨x,j,h1,h2⟩
  .rw[yS (by rw[E.len];omega),E.len]at h1
   rw[yS (by rw[E.vlen];omega),E.vlen]at h2
   exact ih h1 h2
theorem Enc.flat_inv{α:Type}{sz:Nat}{enc:α->AV}{val:α->List Value}(E:Enc sz enc val){zs:List α}{w:World}{S:Nat->Nat->Prop}{T:Tag->Nat->Value->Prop}{j:Nat}{a:AV}{u v:Value}(h1:(flat (zs.map enc))[j]?=some a)(h2:(zs.flatMap val)[j]?=some u)(h:Rd w S T a v):v=u:=by
 obtain⟨x,i,q1,q2⟩:=E.pair h1 h2
 exact E.inv w S T x i a u v q1 q2 h
theorem Z1r{α:Type}{sz:Nat}{enc:α->AV}{val:α->List Value}(E:Enc sz enc val){w:World}{S:Nat->Nat->Prop}{T:Tag->Nat->Value->Prop}{zs:List α}{b cap:Nat}{cur:Array Value}{ty:TypeId}(h1:w.heap[b]?=some (.cells cur ty (0,0)))(h2:zs.length<=cap)(h3:cap<=maxLen)
  (h4:cur.size=cap*sz) (h5:cur.toList.take (zs.length*sz)=zs.flatMap val):WE w S T ⟨sz,zs.map enc,false⟩ (.slice (some ⟨b,0,none⟩) zs.length cap):=by
 refine⟨zs.flatMap val,ty,?_,fun e he=>?_,fun j a u ha hu=>?_⟩
 .simp only[List.length_map]
  exact⟨E.flen zs,.inr ⟨b,cap,cur,rfl,Nat.zero_le _,h1,h2,h3,h4,h5⟩⟩
 .obtain⟨x,_,rfl⟩:=yY he;exact E.len x
 .obtain⟨x,i,q1,q2⟩:=E.pair ha hu
  exact⟨E.one x a (yE q1),E.vone x u (yE q2),E.rd _ _ _ x i a u q1 q2⟩
def RowX{α:Type}(P:Program)(f:FuncId)(sz:Nat)(enc:α->AV)(val:α->List Value)(xa:List AV)(zs zs':List α)(ret:Bool):Prop :=
 ∀(w:World) (g:Gh) (n0:Nat) (us:List Value),Heap w g (hSt n0 [] [some ⟨sz,zs.map enc,false⟩])->us.length=xa.length ->
  (∀(i:Nat) (a:AV) (v:Value),xa[i]?=some a->us[i]?=some v->Gv w g (hSt n0 [] [some ⟨sz,zs.map enc,false⟩]) a v) ->
 (zs=[]->Calls P f (.slice none 0 0::us).toArray w fun e w'=>e=.returned (if ret then .slice none 0 0 else .tuple #[])/\w'=w) /\
 ∀(b cap:Nat) (cur:Array Value) (ty:TypeId),w.heap[b]?=some (.cells cur ty (0,0))->zs.length<=cap->cap<=maxLen->cur.size=cap*sz->cur.toList.take (zs.length*sz)=zs.flatMap val->(∀o,¬ g.S b o) ->
  Calls P f (.slice (some ⟨b,0,none⟩) zs.length cap::us).toArray w fun e w'=>e=.returned (if ret then .slice (some ⟨b,0,none⟩) zs'.length cap else .tuple #[]) /\
   ∃cur':Array Value,w'.heap[b]?=some (.cells cur' ty (0,0))/\cur'.size=cap*sz/\cur'.toList.take (zs'.length*sz)=zs'.flatMap val/\zs'.length<=cap /\
    w'.os=w.os/\w'.tape=w.tape/\w'.output=w.output/\w.heap.size<=w'.heap.size/\∀k,k<w.heap.size->k≠b->w'.heap[k]?=w.heap[k]?
theorem M0H{α:Type}{sz:Nat}{enc:α->AV}{val:α->List Value}(E:Enc sz enc val){P:Program}{f:FuncId}{zs zs':List α}{ret:Bool}{xa:List AV}(h0:zs=[]->zs'=[])(hr:ret=false->zs'.length=zs.length)(h:RowX P f sz enc val xa zs zs' ret):X0p P f sz (zs.map enc) xa ret (zs'.map enc):=by
 intro n0 w g vs H hN hl hvs
 match vs,hl with
 |v::us,hl =>
 obtain⟨hnil,hblk⟩:=h w g n0 us H (by simpa using hl) fun i a u ha hu=>hvs (i+1) a u (by simpa using ha) (by simpa using hu)
 have hv:v=g.rv 0:=by
  have q:=hvs 0 _ v rfl rfl
  exact q.sref_inv (by rfl)
 subst hv
 have hrow:=H.rws 0 ⟨sz,zs.map enc,false⟩ rfl
 have hrn:=H.rwn 0 ⟨sz,zs.map enc,false⟩ rfl
 obtain⟨xs,ty,hown,_,hc⟩:=hrow
 have hzl:(zs.map enc).length=zs.length:=by simp
 have fin:∀(v':Value) (w':World) (e:Ending),e=.returned (if ret then v' else .tuple #[])->(ret=false->v'=g.rv 0)->v'.ownBlock=(g.rv 0).ownBlock->v'.oneCell'=true->WE w' g.S g.T ⟨sz,zs'.map enc,false⟩ v'->w'.os=w.os->w'.tape=w.tape->w'.output=w.output->w.heap.size<=w'.heap.size ->
   (∀k,k<w.heap.size->(g.rv 0).ownBlock≠some k->w'.heap[k]?=w.heap[k]?) ->
   ∃v,e=.returned v/\Kept (OwnB g 0 1) w w'/\∃n1 res bout upd new,n0<=n1/\(bout=[]/\(match ret with|true=>res=.sref 1/\upd=[none]/\new=[⟨sz,zs'.map enc,false⟩]|false=>res=.tup []/\upd=[some (zs'.map enc)]/\new=[])) /\
   bout.map List.length=([]:List (List AV)).map List.length/\upd.length=1/\∃g':Gh,(∀b o,g'.S b o->(g.S b o\/w.heap.size<=b\/OwnB g 0 1 b)/\(w.heap.size<=b\/OwnB g 0 1 b->UnfB w' b))/\(∀b,g'.N b->g.N b) /\
   (∀i,i<0->g'.bb i=g.bb i)/\(∀i es,upd[i]?=some (some es)->g'.rv i=g.rv i)/\Heap w' g' (hSt n1 bout (Y6 [⟨sz,zs.map enc,false⟩] upd new)) /\
   (∀(j:Nat) (r:Row),new[j]?=some r->∀b,(g'.rv (1+j)).ownBlock=some b->w.heap.size<=b\/OwnB g 0 1 b) /\
   (∀i,i<n0->g'.ov i=g.ov i)/\(∀i D,n0<=i->g'.ov i=some D->∀b,D b->w.heap.size<=b\/OwnB g 0 1 b) /\
   Gv w' g' (hSt n1 bout (Y6 [⟨sz,zs.map enc,false⟩] upd new)) res v:=by
  intro v' w' e he hv' hb' h1 hro q1 q2 q3 q4 q5
  have hownB:∀b,g.own b->b<w.heap.size/\(g.rv 0).ownBlock≠some b:=fun b hb=>⟨H.ow.size hb,fun q=>H.ow.rw 0 _ rfl b q hb⟩
  have noU:∀b o,g.S b o->(g.S b o\/w.heap.size<=b\/OwnB g 0 1 b)/\(w.heap.size<=b\/OwnB g 0 1 b->UnfB w' b):=fun b o h=>⟨.inl h,fun q=>by
   rcases q with q|⟨i,hi,_⟩|⟨i,hi,e⟩
   .exact absurd (H.sw b o h) (Nat.not_lt.2 q)
   .omega
   .have:i=0:=by omega
    subst this
    exact absurd h ((hrn.2 b e).2 o)⟩
  have hK:Kept (OwnB g 0 1) w w':=⟨q1,q2,q3,q4,fun k hk hno=>q5 k hk fun q=>hno (.inr ⟨0,by omega,q⟩)⟩
  cases ret with
  |false =>
   have hv':=hv' rfl
   subst hv'
   refine⟨.tuple #[],by simpa using he,hK,n0,.tup [],[],[some (zs'.map enc)],[],yV _,⟨rfl,rfl,rfl,rfl⟩,rfl,rfl,g,noU,fun b h=>h,fun i hi=>by omega,fun i es _=>rfl,?_,fun j r h=>by simp at h,fun _ _=>rfl,
    fun i D hi ho=>fun _ _=>absurd (H.ow.lt i D ho) (by simp only[hSt];omega),.tup [] [] rfl fun i a v h=>by simp at h⟩
   have hrw:∀k r,(hSt n0 [] (Y6 [⟨sz,zs.map enc,false⟩] [some (zs'.map enc)] [])).rw k=some r->k=0/\r=⟨sz,zs'.map enc,false⟩:=by
    intro k r hk
    match k with
    |0=>simp[hSt,Y6]at hk;exact⟨rfl,hk.symm⟩
    |k+1=>simp[hSt,Y6]at hk
   refine⟨fun k cs h=>by simp[hSt]at h,fun k cs h=>by simp[hSt]at h,fun k r hk=>?_,fun k r hk=>?_,fun k k' cs cs' h=>by simp[hSt]at h,fun k k' cs r h=>by simp[hSt]at h,fun k k' r r' hk hk' hne=>?_,fun b o h=>Nat.lt_of_lt_of_le (H.sw b o h) q4,?_⟩
   .obtain⟨rfl,rfl⟩:=hrw k r hk;exact hro
   .obtain⟨rfl,rfl⟩:=hrw k r hk;exact⟨rfl,hrn.2⟩
   .obtain⟨rfl,_⟩:=hrw k r hk;obtain⟨rfl,_⟩:=hrw k' r' hk';exact absurd rfl hne
   .refine H.ow.turn rfl (fun _ h=>h) (yV _) (fun b hb=>q5 b (hownB b hb).1 (hownB b hb).2) (fun k cs h=>by simp[hSt]at h) fun k r hk b hb=>?_
    obtain⟨rfl,_⟩:=hrw k r hk
    exact H.ow.rw 0 _ rfl b hb
  |true =>
   refine⟨v',by simpa using he,hK,n0,.sref 1,[],[none],[⟨sz,zs'.map enc,false⟩],yV _,⟨rfl,rfl,rfl,rfl⟩,rfl,rfl,{ g with rv:=fun i=>if i=1 then v' else g.rv i },noU,fun b h=>h,fun i hi=>by omega,fun i es h=>?_,?_,fun j r h b hb=>?_,fun _ _=>rfl,
    fun i D hi ho=>fun _ _=>absurd (H.ow.lt i D ho) (by simp only[hSt];omega),.sref 1 v' h1 fun r hr=>by simp⟩
   .match i with
    |0=>simp at h
    |i+1=>simp at h
   .have hrw:∀k r,(hSt n0 [] (Y6 [⟨sz,zs.map enc,false⟩] [none] [⟨sz,zs'.map enc,false⟩])).rw k=some r->k=1/\r=⟨sz,zs'.map enc,false⟩:=by
     intro k r hk
     match k with
     |0=>simp[hSt,Y6]at hk
     |1=>simp[hSt,Y6]at hk;exact⟨rfl,hk.symm⟩
     |k+2=>simp[hSt,Y6]at hk
    have hT:({ g with rv:=fun i=>if i=1 then v' else g.rv i }:Gh).T=g.T:=Gh.T_eq rfl rfl
    refine⟨fun k cs h=>by simp[hSt]at h,fun k cs h=>by simp[hSt]at h,fun k r hk=>?_,fun k r hk=>?_,fun k k' cs cs' h=>by simp[hSt]at h,fun k k' cs r h=>by simp[hSt]at h,fun k k' r r' hk hk' hne=>?_,fun b o h=>Nat.lt_of_lt_of_le (H.sw b o h) q4,?_⟩
    .obtain⟨rfl,rfl⟩:=hrw k r hk
     rw[hT];exact hro
    .obtain⟨rfl,rfl⟩:=hrw k r hk
     refine⟨rfl,fun b hb=>hrn.2 b ?_⟩
     simp only[yb]at hb
     rw[← hb',hb]
    .obtain⟨rfl,_⟩:=hrw k r hk;obtain⟨rfl,_⟩:=hrw k' r' hk';exact absurd rfl hne
    .refine H.ow.turn rfl (fun _ h=>h) (yV _) (fun b hb=>q5 b (hownB b hb).1 (hownB b hb).2) (fun k cs h=>by simp[hSt]at h) fun k r hk b hb=>?_
     obtain⟨rfl,_⟩:=hrw k r hk
     simp only[yb]at hb
     exact H.ow.rw 0 _ rfl b (by rw[← hb',hb])
   .match j with
    |0 =>
     simp only[Nat.add_zero,yb]at hb
     exact .inr (.inr ⟨0,by omega,by rw[← hb',hb]⟩)
    |j+1=>simp at h
 rcases hown.2 with⟨hv,hn⟩|⟨b,cap,cur,hv,_,hb,hnc,hcm,hcs,htk⟩
 .have hz:zs=[]:=by
   rw[hzl]at hn
   exact List.eq_nil_of_length_eq_zero hn
  subst hz
  have hz':=h0 rfl
  subst hz'
  have:=hnil rfl
  rw[← hv]at this
  refine this.mono fun e w' hw=>?_
  obtain⟨he,rfl⟩:=hw
  refine fin (g.rv 0) w' e (by rw[he]) (fun _=>rfl) rfl (by rw[hv];rfl) ?_ rfl rfl rfl (yV _) fun _ _ _=>rfl
  exact⟨xs,ty,hown,fun e he=>by simp at he,fun j a u ha=>by simp[flat]at ha⟩
 .rw[hzl]at hv hnc
  rw[hzl]at htk
  have hxs:xs=zs.flatMap val:=by
   have hxl:xs.length=zs.length*sz:=by rw[hown.1,hzl]
   have hvl:(zs.flatMap val).length=zs.length*sz:=E.flen zs
   apply List.ext_getElem (by rw[hxl,hvl])
   intro j h1 h2
   have hfl:(flat (zs.map enc)).length=zs.length*sz:=E.elen zs
   have hj:j<(flat (zs.map enc)).length:=by omega
   have q:=(hc j _ xs[j] (yA hj) (yA h1)).2.2
   exact E.flat_inv (yA hj) (yA h2) q
  have:=hblk b cap cur ty hb hnc hcm hcs (by rw[htk,hxs]) (hrn.2 b (by rw[hv];rfl)).2
  rw[← hv]at this
  refine this.mono fun e w' hw=>?_
  obtain⟨he,cur',c1,c2,c3,c4,q1,q2,q3,q4,q5⟩:=hw
  have hrob:=Z1r E (S:=g.S) (T:=g.T) c1 c4 hcm c2 c3
  refine fin (.slice (some ⟨b,0,none⟩) zs'.length cap) w' e he (fun hr'=>by rw[hv,hr hr']) (by rw[hv];rfl) rfl hrob q1 q2 q3 q4 fun k hk hne=>q5 k hk fun e=>hne (by rw[hv,e];rfl)
def i64s(zs:List Int):List AV:=zs.map fun n=>.int .i64 n
def i64v(zs:List Int):List Value:=zs.map fun n=>.int .i64 n
theorem X1A(zs:List Int):flat (i64s zs)=i64s zs:=by
 induction zs with
 |nil=>rfl
 |cons n l ih=>simp only[i64s,flat,List.map_cons,ya,AV.cells]at ih ⊢;rw[ih];rfl
theorem W0d(zs:List Int):noOL (i64s zs):=M7.2 fun a ha=>by
 obtain⟨n,_,rfl⟩:=yY ha
 trivial
def Q1R(P:Program)(f:FuncId)(zs zs':List Int)(ret:Bool):Prop :=
 (∀(w:World),Calls P f #[.slice none 0 0] w fun e w'=>e=.returned (if ret then .slice none 0 0 else .tuple #[])/\w'=w) /\
 ∀(w:World) (b cap:Nat) (cur:Array Value) (ty:TypeId),w.heap[b]?=some (.cells cur ty (0,0))->zs.length<=cap->cap<=maxLen->cur.size=cap->cur.toList.take zs.length=i64v zs ->
  Calls P f #[.slice (some ⟨b,0,none⟩) zs.length cap] w fun e w'=>e=.returned (if ret then .slice (some ⟨b,0,none⟩) zs'.length cap else .tuple #[]) /\
   ∃cur':Array Value,w'.heap[b]?=some (.cells cur' ty (0,0))/\cur'.size=cap/\cur'.toList.take zs'.length=i64v zs'/\zs'.length<=cap /\
    w'.os=w.os/\w'.tape=w.tape/\w'.output=w.output/\w.heap.size<=w'.heap.size/\∀k,k<w.heap.size->k≠b->w'.heap[k]?=w.heap[k]?
theorem J1z:Enc 1 (fun n:Int=>AV.int .i64 n) (fun n=>[Value.int .i64 n]):=by
 have key:∀(x:Int) (j:Nat) (a:AV) (u:Value),(AV.int .i64 x).cells[j]?=some a->[Value.int .i64 x][j]?=some u->a=.int .i64 x/\u=.int .i64 x:=by
  intro x j a u h1 h2
  match j with
  |0=>exact⟨(Option.some.inj h1).symm,(Option.some.inj h2).symm⟩
  |j+1=>simp at h2
 refine⟨fun x=>rfl,fun x=>rfl,fun x a ha=>?_,fun x v hv=>?_,fun w S T x j a u h1 h2=>?_,fun w S T x j a u v h1 h2 h=>?_⟩
 .rw[List.mem_singleton.1 ha];rfl
 .rw[List.mem_singleton.1 hv];rfl
 .obtain⟨rfl,rfl⟩:=key x j a u h1 h2
  exact .int _ _
 .obtain⟨rfl,rfl⟩:=key x j a u h1 h2
  cases h;rfl
theorem X0o(zs:List Int):zs.flatMap (fun n=>[Value.int .i64 n])=i64v zs:=by
 induction zs with
 |nil=>rfl
 |cons n l ih=>rw[ya,ih];rfl
theorem M0J{P:Program}{f:FuncId}{zs zs':List Int}{ret:Bool}(h0:zs=[]->zs'=[])(hr:ret=false->zs'.length=zs.length)(h:Q1R P f zs zs' ret):X0p P f 1 (i64s zs) [] ret (i64s zs'):=by
 refine M0H J1z h0 hr fun w g n0 us _ hl _=>?_
 match us,hl with
 |[],_ =>
 refine⟨fun _=>h.1 w,fun b cap cur ty h1 h2 h3 h4 h5 _=>?_⟩
 have:=h.2 w b cap cur ty h1 h2 h3 (by omega) (by rw[← X0o,← h5,Nat.mul_one])
 simpa only[X0o,Nat.mul_one]using this
theorem M0t{w:World}{b cap:Nat}{cur:Array Value}{ty:TypeId}{zs:List Int}(h1:w.heap[b]?=some (.cells cur ty (0,0)))(h4:cur.size=cap)(h2:zs.length<=cap)(n:Nat)(os:Array Obj) :
  ∃cur':Array Value,(Go.Sort.grow (Go.Sort.putRow (Value.int .i64) (Go.Sort.ahead w n) b 0 zs.toArray) os).heap[b]?=some (.cells cur' ty (0,0))/\cur'.size=cap/\cur'.toList.take zs.length=i64v zs /\
   w.heap.size<=(Go.Sort.grow (Go.Sort.putRow (Value.int .i64) (Go.Sort.ahead w n) b 0 zs.toArray) os).heap.size/\∀k,k<w.heap.size->k≠b->(Go.Sort.grow (Go.Sort.putRow (Value.int .i64) (Go.Sort.ahead w n) b 0 zs.toArray) os).heap[k]?=w.heap[k]?:=by
 have hb:b<w.heap.size:=(Array.getElem?_eq_some_iff.1 h1).1
 have hg:∀k,k<w.heap.size->(Go.Sort.grow (Go.Sort.putRow (Value.int .i64) (Go.Sort.ahead w n) b 0 zs.toArray) os).heap[k]?=(w.heap.modify b (Go.Sort.onCells (Go.Sort.putCells (Value.int .i64) 0 zs.toArray)))[k]?:=by
  intro k hk
  simp only[Go.Sort.grow,Go.Sort.putRow,Go.Sort.mapBlock,Go.Sort.ahead]
  rw[Array.getElem?_append_left (by simpa using hk)]
 refine⟨Go.Sort.putCells (Value.int .i64) 0 zs.toArray cur,?_,?_,?_,?_,fun k hk hne=>?_⟩
 .rw[hg b hb,Array.getElem?_modify];simp only[yb,h1];rfl
 .simp[Go.Sort.putCells,h4]
 .apply List.ext_getElem
  .simp[Go.Sort.putCells,i64v,h4];omega
  .intro j q1 q2
   have hj:j<zs.length:=by simp[i64v]at q2;exact q2
   simp[Go.Sort.putCells,i64v,hj]
 .simp[Go.Sort.grow,Go.Sort.putRow,Go.Sort.mapBlock,Go.Sort.ahead]
 .rw[hg k hk,Array.getElem?_modify,ye (fun e=>hne e.symm)]
theorem Q0P{w:World}{b:Nat}{cur:Array Value}{ty:TypeId}{zs:List Int}(h1:w.heap[b]?=some (.cells cur ty (0,0)))(h5:cur.toList.take zs.length=i64v zs):Go.Sort.Holds (Value.int .i64) w b 0 zs.toArray:=by
 intro j hj
 have hj':j<zs.length:=by simpa using hj
 refine⟨?_,frozen_of_row w b (0+j) cur ty h1⟩
 have hc:cur[j]?=some (.int .i64 zs[j]):=by
  have:=congrArg (·[j]?) h5
  simp only[i64v,yF,List.getElem?_take,hj',yb,yA hj',Option.map_some]at this
  simpa using this
 simp only[World.cell?,h1,Option.isSome_none,yG,yc,Nat.zero_add]
 rw[hc]
 simp[hj']
end Go.Proofs.YtpgaganbacipnaaGreat.Eng
namespace Go.Proofs
open Go.Shelf
def Tryz.lays189_ren:Go.Shelf.Ren:=⟨fun|189=>128|125=>116|257=>202|128=>189|129=>190|294=>234|295=>235|296=>236|297=>237|298=>238|299=>239|216=>240|300=>241|301=>242|328=>256|329=>228|330=>229|331=>257|332=>258|215=>259|343=>273|n=>n,fun|28=>23|3=>3|46=>153|0=>0|51=>216|53=>218|4=>4|183=>210|182=>209|131=>182|5=>5|9=>9|218=>239|222=>243|228=>261|229=>262|n=>n,fun|n=>n⟩
theorem Tryz.lays189:Go.Proofs.Lays.n189 Tryz.prog Tryz.lays189_ren:={
 mixed:=by kernel_rfl
 f125:=Tryz.func116.trans (congrArg some (by kernel_rfl))
 f128:=Tryz.func189.trans (congrArg some (by kernel_rfl))
 f129:=Tryz.func190.trans (congrArg some (by kernel_rfl))
 f189:=Tryz.func128.trans (congrArg some (by kernel_rfl))
 f215:=Tryz.func259.trans (congrArg some (by kernel_rfl))
 f216:=Tryz.func240.trans (congrArg some (by kernel_rfl))
 f257:=Tryz.func202.trans (congrArg some (by kernel_rfl))
 f294:=Tryz.func234.trans (congrArg some (by kernel_rfl))
 f295:=Tryz.func235.trans (congrArg some (by kernel_rfl))
 f296:=Tryz.func236.trans (congrArg some (by kernel_rfl))
 f297:=Tryz.func237.trans (congrArg some (by kernel_rfl))
 f298:=Tryz.func238.trans (congrArg some (by kernel_rfl))
 f299:=Tryz.func239.trans (congrArg some (by kernel_rfl))
 f300:=Tryz.func241.trans (congrArg some (by kernel_rfl))
 f301:=Tryz.func242.trans (congrArg some (by kernel_rfl))
 f328:=Tryz.func256.trans (congrArg some (by kernel_rfl))
 f329:=Tryz.func228.trans (congrArg some (by kernel_rfl))
 f330:=Tryz.func229.trans (congrArg some (by kernel_rfl))
 f331:=Tryz.func257.trans (congrArg some (by kernel_rfl))
 f332:=Tryz.func258.trans (congrArg some (by kernel_rfl))
 f343:=Tryz.func273.trans (congrArg some (by kernel_rfl))
 t0:=Tryz.underlying0
 a0:=Tryz.isAgg0
 z0:=Tryz.sizeOf0
 v0:=Tryz.zeroValue0
 t3:=Tryz.underlying3
 a3:=Tryz.isAgg3
 z3:=Tryz.sizeOf3
 v3:=Tryz.zeroValue3
 t4:=Tryz.underlying4
 a4:=Tryz.isAgg4
 z4:=Tryz.sizeOf4
 v4:=Tryz.zeroValue4
 t5:=Tryz.underlying5
 a5:=Tryz.isAgg5
 z5:=Tryz.sizeOf5
 v5:=Tryz.zeroValue5
 t9:=Tryz.underlying9
 a9:=Tryz.isAgg9
 z9:=Tryz.sizeOf9
 v9:=Tryz.zeroValue9
 t28:=Tryz.underlying23
 a28:=Tryz.isAgg23
 z28:=Tryz.sizeOf23
 v28:=Tryz.zeroValue23
 t46:=Tryz.underlying153
 a46:=Tryz.isAgg153
 z46:=Tryz.sizeOf153
 v46:=Tryz.zeroValue153
 t51:=Tryz.underlying216
 a51:=Tryz.isAgg216
 z51:=Tryz.sizeOf216
 v51:=Tryz.zeroValue216
 t53:=Tryz.underlying218
 a53:=Tryz.isAgg218
 z53:=Tryz.sizeOf218
 v53:=Tryz.zeroValue218
 t131:=Tryz.underlying182
 a131:=Tryz.isAgg182
 z131:=Tryz.sizeOf182
 v131:=Tryz.zeroValue182
 t182:=Tryz.underlying209
 a182:=Tryz.isAgg209
 z182:=Tryz.sizeOf209
 v182:=Tryz.zeroValue209
 t183:=Tryz.underlying210
 a183:=Tryz.isAgg210
 z183:=Tryz.sizeOf210
 v183:=Tryz.zeroValue210
 t218:=Tryz.underlying239
 a218:=Tryz.isAgg239
 z218:=Tryz.sizeOf239
 v218:=Tryz.zeroValue239
 t222:=Tryz.underlying243
 a222:=Tryz.isAgg243
 z222:=Tryz.sizeOf243
 v222:=Tryz.zeroValue243
 t228:=Tryz.underlying261
 a228:=Tryz.isAgg261
 z228:=Tryz.sizeOf261
 v228:=Tryz.zeroValue261
 t229:=Tryz.underlying262
 a229:=Tryz.isAgg262
 z229:=Tryz.sizeOf262
 v229:=Tryz.zeroValue262 }
open Go.Sort Go.RowKit in
theorem Tryz.slices_Sort_int(blk off cap:Nat)(zs:List Int)(w:World)(hH:Holds (Value.int .i64) w blk off zs.toArray)(hblk:blk<w.heap.size)(hsz:zs.length<4611686018427387904) :
  Calls Tryz.prog 128 #[.slice (some ⟨blk,off,none⟩) zs.length cap] w fun e w' =>
   e=.returned (.tuple #[])/\∃n os,w'=grow (putRow (Value.int .i64) (Sort.ahead w n) blk off (zs.mergeSort fun x y=>decide (x<=y)).toArray) os:=Any.slices_Sort_int Tryz.lays189 blk off cap zs w hH hblk hsz
def Tryz.laysNm220_ren:Go.Shelf.Ren:=⟨fun|20=>129|n=>n,fun|22=>23|3=>3|4=>4|0=>0|n=>n,fun|n=>n⟩
theorem Tryz.laysNm220:Go.Proofs.Lays2.n20 Tryz.prog Tryz.laysNm220_ren:={
 mixed:=by kernel_rfl
 f20:=Tryz.func129.trans (congrArg some (by kernel_rfl))
 t0:=Tryz.underlying0
 a0:=Tryz.isAgg0
 z0:=Tryz.sizeOf0
 v0:=Tryz.zeroValue0
 t3:=Tryz.underlying3
 a3:=Tryz.isAgg3
 z3:=Tryz.sizeOf3
 v3:=Tryz.zeroValue3
 t4:=Tryz.underlying4
 a4:=Tryz.isAgg4
 z4:=Tryz.sizeOf4
 v4:=Tryz.zeroValue4
 t22:=Tryz.underlying23
 a22:=Tryz.isAgg23
 z22:=Tryz.sizeOf23
 v22:=Tryz.zeroValue23
 i3:=by kernel_rfl }
open Go.RowKit Go.Lib Go.Sort in
theorem Tryz.slices_Compact_int(blk off cap:Nat)(zs:List Int)(w:World)(hH:Holds (Value.int .i64) w blk off zs.toArray)(hsz:zs.length<=9223372036854775807)(hcap:zs.length<=cap) :
  Calls Tryz.prog 129 #[.slice (some ⟨blk,off,none⟩) zs.length cap] w fun e w'=>e=.returned (.slice (some ⟨blk,off,none⟩) (Lib.compact zs).length cap)/\∃q,w'=putRow (Value.int .i64) (Sort.ahead w q) blk off (Lib.compact zs++List.replicate (zs.length-(Lib.compact zs).length) 0).toArray:=Any.slices_Compact_int Tryz.laysNm220 blk off cap zs w hH hsz hcap
open Go.RowKit Go.Lib Go.Sort in
theorem Tryz.slices_Compact_int_empty(a:Option Addr)(cap:Nat)(w:World) :
  Calls Tryz.prog 129 #[.slice a 0 cap] w fun e w'=>e=.returned (.slice a 0 cap)/\w'=w:=Any.slices_Compact_int_empty Tryz.laysNm220 a cap w
open Go.RowKit Go.Sort in
theorem Tryz.slices_Sort_int_none(p:Option Addr)(cap:Nat)(w:World) :
  Calls Tryz.prog 128 #[.slice p 0 cap] w fun e w'=>e=.returned (.tuple #[])/\w'=w:=Any.slices_Sort_int_none Tryz.lays189 p cap w
def Tryz.laysSlF6_f206_ren:Go.Shelf.Ren:=⟨fun|6=>206|15=>116|14=>243|28=>189|29=>190|20=>260|21=>261|22=>262|23=>263|24=>264|25=>265|26=>266|27=>267|46=>274|47=>228|48=>229|49=>275|50=>276|57=>285|n=>n,fun|22=>23|24=>3|25=>233|3=>3|39=>153|0=>0|53=>216|55=>218|4=>4|46=>210|45=>209|50=>182|5=>5|9=>9|66=>239|70=>243|76=>261|77=>262|n=>n,fun|n=>n⟩
def Tryz.sortFI_ren:Go.Shelf.Ren:=⟨fun|6=>206|15=>116|14=>243|28=>189|29=>190|20=>260|21=>261|22=>262|23=>263|24=>264|25=>265|26=>266|27=>267|46=>274|47=>228|48=>229|49=>275|50=>276|57=>285|n=>n,fun|22=>23|24=>3|25=>233|3=>3|39=>153|0=>0|53=>216|55=>218|4=>4|46=>210|45=>209|50=>182|5=>5|9=>9|66=>239|70=>243|76=>261|77=>262|n=>n,fun|n=>n⟩
theorem Tryz.sortFI:Go.Proofs.SlLaysF.n6 Tryz.prog Tryz.sortFI_ren:={
 mixed:=by kernel_rfl
 f6:=⟨Tryz.f206.name,by decide,Tryz.func206.trans (congrArg some (by kernel_rfl))⟩
 f14:=⟨Tryz.f243.name,by decide,Tryz.func243.trans (congrArg some (by kernel_rfl))⟩
 f15:=Tryz.func116.trans (congrArg some (by kernel_rfl))
 f20:=⟨Tryz.f260.name,by decide,Tryz.func260.trans (congrArg some (by kernel_rfl))⟩
 f21:=⟨Tryz.f261.name,by decide,Tryz.func261.trans (congrArg some (by kernel_rfl))⟩
 f22:=⟨Tryz.f262.name,by decide,Tryz.func262.trans (congrArg some (by kernel_rfl))⟩
 f23:=⟨Tryz.f263.name,by decide,Tryz.func263.trans (congrArg some (by kernel_rfl))⟩
 f24:=⟨Tryz.f264.name,by decide,Tryz.func264.trans (congrArg some (by kernel_rfl))⟩
 f25:=⟨Tryz.f265.name,by decide,Tryz.func265.trans (congrArg some (by kernel_rfl))⟩
 f26:=⟨Tryz.f266.name,by decide,Tryz.func266.trans (congrArg some (by kernel_rfl))⟩
 f27:=⟨Tryz.f267.name,by decide,Tryz.func267.trans (congrArg some (by kernel_rfl))⟩
 f28:=Tryz.func189.trans (congrArg some (by kernel_rfl))
 f29:=Tryz.func190.trans (congrArg some (by kernel_rfl))
 f46:=⟨Tryz.f274.name,by decide,Tryz.func274.trans (congrArg some (by kernel_rfl))⟩
 f47:=Tryz.func228.trans (congrArg some (by kernel_rfl))
 f48:=Tryz.func229.trans (congrArg some (by kernel_rfl))
 f49:=⟨Tryz.f275.name,by decide,Tryz.func275.trans (congrArg some (by kernel_rfl))⟩
 f50:=⟨Tryz.f276.name,by decide,Tryz.func276.trans (congrArg some (by kernel_rfl))⟩
 f57:=⟨Tryz.f285.name,by decide,Tryz.func285.trans (congrArg some (by kernel_rfl))⟩
 t0:=Tryz.underlying0
 a0:=Tryz.isAgg0
 z0:=Tryz.sizeOf0
 v0:=Tryz.zeroValue0
 t3:=Tryz.underlying3
 a3:=Tryz.isAgg3
 z3:=Tryz.sizeOf3
 v3:=Tryz.zeroValue3
 t4:=Tryz.underlying4
 a4:=Tryz.isAgg4
 z4:=Tryz.sizeOf4
 v4:=Tryz.zeroValue4
 t5:=Tryz.underlying5
 a5:=Tryz.isAgg5
 z5:=Tryz.sizeOf5
 v5:=Tryz.zeroValue5
 t9:=Tryz.underlying9
 a9:=Tryz.isAgg9
 z9:=Tryz.sizeOf9
 v9:=Tryz.zeroValue9
 t22:=Tryz.underlying23
 a22:=Tryz.isAgg23
 z22:=Tryz.sizeOf23
 v22:=Tryz.zeroValue23
 a24:=Tryz.isAgg3
 z24:=Tryz.sizeOf3
 t25:=Tryz.underlying233
 a25:=Tryz.isAgg233
 z25:=Tryz.sizeOf233
 v25:=Tryz.zeroValue233
 t39:=Tryz.underlying153
 a39:=Tryz.isAgg153
 z39:=Tryz.sizeOf153
 v39:=Tryz.zeroValue153
 t45:=Tryz.underlying209
 a45:=Tryz.isAgg209
 z45:=Tryz.sizeOf209
 v45:=Tryz.zeroValue209
 t46:=Tryz.underlying210
 a46:=Tryz.isAgg210
 z46:=Tryz.sizeOf210
 v46:=Tryz.zeroValue210
 t50:=Tryz.underlying182
 a50:=Tryz.isAgg182
 z50:=Tryz.sizeOf182
 v50:=Tryz.zeroValue182
 t53:=Tryz.underlying216
 a53:=Tryz.isAgg216
 z53:=Tryz.sizeOf216
 v53:=Tryz.zeroValue216
 t55:=Tryz.underlying218
 a55:=Tryz.isAgg218
 z55:=Tryz.sizeOf218
 v55:=Tryz.zeroValue218
 t66:=Tryz.underlying239
 a66:=Tryz.isAgg239
 z66:=Tryz.sizeOf239
 v66:=Tryz.zeroValue239
 t70:=Tryz.underlying243
 a70:=Tryz.isAgg243
 z70:=Tryz.sizeOf243
 v70:=Tryz.zeroValue243
 t76:=Tryz.underlying261
 a76:=Tryz.isAgg261
 z76:=Tryz.sizeOf261
 v76:=Tryz.zeroValue261
 t77:=Tryz.underlying262
 a77:=Tryz.isAgg262
 z77:=Tryz.sizeOf262
 v77:=Tryz.zeroValue262 }
def Tryz.sortFJ_ren:Go.Shelf.Ren:=⟨fun|6=>247|15=>116|14=>271|28=>189|29=>190|20=>277|21=>278|22=>279|23=>280|24=>281|25=>282|26=>283|27=>284|46=>286|47=>228|48=>229|49=>287|50=>288|57=>289|n=>n,fun|22=>30|24=>36|25=>256|3=>3|39=>153|0=>0|53=>216|55=>218|4=>4|46=>210|45=>209|50=>182|5=>5|9=>9|66=>239|70=>243|76=>261|77=>262|n=>n,fun|n=>n⟩
theorem Tryz.sortFJ:Go.Proofs.SlLaysF0.n6 Tryz.prog Tryz.sortFJ_ren:={
 mixed:=by kernel_rfl
 f6:=⟨Tryz.f247.name,by decide,Tryz.func247.trans (congrArg some (by kernel_rfl))⟩
 f14:=⟨Tryz.f271.name,by decide,Tryz.func271.trans (congrArg some (by kernel_rfl))⟩
 f15:=Tryz.func116.trans (congrArg some (by kernel_rfl))
 f20:=⟨Tryz.f277.name,by decide,Tryz.func277.trans (congrArg some (by kernel_rfl))⟩
 f21:=⟨Tryz.f278.name,by decide,Tryz.func278.trans (congrArg some (by kernel_rfl))⟩
 f22:=⟨Tryz.f279.name,by decide,Tryz.func279.trans (congrArg some (by kernel_rfl))⟩
 f23:=⟨Tryz.f280.name,by decide,Tryz.func280.trans (congrArg some (by kernel_rfl))⟩
 f24:=⟨Tryz.f281.name,by decide,Tryz.func281.trans (congrArg some (by kernel_rfl))⟩
 f25:=⟨Tryz.f282.name,by decide,Tryz.func282.trans (congrArg some (by kernel_rfl))⟩
 f26:=⟨Tryz.f283.name,by decide,Tryz.func283.trans (congrArg some (by kernel_rfl))⟩
 f27:=⟨Tryz.f284.name,by decide,Tryz.func284.trans (congrArg some (by kernel_rfl))⟩
 f28:=Tryz.func189.trans (congrArg some (by kernel_rfl))
 f29:=Tryz.func190.trans (congrArg some (by kernel_rfl))
 f46:=⟨Tryz.f286.name,by decide,Tryz.func286.trans (congrArg some (by kernel_rfl))⟩
 f47:=Tryz.func228.trans (congrArg some (by kernel_rfl))
 f48:=Tryz.func229.trans (congrArg some (by kernel_rfl))
 f49:=⟨Tryz.f287.name,by decide,Tryz.func287.trans (congrArg some (by kernel_rfl))⟩
 f50:=⟨Tryz.f288.name,by decide,Tryz.func288.trans (congrArg some (by kernel_rfl))⟩
 f57:=⟨Tryz.f289.name,by decide,Tryz.func289.trans (congrArg some (by kernel_rfl))⟩
 t0:=Tryz.underlying0
 a0:=Tryz.isAgg0
 z0:=Tryz.sizeOf0
 v0:=Tryz.zeroValue0
 t3:=Tryz.underlying3
 a3:=Tryz.isAgg3
 z3:=Tryz.sizeOf3
 v3:=Tryz.zeroValue3
 t4:=Tryz.underlying4
 a4:=Tryz.isAgg4
 z4:=Tryz.sizeOf4
 v4:=Tryz.zeroValue4
 t5:=Tryz.underlying5
 a5:=Tryz.isAgg5
 z5:=Tryz.sizeOf5
 v5:=Tryz.zeroValue5
 t9:=Tryz.underlying9
 a9:=Tryz.isAgg9
 z9:=Tryz.sizeOf9
 v9:=Tryz.zeroValue9
 t22:=Tryz.underlying30
 a22:=Tryz.isAgg30
 z22:=Tryz.sizeOf30
 v22:=Tryz.zeroValue30
 t25:=Tryz.underlying256
 a25:=Tryz.isAgg256
 z25:=Tryz.sizeOf256
 v25:=Tryz.zeroValue256
 t39:=Tryz.underlying153
 a39:=Tryz.isAgg153
 z39:=Tryz.sizeOf153
 v39:=Tryz.zeroValue153
 t45:=Tryz.underlying209
 a45:=Tryz.isAgg209
 z45:=Tryz.sizeOf209
 v45:=Tryz.zeroValue209
 t46:=Tryz.underlying210
 a46:=Tryz.isAgg210
 z46:=Tryz.sizeOf210
 v46:=Tryz.zeroValue210
 t50:=Tryz.underlying182
 a50:=Tryz.isAgg182
 z50:=Tryz.sizeOf182
 v50:=Tryz.zeroValue182
 t53:=Tryz.underlying216
 a53:=Tryz.isAgg216
 z53:=Tryz.sizeOf216
 v53:=Tryz.zeroValue216
 t55:=Tryz.underlying218
 a55:=Tryz.isAgg218
 z55:=Tryz.sizeOf218
 v55:=Tryz.zeroValue218
 t66:=Tryz.underlying239
 a66:=Tryz.isAgg239
 z66:=Tryz.sizeOf239
 v66:=Tryz.zeroValue239
 t70:=Tryz.underlying243
 a70:=Tryz.isAgg243
 z70:=Tryz.sizeOf243
 v70:=Tryz.zeroValue243
 t76:=Tryz.underlying261
 a76:=Tryz.isAgg261
 z76:=Tryz.sizeOf261
 v76:=Tryz.zeroValue261
 t77:=Tryz.underlying262
 a77:=Tryz.isAgg262
 z77:=Tryz.sizeOf262
 v77:=Tryz.zeroValue262 }
end Go.Proofs
namespace Go.Proofs.YtpgaganbacipnaaGreat
open Go Go.RowKit Eng
section
def J0s(zs:List Int):List Int:=zs.mergeSort fun x y=>decide (x<=y)
def Y12(zs:List Int):Option (List Int):=if zs.length<4611686018427387904 then some (J0s zs)else none
def Q6(zs:List Int):List Int:=Lib.compact zs
theorem V1g:Q6 []=[]:=by simp[Q6,Lib.compact,Lib.compactUpTo]
theorem U1g(zs:List Int):(Q6 zs).length<=zs.length:=by
 simp only[Q6,Lib.compact,Lib.compactUpTo,List.length_map]
 exact Nat.le_trans (List.length_filter_le ..) (by simp)
theorem U0J(zs:List Int):(J0s zs).length=zs.length:=by simp[J0s]
theorem Z12{zs r:List Int}(h:Y12 zs=some r):X0p Tryz.prog Of 1 (zs.map eI) [] false (r.map eI):=by
 unfold Y12 at h
 split at h
 .rename_i hl
  cases h
  refine M0J (zs:=zs) (zs':=J0s zs) (fun e=>by subst e;simp[J0s]) (fun _=>U0J zs) ⟨fun w=>?_,fun w b cap cur ty h1 h2 h3 h4 h5=>?_⟩
  .exact(Tryz.slices_Sort_int_none none 0 w).mono fun e w' h=>⟨by simp[h.1],h.2⟩
  .refine(Tryz.slices_Sort_int b 0 cap zs w (Q0P h1 h5) (Array.getElem?_eq_some_iff.1 h1).1 hl).mono fun e w' h=>?_
   obtain⟨he,n,os,hw⟩:=h
   rw[hw]
   obtain⟨cur',q1,q2,q3,q4,q5⟩:=M0t (zs:=J0s zs) h1 h4 (by rw[U0J];exact h2) n os
   exact⟨by simp[he],cur',q1,q2,q3,by rw[U0J];exact h2,rfl,rfl,rfl,q4,q5⟩
 .cases h
theorem Q0Q(zs:List Int):X0p Tryz.prog Qi 1 (zs.map eI) [] true ((Q6 zs).map eI):=by
 refine M0J (zs:=zs) (zs':=Q6 zs) (fun e=>by subst e;exact V1g) (fun h=>by cases h) ⟨fun w=>?_,fun w b cap cur ty h1 h2 h3 h4 h5=>?_⟩
 .exact(Tryz.slices_Compact_int_empty none 0 w).mono fun e w' h=>⟨by simp[h.1],h.2⟩
 .refine(Tryz.slices_Compact_int b 0 cap zs w (Q0P h1 h5) (by simp only[maxLen]at h3;omega) h2).mono fun e w' h=>?_
  obtain⟨he,q,hw⟩:=h
  rw[hw]
  have hcl:=U1g zs
  have e0:(Lib.compact zs++List.replicate (zs.length-(Lib.compact zs).length) 0).length=zs.length:=by
   rw[yU,List.length_replicate];unfold Q6 at hcl;omega
  obtain⟨cur',q1,q2,q3,q4,q5⟩:=M0t (zs:=Lib.compact zs++List.replicate (zs.length-(Lib.compact zs).length) 0) h1 h4 (by rw[e0];exact h2) q #[]
  rw[Go.Sort.grow_empty]at q1 q4 q5
  refine⟨by simp[he,Q6],cur',q1,q2,?_,by omega,rfl,rfl,rfl,q4,q5⟩
  have:=congrArg (·.take (Q6 zs).length) q3
  simp only[List.take_take,i64v,← List.map_take]at this
  rw[e0,Nat.min_eq_left hcl]at this
  rw[this,i64v]
  congr 1
  exact List.take_left
section
variable{α β γ σ:Type}
theorem X5{n:Int}(h:-9223372036854775808<=n/\n<=9223372036854775807):w64 n=n:=O1h h.1 h.2
theorem O0i{n:Nat}(h:n<9223372036854775807):w64 ((n:Int)+1)=((n+1:Nat):Int):=by rw[X5 (by omega)];omega
theorem Q0H{n:Nat}(h0:0<n)(h:n<=9223372036854775807):w64 ((n:Int)-1)=((n-1:Nat):Int):=by rw[X5 (by omega)];omega
theorem L6{l:List α}{i:Nat}:idx l (i:Int)=l[i]?:=by simp[idx]
theorem Qf{l:List α}{i:Int}(h0:0<=i)(h:i<l.length):∃x,idx l i=some x/\l[i.toNat]?=some x:=by
 have:i.toNat<l.length:=by omega
 exact⟨l[i.toNat],by simp[idx,h0,this],by simp[this]⟩
theorem M0{bs:Nat}{l m:List α}(h:(l.length+m.length)*bs<=140737488355328):appL bs l m=some (l++m):=by simp[appL,h]
theorem Ui{p:Prop}(h:¬ p):(false=true↔p):=by simp[h]
@[simp] theorem Q22 {c:Bool}{a b:Option α}{f:α->Option β}:(bif c then a else b).bind f=bif c then a.bind f else b.bind f:=by cases c<;>rfl
theorem M12{α2 β2:Type}{bd:α->Nat->β->(β->Option γ)->Option γ}{kk:β->Option γ}{bd2:α2->Nat->β2->(β2->Option γ)->Option γ}{kk2:β2->Option γ}
  (R:Nat->β->β2->Prop) {l0:List α} {m0:List α2} (hl:l0.length=m0.length)
  (h:∀i x y b c (k:β->Option γ) (k2:β2->Option γ),l0[i]?=some x->m0[i]?=some y->R i b c->(∀b' c',R (i+1) b' c'->k b'=k2 c')->bd x i b k=bd2 y i c k2)
  (hk:∀b c,R l0.length b c->kk b=kk2 c) {b:β} {c:β2} (h0:R 0 b c):rgl bd kk l0 0 b=rgl bd2 kk2 m0 0 c:=by
 have key:∀(n i:Nat) (b:β) (c:β2),l0.length-i=n->i<=l0.length->R i b c->rgl bd kk (l0.drop i) i b=rgl bd2 kk2 (m0.drop i) i c:=by
  intro n
  induction n with
  |zero =>
   intro i b c hn hi hr
   have:i=l0.length:=by omega
   subst this
   rw[List.drop_length,hl,List.drop_length]
   exact hk b c (by simpa using hr)
  |succ n ih =>
   intro i b c hn hi hr
   have h1:i<l0.length:=by omega
   have h2:i<m0.length:=by omega
   rw[List.drop_eq_getElem_cons h1,List.drop_eq_getElem_cons h2,rgl,rgl]
   exact h i _ _ b c _ _ (yA h1) (yA h2) hr fun b' c' hr'=>ih (i+1) b' c' (by omega) (by omega) hr'
 have:=key l0.length 0 b c (by simp) (Nat.zero_le _) h0
 simpa using this
theorem U07{bd bd2:α->Nat->β->(β->Option γ)->Option γ}{kk kk2:β->Option γ}{l:List α}{b:β}
  (h:∀i x b (k:β->Option γ),l[i]?=some x->bd x i b k=bd2 x i b k) (hk:∀b,kk b=kk2 b):rgl bd kk l 0 b=rgl bd2 kk2 l 0 b :=
 M12 (fun _ b c=>b=c) rfl (fun i x y b c k k2 hx hy hr hkk=>by
  subst hr;rw[hx]at hy;cases hy
  rw[h i x b k hx]
  congr 1
  funext b'
  exact hkk b' b' rfl) (fun b c hr=>by subst hr;exact hk b) rfl
theorem Y8{bd:α->Nat->β->(β->Option γ)->Option γ}{kk:β->Option γ}(I:Nat->β->Prop)(Q:Option γ->Prop){l0:List α}
  (h:∀i x b (k:β->Option γ),l0[i]?=some x->I i b->(∀b',I (i+1) b'->Q (k b'))->Q (bd x i b k)) (hk:∀b,I l0.length b->Q (kk b)) {b:β} (h0:I 0 b):Q (rgl bd kk l0 0 b):=by
 have key:∀(n i:Nat) (b:β),l0.length-i=n->i<=l0.length->I i b->Q (rgl bd kk (l0.drop i) i b):=by
  intro n
  induction n with
  |zero =>
   intro i b hn hi hr
   have:i=l0.length:=by omega
   subst this
   rw[List.drop_length]
   exact hk b hr
  |succ n ih =>
   intro i b hn hi hr
   have h1:i<l0.length:=by omega
   rw[List.drop_eq_getElem_cons h1,rgl]
   exact h i _ b _ (yA h1) hr fun b' hr'=>ih (i+1) b' (by omega) (by omega) hr'
 have:=key l0.length 0 b (by simp) (Nat.zero_le _) h0
 simpa using this
theorem Qr{bd:α->Nat->β->(β->Option γ)->Option γ}{kk:β->Option γ}{f:β->α->β}:∀{l:List α} {i:Nat} {b:β},(∀x∈l,∀i b k,bd x i b k=k (f b x))->rgl bd kk l i b=kk (l.foldl f b)
 |[],_,_,_=>rfl
 |x::l,i,b,h=>by
  rw[rgl,h x (yJ ..),List.foldl_cons]
  exact Qr fun y hy=>h y (yH _ hy)
theorem Wj{bd:α->Nat->Unit->(Unit->Option γ)->Option γ}{kk:Unit->Option γ}{p:α->Bool}{r:Option γ}:∀{l:List α} {i:Nat},(∀x∈l,∀i k,bd x i () k=bif p x then r else k ())->rgl bd kk l i ()=bif l.any p then r else kk ()
 |[],_,_=>rfl
 |x::l,i,h=>by
  rw[rgl,h x (yJ ..),Wj fun y hy=>h y (yH _ hy),List.any_cons]
  cases p x<;>rfl
theorem L1v{α2:Type}{bd:α->Nat->β->(β->Option γ)->Option γ}{kk:β->Option γ}{f:α2->α}:∀{l:List α2} {i:Nat} {b:β},rgl bd kk (l.map f) i b=rgl (fun x=>bd (f x)) kk l i b
 |[],_,_=>rfl
 |x::l,i,b=>by
  rw[List.map_cons,rgl,rgl]
  congr 1
  funext b'
  exact L1v
theorem U5{bs:Nat}{bd:α->Nat->List β->(List β->Option γ)->Option γ}{kk:List β->Option γ}{p:α->Bool}{f:α->β}:∀{l:List α} {i:Nat} {acc:List β},
  (∀x∈l,∀i b k,bd x i b k=bif p x then(appL bs b [f x]).bind k else k b)->(acc.length+l.length)*bs<=140737488355328->rgl bd kk l i acc=kk (acc++(l.filter p).map f)
 |[],_,acc,_,_=>by simp[rgl]
 |x::l,i,acc,h,hb=>by
  rw[rgl,h x (yJ ..)]
  have hb1:(acc.length+1+l.length)*bs<=140737488355328:=by simpa[Nat.add_assoc,Nat.add_comm 1]using hb
  cases hp:p x with
  |true =>
   have:(acc.length+1)*bs<=(acc.length+1+l.length)*bs:=Nat.mul_le_mul_right _ (by omega)
   rw[yN,M0 (by simp;omega),bS,U5 (fun y hy=>h y (yH _ hy)) (by simpa using hb1)]
   simp[hp]
  |false =>
   have:(acc.length+l.length)*bs<=(acc.length+1+l.length)*bs:=Nat.mul_le_mul_right _ (by omega)
   rw[yM,U5 (fun y hy=>h y (yH _ hy)) (by omega)]
   simp[hp]
theorem W0i{bd:β->(β->Option γ)->Option γ}(mk:Nat->σ->β){B:Nat->Nat->σ->(σ->Option γ)->Option γ}{kk:σ->Option γ}{n:Nat}
  (h1:∀i st k,i<n->bd (mk i st) k=B i i st fun st'=>k (mk (i+1) st')) (h2:∀i st k,n<=i->bd (mk i st) k=kk st):∀(fuel i:Nat) (st:σ),n-i<fuel->whl bd fuel (mk i st)=rgl B kk (List.range' i (n-i)) i st
 |0,i,st,h=>by omega
 |fuel+1,i,st,h=>by
  rw[whl]
  by_cases hi:i<n
  .rw[h1 i st _ hi,show n-i=n-(i+1)+1 by omega,List.range'_succ,rgl]
   congr 1
   funext st'
   exact W0i mk h1 h2 fuel (i+1) st' (by omega)
  .rw[h2 i st _ (by omega),show n-i=0 by omega]
   rfl
theorem QN{bd:β->(β->Option γ)->Option γ}(Q:β->Option γ->Prop)(m:β->Nat)(I:β->Prop)(h:∀b (k:β->Option γ),I b->(∀b',I b'->m b'<m b->Q b' (k b'))->Q b (bd b k)):∀(fuel:Nat) (b:β),I b->m b<fuel->Q b (whl bd fuel b)
 |0,_,_,h=>by omega
 |fuel+1,b,hI,hm=>by
  rw[whl]
  exact h b _ hI fun b' hI' hlt=>QN Q m I h fuel b' hI' (by omega)
end
end
noncomputable def V0T:L :=
 lf Tryz.prog Z01 [] [] [] [] [] [] []
def LK(n1:Int):Option Bool :=
 some ((decide (0<=n1))&&(decide (n1<=1000000)))
theorem W0B{n1:Int}{r:Bool}(H:LK n1=some r):Snd Tryz.prog Z01 [iV n1] (.bool r) []:=by
 refine wS V0T [.t 2] ?_
 unfold LK at H
 obtain rfl:=sI H
 exact wP (wE [(2,.d)])
def Z8(n1:Int):Bool :=
 ((decide (0<=n1))&&(decide (n1<=1000000)))
theorem U11(n1:Int):LK n1=some (Z8 n1):=by
 unfold LK Z8
 first|rfl|simp only[O5]
theorem OT(n1:Int):Snd Tryz.prog Z01 [iV n1] (.bool (Z8 n1)) []:=W0B (U11 n1)
noncomputable def J0M:L :=
 lf Tryz.prog MV [] [] [] [] [] [] []
def LE(n1:Int):Option Bool :=
 some ((decide (0<=n1))&&(decide (n1<=1000000000)))
theorem Q0s{n1:Int}{r:Bool}(H:LE n1=some r):Snd Tryz.prog MV [iV n1] (.bool r) []:=by
 refine wS J0M [.t 2] ?_
 unfold LE at H
 obtain rfl:=sI H
 exact wP (wE [(2,.d)])
def M2(n1:Int):Bool :=
 ((decide (0<=n1))&&(decide (n1<=1000000000)))
theorem W0R(n1:Int):LE n1=some (M2 n1):=by
 unfold LE M2
 first|rfl|simp only[O5]
theorem Z7(n1:Int):Snd Tryz.prog MV [iV n1] (.bool (M2 n1)) []:=Q0s (W0R n1)
noncomputable def V15:L :=
 lf Tryz.prog W0a [] [] [] [] [] [] []
def OR(v1:Vec):Option Bool :=
 some (((Z8 v1.a)&&(Z8 v1.b))&&(Z8 v1.c))
theorem X0J{v1:Vec}{r:Bool}(H:OR v1=some r):Snd Tryz.prog W0a [eVec v1] (.bool r) []:=by
 refine wS V15 [.t 2] ?_
 unfold OR at H
 refine wG [.c 5 (OT v1.a),.g 9 [((Z8 v1.a),true)] (.call _ _ _ _ _ (AEs.refl _) (fun _=>OT v1.b)),.g 14 [(((Z8 v1.a)&&(Z8 v1.b)),true)] (.call _ _ _ _ _ (AEs.refl _) (fun _=>OT v1.c))] fun _=>?_
 replace H:=sI H;subst H
 exact wE [(2,.d)]
def W0(v1:Vec):Bool :=
 (((Z8 v1.a)&&(Z8 v1.b))&&(Z8 v1.c))
theorem J1a(v1:Vec):OR v1=some (W0 v1):=by
 unfold OR W0
 first|rfl|simp only[O5]
theorem J4(v1:Vec):Snd Tryz.prog W0a [eVec v1] (.bool (W0 v1)) []:=X0J (J1a v1)
noncomputable def Z0N:L :=
 lf Tryz.prog LV [] [] [] [] [] [] []
def JE(a1 b2:Vec):Option Bool :=
 some (((((W0 a1)&&(W0 b2))&&(decide (a1.a<=b2.a)))&&(decide (a1.b<=b2.b)))&&(decide (a1.c<=b2.c)))
theorem W0s{a1 b2:Vec}{r:Bool}(H:JE a1 b2=some r):Snd Tryz.prog LV [eVec a1,eVec b2] (.bool r) []:=by
 refine wS Z0N [.t 4] ?_
 unfold JE at H
 refine wG [.c 6 (J4 a1),.g 9 [((W0 a1),true)] (.call _ _ _ _ _ (AEs.refl _) (fun _=>J4 b2))] fun _=>?_
 replace H:=sI H;subst H
 exact wE [(4,.d)]
def Z3(a1 b2:Vec):Bool :=
 (((((W0 a1)&&(W0 b2))&&(decide (a1.a<=b2.a)))&&(decide (a1.b<=b2.b)))&&(decide (a1.c<=b2.c)))
theorem L0R(a1 b2:Vec):JE a1 b2=some (Z3 a1 b2):=by
 unfold JE Z3
 first|rfl|simp only[O5]
theorem ZO(a1 b2:Vec):Snd Tryz.prog LV [eVec a1,eVec b2] (.bool (Z3 a1 b2)) []:=W0s (L0R a1 b2)
noncomputable def O0T:L :=
 lf Tryz.prog Q01 [] [] [] [] [] [] []
def XL(a1 b2:Vec):Option (Vec×Bool) :=
 bif ((!(W0 a1))||(!(W0 b2)))then(some ((Vec.mk 0 0 0),false))else(bif (!(W0 (Vec.mk (w64 (a1.a+b2.a)) (w64 (a1.b+b2.b)) (w64 (a1.c+b2.c)))))then(some ((Vec.mk 0 0 0),false))else(some ((Vec.mk (w64 (a1.a+b2.a)) (w64 (a1.b+b2.b)) (w64 (a1.c+b2.c))),true)))
theorem Z0C{a1 b2:Vec}{r:Vec×Bool}(H:XL a1 b2=some r):Snd Tryz.prog Q01 [eVec a1,eVec b2] (.tup [eVec r.1,.bool r.2]) []:=by
 refine wS O0T [.c 4 3 true,.t 5] ?_
 unfold XL at H
 refine wG [.c 8 (J4 a1),.g 12 [((!(W0 a1)),false)] (.call _ _ _ _ _ (AEs.refl _) (fun _=>J4 b2))] fun _=>?_
 refine O0 H (fun H=>?_) fun H=>?_
 .refine wP ?_
  replace H:=sI H;subst H
  exact wN [(4,.d),(5,.d)] [(4,[])] [] [] [] []
 .refine wG [.u 33 (.call _ _ _ _ _ (AEs.refl _) (fun _=>J4 (Vec.mk (w64 (a1.a+b2.a)) (w64 (a1.b+b2.b)) (w64 (a1.c+b2.c)))))] fun _=>?_
  refine O0 H (fun H=>?_) fun H=>?_
  .refine wP ?_
   replace H:=sI H;subst H
   exact wN [(4,.d),(5,.d)] [(4,[])] [] [] [] []
  .refine wP ?_
   replace H:=sI H;subst H
   exact wN [(4,.d),(5,.d)] [(4,[])] [] [] [] []
def YC(a1 b2:Vec):Vec×Bool :=
 bif ((!(W0 a1))||(!(W0 b2)))then(((Vec.mk 0 0 0),false))else(bif (!(W0 (Vec.mk (w64 (a1.a+b2.a)) (w64 (a1.b+b2.b)) (w64 (a1.c+b2.c)))))then(((Vec.mk 0 0 0),false))else(((Vec.mk (w64 (a1.a+b2.a)) (w64 (a1.b+b2.b)) (w64 (a1.c+b2.c))),true)))
theorem M11(a1 b2:Vec):XL a1 b2=some (YC a1 b2):=by
 unfold XL YC
 first|rfl|simp only[O5]
theorem J0R(a1 b2:Vec):Snd Tryz.prog Q01 [eVec a1,eVec b2] (.tup [eVec ((YC a1 b2).1),.bool ((YC a1 b2).2)]) []:=Z0C (M11 a1 b2)
noncomputable def Q0T:L :=
 lf Tryz.prog V01 [] [] [] [] [] [] []
def ZL(a1 b2:Vec):Option (Vec×Bool) :=
 bif (!(Z3 b2 a1))then(some ((Vec.mk 0 0 0),false))else(some ((Vec.mk (w64 (a1.a-b2.a)) (w64 (a1.b-b2.b)) (w64 (a1.c-b2.c))),true))
theorem M0B{a1 b2:Vec}{r:Vec×Bool}(H:ZL a1 b2=some r):Snd Tryz.prog V01 [eVec a1,eVec b2] (.tup [eVec r.1,.bool r.2]) []:=by
 refine wS Q0T [.c 4 3 true,.t 5] ?_
 unfold ZL at H
 refine wG [.c 8 (ZO b2 a1)] fun _=>?_
 refine O0 H (fun H=>?_) fun H=>?_
 .refine wP ?_
  replace H:=sI H;subst H
  exact wN [(4,.d),(5,.d)] [(4,[])] [] [] [] []
 .refine wP ?_
  replace H:=sI H;subst H
  exact wN [(4,.d),(5,.d)] [(4,[])] [] [] [] []
def L3(a1 b2:Vec):Vec×Bool :=
 bif (!(Z3 b2 a1))then(((Vec.mk 0 0 0),false))else(((Vec.mk (w64 (a1.a-b2.a)) (w64 (a1.b-b2.b)) (w64 (a1.c-b2.c))),true))
theorem W11(a1 b2:Vec):ZL a1 b2=some (L3 a1 b2):=by
 unfold ZL L3
 first|rfl|simp only[O5]
theorem O0R(a1 b2:Vec):Snd Tryz.prog V01 [eVec a1,eVec b2] (.tup [eVec ((L3 a1 b2).1),.bool ((L3 a1 b2).2)]) []:=M0B (W11 a1 b2)
noncomputable def U0T:L :=
 lf Tryz.prog X01 [] [] [] [] [] [] []
def JK(a1 b2:Int):Option Int :=
 bif (decide (a1<b2))then(some a1)else(some b2)
theorem O0B{a1 b2 r:Int}(H:JK a1 b2=some r):Snd Tryz.prog X01 [iV a1,iV b2] (iV r) []:=by
 refine wS U0T [.t 4] ?_
 unfold JK at H
 refine wP ?_
 refine O0 H (fun H=>?_) fun H=>?_
 .obtain rfl:=sI H
  exact wP (wE [(4,.d)])
 .obtain rfl:=sI H
  exact wP (wE [(4,.d)])
def M3(a1 b2:Int):Int :=
 bif (decide (a1<b2))then(a1)else(b2)
theorem Q11(a1 b2:Int):JK a1 b2=some (M3 a1 b2):=by
 unfold JK M3
 first|rfl|simp only[O5]
theorem MT(a1 b2:Int):Snd Tryz.prog X01 [iV a1,iV b2] (iV (M3 a1 b2)) []:=O0B (Q11 a1 b2)
noncomputable def W0T:L :=
 lf Tryz.prog U01 [] [] [] [] [(3,16)] [] []
def YL(a1 b2:Vec):Option Vec :=
 bif ((!(W0 a1))||(!(W0 b2)))then(some (Vec.mk 0 0 0))else(some (Vec.mk (M3 a1.a b2.a) (M3 a1.b b2.b) (M3 a1.c b2.c)))
theorem J0B{a1 b2 r:Vec}(H:YL a1 b2=some r):Snd Tryz.prog U01 [eVec a1,eVec b2] (eVec r) []:=by
 refine wS W0T [.c 4 3 true] ?_
 unfold YL at H
 refine wG [.c 6 (J4 a1),.g 10 [((!(W0 a1)),false)] (.call _ _ _ _ _ (AEs.refl _) (fun _=>J4 b2))] fun _=>?_
 refine O0 H (fun H=>?_) fun H=>?_
 .refine wP ?_
  replace H:=sI H;subst H
  exact wN [(4,.d)] [(4,[])] [] [] [] []
 .refine wG [.c 18 (MT a1.a b2.a),.c 23 (MT a1.b b2.b),.c 28 (MT a1.c b2.c)] fun _=>?_
  replace H:=sI H;subst H
  exact wN [(4,.d)] [(4,[])] [] [] [] []
def Q2(a1 b2:Vec):Vec :=
 bif ((!(W0 a1))||(!(W0 b2)))then((Vec.mk 0 0 0))else((Vec.mk (M3 a1.a b2.a) (M3 a1.b b2.b) (M3 a1.c b2.c)))
theorem O11(a1 b2:Vec):YL a1 b2=some (Q2 a1 b2):=by
 unfold YL Q2
 first|rfl|simp only[O5]
theorem M0R(a1 b2:Vec):Snd Tryz.prog U01 [eVec a1,eVec b2] (eVec (Q2 a1 b2)) []:=J0B (O11 a1 b2)
noncomputable def M0U:L :=
 lf Tryz.prog O01 [] [] [] [] [] [] []
def WL(x1 lo2 hi3:Int):Option Bool :=
 some ((decide (lo2<=x1))&&(decide (x1<=hi3)))
theorem W0F{x1 lo2 hi3:Int}{r:Bool}(H:WL x1 lo2 hi3=some r):Snd Tryz.prog O01 [iV x1,iV lo2,iV hi3] (.bool r) []:=by
 refine wS M0U [.t 6] ?_
 unfold WL at H
 obtain rfl:=sI H
 exact wP (wE [(6,.d)])
def Y0(x1 lo2 hi3:Int):Bool :=
 ((decide (lo2<=x1))&&(decide (x1<=hi3)))
theorem V17(x1 lo2 hi3:Int):WL x1 lo2 hi3=some (Y0 x1 lo2 hi3):=by
 unfold WL Y0
 first|rfl|simp only[O5]
theorem M1(x1 lo2 hi3:Int):Snd Tryz.prog O01 [iV x1,iV lo2,iV hi3] (.bool (Y0 x1 lo2 hi3)) []:=W0F (V17 x1 lo2 hi3)
noncomputable def L0U:L :=
 lf Tryz.prog M01 [] [] [] [] [] [] []
def ML(t1:Int):Option Bool :=
 some (Y0 t1 0 1000000000)
theorem O0F{t1:Int}{r:Bool}(H:ML t1=some r):Snd Tryz.prog M01 [iV t1] (.bool r) []:=by
 refine wS L0U [.t 2] ?_
 unfold ML at H
 refine wG [.c 4 (M1 t1 0 1000000000)] fun _=>?_
 replace H:=sI H;subst H
 exact wE [(2,.d)]
def M4(t1:Int):Bool :=
 (Y0 t1 0 1000000000)
theorem M17(t1:Int):ML t1=some (M4 t1):=by
 unfold ML M4
 first|rfl|simp only[O5]
theorem Xg(t1:Int):Snd Tryz.prog M01 [iV t1] (.bool (M4 t1)) []:=O0F (M17 t1)
noncomputable def Y0F:L :=
 lf Tryz.prog W0b [] [] [] [] [] [] []
def Vf(l1:List Int):Option (List Int) :=
 (appL 8 ([]:List Int) l1).bind fun xs2=>some xs2
theorem L03{l1:List Int}{r:(List Int)}(H:Vf l1=some r):Snd Tryz.prog W0b [rV 1 (l1.map eI)] (.sref 0) [⟨1,r.map eI,false⟩]:=by
 refine wS Y0F [.t 2] ?_
 unfold Vf at H
 obtain⟨xs2,h2,H⟩:=bB H
 refine wG [.u 4 (.ap _ _ _ _ fun _=>L0 eI h2)] fun _=>?_
 replace H:=sI H;subst H
 exact wN [(2,.d)] [] [(4,some 4,0)] [] [some 4] [⟨_,nw_I xs2⟩]
noncomputable def W16:L :=
 lf Tryz.prog L0b [] [] [] [] [] [] []
def US(v1:Vec):Option Bool :=
 some (((Y0 v1.a 0 1000000)&&(Y0 v1.b 0 1000000))&&(Y0 v1.c 0 1000000))
theorem L0O{v1:Vec}{r:Bool}(H:US v1=some r):Snd Tryz.prog L0b [eVec v1] (.bool r) []:=by
 refine wS W16 [.t 2] ?_
 unfold US at H
 refine wG [.c 5 (M1 v1.a 0 1000000),.g 9 [((Y0 v1.a 0 1000000),true)] (.call _ _ _ _ _ (AEs.refl _) (fun _=>M1 v1.b 0 1000000)),.g 14 [(((Y0 v1.a 0 1000000)&&(Y0 v1.b 0 1000000)),true)] (.call _ _ _ _ _ (AEs.refl _) (fun _=>M1 v1.c 0 1000000))] fun _=>?_
 replace H:=sI H;subst H
 exact wE [(2,.d)]
def Q1(v1:Vec):Bool :=
 (((Y0 v1.a 0 1000000)&&(Y0 v1.b 0 1000000))&&(Y0 v1.c 0 1000000))
theorem W1e(v1:Vec):US v1=some (Q1 v1):=by
 unfold US Q1
 first|rfl|simp only[O5]
theorem U6(v1:Vec):Snd Tryz.prog L0b [eVec v1] (.bool (Q1 v1)) []:=L0O (W1e v1)
noncomputable def J0N:L :=
 lf Tryz.prog ZW [] [] [] [] [] [] []
def YG(a1 b2:Vec):Option Bool :=
 some (((((Q1 a1)&&(Q1 b2))&&(decide (a1.a<=b2.a)))&&(decide (a1.b<=b2.b)))&&(decide (a1.c<=b2.c)))
theorem L0v{a1 b2:Vec}{r:Bool}(H:YG a1 b2=some r):Snd Tryz.prog ZW [eVec a1,eVec b2] (.bool r) []:=by
 refine wS J0N [.t 4] ?_
 unfold YG at H
 refine wG [.c 6 (U6 a1),.g 9 [((Q1 a1),true)] (.call _ _ _ _ _ (AEs.refl _) (fun _=>U6 b2))] fun _=>?_
 replace H:=sI H;subst H
 exact wE [(4,.d)]
def Xw(a1 b2:Vec):Bool :=
 (((((Q1 a1)&&(Q1 b2))&&(decide (a1.a<=b2.a)))&&(decide (a1.b<=b2.b)))&&(decide (a1.c<=b2.c)))
theorem L0W(a1 b2:Vec):YG a1 b2=some (Xw a1 b2):=by
 unfold YG Xw
 first|rfl|simp only[O5]
theorem Q08(a1 b2:Vec):Snd Tryz.prog ZW [eVec a1,eVec b2] (.bool (Xw a1 b2)) []:=L0v (L0W a1 b2)
noncomputable def M15:L :=
 lf Tryz.prog Y0b [] [] [] [] [] [] []
def XS(a1 b2 v3:Vec):Option (Vec×Bool) :=
 bif (((!(Q1 a1))||(!(Q1 b2)))||(!(Q1 v3)))then(some ((Vec.mk 0 0 0),false))else(some (v3,true))
theorem W0O{a1 b2 v3:Vec}{r:Vec×Bool}(H:XS a1 b2 v3=some r):Snd Tryz.prog Y0b [eVec a1,eVec b2,eVec v3] (.tup [eVec r.1,.bool r.2]) []:=by
 refine wS M15 [.c 6 3 true,.t 7] ?_
 unfold XS at H
 refine wG [.c 9 (U6 a1),.g 13 [((!(Q1 a1)),false)] (.call _ _ _ _ _ (AEs.refl _) (fun _=>U6 b2)),.g 18 [(((!(Q1 a1))||(!(Q1 b2))),false)] (.call _ _ _ _ _ (AEs.refl _) (fun _=>U6 v3))] fun _=>?_
 refine O0 H (fun H=>?_) fun H=>?_
 .refine wP ?_
  replace H:=sI H;subst H
  exact wN [(6,.d),(7,.d)] [(6,[])] [] [] [] []
 .refine wP ?_
  replace H:=sI H;subst H
  exact wN [(6,.d),(7,.d)] [(6,[])] [] [] [] []
def We(a1 b2 v3:Vec):Vec×Bool :=
 bif (((!(Q1 a1))||(!(Q1 b2)))||(!(Q1 v3)))then(((Vec.mk 0 0 0),false))else((v3,true))
theorem U1e(a1 b2 v3:Vec):XS a1 b2 v3=some (We a1 b2 v3):=by
 unfold XS We
 first|rfl|simp only[O5]
theorem V0n(a1 b2 v3:Vec):Snd Tryz.prog Y0b [eVec a1,eVec b2,eVec v3] (.tup [eVec ((We a1 b2 v3).1),.bool ((We a1 b2 v3).2)]) []:=W0O (U1e a1 b2 v3)
noncomputable def V0V:L :=
 lf Tryz.prog J01 [] [] [] [] [] [] []
def JL(a1 b2:Vec):Option (Vec×Bool) :=
 some (((We a1 b2 (Vec.mk (w64 (a1.a-b2.a)) (w64 (a1.b-b2.b)) (w64 (a1.c-b2.c)))).1),(We a1 b2 (Vec.mk (w64 (a1.a-b2.a)) (w64 (a1.b-b2.b)) (w64 (a1.c-b2.c)))).2)
theorem X0G{a1 b2:Vec}{r:Vec×Bool}(H:JL a1 b2=some r):Snd Tryz.prog J01 [eVec a1,eVec b2] (.tup [eVec r.1,.bool r.2]) []:=by
 refine wS V0V [.c 4 3 true,.t 5] ?_
 unfold JL at H
 refine wG [.u 24 (.call _ _ _ _ _ (AEs.refl _) (fun _=>V0n a1 b2 (Vec.mk (w64 (a1.a-b2.a)) (w64 (a1.b-b2.b)) (w64 (a1.c-b2.c)))))] fun _=>?_
 replace H:=sI H;subst H
 exact wN [(4,.d),(5,.d)] [(4,[])] [] [] [] []
def Qg(a1 b2:Vec):Vec×Bool :=
 (((We a1 b2 (Vec.mk (w64 (a1.a-b2.a)) (w64 (a1.b-b2.b)) (w64 (a1.c-b2.c)))).1),(We a1 b2 (Vec.mk (w64 (a1.a-b2.a)) (w64 (a1.b-b2.b)) (w64 (a1.c-b2.c)))).2)
theorem Y18(a1 b2:Vec):JL a1 b2=some (Qg a1 b2):=by
 unfold JL Qg
 first|rfl|simp only[O5]
theorem Q0W(a1 b2:Vec):Snd Tryz.prog J01 [eVec a1,eVec b2] (.tup [eVec ((Qg a1 b2).1),.bool ((Qg a1 b2).2)]) []:=X0G (Y18 a1 b2)
noncomputable def U0V:L :=
 lf Tryz.prog Z02 [] [] [] [] [] [] []
def ZM(a1 b2:Vec):Option Vec :=
 some ((We a1 b2 (Vec.mk (min a1.a b2.a) (min a1.b b2.b) (min a1.c b2.c))).1)
theorem V0G{a1 b2 r:Vec}(H:ZM a1 b2=some r):Snd Tryz.prog Z02 [eVec a1,eVec b2] (eVec r) []:=by
 refine wS U0V [.c 4 3 true] ?_
 unfold ZM at H
 refine wG [.u 26 (.call _ _ _ _ _ (AEs.refl _) (fun _=>V0n a1 b2 (Vec.mk (min a1.a b2.a) (min a1.b b2.b) (min a1.c b2.c))))] fun _=>?_
 replace H:=sI H;subst H
 exact wN [(4,.d)] [(4,[])] [] [] [] []
def LD(a1 b2:Vec):Vec :=
 ((We a1 b2 (Vec.mk (min a1.a b2.a) (min a1.b b2.b) (min a1.c b2.c))).1)
theorem X18(a1 b2:Vec):ZM a1 b2=some (LD a1 b2):=by
 unfold ZM LD
 first|rfl|simp only[O5]
theorem O0W(a1 b2:Vec):Snd Tryz.prog Z02 [eVec a1,eVec b2] (eVec (LD a1 b2)) []:=V0G (X18 a1 b2)
def time (n:Int):Bool:=decide (0<=n)&&decide (n<=1000000000)
theorem U8{n:Int}:time n=true↔0<=n/\n<=1000000000:=by simp[time]
theorem Og{v:Vec}:W0 v=true↔(0<=v.a/\v.a<=1000000)/\(0<=v.b/\v.b<=1000000)/\(0<=v.c/\v.c<=1000000):=by
 simp[W0,Z8,and_assoc]
theorem Wp(v:Vec):Q1 v=W0 v:=rfl
theorem Xs(n:Int):M4 n=time n:=rfl
theorem Qd(n:Int):M2 n=time n:=rfl
theorem W08(a b:Vec):Xw a b=Z3 a b:=rfl
theorem W0W{a b:Vec}(ha:W0 a=true):Qg a b=L3 a b:=by
 have h:=Og.1 ha
 unfold Qg We L3 Z3
 simp only[Wp,ha]
 cases hb:W0 b with
 |false=>simp
 |true =>
  have h2:=Og.1 hb
  have w1:w64 (a.a-b.a)=a.a-b.a:=X5 (by omega)
  have w2:w64 (a.b-b.b)=a.b-b.b:=X5 (by omega)
  have w3:w64 (a.c-b.c)=a.c-b.c:=X5 (by omega)
  simp only[w1,w2,w3]
  cases hc:W0 (Vec.mk (a.a-b.a) (a.b-b.b) (a.c-b.c))with
  |false =>
   have:¬ ((b.a<=a.a/\b.b<=a.b)/\b.c<=a.c):=fun q=>by
    rw[Og.2 (by simp only;omega)]at hc;cases hc
   by_cases q1:b.a<=a.a<;>by_cases q2:b.b<=a.b<;>by_cases q3:b.c<=a.c<;>simp[q1,q2,q3]at this ⊢
  |true =>
   have q:=Og.1 hc
   simp only at q
   have q1:b.a<=a.a:=by omega
   have q2:b.b<=a.b:=by omega
   have q3:b.c<=a.c:=by omega
   simp[q1,q2,q3]
theorem M0W(a b:Vec):LD a b=Q2 a b:=by
 have e:∀x y:Int,min x y=M3 x y:=fun x y=>by unfold M3;by_cases h:x<y<;>simp[h]<;>omega
 unfold LD We Q2
 simp only[Wp,e]
 cases ha:W0 a with
 |false=>simp
 |true =>
  cases hb:W0 b with
  |false=>simp
  |true =>
   have h:=Og.1 ha
   have h2:=Og.1 hb
   have:W0 (Vec.mk (M3 a.a b.a) (M3 a.b b.b) (M3 a.c b.c))=true:=by
    rw[Og];simp only[← e];omega
   simp[this]
theorem OW{a b:Vec}(ha:W0 a=true)(hb:W0 b=true):W0 (Q2 a b)=true:=by
 have e:∀x y:Int,M3 x y=min x y:=fun x y=>by unfold M3;by_cases h:x<y<;>simp[h]<;>omega
 have h:=Og.1 ha
 have h2:=Og.1 hb
 unfold Q2
 simp only[ha,hb,yL,Bool.or_self,yM]
 rw[Og];simp only[e];omega
theorem L0B{a:Vec}(ha:W0 a=true):Q2 a a=a:=by
 have e:∀x:Int,M3 x x=x:=fun x=>by simp[M3]
 unfold Q2
 simp[ha,e]
noncomputable def L0M:L :=
 lf Tryz.prog W0h [7] [] [] [] [] [] []
def Jj(t1:Topo)(s2:Int)(v3:Int×(List Int))(k3:(Int×(List Int))->Option (List Int)):Option (List Int) :=
 bif (decide (v3.1<(t1.parents.length:Int)))then((idx t1.parents v3.1).bind fun e5=>bif (e5==s2)then((appL 8 v3.2 [v3.1]).bind fun xs6=>k3 ((w64 (v3.1+1)),xs6))else(k3 ((w64 (v3.1+1)),v3.2)))else(some v3.2)
def Ji(t1:Topo)(s2:Int):Option (List Int) :=
 whl (Jj t1 s2) 9223372036854775807 (1,[])
theorem Zy{t1:Topo}{s2:Int}{r:(List Int)}(H:Ji t1 s2=some r):Snd Tryz.prog W0h [X4 .rd t1,iV s2] (nV 1 (r.map eI)) []:=by
 refine wS L0M [.t 4] ?_
 unfold Ji at H
 refine wP ?_
 refine wW (fun(v3:Int×(List Int))=>⟨[(1,iV s2),(2,.ptr 2 0),(5,.sref 7),(6,iV v3.1)],[],[(2,(X4 .rd t1).cells)],[(7,⟨1,v3.2.map eI,false⟩)]⟩) H (fun v3 I m k3 H N17=>?_)
 unfold Jj at H
 refine wG [.u 11 (.ln _ _ fun _=>lm t1.parents eI)] fun q4=>?_
 refine O0 H (fun H=>?_) fun H=>?_
 .obtain⟨e5,h5,H⟩:=bB H
  refine wG [.u 18 (.ix _ _ _ fun _=>Q0 eI h5)] fun _=>?_
  refine O0 H (fun H=>?_) fun H=>?_
  .obtain⟨xs6,h6,H⟩:=bB H
   refine wG [.u 25 (.ap _ _ _ _ fun _=>L0 eI h6)] fun _=>?_
   exact wT (N17 _ H)
  .refine wP ?_
   exact wT (N17 _ H)
 .refine wP ?_
  replace H:=sI H;subst H
  exact wN [(4,.f)] [] [] [7] [] [⟨_,nw_I v3.2⟩]
noncomputable def J0D:L :=
 lf Tryz.prog JQ [] [] [] [] [] [] []
def ZC(rc:Topo->Int->Option Int)(t1:Topo)(x5:Int)(i5:Nat)(v5:Int)(k5:Int->Option Int):Option Int :=
 (rc t1 x5).bind fun n6=>bif ((decide (n6<0))||((decide (0<(i5:Int)))&&(n6 != v5)))then(some (-1))else(k5 n6)
def JB(v5:Int):Option Int :=
 some (w64 (v5+1))
def Jg:Nat->Topo->Int->Option Int
 |0,_,_=>none
 |fuel+1,t1,s2 =>
 (Ji t1 s2).bind fun y3=>rgl (ZC (Jg fuel) t1) JB y3 0 (-1)
def Q8(t1:Topo)(s2:Int):Option Int:=Jg 100000000 t1 s2
theorem J0k(fuel:Nat):∀{t1:Topo} {s2 r:Int} (_:Jg fuel t1 s2=some r),Snd Tryz.prog JQ [X4 .rd t1,.int .i64 s2] (.int .i64 r) []:=by
 induction fuel with
 |zero=>intro t1 s2 r H;cases H
 |succ fuel IH =>
 intro t1 s2 r H
 refine wS J0D [.t 4] ?_
 rw[Jg]at H
 obtain⟨y3,h3,H⟩:=bB H
 refine wG [.c 11 (Zy h3),.u 12 (.ln _ _ fun _=>lm y3 eI)] fun q4=>?_
 refine wR (fun(i5:Nat) (v5:Int)=>⟨[(2,.ptr 2 0),(5,iV v5),(11,nV 1 (y3.map eI)),(12,iV (y3.length:Int)),(13,iV (i5:Int))],[],[(2,(X4 .rd t1).cells)],[]⟩) H (fun i5 x5 v5 I m k5 hxv5 hiv5 H N25=>?_) (fun v5 I m H=>?_)
 .unfold ZC at H
  refine wP ?_
  refine wt (ltT hiv5) ?_
  obtain⟨n6,h6,H⟩:=bB H
  refine wG [.u 16 (.ix _ _ _ fun _=>Q0 eI (J0 hxv5)),.c 20 (IH h6)] fun _=>?_
  refine O0 H (fun H=>?_) fun H=>?_
  .obtain rfl:=sI H
   exact wP (wE [(4,.d)])
  .refine wG [.w 33 (wi .i64 rfl hiv5 q4.1)] fun _=>?_
   exact wT (N25 _ H)
 .unfold JB at H
  refine wP ?_
  refine wf (ltF y3.length) ?_
  obtain rfl:=sI H
  exact wP (wE [(4,.d)])
theorem Xa{t1:Topo}{s2 r:Int}(H:Q8 t1 s2=some r):Snd Tryz.prog JQ [X4 .rd t1,iV s2] (iV r) []:=J0k _ H
noncomputable def M0T:L :=
 lf Tryz.prog W0p [] [] [] [] [] [] []
def Jl(t1:Topo)(x8:Node)(_:Nat)(_:Unit)(k8:Unit->Option Bool):Option Bool :=
 (bif ((decide (x8.leaf<0))||(decide ((t1.parents.length:Int)<=x8.leaf)))then some default else(Ji t1 x8.leaf)).bind fun y9=>bif ((((decide (x8.leaf<0))||(decide ((t1.parents.length:Int)<=x8.leaf)))||(decide (0<(y9.length:Int))))||(!(W0 x8.cap)))then(some false)else(k8 ())
def My(t1:Topo)(_:Unit):Option Bool :=
 (Q8 t1 0).bind fun n10=>some (decide (0<=n10))
def Zm(t1:Topo)(v4:Int)(k4:Int->Option Bool):Option Bool :=
 bif (decide (v4<(t1.parents.length:Int)))then((idx t1.parents v4).bind fun e6=>bif ((decide (e6<0))||(decide (v4<=e6)))then(some false)else(k4 (w64 (v4+1))))else(rgl (Jl t1) (My t1) t1.nodes 0 ())
def Jf(t1:Topo):Option Bool :=
 (bif (((decide ((t1.parents.length:Int)<1))||(decide (24<(t1.parents.length:Int))))||(decide (24<(t1.nodes.length:Int))))then some default else(idx t1.parents 0)).bind fun e2=>bif ((((decide ((t1.parents.length:Int)<1))||(decide (24<(t1.parents.length:Int))))||(decide (24<(t1.nodes.length:Int))))||(e2 != 0))then(some false)else(whl (Zm t1) 9223372036854775807 1)
theorem JT{t1:Topo}{r:Bool}(H:Jf t1=some r):Snd Tryz.prog W0p [X4 .rd t1] (.bool r) []:=by
 refine wS M0T [.t 2] ?_
 unfold Jf at H
 obtain⟨e2,h2,H⟩:=bB H
 refine wG [.u 8 (.ln _ _ fun _=>lm t1.parents eI),.g 13 [((decide ((t1.parents.length:Int)<1)),false)] (.ln _ _ fun _=>lm t1.parents eI),.g 19 [(((decide ((t1.parents.length:Int)<1))||(decide (24<(t1.parents.length:Int)))),false)] (.ln _ _ fun _=>lm t1.nodes Y1),.g 25 [(_,false)] (.ix _ _ _ fun q=>Q0 eI (bF q.1 h2))] fun q3=>?_
 refine O0 H (fun H=>?_) fun H=>?_
 .obtain rfl:=sI H
  exact wP (wE [(2,.d)])
 .refine wP ?_
  refine wW (fun(v4:Int)=>⟨[(1,.ptr 1 0),(3,iV v4)],[],[(1,(X4 .rd t1).cells)],[]⟩) H (fun v4 I m k4 H N25=>?_)
  unfold Zm at H
  refine wG [.u 32 (.ln _ _ fun _=>lm t1.parents eI)] fun q5=>?_
  refine O0 H (fun H=>?_) fun H=>?_
  .obtain⟨e6,h6,H⟩:=bB H
   refine wG [.u 39 (.ix _ _ _ fun _=>Q0 eI h6),.g 46 [((decide (e6<0)),false)] (.ix _ _ _ fun _=>Q0 eI h6)] fun _=>?_
   refine O0 H (fun H=>?_) fun H=>?_
   .obtain rfl:=sI H
    exact wP (wE [(2,.d)])
   .refine wP ?_
    exact wT (N25 _ H)
  .refine wG [.u 53 (.ln _ _ fun _=>lm t1.nodes Y1)] fun q7=>?_
   refine wR (fun(i8:Nat) (v8:Unit)=>⟨[(1,.ptr 1 0),(52,rV 4 (t1.nodes.map Y1)),(53,iV (t1.nodes.length:Int)),(54,iV (i8:Int))],[],[(1,(X4 .rd t1).cells)],[]⟩) H (fun i8 x8 v8 I m k8 hxv8 hiv8 H N47=>?_) (fun v8 I m H=>?_)
   .unfold Jl at H
    refine wP ?_
    refine wt (ltT hiv8) ?_
    obtain⟨y9,h9,H⟩:=bB H
    refine wG [.u 56 (.ix _ _ _ fun _=>Q0 Y1 (J0 hxv8)),.g 66 [((decide (x8.leaf<0)),false)] (.ln _ _ fun _=>lm t1.parents eI),.g 73 [(_,false)] (.call _ _ _ _ _ (AEs.refl _) (fun q=>Zy (bF q.1 h9))),.g 74 [(((decide (x8.leaf<0))||(decide ((t1.parents.length:Int)<=x8.leaf))),false)] (.ln _ _ fun _=>lm y9 eI),.g 80 [((((decide (x8.leaf<0))||(decide ((t1.parents.length:Int)<=x8.leaf)))||(decide (0<(y9.length:Int)))),false)] (.call _ _ _ _ _ (AEs.refl _) (fun _=>J4 x8.cap))] fun _=>?_
    refine O0 H (fun H=>?_) fun H=>?_
    .obtain rfl:=sI H
     exact wP (wE [(2,.d)])
    .refine wG [.w 83 (wi .i64 rfl hiv8 q7.1)] fun _=>?_
     exact wT (N47 () H)
   .unfold My at H
    refine wP ?_
    refine wf (ltF t1.nodes.length) ?_
    obtain⟨n10,h10,H⟩:=bB H
    refine wG [.c 85 (Xa h10)] fun _=>?_
    replace H:=sI H;subst H
    exact wE [(2,.d)]
noncomputable def X15:L :=
 lf Tryz.prog V0z [7] [] [] [] [] [] []
def WT(t1:Topo)(v3:Int×(List Int))(k3:(Int×(List Int))->Option (List Int)):Option (List Int) :=
 bif (decide (0<v3.1))then((idx t1.parents v3.1).bind fun e4=>(appL 8 v3.2 [e4]).bind fun xs5=>k3 (e4,xs5))else(some v3.2)
def Mv(t1:Topo)(s2:Int):Option (List Int) :=
 whl (WT t1) 9223372036854775807 (s2,[s2])
theorem L0k{t1:Topo}{s2:Int}{r:(List Int)}(H:Mv t1 s2=some r):Snd Tryz.prog V0z [X4 .rd t1,iV s2] (nV 1 (r.map eI)) []:=by
 refine wS X15 [.t 4] ?_
 unfold Mv at H
 refine wP ?_
 refine wW (fun(v3:Int×(List Int))=>⟨[(1,iV v3.1),(2,.ptr 2 0),(5,.sref 7)],[],[(2,(X4 .rd t1).cells)],[(7,⟨1,v3.2.map eI,false⟩)]⟩) H (fun v3 I m k3 H N12=>?_)
 unfold WT at H
 refine wP ?_
 refine O0 H (fun H=>?_) fun H=>?_
 .obtain⟨e4,h4,H⟩:=bB H
  obtain⟨xs5,h5,H⟩:=bB H
  refine wG [.u 13 (.ix _ _ _ fun _=>Q0 eI h4),.u 18 (.ap _ _ _ _ fun _=>L0 eI h5)] fun _=>?_
  exact wT (N12 _ H)
 .refine wP ?_
  replace H:=sI H;subst H
  exact wN [(4,.f)] [] [] [7] [] [⟨_,nw_I v3.2⟩]
noncomputable def X0T:L :=
 lf Tryz.prog Q0p [] [] [] [] [] [] []
def V06(n2 x4:Int)(_:Nat)(_:Unit)(k4:Unit->Option Bool):Option Bool :=
 bif (x4==n2)then(some true)else(k4 ())
def JN(_:Unit):Option Bool :=
 some false
def Va(l1:List Int)(n2:Int):Option Bool :=
 rgl (V06 n2) JN l1 0 ()
theorem Lf{l1:List Int}{n2:Int}{r:Bool}(H:Va l1 n2=some r):Snd Tryz.prog Q0p [rV 1 (l1.map eI),iV n2] (.bool r) []:=by
 refine wS X0T [.t 4] ?_
 unfold Va at H
 refine wG [.u 8 (.ln _ _ fun _=>lm l1 eI)] fun q3=>?_
 refine wR (fun(i4:Nat) (v4:Unit)=>⟨[(1,iV n2),(7,rV 1 (l1.map eI)),(8,iV (l1.length:Int)),(9,iV (i4:Int))],[],[],[]⟩) H (fun i4 x4 v4 I m k4 hxv4 hiv4 H N20=>?_) (fun v4 I m H=>?_)
 .unfold V06 at H
  refine wP ?_
  refine wt (ltT hiv4) ?_
  refine wG [.u 11 (.ix _ _ _ fun _=>Q0 eI (J0 hxv4))] fun _=>?_
  refine O0 H (fun H=>?_) fun H=>?_
  .obtain rfl:=sI H
   exact wP (wE [(4,.d)])
  .refine wG [.w 16 (wi .i64 rfl hiv4 q3.1)] fun _=>?_
   exact wT (N20 () H)
 .unfold JN at H
  refine wP ?_
  refine wf (ltF l1.length) ?_
  obtain rfl:=sI H
  exact wP (wE [(4,.d)])
noncomputable def L0D:L :=
 lf Tryz.prog Q0a [] [] [] [] [] [] []
def Zp(t1:Topo)(x4:Int)(_:Nat)(_:Unit)(k4:Unit->Option Bool):Option Bool :=
 bif ((decide (x4<0))||(decide ((t1.nodes.length:Int)<=x4)))then(some false)else(k4 ())
def Jo(t1:Topo)(_:Unit):Option Bool :=
 (Jf t1).bind fun b5=>some b5
def Je(t1:Topo)(nodes2:List Int):Option Bool :=
 rgl (Zp t1) (Jo t1) nodes2 0 ()
theorem WI{t1:Topo}{nodes2:List Int}{r:Bool}(H:Je t1 nodes2=some r):Snd Tryz.prog Q0a [X4 .rd t1,rV 1 (nodes2.map eI)] (.bool r) []:=by
 refine wS L0D [.t 4] ?_
 unfold Je at H
 refine wG [.u 8 (.ln _ _ fun _=>lm nodes2 eI)] fun q3=>?_
 refine wR (fun(i4:Nat) (v4:Unit)=>⟨[(2,.ptr 2 0),(7,rV 1 (nodes2.map eI)),(8,iV (nodes2.length:Int)),(9,iV (i4:Int))],[],[(2,(X4 .rd t1).cells)],[]⟩) H (fun i4 x4 v4 I m k4 hxv4 hiv4 H N20=>?_) (fun v4 I m H=>?_)
 .unfold Zp at H
  refine wP ?_
  refine wt (ltT hiv4) ?_
  refine wG [.u 11 (.ix _ _ _ fun _=>Q0 eI (J0 hxv4)),.g 19 [((decide (x4<0)),false)] (.ln _ _ fun _=>lm t1.nodes Y1)] fun _=>?_
  refine O0 H (fun H=>?_) fun H=>?_
  .obtain rfl:=sI H
   exact wP (wE [(4,.d)])
  .refine wG [.w 22 (wi .i64 rfl hiv4 q3.1)] fun _=>?_
   exact wT (N20 () H)
 .unfold Jo at H
  refine wP ?_
  refine wf (ltF nodes2.length) ?_
  obtain⟨b5,h5,H⟩:=bB H
  refine wG [.c 24 (JT h5)] fun _=>?_
  replace H:=sI H;subst H
  exact wE [(4,.d)]
noncomputable def U0U:L :=
 lf Tryz.prog X0q [] [] [] [] [(11,11),(14,14)] [] []
def Wm(t1:Topo)(i5:Nat)(x7:Int)(_:Nat)(v7:Bool)(k7:Bool->Option Int):Option Int :=
 (idx t1.nodes x7).bind fun e8=>(Mv t1 e8.leaf).bind fun y9=>(Va y9 (i5:Int)).bind fun b10=>bif (!b10)then(k7 false)else(k7 v7)
def Uh(t1:Topo)(v5:Int)(i5:Nat)(k5:Int->Option Int)(v7:Bool):Option Int :=
 (bif v7 then(bif (decide (v5<0))then some default else(Q8 t1 (i5:Int)))else some default).bind fun n11=>(bif v7 then(bif (decide (v5<0))then some default else(Q8 t1 v5))else some default).bind fun n12=>bif (v7&&((decide (v5<0))||(decide (n11<=n12))))then(k5 (i5:Int))else(k5 v5)
def Qh(t1:Topo)(nodes2:List Int)(_:Int)(i5:Nat)(v5:Int)(k5:Int->Option Int):Option Int :=
 rgl (Wm t1 i5) (Uh t1 v5 i5 k5) nodes2 0 true
def Xz(v5:Int):Option Int :=
 some v5
def Wu(t1:Topo)(nodes2:List Int):Option Int :=
 (Je t1 nodes2).bind fun b3=>bif ((!b3)||((nodes2.length:Int)==0))then(some (-1))else(rgl (Qh t1 nodes2) Xz t1.parents 0 (-1))
theorem V0S{t1:Topo}{nodes2:List Int}{r:Int}(H:Wu t1 nodes2=some r):Snd Tryz.prog X0q [X4 .rd t1,rV 1 (nodes2.map eI)] (iV r) []:=by
 refine wS U0U [.t 4] ?_
 unfold Wu at H
 obtain⟨b3,h3,H⟩:=bB H
 refine wG [.c 12 (WI h3),.g 16 [((!b3),false)] (.ln _ _ fun _=>lm nodes2 eI)] fun _=>?_
 refine O0 H (fun H=>?_) fun H=>?_
 .obtain rfl:=sI H
  exact wP (wE [(4,.d)])
 .refine wG [.u 22 (.ln _ _ fun _=>lm t1.parents eI)] fun q4=>?_
  refine wR (fun(i5:Nat) (v5:Int)=>⟨[(1,rV 1 (nodes2.map eI)),(2,.ptr 2 0),(5,iV v5),(22,iV (t1.parents.length:Int)),(23,iV (i5:Int))],[],[(2,(X4 .rd t1).cells)],[]⟩) H (fun i5 x5 v5 I m k5 hxv5 hiv5 H N49=>?_) (fun v5 I m H=>?_)
  .unfold Qh at H
   refine wP ?_
   refine wt (ltT hiv5) ?_
   refine wG [.u 27 (.ln _ _ fun _=>lm nodes2 eI)] fun q6=>?_
   refine wR (fun(i7:Nat) (v7:Bool)=>⟨[(1,rV 1 (nodes2.map eI)),(2,.ptr 2 0),(5,iV v5),(6,iV (i5:Int)),(7,.bool v7),(22,iV (t1.parents.length:Int)),(23,iV (i5:Int)),(26,rV 1 (nodes2.map eI)),(27,iV (nodes2.length:Int)),(28,iV (i7:Int))],[],[(2,(X4 .rd t1).cells)],[]⟩) H (fun i7 x7 v7 I m k7 hxv7 hiv7 H N33=>?_) (fun v7 I m H=>?_)
   .unfold Wm at H
    refine wP ?_
    refine wt (ltT hiv7) ?_
    obtain⟨e8,h8,H⟩:=bB H
    obtain⟨y9,h9,H⟩:=bB H
    obtain⟨b10,h10,H⟩:=bB H
    refine wG [.u 30 (.ix _ _ _ fun _=>Q0 eI (J0 hxv7)),.u 36 (.ix _ _ _ fun _=>Q0 Y1 h8),.c 39 (L0k h9),.c 41 (Lf h10)] fun _=>?_
    refine O0 H (fun H=>?_) fun H=>?_
    .refine wG [.w 43 (wi .i64 rfl hiv7 q6.1)] fun _=>?_
     exact wT (N33 _ H)
    .refine wG [.w 43 (wi .i64 rfl hiv7 q6.1)] fun _=>?_
     exact wT (N33 _ H)
   .unfold Uh at H
    refine wP ?_
    refine wf (ltF nodes2.length) ?_
    obtain⟨n11,h11,H⟩:=bB H
    obtain⟨n12,h12,H⟩:=bB H
    refine wG [.g 51 [(_,false),(_,true)] (.call _ _ _ _ _ (AEs.refl _) (fun q=>Xa (bF q.1 (bT q.2.1 h11)))),.g 54 [(_,false),(_,true)] (.call _ _ _ _ _ (AEs.refl _) (fun q=>Xa (bF q.1 (bT q.2.1 h12))))] fun _=>?_
    refine O0 H (fun H=>?_) fun H=>?_
    .refine wG [.w 59 (wi .i64 rfl hiv5 q4.1)] fun _=>?_
     exact wT (N49 _ H)
    .refine wG [.w 59 (wi .i64 rfl hiv5 q4.1)] fun _=>?_
     exact wT (N49 _ H)
  .unfold Xz at H
   refine wP ?_
   refine wf (ltF t1.parents.length) ?_
   obtain rfl:=sI H
   exact wP (wE [(4,.d)])
noncomputable def L0E:L :=
 lf Tryz.prog V0b [] [] [] [] [(1,5)] [] []
def Xf(t1:Topo):Option Topo :=
 (Vf t1.parents).bind fun y2=>(appL 32 ([]:List Node) t1.nodes).bind fun xs3=>some (Topo.mk y2 xs3)
theorem WJ{t1 r:Topo}(H:Xf t1=some r):Snd Tryz.prog V0b [X4 .rd t1] (X4 .nw r) []:=by
 refine wS L0E [.c 2 2 true] ?_
 unfold Xf at H
 obtain⟨y2,h2,H⟩:=bB H
 obtain⟨xs3,h3,H⟩:=bB H
 refine wG [.c 5 (L03 h2),.u 8 (.ap _ _ _ _ fun _=>L0 Y1 h3)] fun _=>?_
 replace H:=sI H;subst H
 exact wN [(2,.d)] [(2,[.d,.f])] [] [8] [] [⟨_,nw_I y2⟩,⟨_,J1 xs3⟩]
noncomputable def Z0V:L :=
 lf Tryz.prog W0q [] [] [] [] [] [] []
def Un(parents1:List Int)(s2 v3:Int)(k3:Int->Option Bool):Option Bool :=
 bif (decide (v3<(parents1.length:Int)))then((idx parents1 v3).bind fun e5=>bif (e5==s2)then(some false)else(k3 (w64 (v3+1))))else(some true)
def YD(parents1:List Int)(s2:Int):Option Bool :=
 whl (Un parents1 s2) 9223372036854775807 1
theorem L0f{parents1:List Int}{s2:Int}{r:Bool}(H:YD parents1 s2=some r):Snd Tryz.prog W0q [rV 1 (parents1.map eI),iV s2] (.bool r) []:=by
 refine wS Z0V [.t 4] ?_
 unfold YD at H
 refine wP ?_
 refine wW (fun(v3:Int)=>⟨[(0,rV 1 (parents1.map eI)),(1,iV s2),(5,iV v3)],[],[],[]⟩) H (fun v3 I m k3 H N18=>?_)
 unfold Un at H
 refine wG [.u 8 (.ln _ _ fun _=>lm parents1 eI)] fun q4=>?_
 refine O0 H (fun H=>?_) fun H=>?_
 .obtain⟨e5,h5,H⟩:=bB H
  refine wG [.u 14 (.ix _ _ _ fun _=>Q0 eI h5)] fun _=>?_
  refine O0 H (fun H=>?_) fun H=>?_
  .obtain rfl:=sI H
   exact wP (wE [(4,.d)])
  .refine wP ?_
   exact wT (N18 _ H)
 .obtain rfl:=sI H
  exact wP (wE [(4,.d)])
noncomputable def V16:L :=
 lf Tryz.prog X0A [] [] [] [] [] [] []
def MU(parents1:List Int)(v3:Int×Int)(k3:(Int×Int)->Option Int):Option Int :=
 bif (decide (0<v3.1))then((idx parents1 v3.1).bind fun e4=>k3 (e4,(w64 (v3.2+1))))else(some v3.2)
def VD(parents1:List Int)(s2:Int):Option Int :=
 whl (MU parents1) 9223372036854775807 (s2,0)
theorem Y00{parents1:List Int}{s2 r:Int}(H:VD parents1 s2=some r):Snd Tryz.prog X0A [rV 1 (parents1.map eI),iV s2] (iV r) []:=by
 refine wS V16 [.t 4] ?_
 unfold VD at H
 refine wP ?_
 refine wW (fun(v3:Int×Int)=>⟨[(0,rV 1 (parents1.map eI)),(1,iV v3.1),(5,iV v3.2)],[],[],[]⟩) H (fun v3 I m k3 H N12=>?_)
 unfold MU at H
 refine wP ?_
 refine O0 H (fun H=>?_) fun H=>?_
 .obtain⟨e4,h4,H⟩:=bB H
  refine wG [.u 10 (.ix _ _ _ fun _=>Q0 eI h4)] fun _=>?_
  exact wT (N12 _ H)
 .obtain rfl:=sI H
  exact wP (wE [(4,.d)])
noncomputable def Y0V:L :=
 lf Tryz.prog O0q [] [] [] [] [] [] []
def Z00(parents1:List Int):Option Int :=
 (VD parents1 (w64 ((parents1.length:Int)-1))).bind fun n2=>some n2
theorem X0W{parents1:List Int}{r:Int}(H:Z00 parents1=some r):Snd Tryz.prog O0q [rV 1 (parents1.map eI)] (iV r) []:=by
 refine wS Y0V [.t 2] ?_
 unfold Z00 at H
 obtain⟨n2,h2,H⟩:=bB H
 refine wG [.u 5 (.ln _ _ fun _=>lm parents1 eI),.c 7 (Y00 h2)] fun q3=>?_
 replace H:=sI H;subst H
 exact wE [(2,.d)]
noncomputable def Q0V:L :=
 lf Tryz.prog L0q [] [] [] [] [] [] []
def XA(t1:Topo)(x12:Node)(_:Nat)(_:Unit)(k12:Unit->Option Bool):Option Bool :=
 (bif (!(Y0 x12.leaf 0 (w64 ((t1.parents.length:Int)-1))))then some default else(YD t1.parents x12.leaf)).bind fun b13=>bif (((!(Y0 x12.leaf 0 (w64 ((t1.parents.length:Int)-1))))||(!b13))||(!(Q1 x12.cap)))then(some false)else(k12 ())
def O08(_:Unit):Option Bool :=
 some true
def VA(t1:Topo)(_:Int)(i8:Nat)(v8:Int)(k8:Int->Option Bool):Option Bool :=
 (YD t1.parents (i8:Int)).bind fun b9=>bif (!b9)then(k8 v8)else((VD t1.parents (i8:Int)).bind fun n10=>bif ((decide (0<=v8))&&(n10 != v8))then(some false)else(k8 n10))
def YA(t1:Topo)(_:Int):Option Bool :=
 rgl (XA t1) O08 t1.nodes 0 ()
def Wn(t1:Topo)(v4:Int)(k4:Int->Option Bool):Option Bool :=
 bif (decide (v4<(t1.parents.length:Int)))then((idx t1.parents v4).bind fun e6=>bif (!(Y0 e6 0 (w64 (v4-1))))then(some false)else(k4 (w64 (v4+1))))else(rgl (VA t1) (YA t1) t1.parents 0 (-1))
def On(t1:Topo):Option Bool :=
 (bif (!(Y0 (t1.parents.length:Int) 1 24))then some default else(idx t1.parents 0)).bind fun e2=>bif (((!(Y0 (t1.parents.length:Int) 1 24))||(e2 != 0))||(decide (24<(t1.nodes.length:Int))))then(some false)else(whl (Wn t1) 9223372036854775807 1)
theorem LU{t1:Topo}{r:Bool}(H:On t1=some r):Snd Tryz.prog L0q [X4 .rd t1] (.bool r) []:=by
 refine wS Q0V [.t 2] ?_
 unfold On at H
 obtain⟨e2,h2,H⟩:=bB H
 refine wG [.u 11 (.ln _ _ fun _=>lm t1.parents eI),.u 12 (.call _ _ _ _ _ (AEs.refl _) (fun _=>M1 (t1.parents.length:Int) 1 24)),.g 17 [(_,false)] (.ix _ _ _ fun q=>Q0 eI (bF q.1 h2)),.g 24 [(((!(Y0 (t1.parents.length:Int) 1 24))||(e2 != 0)),false)] (.ln _ _ fun _=>lm t1.nodes Y1)] fun q3=>?_
 refine O0 H (fun H=>?_) fun H=>?_
 .obtain rfl:=sI H
  exact wP (wE [(2,.d)])
 .refine wP ?_
  refine wW (fun(v4:Int)=>⟨[(1,.ptr 1 0),(3,iV v4)],[],[(1,(X4 .rd t1).cells)],[]⟩) H (fun v4 I m k4 H N25=>?_)
  unfold Wn at H
  refine wG [.u 30 (.ln _ _ fun _=>lm t1.parents eI)] fun q5=>?_
  refine O0 H (fun H=>?_) fun H=>?_
  .obtain⟨e6,h6,H⟩:=bB H
   refine wG [.u 37 (.ix _ _ _ fun _=>Q0 eI h6),.u 41 (.call _ _ _ _ _ (AEs.refl _) (fun _=>M1 e6 0 (w64 (v4-1))))] fun _=>?_
   refine O0 H (fun H=>?_) fun H=>?_
   .obtain rfl:=sI H
    exact wP (wE [(2,.d)])
   .refine wP ?_
    exact wT (N25 _ H)
  .refine wG [.u 45 (.ln _ _ fun _=>lm t1.parents eI)] fun q7=>?_
   refine wR (fun(i8:Nat) (v8:Int)=>⟨[(1,.ptr 1 0),(4,iV v8),(45,iV (t1.parents.length:Int)),(46,iV (i8:Int))],[],[(1,(X4 .rd t1).cells)],[]⟩) H (fun i8 x8 v8 I m k8 hxv8 hiv8 H N58=>?_) (fun v8 I m H=>?_)
   .unfold VA at H
    refine wP ?_
    refine wt (ltT hiv8) ?_
    obtain⟨b9,h9,H⟩:=bB H
    refine wG [.c 52 (L0f h9)] fun _=>?_
    refine O0 H (fun H=>?_) fun H=>?_
    .refine wG [.w 66 (wi .i64 rfl hiv8 q3.1)] fun _=>?_
     exact wT (N58 _ H)
    .obtain⟨n10,h10,H⟩:=bB H
     refine wG [.c 57 (Y00 h10)] fun _=>?_
     refine O0 H (fun H=>?_) fun H=>?_
     .obtain rfl:=sI H
      exact wP (wE [(2,.d)])
     .refine wG [.w 66 (wi .i64 rfl hiv8 q3.1)] fun _=>?_
      exact wT (N58 _ H)
   .unfold YA at H
    refine wP ?_
    refine wf (ltF t1.parents.length) ?_
    refine wG [.u 69 (.ln _ _ fun _=>lm t1.nodes Y1)] fun q11=>?_
    refine wR (fun(i12:Nat) (v12:Unit)=>⟨[(1,.ptr 1 0),(68,rV 4 (t1.nodes.map Y1)),(69,iV (t1.nodes.length:Int)),(70,iV (i12:Int))],[],[(1,(X4 .rd t1).cells)],[]⟩) H (fun i12 x12 v12 I m k12 hxv12 hiv12 H N80=>?_) (fun v12 I m H=>?_)
    .unfold XA at H
     refine wP ?_
     refine wt (ltT hiv12) ?_
     obtain⟨b13,h13,H⟩:=bB H
     refine wG [.u 72 (.ix _ _ _ fun _=>Q0 Y1 (J0 hxv12)),.u 78 (.ln _ _ fun _=>lm t1.parents eI),.u 80 (.call _ _ _ _ _ (AEs.refl _) (fun _=>M1 x12.leaf 0 (w64 ((t1.parents.length:Int)-1)))),.g 87 [(_,false)] (.call _ _ _ _ _ (AEs.refl _) (fun q=>L0f (bF q.1 h13))),.g 93 [(((!(Y0 x12.leaf 0 (w64 ((t1.parents.length:Int)-1))))||(!b13)),false)] (.call _ _ _ _ _ (AEs.refl _) (fun _=>U6 x12.cap))] fun q14=>?_
     refine O0 H (fun H=>?_) fun H=>?_
     .obtain rfl:=sI H
      exact wP (wE [(2,.d)])
     .refine wG [.w 96 (wi .i64 rfl hiv12 q11.1)] fun _=>?_
      exact wT (N80 () H)
    .unfold O08 at H
     refine wP ?_
     refine wf (ltF t1.nodes.length) ?_
     obtain rfl:=sI H
     exact wP (wE [(2,.d)])
noncomputable def Z16:L :=
 lf Tryz.prog J0z [] [] [] [] [(1,9)] [] []
def Yw(t1:Topo)(s2:Int):Option Int :=
 (Z00 t1.parents).bind fun n3=>(VD t1.parents s2).bind fun n4=>some (w64 (n3-n4))
theorem OL{t1:Topo}{s2 r:Int}(H:Yw t1 s2=some r):Snd Tryz.prog J0z [X4 .rd t1,iV s2] (iV r) []:=by
 refine wS Z16 [.t 4] ?_
 unfold Yw at H
 obtain⟨n3,h3,H⟩:=bB H
 obtain⟨n4,h4,H⟩:=bB H
 refine wG [.c 7 (X0W h3),.c 11 (Y00 h4)] fun _=>?_
 replace H:=sI H;subst H
 exact wE [(4,.d)]
noncomputable def Q16:L :=
 lf Tryz.prog U0A [7] [] [] [] [] [] []
def Y0g(t1:Topo)(v3:Int×(List Int))(k3:(Int×(List Int))->Option (List Int)):Option (List Int) :=
 bif (decide (0<v3.1))then((idx t1.parents v3.1).bind fun e4=>(appL 8 v3.2 [e4]).bind fun xs5=>k3 (e4,xs5))else(some v3.2)
def WX(t1:Topo)(s2:Int):Option (List Int) :=
 whl (Y0g t1) 9223372036854775807 (s2,[s2])
theorem O0n{t1:Topo}{s2:Int}{r:(List Int)}(H:WX t1 s2=some r):Snd Tryz.prog U0A [X4 .rd t1,iV s2] (nV 1 (r.map eI)) []:=by
 refine wS Q16 [.t 4] ?_
 unfold WX at H
 refine wP ?_
 refine wW (fun(v3:Int×(List Int))=>⟨[(1,iV v3.1),(2,.ptr 2 0),(5,.sref 7)],[],[(2,(X4 .rd t1).cells)],[(7,⟨1,v3.2.map eI,false⟩)]⟩) H (fun v3 I m k3 H N12=>?_)
 unfold Y0g at H
 refine wP ?_
 refine O0 H (fun H=>?_) fun H=>?_
 .obtain⟨e4,h4,H⟩:=bB H
  obtain⟨xs5,h5,H⟩:=bB H
  refine wG [.u 13 (.ix _ _ _ fun _=>Q0 eI h4),.u 18 (.ap _ _ _ _ fun _=>L0 eI h5)] fun _=>?_
  exact wT (N12 _ H)
 .refine wP ?_
  replace H:=sI H;subst H
  exact wN [(4,.f)] [] [] [7] [] [⟨_,nw_I v3.2⟩]
noncomputable def X0F:L :=
 lf Tryz.prog M0b [] [] [] [] [] [] []
def MD(t1:Topo)(x4:Int)(_:Nat)(_:Unit)(k4:Unit->Option Bool):Option Bool :=
 bif (!(Y0 x4 0 (w64 ((t1.nodes.length:Int)-1))))then(some false)else(k4 ())
def OD(t1:Topo)(_:Unit):Option Bool :=
 (On t1).bind fun b6=>some b6
def Qp(t1:Topo)(nodes2:List Int):Option Bool :=
 rgl (MD t1) (OD t1) nodes2 0 ()
theorem J03{t1:Topo}{nodes2:List Int}{r:Bool}(H:Qp t1 nodes2=some r):Snd Tryz.prog M0b [X4 .rd t1,rV 1 (nodes2.map eI)] (.bool r) []:=by
 refine wS X0F [.t 4] ?_
 unfold Qp at H
 refine wG [.u 8 (.ln _ _ fun _=>lm nodes2 eI)] fun q3=>?_
 refine wR (fun(i4:Nat) (v4:Unit)=>⟨[(2,.ptr 2 0),(7,rV 1 (nodes2.map eI)),(8,iV (nodes2.length:Int)),(9,iV (i4:Int))],[],[(2,(X4 .rd t1).cells)],[]⟩) H (fun i4 x4 v4 I m k4 hxv4 hiv4 H N20=>?_) (fun v4 I m H=>?_)
 .unfold MD at H
  refine wP ?_
  refine wt (ltT hiv4) ?_
  refine wG [.u 11 (.ix _ _ _ fun _=>Q0 eI (J0 hxv4)),.u 16 (.ln _ _ fun _=>lm t1.nodes Y1),.u 18 (.call _ _ _ _ _ (AEs.refl _) (fun _=>M1 x4 0 (w64 ((t1.nodes.length:Int)-1))))] fun q5=>?_
  refine O0 H (fun H=>?_) fun H=>?_
  .obtain rfl:=sI H
   exact wP (wE [(4,.d)])
  .refine wG [.w 20 (wi .i64 rfl hiv4 q3.1)] fun _=>?_
   exact wT (N20 () H)
 .unfold OD at H
  refine wP ?_
  refine wf (ltF nodes2.length) ?_
  obtain⟨b6,h6,H⟩:=bB H
  refine wG [.c 22 (LU h6)] fun _=>?_
  replace H:=sI H;subst H
  exact wE [(4,.d)]
noncomputable def MZ:L :=
 lf Tryz.prog YB [] [] [] [] [] [] []
def Mh(v2 x4:Int)(i4:Nat)(_:Unit)(k4:Unit->Option Int):Option Int :=
 bif (v2==x4)then(some (i4:Int))else(k4 ())
def Lv(_:Unit):Option Int :=
 some (-1)
def Ma(s1:List Int)(v2:Int):Option Int :=
 rgl (Mh v2) Lv s1 0 ()
theorem LY{s1:List Int}{v2 r:Int}(H:Ma s1 v2=some r):Snd Tryz.prog YB [rV 1 (s1.map eI),iV v2] (iV r) []:=by
 refine wS MZ [.t 4] ?_
 unfold Ma at H
 refine wG [.u 7 (.ln _ _ fun _=>lm s1 eI)] fun q3=>?_
 refine wR (fun(i4:Nat) (v4:Unit)=>⟨[(0,rV 1 (s1.map eI)),(1,iV v2),(7,iV (s1.length:Int)),(8,iV (i4:Int))],[],[],[]⟩) H (fun i4 x4 v4 I m k4 hxv4 hiv4 H N20=>?_) (fun v4 I m H=>?_)
 .unfold Mh at H
  refine wP ?_
  refine wt (ltT hiv4) ?_
  refine wG [.u 14 (.ix _ _ _ fun _=>Q0 eI (J0 hxv4))] fun _=>?_
  refine O0 H (fun H=>?_) fun H=>?_
  .obtain rfl:=sI H
   exact wP (wE [(4,.d)])
  .refine wG [.w 18 (wi .i64 rfl hiv4 q3.1)] fun _=>?_
   exact wT (N20 () H)
 .unfold Lv at H
  refine wP ?_
  refine wf (ltF s1.length) ?_
  obtain rfl:=sI H
  exact wP (wE [(4,.d)])
noncomputable def XR:L :=
 lf Tryz.prog Yt [] [] [] [] [] [] []
def U3(s1:List Int)(v2:Int):Option Bool :=
 (Ma s1 v2).bind fun n3=>some (decide (0<=n3))
theorem O7{s1:List Int}{v2:Int}{r:Bool}(H:U3 s1 v2=some r):Snd Tryz.prog Yt [rV 1 (s1.map eI),iV v2] (.bool r) []:=by
 refine wS XR [.t 4] ?_
 unfold U3 at H
 obtain⟨n3,h3,H⟩:=bB H
 refine wG [.c 7 (LY h3)] fun _=>?_
 replace H:=sI H;subst H
 exact wE [(4,.d)]
noncomputable def L0V:L :=
 lf Tryz.prog X0r [] [] [] [] [(11,13),(13,14)] [] []
def Ln(t1:Topo)(i5:Nat)(x7:Int)(_:Nat)(v7:Bool)(k7:Bool->Option Int):Option Int :=
 (bif v7 then(idx t1.nodes x7)else some default).bind fun e8=>(bif v7 then(WX t1 e8.leaf)else some default).bind fun y9=>(bif v7 then(U3 y9 (i5:Int))else some default).bind fun b10=>k7 (v7&&b10)
def Xi(t1:Topo)(v5:Int)(i5:Nat)(k5:Int->Option Int)(v7:Bool):Option Int :=
 (bif v7 then(bif (decide (v5<0))then some default else(Yw t1 (i5:Int)))else some default).bind fun n11=>(bif v7 then(bif (decide (v5<0))then some default else(Yw t1 v5))else some default).bind fun n12=>bif (v7&&((decide (v5<0))||(decide (n11<=n12))))then(k5 (i5:Int))else(k5 v5)
def QA(t1:Topo)(nodes2:List Int)(_:Int)(i5:Nat)(v5:Int)(k5:Int->Option Int):Option Int :=
 rgl (Ln t1 i5) (Xi t1 v5 i5 k5) nodes2 0 true
def MQ(v5:Int):Option Int :=
 some v5
def YE(t1:Topo)(nodes2:List Int):Option Int :=
 (Qp t1 nodes2).bind fun b3=>bif ((!b3)||((nodes2.length:Int)==0))then(some (-1))else(rgl (QA t1 nodes2) MQ t1.parents 0 (-1))
theorem Y0X{t1:Topo}{nodes2:List Int}{r:Int}(H:YE t1 nodes2=some r):Snd Tryz.prog X0r [X4 .rd t1,rV 1 (nodes2.map eI)] (iV r) []:=by
 refine wS L0V [.t 4] ?_
 unfold YE at H
 obtain⟨b3,h3,H⟩:=bB H
 refine wG [.c 12 (J03 h3),.g 16 [((!b3),false)] (.ln _ _ fun _=>lm nodes2 eI)] fun _=>?_
 refine O0 H (fun H=>?_) fun H=>?_
 .obtain rfl:=sI H
  exact wP (wE [(4,.d)])
 .refine wG [.u 21 (.ln _ _ fun _=>lm t1.parents eI)] fun q4=>?_
  refine wR (fun(i5:Nat) (v5:Int)=>⟨[(1,rV 1 (nodes2.map eI)),(2,.ptr 2 0),(5,iV v5),(21,iV (t1.parents.length:Int)),(22,iV (i5:Int))],[],[(2,(X4 .rd t1).cells)],[]⟩) H (fun i5 x5 v5 I m k5 hxv5 hiv5 H N45=>?_) (fun v5 I m H=>?_)
  .unfold QA at H
   refine wP ?_
   refine wt (ltT hiv5) ?_
   refine wG [.u 26 (.ln _ _ fun _=>lm nodes2 eI)] fun q6=>?_
   refine wR (fun(i7:Nat) (v7:Bool)=>⟨[(1,rV 1 (nodes2.map eI)),(2,.ptr 2 0),(5,iV v5),(6,iV (i5:Int)),(7,.bool v7),(21,iV (t1.parents.length:Int)),(22,iV (i5:Int)),(25,rV 1 (nodes2.map eI)),(26,iV (nodes2.length:Int)),(27,iV (i7:Int))],[],[(2,(X4 .rd t1).cells)],[]⟩) H (fun i7 x7 v7 I m k7 hxv7 hiv7 H N29=>?_) (fun v7 I m H=>?_)
   .unfold Ln at H
    refine wP ?_
    refine wt (ltT hiv7) ?_
    obtain⟨e8,h8,H⟩:=bB H
    obtain⟨y9,h9,H⟩:=bB H
    obtain⟨b10,h10,H⟩:=bB H
    refine wG [.u 29 (.ix _ _ _ fun _=>Q0 eI (J0 hxv7)),.g 37 [(_,true)] (.ix _ _ _ fun q=>Q0 Y1 (bT q.1 h8)),.g 40 [(_,true)] (.call _ _ _ _ _ (AEs.refl _) (fun q=>O0n (bT q.1 h9))),.g 42 [(_,true)] (.call _ _ _ _ _ (AEs.refl _) (fun q=>O7 (bT q.1 h10))),.w 44 (wi .i64 rfl hiv7 q6.1)] fun _=>?_
    exact wT (N29 _ H)
   .unfold Xi at H
    refine wP ?_
    refine wf (ltF nodes2.length) ?_
    obtain⟨n11,h11,H⟩:=bB H
    obtain⟨n12,h12,H⟩:=bB H
    refine wG [.g 52 [(_,false),(_,true)] (.call _ _ _ _ _ (AEs.refl _) (fun q=>OL (bF q.1 (bT q.2.1 h11)))),.g 55 [(_,false),(_,true)] (.call _ _ _ _ _ (AEs.refl _) (fun q=>OL (bF q.1 (bT q.2.1 h12))))] fun _=>?_
    refine O0 H (fun H=>?_) fun H=>?_
    .refine wG [.w 60 (wi .i64 rfl hiv5 q4.1)] fun _=>?_
     exact wT (N45 _ H)
    .refine wG [.w 60 (wi .i64 rfl hiv5 q4.1)] fun _=>?_
     exact wT (N45 _ H)
  .unfold MQ at H
   refine wP ?_
   refine wf (ltF t1.parents.length) ?_
   obtain rfl:=sI H
   exact wP (wE [(4,.d)])
structure TreeP(P:List Int):Prop where
 pos:0<P.length
 le:P.length<=24
 root:P[0]?=some 0
 par:∀(i:Nat),1<=i->∀(p:Int),P[i]?=some p->0<=p/\p<i
def prt(P:List Int)(i:Nat):Nat:=(P.getD i 0).toNat
def dep(P:List Int)(s:Nat):Nat:=if h:0<s/\prt P s<s then dep P (prt P s)+1 else 0
termination_by s
decreasing_by exact h.2
def ups(P:List Int)(s:Nat):List Nat:=if _:0<s/\prt P s<s then s::ups P (prt P s)else[s]
termination_by s
decreasing_by exact(‹0<s/\prt P s<s›:0<s/\prt P s<s).2
def kids(P:List Int)(s:Int):List Nat:=(List.range' 1 (P.length-1)).filter fun i=>P[i]?==some s
theorem V1o{P:List Int}{s:Int}{c:Nat}:c∈kids P s↔1<=c/\c<P.length/\P[c]?=some s:=by
 simp only[kids,List.mem_filter,List.mem_range',beq_iff_eq]
 constructor
 .rintro⟨⟨i,hi,rfl⟩,h⟩;exact⟨by omega,by omega,h⟩
 .rintro⟨h1,h2,h3⟩;exact⟨⟨c-1,by omega,by omega⟩,h3⟩
theorem TreeP.par_lt{P:List Int}(T:TreeP P){i:Nat}(h1:1<=i)(h:i<P.length):prt P i<i/\P[i]?=some (prt P i:Int):=by
 have e:P[i]?=some P[i]:=yA h
 have:=T.par i h1 _ e
 have q:prt P i=P[i].toNat:=by simp[prt,h]
 rw[q]
 exact⟨by omega,by rw[e];congr 1;omega⟩
theorem J1G(P:List Int):dep P 0=0:=by rw[dep];simp
theorem TreeP.dep_succ{P:List Int}(T:TreeP P){i:Nat}(h1:1<=i)(h:i<P.length):dep P i=dep P (prt P i)+1:=by
 rw[dep,dif_pos ⟨by omega,(T.par_lt h1 h).1⟩]
theorem O10(P:List Int):ups P 0=[0]:=by rw[ups];simp
theorem TreeP.ups_succ{P:List Int}(T:TreeP P){i:Nat}(h1:1<=i)(h:i<P.length):ups P i=i::ups P (prt P i):=by
 rw[ups,dif_pos ⟨by omega,(T.par_lt h1 h).1⟩]
theorem J1B(P:List Int):∀s,dep P s<=s:=by
 intro s
 induction s using Nat.strongRecOn with
 |_ s ih =>
  rw[dep]
  split
  .rename_i h;have:=ih _ h.2;omega
  .omega
theorem V0l(P:List Int)(s:Nat):s∈ups P s:=by rw[ups];split<;>simp
theorem TreeP.ups_mem{P:List Int}(T:TreeP P):∀l,l<P.length->∀s,s∈ups P l->s<=l/\∀x,x∈ups P s->x∈ups P l:=by
 intro l
 induction l using Nat.strongRecOn with
 |_ l ih =>
  intro hl s hs
  by_cases h0:l=0
  .subst h0;rw[O10]at hs;simp at hs;subst hs;exact⟨yV _,fun x hx=>hx⟩
  .have hp:=T.par_lt (i:=l) (by omega) hl
   rw[T.ups_succ (by omega) hl]at hs ⊢
   rcases yX hs with rfl|hs
   .exact⟨yV _,fun x hx=>by rwa [T.ups_succ (by omega) hl]at hx⟩
   .obtain⟨q1,q2⟩:=ih _ hp.1 (by omega) s hs
    exact⟨by omega,fun x hx=>yH _ (q2 x hx)⟩
theorem TreeP.kid_of{P:List Int}(T:TreeP P):∀l,l<P.length->∀s,s∈ups P l->s≠l->∃c,c∈kids P (s:Int)/\c∈ups P l:=by
 intro l
 induction l using Nat.strongRecOn with
 |_ l ih =>
  intro hl s hs hne
  by_cases h0:l=0
  .subst h0;rw[O10]at hs;simp at hs;exact absurd hs hne
  .have hp:=T.par_lt (i:=l) (by omega) hl
   rw[T.ups_succ (by omega) hl]at hs ⊢
   rcases yX hs with rfl|hs
   .exact absurd rfl hne
   .by_cases he:s=prt P l
    .subst he
     exact⟨l,V1o.2 ⟨by omega,hl,hp.2⟩,yJ ..⟩
    .obtain⟨c,q1,q2⟩:=ih _ hp.1 (by omega) s hs he
     exact⟨c,q1,yH _ q2⟩
theorem TreeP.kid_par{P:List Int}(T:TreeP P){s c:Nat}(h:c∈kids P (s:Int)):1<=c/\c<P.length/\prt P c=s/\s<c:=by
 obtain⟨h1,h2,h3⟩:=V1o.1 h
 have hp:=T.par_lt h1 h2
 rw[hp.2]at h3
 have:prt P c=s:=by have:=Option.some.inj h3;omega
 exact⟨h1,h2,this,by omega⟩
structure LeafP(P:List Int)(s l:Nat):Prop where
 lt:l<P.length
 leaf:kids P (l:Int)=[]
 up:s∈ups P l
theorem TreeP.some_leaf{P:List Int}(T:TreeP P):∀(n s:Nat),P.length-s=n->s<P.length->∃l,LeafP P s l:=by
 intro n
 induction n using Nat.strongRecOn with
 |_ n ih =>
  intro s hn hs
  cases hk:kids P (s:Int)with
  |nil=>exact⟨s,hs,hk,V0l P s⟩
  |cons c ks =>
   have hc:c∈kids P (s:Int):=by rw[hk];exact yJ ..
   obtain⟨q1,q2,q3,q4⟩:=T.kid_par hc
   obtain⟨l,hl⟩:=ih (P.length-c) (by omega) c rfl q2
   refine⟨l,hl.lt,hl.leaf,(T.ups_mem l hl.lt c hl.up).2 s ?_⟩
   rw[T.ups_succ q1 q2,q3]
   exact yH _ (V0l P s)
theorem TreeP.leaf_kid{P:List Int}(T:TreeP P){s c l:Nat}(hc:c∈kids P (s:Int))(h:LeafP P c l):LeafP P s l:=by
 obtain⟨q1,q2,q3,q4⟩:=T.kid_par hc
 refine⟨h.lt,h.leaf,(T.ups_mem l h.lt c h.up).2 s ?_⟩
 rw[T.ups_succ q1 q2,q3]
 exact yH _ (V0l P s)
theorem TreeP.leaf_cases{P:List Int}(T:TreeP P){s l:Nat}(h:LeafP P s l):s=l\/∃c,c∈kids P (s:Int)/\LeafP P c l:=by
 by_cases e:s=l
 .exact .inl e
 .obtain⟨c,q1,q2⟩:=T.kid_of l h.lt s h.up e
  exact .inr ⟨c,q1,h.lt,h.leaf,q2⟩
theorem TreeP.zero_up{P:List Int}(T:TreeP P):∀l,l<P.length->0∈ups P l:=by
 intro l
 induction l using Nat.strongRecOn with
 |_ l ih =>
  intro hl
  by_cases h0:l=0
  .subst h0;exact V0l P 0
  .rw[T.ups_succ (by omega) hl]
   exact yH _ (ih _ (T.par_lt (by omega) hl).1 (by have:=(T.par_lt (i:=l) (by omega) hl).1;omega))
theorem Ll(t:Topo)(s:Int)(hl:t.parents.length<=1048576):Ji t s=some ((kids t.parents s).map fun(i:Nat)=>(i:Int)):=by
 unfold Ji
 have h:=W0i (bd:=Jj t s) (fun(i:Nat) (st:List Int)=>((i:Int),st)) (n:=t.parents.length)
  (B:=fun x _ st k=>bif t.parents[x]?==some s then(appL 8 st [(x:Int)]).bind k else k st) (kk:=some) (fun i st k hi=>by
   obtain⟨e,he⟩:∃e,t.parents[i]?=some e:=⟨_,yA hi⟩
   have hlt:(i:Int)<(t.parents.length:Int):=by omega
   simp only[Jj,hlt,decide_true,yN,L6,he,bS,O0i (n:=i) (by omega)]
   rw[show(some e==some s)=(e==s) from rfl])
  (fun i st k hi=>by
   have hlt:¬ (i:Int)<(t.parents.length:Int):=by omega
   simp only[Jj,hlt,decide_false,yM]) 9223372036854775807 1 [] (by omega)
 refine h.trans ?_
 rw[U5 (p:=fun(x:Nat)=>t.parents[x]?==some s) (f:=fun(x:Nat)=>(x:Int)) (fun x _ i b k=>rfl) (by simp;omega)]
 rfl
def LevP(P:List Int)(s:Nat)(v:Int):Prop :=
 (0<=v/\v<=P.length-s/\∀l,LeafP P s l->(dep P l:Int)=dep P s+v)\/(v = -1/\∃l1 l2,LeafP P s l1/\LeafP P s l2/\dep P l1≠dep P l2)
theorem Z0l{t:Topo}(T:TreeP t.parents):∀(n s fuel:Nat),t.parents.length-s=n->s<t.parents.length->n<=fuel->∃v,Jg fuel t (s:Int)=some v/\LevP t.parents s v:=by
 intro n
 induction n using Nat.strongRecOn with
 |_ n ih =>
  intro s fuel hn hs hf
  obtain⟨fuel,rfl⟩:∃m,fuel=m+1:=⟨fuel-1,by omega⟩
  have hle:=T.le
  rw[Jg,Ll t s (by omega),bS,L1v]
  refine Y8 (fun i (v:Int)=>(i=0->v = -1)/\(0<i->0<=v/\v<=t.parents.length-s-1/\∀j c,j<i->(kids t.parents (s:Int))[j]?=some c->∀l,LeafP t.parents c l->(dep t.parents l:Int)=dep t.parents s+1+v)) (fun r=>∃v,r=some v/\LevP t.parents s v) ?_ ?_ ⟨fun _=>rfl,fun h=>by omega⟩
  .intro i c v k hi hI hk
   have hc:c∈kids t.parents (s:Int):=yE hi
   obtain⟨q1,q2,q3,q4⟩:=T.kid_par hc
   have hd:dep t.parents c=dep t.parents s+1:=by rw[T.dep_succ q1 q2,q3]
   obtain⟨n6,hn6,hl6⟩:=ih (t.parents.length-c) (by omega) c fuel rfl q2 (by omega)
   rw[ZC,hn6,bS]
   rcases hl6 with⟨p1,p2,p3⟩|⟨rfl,l1,l2,h1,h2,hne⟩
   .have e1:decide (n6<0)=false:=by simpa using p1
    rw[e1,Bool.false_or]
    by_cases h0:i=0
    .subst h0
     simp only[Int.natCast_zero,Int.lt_irrefl,decide_false,Bool.false_and,yM]
     refine hk n6 ⟨fun h=>by omega,fun _=>⟨p1,by omega,fun j c' hj hc' l hl=>?_⟩⟩
     have:j=0:=by omega
     subst this
     rw[hi]at hc';cases hc'
     rw[p3 l hl,hd];omega
    .have e2:decide ((0:Int)<(i:Int))=true:=by simp;omega
     obtain⟨r1,r2,r3⟩:=hI.2 (by omega)
     rw[e2,Bool.true_and]
     by_cases hv:n6=v
     .subst hv
      simp only[bne_self_eq_false,yM]
      refine hk n6 ⟨fun h=>by omega,fun _=>⟨p1,r2,fun j c' hj hc' l hl=>?_⟩⟩
      by_cases hji:j=i
      .subst hji
       rw[hi]at hc';cases hc'
       rw[p3 l hl,hd];omega
      .exact r3 j c' (by omega) hc' l hl
     .have e3:(n6 != v)=true:=by simpa using hv
      rw[e3,yN]
      refine⟨-1,rfl,.inr ⟨rfl,?_⟩⟩
      obtain⟨c0,hc0⟩:∃c0,(kids t.parents (s:Int))[0]?=some c0:=⟨_,yA (by have:=(yB hi).1;omega)⟩
      have hm0:=yE hc0
      obtain⟨w1,w2,w3,w4⟩:=T.kid_par hm0
      obtain⟨la,hla⟩:=T.some_leaf _ c0 rfl w2
      obtain⟨lb,hlb⟩:=T.some_leaf _ c rfl q2
      refine⟨la,lb,T.leaf_kid hm0 hla,T.leaf_kid hc hlb,fun e=>hv ?_⟩
      have a1:=r3 0 c0 (by omega) hc0 la hla
      have a2:=p3 lb hlb
      omega
   .refine⟨-1,by rfl,.inr ⟨rfl,l1,l2,T.leaf_kid hc h1,T.leaf_kid hc h2,hne⟩⟩
  .intro v hI
   rw[JB]
   by_cases h0:(kids t.parents (s:Int)).length=0
   .rw[hI.1 h0]
    refine⟨0,rfl,.inl ⟨by omega,by omega,fun l hl=>?_⟩⟩
    rcases T.leaf_cases hl with rfl|⟨c,hc,_⟩
    .omega
    .rw[List.eq_nil_of_length_eq_zero h0]at hc;cases hc
   .obtain⟨r1,r2,r3⟩:=hI.2 (by omega)
    rw[X5 (by omega)]
    refine⟨v+1,rfl,.inl ⟨by omega,by omega,fun l hl=>?_⟩⟩
    rcases T.leaf_cases hl with rfl|⟨c,hc,hlc⟩
    .have:=hl.leaf
     rw[this]at h0;simp at h0
    .obtain⟨j,hj⟩:=List.getElem?_of_mem hc
     rw[r3 j c (yB hj).1 hj l hlc];omega
theorem L02{t:Topo}(T:TreeP t.parents){s:Nat}(hs:s<t.parents.length):∃v,Q8 t (s:Int)=some v/\LevP t.parents s v :=
 Z0l T _ s _ rfl hs (by have:=T.le;omega)
structure TopoP(t:Topo):Prop where
 tree:TreeP t.parents
 nodes:t.nodes.length<=24
 node:∀x∈t.nodes,0<=x.leaf/\x.leaf<t.parents.length/\kids t.parents x.leaf=[]/\W0 x.cap=true
 even:∀l1 l2,l1<t.parents.length->l2<t.parents.length->kids t.parents (l1:Int)=[]->kids t.parents (l2:Int)=[]->dep t.parents l1=dep t.parents l2
theorem YO(t:Topo):∃b,Jf t=some b/\(b=true↔TopoP t):=by
 unfold Jf
 by_cases h1:t.parents.length<1
 .exact⟨false,by simp[show((t.parents.length:Int)<1) by omega],Ui fun h=>by have:=h.tree.pos;omega⟩
 by_cases h2:24<t.parents.length
 .exact⟨false,by simp[show((24:Int)<t.parents.length) by omega],Ui fun h=>by have:=h.tree.le;omega⟩
 by_cases h3:24<t.nodes.length
 .exact⟨false,by simp[show((24:Int)<t.nodes.length) by omega],Ui fun h=>by have:=h.nodes;omega⟩
 obtain⟨p0,hp0⟩:∃p0,t.parents[0]?=some p0:=⟨_,yA (by omega)⟩
 have e1:decide ((t.parents.length:Int)<1)=false:=by simp;omega
 have e2:decide ((24:Int)<(t.parents.length:Int))=false:=by simp;omega
 have e3:decide ((24:Int)<(t.nodes.length:Int))=false:=by simp;omega
 rw[e1,e2,e3]
 simp only[Bool.or_self,yM,Bool.false_or,show idx t.parents 0=some p0 from by rw[← hp0];exact L6 (i:=0),bS]
 by_cases h4:p0=0
 .subst h4
  simp only[bne_self_eq_false,yM]
  have h:=W0i (bd:=Zm t) (fun(i:Nat) (_:Unit)=>(i:Int)) (n:=t.parents.length)
   (B:=fun x _ _ k=>bif (match t.parents[x]? with|some e=>decide (e<0)||decide ((x:Int)<=e)|none=>true)then some false else k ())
   (kk:=fun _=>rgl (Jl t) (My t) t.nodes 0 ()) (fun i st k hi=>by
    obtain⟨e,he⟩:∃e,t.parents[i]?=some e:=⟨_,yA hi⟩
    have hlt:(i:Int)<(t.parents.length:Int):=by omega
    simp only[Zm,hlt,decide_true,yN,L6,he,bS,O0i (n:=i) (by omega)])
   (fun i st k hi=>by
    have hlt:¬ (i:Int)<(t.parents.length:Int):=by omega
    simp only[Zm,hlt,decide_false,yM]) 9223372036854775807 1 () (by omega)
  rw[show(1:Int)=((1:Nat):Int) from rfl,h,Wj (p:=fun(x:Nat)=>match t.parents[x]? with|some e=>decide (e<0)||decide ((x:Int)<=e)|none=>true) (fun x _ i k=>rfl)]
  cases hany:(List.range' 1 (t.parents.length-1)).any (fun(x:Nat)=>match t.parents[x]? with|some e=>decide (e<0)||decide ((x:Int)<=e)|none=>true)with
  |true =>
   refine⟨false,rfl,Ui fun hT=>?_⟩
   obtain⟨x,hx,hq⟩:=List.any_eq_true.1 hany
   obtain⟨j,hj,rfl⟩:=List.mem_range'.1 hx
   obtain⟨e,he⟩:∃e,t.parents[1+1*j]?=some e:=⟨_,yA (by omega)⟩
   have:=hT.tree.par _ (by omega) e he
   rw[he]at hq
   simp at hq
   omega
  |false =>
   have T:TreeP t.parents:=⟨by omega,by omega,hp0,fun i hi p hp=>by
    have hlt:i<t.parents.length:=(yB hp).1
    have:=List.any_eq_false.1 hany i (List.mem_range'.2 ⟨i-1,by omega,by omega⟩)
    rw[hp]at this
    simp at this
    omega⟩
   rw[yM]
   have hb:∀x∈t.nodes,∀i k,Jl t x i () k=bif (!(decide (0<=x.leaf)&&decide (x.leaf<t.parents.length)&&(kids t.parents x.leaf).isEmpty&&W0 x.cap))then some false else k ():=by
    intro x _ i k
    unfold Jl
    by_cases q1:x.leaf<0
    .simp[q1,show ¬ 0<=x.leaf by omega]
    .by_cases q2:(t.parents.length:Int)<=x.leaf
     .simp[q1,q2,show ¬ x.leaf<t.parents.length by omega]
     .rw[show decide (x.leaf<0)=false by simpa using q1,show decide ((t.parents.length:Int)<=x.leaf)=false by simpa using q2]
      simp only[Bool.or_self,yM,Bool.false_or,Ll t x.leaf (by omega),bS,List.length_map]
      rw[show decide (0<=x.leaf)=true by simpa using q1,show decide (x.leaf<(t.parents.length:Int))=true by simpa using q2]
      cases hk:kids t.parents x.leaf with
      |nil=>simp
      |cons a l=>simp
   rw[Wj hb]
   cases hany2:t.nodes.any (fun x=>!(decide (0<=x.leaf)&&decide (x.leaf<t.parents.length)&&(kids t.parents x.leaf).isEmpty&&W0 x.cap))with
   |true =>
    refine⟨false,rfl,Ui fun hT=>?_⟩
    obtain⟨x,hx,hq⟩:=List.any_eq_true.1 hany2
    obtain⟨a1,a2,a3,a4⟩:=hT.node x hx
    simp[a1,a2,a3,a4]at hq
   |false =>
    obtain⟨v,hv,hl⟩:=L02 T (s:=0) (by omega)
    rw[yM,My,show(0:Int)=((0:Nat):Int) from rfl,hv,bS]
    have mem:∀l,l<t.parents.length->kids t.parents (l:Int)=[]->LeafP t.parents 0 l:=fun l h1 h2=>⟨h1,h2,T.zero_up l h1⟩
    refine⟨_,rfl,?_⟩
    rw[decide_eq_true_iff]
    constructor
    .intro h0
     refine⟨T,by omega,fun x hx=>?_,fun l1 l2 a1 a2 a3 a4=>?_⟩
     .have:=List.any_eq_false.1 hany2 x hx
      simpa[and_assoc]using this
     .rcases hl with⟨_,_,hl⟩|⟨rfl,_⟩
      .have:=hl l1 (mem l1 a1 a3)
       have:=hl l2 (mem l2 a2 a4)
       omega
      .simp at h0
    .intro hT
     rcases hl with⟨h0,_⟩|⟨rfl,l1,l2,a1,a2,hne⟩
     .exact h0
     .exact absurd (hT.even l1 l2 a1.lt a2.lt a1.leaf a2.leaf) hne
 .refine⟨false,by rw[show(p0 != 0)=true by simpa using h4];rfl,Ui fun h=>h4 ?_⟩
  have:=h.tree.root
  rw[hp0]at this;exact Option.some.inj this
theorem J0f(P:List Int)(s:Int)(hl:P.length<=1048576):YD P s=some (kids P s).isEmpty:=by
 unfold YD
 have h:=W0i (bd:=Un P s) (fun(i:Nat) (_:Unit)=>(i:Int)) (n:=P.length)
  (B:=fun x _ _ k=>bif P[x]?==some s then some false else k ()) (kk:=fun _=>some true) (fun i st k hi=>by
   obtain⟨e,he⟩:∃e,P[i]?=some e:=⟨_,yA hi⟩
   have hlt:(i:Int)<(P.length:Int):=by omega
   simp only[Un,hlt,decide_true,yN,L6,he,bS,O0i (n:=i) (by omega)]
   rw[show(some e==some s)=(e==s) from rfl])
  (fun i st k hi=>by
   have hlt:¬ (i:Int)<(P.length:Int):=by omega
   simp only[Un,hlt,decide_false,yM]) 9223372036854775807 1 () (by omega)
 refine h.trans ?_
 rw[Wj (p:=fun(x:Nat)=>P[x]?==some s) (fun x _ i k=>rfl)]
 unfold kids
 generalize List.range' 1 (P.length-1)=l
 induction l with
 |nil=>rfl
 |cons x l ih =>
  rw[List.any_cons,List.filter_cons]
  cases h:(P[x]?==some s)with
  |true=>simp
  |false=>simpa using ih
theorem X00{P:List Int}(T:TreeP P){s:Nat}(hs:s<P.length):VD P (s:Int)=some (dep P s:Int):=by
 unfold VD
 refine QN (fun _ r=>r=some (dep P s:Int)) (fun b=>b.1.toNat) (fun b=>∃m:Nat,b.1=(m:Int)/\m<P.length/\b.2+(dep P m:Int)=(dep P s:Int)/\0<=b.2) ?_ 9223372036854775807 _ ⟨s,rfl,hs,by simp,by simp⟩ (by have:=T.le;simp only;omega)
 rintro⟨x,n⟩ k ⟨m,hm,h1,h2,h3⟩ hk
 simp only at hm h2 hk h3
 subst hm
 have hle:=T.le
 have hdl:=J1B P s
 unfold MU
 by_cases h0:0<m
 .have hp:=T.par_lt (i:=m) (by omega) h1
  have hlt:(0:Int)<(m:Int):=by omega
  simp only[hlt,decide_true,yN,L6,hp.2,bS]
  have hd:=T.dep_succ (i:=m) (by omega) h1
  rw[X5 (by omega)]
  refine hk _ ⟨_,rfl,by omega,by simp only;omega,by simp only;omega⟩ (by simp only;omega)
 .have:m=0:=by omega
  subst this
  rw[J1G]at h2
  simp only[Int.natCast_zero,Int.lt_irrefl,decide_false,yM]
  congr 1
  omega
theorem Z0P(t:Topo):∃b,On t=some b/\(b=true↔TopoP t):=by
 unfold On
 cases hw:Y0 (t.parents.length:Int) 1 24 with
 |false =>
  refine⟨false,by simp,Ui fun h=>?_⟩
  have:=h.tree.pos;have:=h.tree.le
  simp[Y0]at hw
  omega
 |true =>
 have hw':1<=t.parents.length/\t.parents.length<=24:=by simp[Y0]at hw;omega
 obtain⟨p0,hp0⟩:∃p0,t.parents[0]?=some p0:=⟨_,yA (by omega)⟩
 simp only[yL,yM,Bool.false_or,show idx t.parents 0=some p0 from by rw[← hp0];exact L6 (i:=0),bS]
 by_cases h4:p0=0
 rotate_left
 .refine⟨false,by rw[show(p0 != 0)=true by simpa using h4];rfl,Ui fun h=>h4 ?_⟩
  have:=h.tree.root
  rw[hp0]at this;exact Option.some.inj this
 subst h4
 by_cases h3:24<t.nodes.length
 .exact⟨false,by simp[show((24:Int)<t.nodes.length) by omega],Ui fun h=>by have:=h.nodes;omega⟩
 have e3:decide ((24:Int)<(t.nodes.length:Int))=false:=by simp;omega
 rw[e3]
 simp only[bne_self_eq_false,Bool.or_self,yM]
 have h:=W0i (bd:=Wn t) (fun(i:Nat) (_:Unit)=>(i:Int)) (n:=t.parents.length)
  (B:=fun x _ _ k=>bif (match t.parents[x]? with|some e=>!(Y0 e 0 (w64 ((x:Int)-1)))|none=>true)then some false else k ())
  (kk:=fun _=>rgl (VA t) (YA t) t.parents 0 (-1)) (fun i st k hi=>by
   obtain⟨e,he⟩:∃e,t.parents[i]?=some e:=⟨_,yA hi⟩
   have hlt:(i:Int)<(t.parents.length:Int):=by omega
   simp only[Wn,hlt,decide_true,yN,L6,he,bS,O0i (n:=i) (by omega)])
  (fun i st k hi=>by
   have hlt:¬ (i:Int)<(t.parents.length:Int):=by omega
   simp only[Wn,hlt,decide_false,yM]) 9223372036854775807 1 () (by omega)
 rw[show(1:Int)=((1:Nat):Int) from rfl,h,Wj (p:=fun(x:Nat)=>match t.parents[x]? with|some e=>!(Y0 e 0 (w64 ((x:Int)-1)))|none=>true) (fun x _ i k=>rfl)]
 cases hany:(List.range' 1 (t.parents.length-1)).any (fun(x:Nat)=>match t.parents[x]? with|some e=>!(Y0 e 0 (w64 ((x:Int)-1)))|none=>true)with
 |true =>
  refine⟨false,rfl,Ui fun hT=>?_⟩
  obtain⟨x,hx,hq⟩:=List.any_eq_true.1 hany
  obtain⟨j,hj,rfl⟩:=List.mem_range'.1 hx
  obtain⟨e,he⟩:∃e,t.parents[1+1*j]?=some e:=⟨_,yA (by omega)⟩
  have:=hT.tree.par _ (by omega) e he
  rw[he]at hq
  simp only at hq
  rw[X5 (by omega)]at hq
  simp[Y0]at hq
  omega
 |false =>
  have T:TreeP t.parents:=⟨by omega,by omega,hp0,fun i hi p hp=>by
   have hlt:i<t.parents.length:=(yB hp).1
   have:=List.any_eq_false.1 hany i (List.mem_range'.2 ⟨i-1,by omega,by omega⟩)
   rw[hp]at this
   simp only at this
   rw[X5 (by omega)]at this
   simp[Y0]at this
   omega⟩
  rw[yM]
  refine Y8 (fun i (v:Int)=>(v = -1/\∀l,l<i->kids t.parents (l:Int)≠[])\/(0<=v/\(∃l,l<i/\kids t.parents (l:Int)=[])/\∀l,l<i->kids t.parents (l:Int)=[]->(dep t.parents l:Int)=v))
   (fun r=>∃b,r=some b/\(b=true↔TopoP t)) ?_ ?_ (.inl ⟨rfl,fun l hl=>by omega⟩)
  .intro i x v k hi hI hk
   have hil:i<t.parents.length:=(yB hi).1
   rw[VA,J0f _ _ (by omega),bS]
   cases hkd:kids t.parents (i:Int)with
   |cons a l =>
    simp only[List.isEmpty_cons,Bool.not_false,yN]
    refine hk v ?_
    rcases hI with⟨q1,q2⟩|⟨q1,⟨l0,q2,q3⟩,q4⟩
    .refine .inl ⟨q1,fun l hl=>?_⟩
     by_cases e:l=i
     .subst e;rw[hkd];simp
     .exact q2 l (by omega)
    .refine .inr ⟨q1,⟨l0,by omega,q3⟩,fun l hl hl2=>?_⟩
     by_cases e:l=i
     .subst e;rw[hkd]at hl2;cases hl2
     .exact q4 l (by omega) hl2
   |nil =>
    simp only[List.isEmpty_nil,yL,yM,X00 T hil,bS]
    have hnew:∀v',(∀l,l<i->kids t.parents (l:Int)=[]->(dep t.parents l:Int)=dep t.parents i)->v'=(dep t.parents i:Int)->(v' = -1/\∀l,l<i+1->kids t.parents (l:Int)≠[])\/(0<=v'/\(∃l,l<i+1/\kids t.parents (l:Int)=[])/\∀l,l<i+1->kids t.parents (l:Int)=[]->(dep t.parents l:Int)=v'):=by
     intro v' hq e
     subst e
     refine .inr ⟨by omega,⟨i,by omega,hkd⟩,fun l hl hl2=>?_⟩
     by_cases e:l=i
     .subst e;rfl
     .exact hq l (by omega) hl2
    rcases hI with⟨rfl,q2⟩|⟨q1,⟨l0,q2,q3⟩,q4⟩
    .simp only[show decide ((0:Int)<=-1)=false from rfl,Bool.false_and,yM]
     exact hk _ (hnew _ (fun l hl hl2=>absurd hl2 (q2 l hl)) rfl)
    .by_cases he:(dep t.parents i:Int)=v
     .rw[he]
      simp only[bne_self_eq_false,Bool.and_false,yM]
      exact hk _ (hnew _ (fun l hl hl2=>by rw[q4 l hl hl2,he]) he.symm)
     .have e1:((dep t.parents i:Int)!=v)=true:=by simpa using he
      rw[e1,show decide (0<=v)=true by simpa using q1]
      refine⟨false,rfl,Ui fun hT=>he ?_⟩
      rw[← q4 l0 q2 q3]
      exact_mod_cast hT.even i l0 hil (by omega) hkd q3
  .intro v hI
   rw[YA]
   have hb:∀x∈t.nodes,∀i k,XA t x i () k=bif (!(decide (0<=x.leaf)&&decide (x.leaf<t.parents.length)&&(kids t.parents x.leaf).isEmpty&&W0 x.cap))then some false else k ():=by
    intro x _ i k
    unfold XA
    rw[X5 (by omega)]
    by_cases q1:x.leaf<0
    .simp[Y0,show ¬ 0<=x.leaf by omega]
    .by_cases q2:(t.parents.length:Int)<=x.leaf
     .simp[Y0,show ¬ x.leaf<t.parents.length by omega,show ¬ x.leaf<=(t.parents.length:Int)-1 by omega]
     .have e:Y0 x.leaf 0 ((t.parents.length:Int)-1)=true:=by simp[Y0];omega
      rw[e]
      simp only[yL,yM,Bool.false_or,J0f t.parents x.leaf (by omega),bS,Wp]
      rw[show decide (0<=x.leaf)=true by simpa using q1,show decide (x.leaf<(t.parents.length:Int))=true by simpa using q2]
      cases(kids t.parents x.leaf).isEmpty<;>cases W0 x.cap<;>rfl
   rw[Wj hb]
   cases hany2:t.nodes.any (fun x=>!(decide (0<=x.leaf)&&decide (x.leaf<t.parents.length)&&(kids t.parents x.leaf).isEmpty&&W0 x.cap))with
   |true =>
    refine⟨false,rfl,Ui fun hT=>?_⟩
    obtain⟨x,hx,hq⟩:=List.any_eq_true.1 hany2
    obtain⟨a1,a2,a3,a4⟩:=hT.node x hx
    simp[a1,a2,a3,a4]at hq
   |false =>
    refine⟨true,rfl,⟨fun _=>⟨T,by omega,fun x hx=>?_,fun l1 l2 a1 a2 a3 a4=>?_⟩,fun _=>rfl⟩⟩
    .have:=List.any_eq_false.1 hany2 x hx
     simpa[and_assoc]using this
    .rcases hI with⟨_,q2⟩|⟨q1,_,q4⟩
     .exact absurd a3 (q2 l1 a1)
     .have:=q4 l1 a1 a3
      have:=q4 l2 a2 a4
      omega
theorem JU(t:Topo):On t=Jf t:=by
 obtain⟨a,h1,h2⟩:=Z0P t
 obtain⟨b,h3,h4⟩:=YO t
 rw[h1,h3]
 congr 1
 exact Bool.eq_iff_iff.2 (h2.trans h4.symm)
noncomputable def topoOk(t:Topo):Bool:=(Jf t).getD false
theorem Vr(t:Topo):Jf t=some (topoOk t):=by
 obtain⟨b,h3,_⟩:=YO t
 rw[topoOk,h3];rfl
theorem MM{t:Topo}:topoOk t=true↔TopoP t:=by
 obtain⟨b,h3,h4⟩:=YO t
 rw[topoOk,h3];exact h4
theorem TopoP.last{t:Topo}(h:TopoP t):kids t.parents ((t.parents.length-1:Nat):Int)=[]:=by
 cases hk:kids t.parents ((t.parents.length-1:Nat):Int)with
 |nil=>rfl
 |cons c l =>
  obtain⟨q1,q2,q3,q4⟩:=h.tree.kid_par (s:=t.parents.length-1) (c:=c) (by rw[hk];exact yJ ..)
  omega
def lev(t:Topo)(s:Nat):Int:=(dep t.parents (t.parents.length-1):Int)-dep t.parents s
theorem Zf{t:Topo}(h:TopoP t){s:Nat}(hs:s<t.parents.length):Q8 t (s:Int)=some (lev t s):=by
 obtain⟨v,h1,h2⟩:=L02 h.tree hs
 rw[h1]
 have hp:=h.tree.pos
 obtain⟨l,hl⟩:=h.tree.some_leaf _ s rfl hs
 rcases h2 with⟨_,_,h2⟩|⟨_,l1,l2,a1,a2,hne⟩
 .have e1:=h2 l hl
  have e2:=h.even l (t.parents.length-1) hl.lt (by omega) hl.leaf h.last
  unfold lev
  congr 1
  omega
 .exact absurd (h.even l1 l2 a1.lt a2.lt a1.leaf a2.leaf) hne
theorem Wz{t:Topo}(h:TopoP t){s:Nat}(hs:s<t.parents.length):Yw t (s:Int)=some (lev t s):=by
 have hp:=h.tree.pos
 have hle:=h.tree.le
 unfold Yw Z00
 rw[X5 (by omega),show((t.parents.length:Int)-1)=((t.parents.length-1:Nat):Int) by omega,X00 h.tree (by omega),bS,bS,X00 h.tree hs,bS]
 have:=J1B t.parents (t.parents.length-1)
 have:=J1B t.parents s
 rw[X5 (by omega)];rfl
theorem V11{t:Topo}(T:TreeP t.parents){s:Nat}(hs:s<t.parents.length):Mv t (s:Int)=some ((ups t.parents s).map fun(i:Nat)=>(i:Int)):=by
 unfold Mv
 refine QN (fun _ r=>r=some ((ups t.parents s).map fun(i:Nat)=>(i:Int))) (fun b=>b.1.toNat) (fun b=>∃m:Nat,b.1=(m:Int)/\m<t.parents.length/\b.2.length+m<=1000/\∃l,b.2=l++[(m:Int)]/\(ups t.parents s).map (fun(i:Nat)=>(i:Int))=l++(ups t.parents m).map fun(i:Nat)=>(i:Int)) ?_ 9223372036854775807 _ ⟨s,rfl,hs,by have:=T.le;simp;omega,[],by simp⟩ (by have:=T.le;simp only;omega)
 rintro⟨x,n⟩ k ⟨m,hm,h1,h2,l,h3,h4⟩ hk
 simp only at hm h2 hk h3
 subst hm
 have hle:=T.le
 unfold WT
 by_cases h0:0<m
 .have hp:=T.par_lt (i:=m) (by omega) h1
  have hlt:(0:Int)<(m:Int):=by omega
  simp only[hlt,decide_true,yN,L6,hp.2,bS]
  rw[M0 (by simp;omega),bS]
  refine hk _ ⟨_,rfl,by omega,by simp;omega,n,rfl,?_⟩ (by simp only;omega)
  rw[h4,h3,T.ups_succ (by omega) h1]
  simp
 .have:m=0:=by omega
  subst this
  simp only[Int.natCast_zero,Int.lt_irrefl,decide_false,yM]
  rw[h4,h3,O10];rfl
theorem M0n(t:Topo)(s:Int):WX t s=Mv t s:=rfl
theorem W8(l:List Int)(n:Int):Va l n=some (l.contains n):=by
 unfold Va
 rw[Wj (p:=fun x=>x==n) (fun x _ i k=>rfl)]
 unfold JN
 rw[show l.contains n=l.any (fun x=>x==n) from by rw[List.contains_eq_any_beq];congr 1;funext x;exact Bool.beq_comm]
 cases l.any fun x=>x==n<;>rfl
theorem Q0J(l:List Int)(n:Int):∃r:Int,Ma l n=some r/\decide (0<=r)=l.contains n:=by
 unfold Ma
 refine Y8 (fun i (_:Unit)=>∀j x,j<i->l[j]?=some x->x≠n) (fun r=>∃m:Int,r=some m/\decide (0<=m)=l.contains n) ?_ ?_ (fun j x h=>by omega)
 .intro i x b k hi hI hk
  unfold Mh
  by_cases h:n=x
  .subst h
   simp only[beq_self_eq_true,yN]
   refine⟨i,rfl,?_⟩
   have:l.contains n=true:=List.contains_iff_mem.2 (yE hi)
   rw[this];simp
  .rw[show(n==x)=false by simpa using h,yM]
   refine hk () fun j y hj hy=>?_
   by_cases e:j=i
   .subst e;rw[hi]at hy;cases hy;exact fun e=>h e.symm
   .exact hI j y (by omega) hy
 .intro b hI
  refine⟨-1,rfl,?_⟩
  have:l.contains n=false:=by
   rw[Bool.eq_false_iff]
   intro h
   obtain⟨j,hj⟩:=List.getElem?_of_mem (List.contains_iff_mem.1 h)
   exact hI j n (yB hj).1 hj rfl
  rw[this];rfl
theorem Ul(l:List Int)(n:Int):U3 l n=some (l.contains n):=by
 obtain⟨r,h1,h2⟩:=Q0J l n
 unfold U3
 rw[h1,bS,h2]
noncomputable def Q4(t:Topo)(l:List Int):Bool:=l.all (fun n=>decide (0<=n)&&decide (n<t.nodes.length))&&topoOk t
theorem Q3{t:Topo}{l:List Int}:Q4 t l=true↔TopoP t/\∀n∈l,0<=n/\n<t.nodes.length:=by
 simp[Q4,MM,and_comm]
theorem Lt(t:Topo)(l:List Int):Je t l=some (Q4 t l):=by
 unfold Je Q4
 rw[Wj (r:=some false) (p:=fun(x:Int)=>!(decide (0<=x)&&decide (x<t.nodes.length))) (fun x _ i k=>by
  unfold Zp
  by_cases h1:x<0
  .simp[h1,show ¬ 0<=x by omega]
  .by_cases h2:(t.nodes.length:Int)<=x
   .simp[h1,h2,show 0<=x by omega,show ¬ x<t.nodes.length by omega]
   .simp[h1,h2,show 0<=x by omega,show x<t.nodes.length by omega])]
 unfold Jo
 rw[Vr,← List.not_all_eq_any_not]
 cases l.all fun n=>decide (0<=n)&&decide (n<t.nodes.length)<;>rfl
theorem Z04(t:Topo)(l:List Int)(hl:t.nodes.length<=1048576):Qp t l=some (Q4 t l):=by
 rw[← Lt]
 unfold Qp Je
 refine U07 (fun i x b k _=>?_) fun b=>?_
 .unfold MD Zp
  rw[X5 (by omega)]
  by_cases h1:x<0
  .simp[Y0,h1,show ¬ 0<=x by omega]
  .by_cases h2:(t.nodes.length:Int)<=x
   .simp[Y0,h1,h2,show 0<=x by omega,show ¬ x<=(t.nodes.length:Int)-1 by omega]
   .simp[Y0,h1,h2,show 0<=x by omega,show x<=(t.nodes.length:Int)-1 by omega]
 .unfold OD Jo
  rw[JU]
def hasUp(t:Topo)(n:Int)(s:Nat):Bool:=match idx t.nodes n with
 |some e=>((ups t.parents e.leaf.toNat).map fun(i:Nat)=>(i:Int)).contains (s:Int)
 |none=>false
theorem XH{t:Topo}{l:List Int}(h:Q4 t l=true){n:Int}(hn:n∈l):∃(e:Node) (m:Nat),idx t.nodes n=some e/\e.leaf=m/\m<t.parents.length:=by
 obtain⟨h1,h2⟩:=Q3.1 h
 obtain⟨e,q1,q2⟩:=Qf (l:=t.nodes) (i:=n) (h2 n hn).1 (h2 n hn).2
 obtain⟨a1,a2,_,_⟩:=h1.node e (yE q2)
 exact⟨e,e.leaf.toNat,q1,by omega,by omega⟩
theorem M18{t:Topo}{l:List Int}(h:Q4 t l=true){n:Int}(hn:n∈l)(s:Nat){γ:Type}(f:Bool->Option γ) :
  ((idx t.nodes n).bind fun e=>(Mv t e.leaf).bind fun y=>(Va y (s:Int)).bind f)=f (hasUp t n s):=by
 obtain⟨e,m,q1,q2,q3⟩:=XH h hn
 have T:=(Q3.1 h).1.tree
 unfold hasUp
 rw[q1,bS,q2,V11 T q3,bS,W8,bS]
 simp[q2]
theorem M1s{t:Topo}{l:List Int}(h:Q4 t l=true){n:Int}(hn:n∈l):hasUp t n 0=true:=by
 obtain⟨e,m,q1,q2,q3⟩:=XH h hn
 have T:=(Q3.1 h).1.tree
 unfold hasUp
 rw[q1]
 simp only[List.contains_iff_mem,q2]
 exact List.mem_map.2 ⟨0,T.zero_up _ (by simpa using q3),rfl⟩
theorem Y1a(p:Int->Bool):∀(l:List Int) (v:Bool),l.foldl (fun v x=>v&&p x) v=(v&&l.all p)
 |[],v=>by simp
 |x::l,v=>by rw[List.foldl_cons,Y1a p l,List.all_cons,Bool.and_assoc]
theorem M1D{t:Topo}{l:List Int}(h:Q4 t l=true)(s:Nat)(v5:Int)(k:Int->Option Int) :
  rgl (Wm t s) (Uh t v5 s k) l 0 true=Uh t v5 s k (l.all fun n=>hasUp t n s) /\
  rgl (Ln t s) (Xi t v5 s k) l 0 true=Xi t v5 s k (l.all fun n=>hasUp t n s):=by
 constructor
 .rw[Qr (f:=fun v x=>v&&hasUp t x s) (fun x hx i b k=>by
   unfold Wm
   rw[M18 h hx s (fun b10=>bif (!b10)then k false else k b)]
   cases hasUp t x s<;>simp),Y1a,Bool.true_and]
 .rw[Qr (f:=fun v x=>v&&hasUp t x s) (fun x hx i b k=>by
   unfold Ln
   cases b with
   |false=>simp only[yM,Bool.false_and];rfl
   |true =>
    simp only[yN,Bool.true_and]
    rw[← M18 h hx s k]
    congr 1;funext e;rw[M0n];congr 1;funext y;rw[Ul,W8]),Y1a,Bool.true_and]
theorem J1k{t:Topo}{l:List Int}(h:Q4 t l=true)(hne:l≠[]):∃s:Nat,s<t.parents.length/\Wu t l=some (s:Int)/\YE t l=some (s:Int):=by
 have hT:=(Q3.1 h).1
 have hnl:=hT.nodes
 have hpos:=hT.tree.pos
 have e1:((l.length:Int)==0)=false:=by
  cases l with
  |nil=>exact absurd rfl hne
  |cons a l=>simp;omega
 have step:∀(i:Nat) (b:Int) (k:Int->Option Int),i<t.parents.length->(b = -1\/∃s:Nat,b=s/\s<t.parents.length) ->
   rgl (Wm t i) (Uh t b i k) l 0 true=k (bif (l.all fun n=>hasUp t n i)&&(decide (b<0)||decide (lev t i<=lev t b.toNat))then(i:Int)else b) /\
   rgl (Ln t i) (Xi t b i k) l 0 true=k (bif (l.all fun n=>hasUp t n i)&&(decide (b<0)||decide (lev t i<=lev t b.toNat))then(i:Int)else b):=by
  intro i b k hi hb
  obtain⟨q1,q2⟩:=M1D h i b k
  rw[q1,q2]
  unfold Uh Xi
  cases hall:l.all fun n=>hasUp t n i with
  |false=>exact⟨rfl,rfl⟩
  |true =>
   rcases hb with rfl|⟨s,rfl,hs⟩
   .exact⟨rfl,rfl⟩
   .have hn:decide ((s:Int)<0)=false:=by simp
    simp only[hn,yN,yM,Bool.true_and,Bool.false_or,Zf hT hi,Zf hT hs,Wz hT hi,Wz hT hs,bS,yZ]
    cases decide (lev t i<=lev t s)<;>exact⟨rfl,rfl⟩
 have fin:∀(bd:Int->Nat->Int->(Int->Option Int)->Option Int) (kk:Int->Option Int),kk=some->(∀(x:Int) (i:Nat) (b:Int) (k:Int->Option Int),i<t.parents.length->(b = -1\/∃s:Nat,b=s/\s<t.parents.length)->bd x i b k=k (bif (l.all fun n=>hasUp t n i)&&(decide (b<0)||decide (lev t i<=lev t b.toNat))then(i:Int)else b)) ->
   ∃s:Nat,s<t.parents.length/\rgl bd kk t.parents 0 (-1)=some (s:Int):=by
  intro bd kk hkk hbd
  refine Y8 (fun i (b:Int)=>(i=0/\b = -1)\/(0<i/\∃s:Nat,b=s/\s<t.parents.length)) (fun r=>∃s:Nat,s<t.parents.length/\r=some (s:Int)) ?_ ?_ (.inl ⟨rfl,rfl⟩)
  .intro i x b k hi hI hk
   have hil:=(yB hi).1
   rw[hbd x i b k hil (by rcases hI with h|h;exact .inl h.2;exact .inr h.2)]
   refine hk _ (.inr ⟨by omega,?_⟩)
   rcases hI with⟨rfl,rfl⟩|⟨_,s,rfl,hs⟩
   .rw[show(l.all fun n=>hasUp t n 0)=true from List.all_eq_true.2 fun n hn=>M1s h hn]
    exact⟨0,rfl,hpos⟩
   .cases((l.all fun n=>hasUp t n i)&&(decide ((s:Int)<0)||decide (lev t i<=lev t (s:Int).toNat)))with
    |true=>exact⟨i,rfl,hil⟩
    |false=>exact⟨s,rfl,hs⟩
  .intro b hI
   rcases hI with⟨h0,_⟩|⟨_,s,rfl,hs⟩
   .omega
   .exact⟨s,hs,by rw[hkk]⟩
 have eq:rgl (QA t l) MQ t.parents 0 (-1)=rgl (Qh t l) Xz t.parents 0 (-1):=by
  refine M12 (fun i (b c:Int)=>b=c/\(b = -1\/∃s:Nat,b=s/\s<t.parents.length)) rfl (fun i x y b c k k2 hx hy hr hk=>?_) (fun b c hr=>by rw[hr.1];rfl) ⟨rfl,.inl rfl⟩
  obtain⟨rfl,hb⟩:=hr
  have hil:=(yB hx).1
  unfold QA Qh
  rw[(step i b k hil hb).2,(step i b k2 hil hb).1]
  refine hk _ _ ⟨rfl,?_⟩
  cases((l.all fun n=>hasUp t n i)&&(decide (b<0)||decide (lev t i<=lev t b.toNat)))with
  |true=>exact .inr ⟨i,rfl,hil⟩
  |false=>exact hb
 obtain⟨s,h1,h2⟩:=fin (Qh t l) Xz rfl fun x i b k hi hb=>by unfold Qh;exact(step i b k hi hb).1
 refine⟨s,h1,?_,?_⟩
 .unfold Wu
  rw[Lt,h,bS,e1]
  exact h2
 .unfold YE
  rw[Z04 t l (by omega),h,bS,e1]
  exact eq.trans h2
noncomputable def V0U:L :=
 lf Tryz.prog Y0q [] [] [] [] [(6,38)] [] []
def OO(p1:List Pt)(x5:Pt)(i5:Nat)(_:Unit)(k5:Unit->Option Bool):Option Bool :=
 (bif ((!(M2 x5.t))||(!(W0 x5.free)))then some default else(bif (decide (0<(i5:Int)))then(idx p1 (w64 ((i5:Int)-1)))else some default)).bind fun e6=>(bif ((!(M2 x5.t))||(!(W0 x5.free)))then some default else(bif (decide (0<(i5:Int)))then(bif (decide (x5.t<=e6.t))then some default else(idx p1 (w64 ((i5:Int)-1))))else some default)).bind fun e7=>bif (((!(M2 x5.t))||(!(W0 x5.free)))||((decide (0<(i5:Int)))&&((decide (x5.t<=e6.t))||(e7.free.a==x5.free.a&&(e7.free.b==x5.free.b&&(e7.free.c==x5.free.c&&true))))))then(some false)else(k5 ())
def O06(_:Unit):Option Bool :=
 some true
def Qa(p1:List Pt):Option Bool :=
 (bif ((decide ((p1.length:Int)<1))||(decide (200<(p1.length:Int))))then some default else(idx p1 0)).bind fun e2=>bif (((decide ((p1.length:Int)<1))||(decide (200<(p1.length:Int))))||(e2.t != 0))then(some false)else(rgl (OO p1) O06 p1 0 ())
theorem XF{p1:List Pt}{r:Bool}(H:Qa p1=some r):Snd Tryz.prog Y0q [.agg [rV 4 (p1.map ePt)]] (.bool r) []:=by
 refine wS V0U [.t 2] ?_
 unfold Qa at H
 obtain⟨e2,h2,H⟩:=bB H
 refine wG [.u 7 (.ln _ _ fun _=>lm p1 ePt),.g 12 [((decide ((p1.length:Int)<1)),false)] (.ln _ _ fun _=>lm p1 ePt),.g 18 [(_,false)] (.ix _ _ _ fun q=>Q0 ePt (bF q.1 h2))] fun q3=>?_
 refine O0 H (fun H=>?_) fun H=>?_
 .obtain rfl:=sI H
  exact wP (wE [(2,.d)])
 .refine wG [.u 25 (.ln _ _ fun _=>lm p1 ePt)] fun q4=>?_
  refine wR (fun(i5:Nat) (v5:Unit)=>⟨[(1,.ptr 1 0),(24,rV 4 (p1.map ePt)),(25,iV (p1.length:Int)),(26,iV (i5:Int))],[],[(1,[rV 4 (p1.map ePt)])],[]⟩) H (fun i5 x5 v5 I m k5 hxv5 hiv5 H N27=>?_) (fun v5 I m H=>?_)
  .unfold OO at H
   refine wP ?_
   refine wt (ltT hiv5) ?_
   obtain⟨e6,h6,H⟩:=bB H
   obtain⟨e7,h7,H⟩:=bB H
   refine wG [.u 29 (.ix _ _ _ fun _=>Q0 ePt (J0 hxv5)),.c 33 (Z7 x5.t),.g 38 [((!(M2 x5.t)),false)] (.call _ _ _ _ _ (AEs.refl _) (fun _=>J4 x5.free)),.g 49 [(_,true),(_,false)] (.ix _ _ _ fun q=>Q0 ePt (bT q.1 (bF q.2.1 h6))),.g 60 [(_,false),(_,true),(_,false)] (.ix _ _ _ fun q=>Q0 ePt (bF q.1 (bT q.2.1 (bF q.2.2.1 h7))))] fun _=>?_
   refine O0 H (fun H=>?_) fun H=>?_
   .obtain rfl:=sI H
    exact wP (wE [(2,.d)])
   .refine wG [.w 69 (wi .i64 rfl hiv5 q3.1)] fun _=>?_
    exact wT (N27 () H)
  .unfold O06 at H
   refine wP ?_
   refine wf (ltF p1.length) ?_
   obtain rfl:=sI H
   exact wP (wE [(2,.d)])
noncomputable def U0N:L :=
 lf Tryz.prog JV [10] [] [] [] [] [] []
def VF(v1:Vec):Option ((List Pt)×Bool) :=
 bif (!(W0 v1))then(some ([],false))else(some ([(Pt.mk 0 v1)],true))
theorem M0s{v1:Vec}{r:(List Pt)×Bool}(H:VF v1=some r):Snd Tryz.prog JV [eVec v1] (.tup [Y2 .nw r.1,.bool r.2]) []:=by
 refine wS U0N [.c 2 1 true,.t 3] ?_
 unfold VF at H
 refine wG [.c 5 (J4 v1)] fun _=>?_
 refine O0 H (fun H=>?_) fun H=>?_
 .refine wP ?_
  replace H:=sI H;subst H
  exact wN [(2,.d),(3,.d)] [(2,[.n 4])] [] [] [] [⟨_,Oj ([]:List Pt)⟩]
 .refine wP ?_
  replace H:=sI H;subst H
  exact wN [(2,.d),(3,.d)] [(2,[.f])] [] [10] [] [⟨_,Oj [(Pt.mk 0 v1)]⟩]
def Z6(v1:Vec):(List Pt)×Bool :=
 bif (!(W0 v1))then(([],false))else(([(Pt.mk 0 v1)],true))
theorem X0S(v1:Vec):VF v1=some (Z6 v1):=by
 unfold VF Z6
 first|rfl|simp only[O5]
theorem L06(v1:Vec):Snd Tryz.prog JV [eVec v1] (.tup [Y2 .nw ((Z6 v1).1),.bool ((Z6 v1).2)]) []:=M0s (X0S v1)
noncomputable def Y15:L :=
 lf Tryz.prog X0z [] [] [] [] [] [] []
def QT(t2:Int)(x4:Pt)(_:Nat)(v4:Vec)(k4:Vec->Option Vec):Option Vec :=
 bif (decide (x4.t<=t2))then(k4 x4.free)else(k4 v4)
def Z0f(v4:Vec):Option Vec :=
 some v4
def JM(p1:List Pt)(t2:Int):Option Vec :=
 rgl (QT t2) Z0f p1 0 (Vec.mk 0 0 0)
theorem M0k{p1:List Pt}{t2:Int}{r:Vec}(H:JM p1 t2=some r):Snd Tryz.prog X0z [.agg [rV 4 (p1.map ePt)],iV t2] (eVec r) []:=by
 refine wS Y15 [.c 4 3 true] ?_
 unfold JM at H
 refine wG [.u 11 (.ln _ _ fun _=>lm p1 ePt)] fun q3=>?_
 refine wR (fun(i4:Nat) (v4:Vec)=>⟨[(1,iV t2),(4,.ptr 4 0),(5,.ptr 5 0),(10,rV 4 (p1.map ePt)),(11,iV (p1.length:Int)),(12,iV (i4:Int))],[],[(4,(eVec (Vec.mk 0 0 0)).cells),(5,(eVec v4).cells)],[]⟩) H (fun i4 x4 v4 I m k4 hxv4 hiv4 H N19=>?_) (fun v4 I m H=>?_)
 .unfold QT at H
  refine wP ?_
  refine wt (ltT hiv4) ?_
  refine wG [.u 14 (.ix _ _ _ fun _=>Q0 ePt (J0 hxv4))] fun _=>?_
  refine O0 H (fun H=>?_) fun H=>?_
  .refine wG [.w 22 (wi .i64 rfl hiv4 q3.1)] fun _=>?_
   exact wT (N19 _ H)
  .refine wG [.w 22 (wi .i64 rfl hiv4 q3.1)] fun _=>?_
   exact wT (N19 _ H)
 .unfold Z0f at H
  refine wP ?_
  refine wf (ltF p1.length) ?_
  refine wP ?_
  replace H:=sI H;subst H
  exact wN [(4,.d)] [(4,[])] [] [] [] []
noncomputable def Q0N:L :=
 lf Tryz.prog J0h [] [] [] [] [] [] []
def ZJ(from2 to3:Int)(x7:Pt)(_:Nat)(v7:Vec)(k7:Vec->Option (Vec×Bool)):Option (Vec×Bool) :=
 bif ((decide (from2<=x7.t))&&(decide (x7.t<to3)))then(k7 (Q2 v7 x7.free))else(k7 v7)
def V03(v7:Vec):Option (Vec×Bool) :=
 some (v7,true)
def Um(p1:List Pt)(from2 to3:Int):Option (Vec×Bool) :=
 (Qa p1).bind fun b4=>bif ((((!b4)||(!(M2 from2)))||(!(M2 to3)))||(decide (to3<=from2)))then(some ((Vec.mk 0 0 0),false))else((JM p1 from2).bind fun y5=>rgl (ZJ from2 to3) V03 p1 0 y5)
theorem MO{p1:List Pt}{from2 to3:Int}{r:Vec×Bool}(H:Um p1 from2 to3=some r):Snd Tryz.prog J0h [.agg [rV 4 (p1.map ePt)],iV from2,iV to3] (.tup [eVec r.1,.bool r.2]) []:=by
 refine wS Q0N [.c 6 3 true,.t 7] ?_
 unfold Um at H
 obtain⟨b4,h4,H⟩:=bB H
 refine wG [.c 12 (XF h4),.g 16 [((!b4),false)] (.call _ _ _ _ _ (AEs.refl _) (fun _=>Z7 from2)),.g 21 [(((!b4)||(!(M2 from2))),false)] (.call _ _ _ _ _ (AEs.refl _) (fun _=>Z7 to3))] fun _=>?_
 refine O0 H (fun H=>?_) fun H=>?_
 .refine wP ?_
  replace H:=sI H;subst H
  exact wN [(6,.d),(7,.d)] [(6,[])] [] [] [] []
 .obtain⟨y5,h5,H⟩:=bB H
  refine wG [.c 32 (M0k h5),.u 35 (.ln _ _ fun _=>lm p1 ePt)] fun q6=>?_
  refine wR (fun(i7:Nat) (v7:Vec)=>⟨[(1,iV from2),(2,iV to3),(6,.ptr 6 0),(8,.ptr 8 0),(34,rV 4 (p1.map ePt)),(35,iV (p1.length:Int)),(36,iV (i7:Int))],[],[(6,(eVec (Vec.mk 0 0 0)).cells),(8,(eVec v7).cells)],[]⟩) H (fun i7 x7 v7 I m k7 hxv7 hiv7 H N26=>?_) (fun v7 I m H=>?_)
  .unfold ZJ at H
   refine wP ?_
   refine wt (ltT hiv7) ?_
   refine wG [.u 38 (.ix _ _ _ fun _=>Q0 ePt (J0 hxv7))] fun _=>?_
   refine O0 H (fun H=>?_) fun H=>?_
   .refine wG [.c 53 (M0R v7 x7.free),.w 54 (wi .i64 rfl hiv7 q6.1)] fun _=>?_
    exact wT (N26 _ H)
   .refine wG [.w 54 (wi .i64 rfl hiv7 q6.1)] fun _=>?_
    exact wT (N26 _ H)
  .unfold V03 at H
   refine wP ?_
   refine wf (ltF p1.length) ?_
   refine wP ?_
   replace H:=sI H;subst H
   exact wN [(6,.d),(7,.d)] [(6,[])] [] [] [] []
noncomputable def M0D:L :=
 lf Tryz.prog U0a [16,38] [] [] [] [] [] [32087347]
def Lg(x8 x10:Int)(k10:(Bool×(List Int))->Option (List Int))(v12:Bool×(List Int)):Option (List Int) :=
 bif (x10 != x8)then((appL 8 v12.2 [x10]).bind fun xs13=>k10 (v12.1,xs13))else(k10 (v12.1,v12.2))
def Lo(x8 x10:Int)(_:Nat)(v10:Bool×(List Int))(k10:(Bool×(List Int))->Option (List Int)):Option (List Int) :=
 bif ((!v10.1)&&(decide (x8<=x10)))then((appL 8 v10.2 [x8]).bind fun xs11=>(Lg x8 x10 k10) (true,xs11))else((Lg x8 x10 k10) (v10.1,v10.2))
def Oo(x8:Int)(k8:(List Int)->Option (List Int))(v10:Bool×(List Int)):Option (List Int) :=
 bif (!v10.1)then((appL 8 v10.2 [x8]).bind fun xs14=>k8 xs14)else(k8 v10.2)
def Mo(x8:Int)(_:Nat)(v8:(List Int))(k8:(List Int)->Option (List Int)):Option (List Int) :=
 rgl (Lo x8) (Oo x8 k8) v8 0 (false,[])
def QW(v8:(List Int)):Option (List Int) :=
 some v8
def LB(x5:Pt)(_:Nat)(v5:(List Int))(k5:(List Int)->Option (List Int)):Option (List Int) :=
 (appL 8 v5 [x5.t]).bind fun xs6=>k5 xs6
def MB(from2 to3:Int)(v5:(List Int)):Option (List Int) :=
 rgl Mo QW [from2,to3] 0 v5
def Lx(p1:List Pt)(from2 to3:Int):Option (List Int) :=
 rgl LB (MB from2 to3) p1 0 []
theorem X0B{p1:List Pt}{from2 to3:Int}{r:(List Int)}(H:Lx p1 from2 to3=some r):Snd Tryz.prog U0a [.agg [rV 4 (p1.map ePt)],iV from2,iV to3] (nV 1 (r.map eI)) []:=by
 refine wS M0D [.t 6] ?_
 unfold Lx at H
 refine wG [.u 19 (.ln _ _ fun _=>lm p1 ePt)] fun q4=>?_
 refine wR (fun(i5:Nat) (v5:(List Int))=>⟨[(1,iV from2),(2,iV to3),(7,.sref 16),(18,rV 4 (p1.map ePt)),(19,iV (p1.length:Int)),(20,iV (i5:Int))],[],[],[(16,⟨1,v5.map eI,false⟩)]⟩) H (fun i5 x5 v5 I m k5 hxv5 hiv5 H N15=>?_) (fun v5 I m H=>?_)
 .unfold LB at H
  refine wP ?_
  refine wt (ltT hiv5) ?_
  obtain⟨xs6,h6,H⟩:=bB H
  refine wG [.u 22 (.ix _ _ _ fun _=>Q0 ePt (J0 hxv5)),.u 28 (.ap _ _ _ _ fun _=>L0 eI h6),.w 29 (wi .i64 rfl hiv5 q4.1)] fun _=>?_
  exact wT (N15 _ H)
 .unfold MB at H
  refine wP ?_
  refine wf (ltF p1.length) ?_
  refine wG [.u 33 (.ln _ _ fun _=>lm ([from2,to3]:List Int) eI)] fun q7=>?_
  refine wR (fun(i8:Nat) (v8:(List Int))=>⟨[(7,.sref 16),(32,nV 1 (([from2,to3]).map eI)),(33,iV (([from2,to3]:List Int).length:Int)),(34,iV (i8:Int))],[],[],[(16,⟨1,v8.map eI,false⟩)]⟩) H (fun i8 x8 v8 I m k8 hxv8 hiv8 H N70=>?_) (fun v8 I m H=>?_)
  .unfold Mo at H
   refine wP ?_
   refine wt (ltT hiv8) ?_
   refine wG [.u 36 (.ix _ _ _ fun _=>Q0 eI (J0 hxv8)),.u 40 (.ln _ _ fun _=>lm v8 eI)] fun q9=>?_
   refine wR (fun(i10:Nat) (v10:Bool×(List Int))=>⟨[(11,iV x8),(12,.sref 38),(13,.bool v10.1),(32,nV 1 (([from2,to3]).map eI)),(33,iV (([from2,to3]:List Int).length:Int)),(34,iV (i8:Int)),(39,.sref 16),(40,iV (v8.length:Int)),(41,iV (i10:Int))],[],[],[(38,⟨1,v10.2.map eI,false⟩),(16,⟨1,v8.map eI,false⟩)]⟩) H (fun i10 x10 v10 I m k10 hxv10 hiv10 H N51=>?_) (fun v10 I m H=>?_)
   .unfold Lo at H
    refine wP ?_
    refine wt (ltT hiv10) ?_
    refine wG [.u 43 (.ix _ _ _ fun _=>Q0 eI (J0 hxv10)),.u 44 (.el _ _ _ fun _=>gm eI (W4 (J0 hxv10)))] fun _=>?_
    refine X6 (r:=r) (Lg x8 x10 k10) 0 (fun v12:Bool×(List Int)=>⟨[(11,.int .i64 x8),(12,.sref 38),(13,.bool v12.1),(15,.int .i64 x10),(32,.sl .nw 1 (([from2,to3]).map eI)),(33,.int .i64 (([from2,to3]:List Int).length:Int)),(34,.int .i64 (i8:Int)),(39,.sref 16),(40,.int .i64 (v8.length:Int)),(41,.int .i64 (i10:Int))],[],[],[(38,⟨1,v12.2.map eI,false⟩),(16,⟨1,v8.map eI,false⟩)]⟩) (by kernel_rfl) (fun v12 H=>?_) (fun J43=>?_)
    .unfold Lg at H
     refine wP ?_
     refine O0 H (fun H=>?_) fun H=>?_
     .obtain⟨xs13,h13,H⟩:=bB H
      refine wG [.u 62 (.ap _ _ _ _ fun _=>L0 eI h13),.w 63 (wi .i64 rfl hiv10 q9.1)] fun _=>?_
      exact wT (N51 _ H)
     .refine wG [.w 63 (wi .i64 rfl hiv10 q9.1)] fun _=>?_
      exact wT (N51 _ H)
    .refine O0 H (fun H=>?_) fun H=>?_
     .obtain⟨xs11,h11,H⟩:=bB H
      refine wG [.u 55 (.ap _ _ _ _ fun _=>L0 eI h11)] fun _=>?_
      exact wT (J43 _ H)
     .refine wP ?_
      exact wT (J43 _ H)
   .unfold Oo at H
    refine wP ?_
    refine wf (ltF v8.length) ?_
    refine wP ?_
    refine O0 H (fun H=>?_) fun H=>?_
    .obtain⟨xs14,h14,H⟩:=bB H
     refine wG [.u 69 (.ap _ _ _ _ fun _=>L0 eI h14),.w 71 (wi .i64 rfl hiv8 q7.1)] fun _=>?_
     exact U05 (N70 _ H) [] [] [(16,(some 38,0))] [] (by kernel_rfl) (by kernel_rfl)
    .refine wG [.w 71 (wi .i64 rfl hiv8 q7.1)] fun _=>?_
     exact U05 (N70 _ H) [] [] [(16,(some 38,0))] [] (by kernel_rfl) (by kernel_rfl)
  .unfold QW at H
   refine wP ?_
   refine wf (ltF [from2,to3].length) ?_
   refine wP ?_
   replace H:=sI H;subst H
   exact wN [(6,.f)] [] [] [16] [] [⟨_,nw_I v8⟩]
noncomputable def J0u:L :=
 lf Tryz.prog W04 [] [] [] [] [(14,13)] [] [239211,14951]
def M9(v8:(List Pt))(x8:Int)(k8:(List Pt)->Option ((List Pt)×Bool))(v11:Vec):Option ((List Pt)×Bool) :=
 (bif ((v8.length:Int)==0)then some default else(idx v8 (w64 ((v8.length:Int)-1)))).bind fun e12=>bif (((v8.length:Int)==0)||(!(e12.free.a==v11.a&&(e12.free.b==v11.b&&(e12.free.c==v11.c&&true)))))then((appL 32 v8 [(Pt.mk x8 v11)]).bind fun xs14=>k8 xs14)else(k8 v8)
def Le(v8:(List Pt))(x8:Int)(k8:(List Pt)->Option ((List Pt)×Bool))(v10:Vec×Bool):Option ((List Pt)×Bool) :=
 bif (!v10.2)then(some ([],false))else((M9 v8 x8 k8) v10.1)
def Xl(p1:List Pt)(from2 to3:Int)(v4:Vec)(add5:Bool)(x8:Int)(_:Nat)(v8:(List Pt))(k8:(List Pt)->Option ((List Pt)×Bool)):Option ((List Pt)×Bool) :=
 (JM p1 x8).bind fun y9=>bif ((decide (from2<=x8))&&(decide (x8<to3)))then(bif add5 then((Le v8 x8 k8) (((YC y9 v4).1),(YC y9 v4).2))else((Le v8 x8 k8) (((L3 y9 v4).1),(L3 y9 v4).2)))else((M9 v8 x8 k8) y9)
def O9(v8:(List Pt)):Option ((List Pt)×Bool) :=
 (Qa v8).bind fun b15=>bif (!b15)then(some ([],false))else(some (v8,true))
def Yr(p1:List Pt)(from2 to3:Int)(v4:Vec)(add5:Bool):Option ((List Pt)×Bool) :=
 (Lx p1 from2 to3).bind fun y6=>rgl (Xl p1 from2 to3 v4 add5) O9 y6 0 []
theorem V0s{p1:List Pt}{from2 to3:Int}{v4:Vec}{add5:Bool}{r:(List Pt)×Bool}(H:Yr p1 from2 to3 v4 add5=some r):Snd Tryz.prog W04 [.agg [rV 4 (p1.map ePt)],iV from2,iV to3,eVec v4,.bool add5] (.tup [Y2 .nw r.1,.bool r.2]) []:=by
 refine wS J0u [.c 10 1 true,.t 11] ?_
 unfold Yr at H
 obtain⟨y6,h6,H⟩:=bB H
 refine wG [.c 22 (X0B h6),.u 23 (.ln _ _ fun _=>lm y6 eI)] fun q7=>?_
 refine U04 (fun(i8:Nat) (v8:(List Pt))=>⟨[(1,.int .i64 from2),(2,.int .i64 to3),(4,.bool add5),(5,.ptr 5 0),(8,.ptr 8 0),(10,.ptr 10 0),(12,.ptr 12 0),(22,.sl .nw 1 (y6.map eI)),(23,.int .i64 (y6.length:Int)),(24,.int .i64 (i8:Int))],[],[(5,[.sl .rd 4 (p1.map ePt)]),(8,(eVec v4).cells),(10,[.nl]),(12,[.sref 147000])],[(147000,⟨4,v8.map ePt,false⟩)]⟩) [] [(12,[.z 147000])] [(147000,(none,4))] [] (by kernel_rfl) (by kernel_rfl) H (fun i8 x8 v8 I m k8 hxv8 hiv8 H N43=>?_) (fun v8 I m H=>?_)
 .unfold Xl at H
  refine wP ?_
  refine wt (ltT hiv8) ?_
  obtain⟨y9,h9,H⟩:=bB H
  refine wG [.u 26 (.ix _ _ _ fun _=>Q0 eI (J0 hxv8)),.c 30 (M0k h9)] fun _=>?_
  refine X6 (r:=r) (M9 v8 x8 k8) 0 (fun v11:Vec=>⟨[(1,.int .i64 from2),(2,.int .i64 to3),(4,.bool add5),(5,.ptr 5 0),(8,.ptr 8 0),(10,.ptr 10 0),(12,.ptr 12 0),(14,.int .i64 x8),(15,.ptr 15 0),(22,.sl .nw 1 (y6.map eI)),(23,.int .i64 (y6.length:Int)),(24,.int .i64 (i8:Int))],[],[(5,[.sl .rd 4 (p1.map ePt)]),(8,(eVec v4).cells),(10,[.nl]),(12,[.sref 147000]),(15,(eVec v11).cells)],[(147000,⟨4,v8.map ePt,false⟩)]⟩) (by kernel_rfl) (fun v11 H=>?_) (fun J34=>?_)
  .unfold M9 at H
   obtain⟨e12,h12,H⟩:=bB H
   refine wG [.u 57 (.ln _ _ fun _=>lm v8 ePt),.g 65 [(_,false)] (.ix _ _ _ fun q=>Q0 ePt (bF q.1 h12)),.g 67 [(_,false)] (.el _ _ _ fun q=>gm ePt (W4 (bF q.1 h12)))] fun q13=>?_
   refine O0 H (fun H=>?_) fun H=>?_
   .obtain⟨xs14,h14,H⟩:=bB H
    refine wG [.u 77 (.ap _ _ _ _ fun _=>L0 ePt h14),.w 79 (wi .i64 rfl hiv8 q7.1)] fun _=>?_
    exact wT (N43 _ H)
   .refine wG [.w 79 (wi .i64 rfl hiv8 q7.1)] fun _=>?_
    exact wT (N43 _ H)
  .refine O0 H (fun H=>?_) fun H=>?_
   .refine wP ?_
    refine X6 (r:=r) (Le v8 x8 k8) 0 (fun v10:Vec×Bool=>⟨[(1,.int .i64 from2),(2,.int .i64 to3),(4,.bool add5),(5,.ptr 5 0),(8,.ptr 8 0),(10,.ptr 10 0),(12,.ptr 12 0),(14,.int .i64 x8),(15,.ptr 15 0),(16,.bool v10.2),(22,.sl .nw 1 (y6.map eI)),(23,.int .i64 (y6.length:Int)),(24,.int .i64 (i8:Int))],[],[(5,[.sl .rd 4 (p1.map ePt)]),(8,(eVec v4).cells),(10,[.nl]),(12,[.sref 147000]),(15,(eVec v10.1).cells)],[(147000,⟨4,v8.map ePt,false⟩)]⟩) (by kernel_rfl) (fun v10 H=>?_) (fun J22=>?_)
    .unfold Le at H
     refine wP ?_
     refine O0 H (fun H=>?_) fun H=>?_
     .refine wP ?_
      replace H:=sI H;subst H
      exact wN [(10,.d),(11,.d)] [(10,[.n 4])] [] [] [] [⟨_,Oj ([]:List Pt)⟩]
     .refine wP ?_
      exact wT (J34 _ H)
    .refine O0 H (fun H=>?_) fun H=>?_
     .refine wG [.c 43 (J0R y9 v4)] fun _=>?_
      exact wT (J22 _ H)
     .refine wG [.c 49 (O0R y9 v4)] fun _=>?_
      exact wT (J22 _ H)
   .refine wP ?_
    exact wT (J34 _ H)
 .unfold O9 at H
  refine wP ?_
  refine wf (ltF y6.length) ?_
  obtain⟨b15,h15,H⟩:=bB H
  refine wG [.c 81 (XF h15)] fun _=>?_
  refine O0 H (fun H=>?_) fun H=>?_
  .refine wP ?_
   replace H:=sI H;subst H
   exact wN [(10,.d),(11,.d)] [(10,[.n 4])] [] [] [] [⟨_,Oj ([]:List Pt)⟩]
  .refine wP ?_
   replace H:=sI H;subst H
   exact wN [(10,.d),(11,.d)] [(10,[.f])] [] [147000] [] [⟨_,Oj v8⟩]
noncomputable def Q0E:L :=
 lf Tryz.prog M0a [] [] [] [] [] [] []
def La(p1:List Pt)(from2 to3:Int)(v4:Vec):Option ((List Pt)×Bool) :=
 (Um p1 from2 to3).bind fun y5=>bif (!y5.2)then(some ([],false))else((Yr p1 from2 to3 v4 false).bind fun y6=>some (y6.1,y6.2))
theorem X03{p1:List Pt}{from2 to3:Int}{v4:Vec}{r:(List Pt)×Bool}(H:La p1 from2 to3 v4=some r):Snd Tryz.prog M0a [.agg [rV 4 (p1.map ePt)],iV from2,iV to3,eVec v4] (.tup [Y2 .nw r.1,.bool r.2]) []:=by
 refine wS Q0E [.c 8 1 true,.t 9] ?_
 unfold La at H
 obtain⟨y5,h5,H⟩:=bB H
 refine wG [.c 16 (MO h5)] fun _=>?_
 refine O0 H (fun H=>?_) fun H=>?_
 .refine wP ?_
  replace H:=sI H;subst H
  exact wN [(8,.d),(9,.d)] [(8,[.n 4])] [] [] [] [⟨_,Oj ([]:List Pt)⟩]
 .obtain⟨y6,h6,H⟩:=bB H
  refine wG [.c 26 (V0s h6)] fun _=>?_
  replace H:=sI H;subst H
  exact wN [(8,.d),(9,.d)] [(8,[])] [] [] [] [⟨_,Oj y6.1⟩]
noncomputable def Z0F:L :=
 lf Tryz.prog Q0b [] [] [] [] [] [] []
def Up(p1:List Pt):Option (List Pt) :=
 (appL 32 ([]:List Pt) p1).bind fun xs2=>some xs2
theorem M03{p1:List Pt}{r:(List Pt)}(H:Up p1=some r):Snd Tryz.prog Q0b [.agg [rV 4 (p1.map ePt)]] (Y2 .nw r) []:=by
 refine wS Z0F [.c 2 1 true] ?_
 unfold Up at H
 obtain⟨xs2,h2,H⟩:=bB H
 refine wG [.u 5 (.ap _ _ _ _ fun _=>L0 ePt h2)] fun _=>?_
 replace H:=sI H;subst H
 exact wN [(2,.d)] [(2,[.f])] [] [5] [] [⟨_,Oj xs2⟩]
noncomputable def M0V:L :=
 lf Tryz.prog Y0r [] [] [] [] [(6,38)] [] []
def X09(p1:List Pt)(x5:Pt)(i5:Nat)(_:Unit)(k5:Unit->Option Bool):Option Bool :=
 (bif ((!(M4 x5.t))||(!(Q1 x5.free)))then some default else(bif (decide (0<(i5:Int)))then(idx p1 (w64 ((i5:Int)-1)))else some default)).bind fun e6=>(bif ((!(M4 x5.t))||(!(Q1 x5.free)))then some default else(bif (decide (0<(i5:Int)))then(bif (decide (x5.t<=e6.t))then some default else(idx p1 (w64 ((i5:Int)-1))))else some default)).bind fun e7=>bif (((!(M4 x5.t))||(!(Q1 x5.free)))||((decide (0<(i5:Int)))&&((decide (x5.t<=e6.t))||(e7.free.a==x5.free.a&&(e7.free.b==x5.free.b&&(e7.free.c==x5.free.c&&true))))))then(some false)else(k5 ())
def Y09(_:Unit):Option Bool :=
 some true
def Lu(p1:List Pt):Option Bool :=
 (bif (!(Y0 (p1.length:Int) 1 200))then some default else(idx p1 0)).bind fun e2=>bif ((!(Y0 (p1.length:Int) 1 200))||(e2.t != 0))then(some false)else(rgl (X09 p1) Y09 p1 0 ())
theorem UV{p1:List Pt}{r:Bool}(H:Lu p1=some r):Snd Tryz.prog Y0r [.agg [rV 4 (p1.map ePt)]] (.bool r) []:=by
 refine wS M0V [.t 2] ?_
 unfold Lu at H
 obtain⟨e2,h2,H⟩:=bB H
 refine wG [.u 7 (.ln _ _ fun _=>lm p1 ePt),.u 8 (.call _ _ _ _ _ (AEs.refl _) (fun _=>M1 (p1.length:Int) 1 200)),.g 13 [(_,false)] (.ix _ _ _ fun q=>Q0 ePt (bF q.1 h2))] fun q3=>?_
 refine O0 H (fun H=>?_) fun H=>?_
 .obtain rfl:=sI H
  exact wP (wE [(2,.d)])
 .refine wG [.u 20 (.ln _ _ fun _=>lm p1 ePt)] fun q4=>?_
  refine wR (fun(i5:Nat) (v5:Unit)=>⟨[(1,.ptr 1 0),(19,rV 4 (p1.map ePt)),(20,iV (p1.length:Int)),(21,iV (i5:Int))],[],[(1,[rV 4 (p1.map ePt)])],[]⟩) H (fun i5 x5 v5 I m k5 hxv5 hiv5 H N27=>?_) (fun v5 I m H=>?_)
  .unfold X09 at H
   refine wP ?_
   refine wt (ltT hiv5) ?_
   obtain⟨e6,h6,H⟩:=bB H
   obtain⟨e7,h7,H⟩:=bB H
   refine wG [.u 24 (.ix _ _ _ fun _=>Q0 ePt (J0 hxv5)),.c 28 (Xg x5.t),.g 33 [((!(M4 x5.t)),false)] (.call _ _ _ _ _ (AEs.refl _) (fun _=>U6 x5.free)),.g 44 [(_,true),(_,false)] (.ix _ _ _ fun q=>Q0 ePt (bT q.1 (bF q.2.1 h6))),.g 55 [(_,false),(_,true),(_,false)] (.ix _ _ _ fun q=>Q0 ePt (bF q.1 (bT q.2.1 (bF q.2.2.1 h7))))] fun _=>?_
   refine O0 H (fun H=>?_) fun H=>?_
   .obtain rfl:=sI H
    exact wP (wE [(2,.d)])
   .refine wG [.w 64 (wi .i64 rfl hiv5 q3.1)] fun _=>?_
    exact wT (N27 () H)
  .unfold Y09 at H
   refine wP ?_
   refine wf (ltF p1.length) ?_
   obtain rfl:=sI H
   exact wP (wE [(2,.d)])
noncomputable def U0O:L :=
 lf Tryz.prog YW [10] [] [] [] [] [] []
def UG(v1:Vec):Option ((List Pt)×Bool) :=
 bif (!(Q1 v1))then(some ([],false))else(some ([(Pt.mk 0 v1)],true))
theorem U0w{v1:Vec}{r:(List Pt)×Bool}(H:UG v1=some r):Snd Tryz.prog YW [eVec v1] (.tup [Y2 .nw r.1,.bool r.2]) []:=by
 refine wS U0O [.c 2 1 true,.t 3] ?_
 unfold UG at H
 refine wG [.c 5 (U6 v1)] fun _=>?_
 refine O0 H (fun H=>?_) fun H=>?_
 .refine wP ?_
  replace H:=sI H;subst H
  exact wN [(2,.d),(3,.d)] [(2,[.n 4])] [] [] [] [⟨_,Oj ([]:List Pt)⟩]
 .refine wP ?_
  replace H:=sI H;subst H
  exact wN [(2,.d),(3,.d)] [(2,[.f])] [] [10] [] [⟨_,Oj [(Pt.mk 0 v1)]⟩]
def Yj(v1:Vec):(List Pt)×Bool :=
 bif (!(Q1 v1))then(([],false))else(([(Pt.mk 0 v1)],true))
theorem Z0X(v1:Vec):UG v1=some (Yj v1):=by
 unfold UG Yj
 first|rfl|simp only[O5]
theorem V09(v1:Vec):Snd Tryz.prog YW [eVec v1] (.tup [Y2 .nw ((Yj v1).1),.bool ((Yj v1).2)]) []:=U0w (Z0X v1)
noncomputable def O0v:L :=
 lf Tryz.prog J04 [] [] [] [] [] [] []
def JS(t2:Int)(x4:Pt)(_:Nat)(v4:Vec)(k4:Vec->Option Vec):Option Vec :=
 bif (decide (x4.t<=t2))then(k4 x4.free)else(k4 v4)
def MS(v4:Vec):Option Vec :=
 some v4
def Qs(p1:List Pt)(t2:Int):Option Vec :=
 rgl (JS t2) MS p1 0 (Vec.mk 0 0 0)
theorem MX{p1:List Pt}{t2:Int}{r:Vec}(H:Qs p1 t2=some r):Snd Tryz.prog J04 [.agg [rV 4 (p1.map ePt)],iV t2] (eVec r) []:=by
 refine wS O0v [.c 4 3 true] ?_
 unfold Qs at H
 refine wG [.u 11 (.ln _ _ fun _=>lm p1 ePt)] fun q3=>?_
 refine wR (fun(i4:Nat) (v4:Vec)=>⟨[(1,iV t2),(4,.ptr 4 0),(5,.ptr 5 0),(10,rV 4 (p1.map ePt)),(11,iV (p1.length:Int)),(12,iV (i4:Int))],[],[(4,(eVec (Vec.mk 0 0 0)).cells),(5,(eVec v4).cells)],[]⟩) H (fun i4 x4 v4 I m k4 hxv4 hiv4 H N19=>?_) (fun v4 I m H=>?_)
 .unfold JS at H
  refine wP ?_
  refine wt (ltT hiv4) ?_
  refine wG [.u 14 (.ix _ _ _ fun _=>Q0 ePt (J0 hxv4))] fun _=>?_
  refine O0 H (fun H=>?_) fun H=>?_
  .refine wG [.w 22 (wi .i64 rfl hiv4 q3.1)] fun _=>?_
   exact wT (N19 _ H)
  .refine wG [.w 22 (wi .i64 rfl hiv4 q3.1)] fun _=>?_
   exact wT (N19 _ H)
 .unfold MS at H
  refine wP ?_
  refine wf (ltF p1.length) ?_
  refine wP ?_
  replace H:=sI H;subst H
  exact wN [(4,.d)] [(4,[])] [] [] [] []
noncomputable def J0m:L :=
 lf Tryz.prog VY [] [] [] [] [] [] []
def Mu(from2 to3:Int)(x6:Pt)(_:Nat)(v6:Vec)(k6:Vec->Option Vec):Option Vec :=
 bif ((decide (from2<x6.t))&&(decide (x6.t<to3)))then(k6 (LD v6 x6.free))else(k6 v6)
def WQ(v6:Vec):Option Vec :=
 some v6
def Zi(p1:List Pt)(from2 to3:Int):Option Vec :=
 (Qs p1 from2).bind fun y4=>rgl (Mu from2 to3) WQ p1 0 y4
theorem OS{p1:List Pt}{from2 to3:Int}{r:Vec}(H:Zi p1 from2 to3=some r):Snd Tryz.prog VY [.agg [rV 4 (p1.map ePt)],iV from2,iV to3] (eVec r) []:=by
 refine wS J0m [.c 6 3 true] ?_
 unfold Zi at H
 obtain⟨y4,h4,H⟩:=bB H
 refine wG [.c 12 (MX h4),.u 15 (.ln _ _ fun _=>lm p1 ePt)] fun q5=>?_
 refine wR (fun(i6:Nat) (v6:Vec)=>⟨[(1,iV from2),(2,iV to3),(6,.ptr 6 0),(7,.ptr 7 0),(14,rV 4 (p1.map ePt)),(15,iV (p1.length:Int)),(16,iV (i6:Int))],[],[(6,(eVec (Vec.mk 0 0 0)).cells),(7,(eVec v6).cells)],[]⟩) H (fun i6 x6 v6 I m k6 hxv6 hiv6 H N19=>?_) (fun v6 I m H=>?_)
 .unfold Mu at H
  refine wP ?_
  refine wt (ltT hiv6) ?_
  refine wG [.u 18 (.ix _ _ _ fun _=>Q0 ePt (J0 hxv6))] fun _=>?_
  refine O0 H (fun H=>?_) fun H=>?_
  .refine wG [.c 33 (O0W v6 x6.free),.w 34 (wi .i64 rfl hiv6 q5.1)] fun _=>?_
   exact wT (N19 _ H)
  .refine wG [.w 34 (wi .i64 rfl hiv6 q5.1)] fun _=>?_
   exact wT (N19 _ H)
 .unfold WQ at H
  refine wP ?_
  refine wf (ltF p1.length) ?_
  refine wP ?_
  replace H:=sI H;subst H
  exact wN [(6,.d)] [(6,[])] [] [] [] []
noncomputable def J0U:L :=
 lf Tryz.prog L01 [] [] [] [] [] [] []
def LL(from1 to2:Int):Option Bool :=
 some (((M4 from1)&&(M4 to2))&&(decide (from1<to2)))
theorem M0F{from1 to2:Int}{r:Bool}(H:LL from1 to2=some r):Snd Tryz.prog L01 [iV from1,iV to2] (.bool r) []:=by
 refine wS J0U [.t 4] ?_
 unfold LL at H
 refine wG [.c 6 (Xg from1),.g 9 [((M4 from1),true)] (.call _ _ _ _ _ (AEs.refl _) (fun _=>Xg to2))] fun _=>?_
 replace H:=sI H;subst H
 exact wE [(4,.d)]
def ZD(from1 to2:Int):Bool :=
 (((M4 from1)&&(M4 to2))&&(decide (from1<to2)))
theorem L17(from1 to2:Int):LL from1 to2=some (ZD from1 to2):=by
 unfold LL ZD
 first|rfl|simp only[O5]
theorem Y0W(from1 to2:Int):Snd Tryz.prog L01 [iV from1,iV to2] (.bool (ZD from1 to2)) []:=M0F (L17 from1 to2)
noncomputable def Z0n:L :=
 lf Tryz.prog V8 [] [] [] [] [] [] []
def Mp(x1 x2:Vec):Option (Vec×Bool) :=
 some (((Qg x1 x2).1),(Qg x1 x2).2)
theorem W0e{x1 x2:Vec}{r:Vec×Bool}(H:Mp x1 x2=some r):Snd Tryz.prog V8 [eVec x1,.ept (eVec x2) 0] (.tup [eVec r.1,.bool r.2]) []:=by
 refine wS Z0n [.c 3 3 true,.t 4] ?_
 unfold Mp at H
 refine wG [.c 7 (Q0W x1 x2)] fun _=>?_
 replace H:=sI H;subst H
 exact wN [(3,.d),(4,.d)] [(3,[])] [] [] [] []
def Ld(x1 x2:Vec):Vec×Bool :=
 (((Qg x1 x2).1),(Qg x1 x2).2)
theorem V0w(x1 x2:Vec):Mp x1 x2=some (Ld x1 x2):=by
 unfold Mp Ld
 first|rfl|simp only[O5]
theorem J0n(x1 x2:Vec):Snd Tryz.prog V8 [eVec x1,.ept (eVec x2) 0] (.tup [eVec ((Ld x1 x2).1),.bool ((Ld x1 x2).2)]) []:=W0e (V0w x1 x2)
noncomputable def Ys:L :=
 lf Tryz.prog YR [22] [(37,2),(40,2)] [] [] [(19,13)] [] [129639]
def W3(v10:(List Pt))(x10:Int)(k10:(List Pt)->Option ((List Pt)×Bool))(v12:Vec):Option ((List Pt)×Bool) :=
 (bif ((v10.length:Int)==0)then some default else(idx v10 (w64 ((v10.length:Int)-1)))).bind fun e13=>bif (((v10.length:Int)==0)||(!(e13.free.a==v12.a&&(e13.free.b==v12.b&&(e13.free.c==v12.c&&true)))))then((appL 32 v10 [(Pt.mk x10 v12)]).bind fun xs15=>k10 xs15)else(k10 v10)
def O3(p1:List Pt)(from2 to3:Int)(c4:Vec)(x10:Int)(_:Nat)(v10:(List Pt))(k10:(List Pt)->Option ((List Pt)×Bool)):Option ((List Pt)×Bool) :=
 (Qs p1 x10).bind fun y11=>bif ((decide (from2<=x10))&&(decide (x10<to3)))then(bif (!(Ld y11 c4).2)then(some ([],false))else((W3 v10 x10 k10) ((Ld y11 c4).1)))else((W3 v10 x10 k10) y11)
def M5(v10:(List Pt)):Option ((List Pt)×Bool) :=
 bif (decide (200<(v10.length:Int)))then(some ([],false))else(some (v10,true))
def J5(x6:Pt)(_:Nat)(v6:(List Int))(k6:(List Int)->Option ((List Pt)×Bool)):Option ((List Pt)×Bool) :=
 (appL 8 v6 [x6.t]).bind fun xs7=>k6 xs7
def L5(p1:List Pt)(from2 to3:Int)(c4:Vec)(v6:(List Int)):Option ((List Pt)×Bool) :=
 (Y12 v6).bind fun xs8=>rgl (O3 p1 from2 to3 c4) M5 (Q6 xs8) 0 []
def Z5(p1:List Pt)(from2 to3:Int)(c4:Vec):Option ((List Pt)×Bool) :=
 rgl J5 (L5 p1 from2 to3 c4) p1 0 [from2,to3]
theorem Ws{p1:List Pt}{from2 to3:Int}{c4:Vec}{r:(List Pt)×Bool}(H:Z5 p1 from2 to3 c4=some r):Snd Tryz.prog YR [.agg [rV 4 (p1.map ePt)],iV from2,iV to3,.fn V8 [.ept (eVec c4) 0]] (.tup [Y2 .nw r.1,.bool r.2]) []:=by
 refine wS Ys [.c 8 1 true,.t 9] ?_
 unfold Z5 at H
 refine wG [.u 25 (.ln _ _ fun _=>lm p1 ePt)] fun q5=>?_
 refine wR (fun(i6:Nat) (v6:(List Int))=>⟨[(1,iV from2),(2,iV to3),(3,.fn V8 [.ept (eVec c4) 0]),(4,.ptr 4 0),(8,.ptr 8 0),(10,.sref 22),(24,rV 4 (p1.map ePt)),(25,iV (p1.length:Int)),(26,iV (i6:Int))],[],[(4,[rV 4 (p1.map ePt)]),(8,[.nl])],[(22,⟨1,v6.map eI,false⟩)]⟩) H (fun i6 x6 v6 I m k6 hxv6 hiv6 H N15=>?_) (fun v6 I m H=>?_)
 .unfold J5 at H
  refine wP ?_
  refine wt (ltT hiv6) ?_
  obtain⟨xs7,h7,H⟩:=bB H
  refine wG [.u 28 (.ix _ _ _ fun _=>Q0 ePt (J0 hxv6)),.u 34 (.ap _ _ _ _ fun _=>L0 eI h7),.w 35 (wi .i64 rfl hiv6 q5.1)] fun _=>?_
  exact wT (N15 _ H)
 .unfold L5 at H
  refine wP ?_
  refine wf (ltF p1.length) ?_
  obtain⟨xs8,h8,H⟩:=bB H
  refine wG [.u 37 (.cr Of 1 _ [] [] false _ (fun _=>W0d v6) (fun _=>trivial) (fun _=>rfl) (fun _=>Z12 h8)),.u 40 (.cr Qi 1 _ [] [] true _ (fun _=>W0d xs8) (fun _=>trivial) (fun _=>rfl) (fun _=>Q0Q xs8)),.u 41 (.ln _ _ fun _=>lm (Q6 xs8) eI)] fun q9=>?_
  refine U04 (fun(i10:Nat) (v10:(List Pt))=>⟨[(1,.int .i64 from2),(2,.int .i64 to3),(3,.fn V8 [.ept (eVec c4) 0]),(4,.ptr 4 0),(8,.ptr 8 0),(13,.ptr 13 0),(40,.sref 41000),(41,.int .i64 ((Q6 xs8).length:Int)),(42,.int .i64 (i10:Int))],[],[(4,[.sl .rd 4 (p1.map ePt)]),(8,[.nl]),(13,[.sref 117000])],[(117000,⟨4,v10.map ePt,false⟩),(41000,⟨1,(Q6 xs8).map eI,false⟩)]⟩) [] [(13,[.z 117000])] [(117000,(none,4))] [] (by kernel_rfl) (by kernel_rfl) H (fun i10 x10 v10 I m k10 hxv10 hiv10 H N57=>?_) (fun v10 I m H=>?_)
  .unfold O3 at H
   refine wP ?_
   refine wt (ltT hiv10) ?_
   obtain⟨y11,h11,H⟩:=bB H
   refine wG [.u 44 (.ix _ _ _ fun _=>Q0 eI (J0 hxv10)),.u 45 (.el _ _ _ fun _=>gm eI (W4 (J0 hxv10))),.c 48 (MX h11)] fun _=>?_
   refine X6 (r:=r) (W3 v10 x10 k10) 0 (fun v12:Vec=>⟨[(1,.int .i64 from2),(2,.int .i64 to3),(3,.fn V8 [.ept (eVec c4) 0]),(4,.ptr 4 0),(8,.ptr 8 0),(13,.ptr 13 0),(15,.int .i64 x10),(16,.ptr 16 0),(40,.sref 41000),(41,.int .i64 ((Q6 xs8).length:Int)),(42,.int .i64 (i10:Int))],[],[(4,[.sl .rd 4 (p1.map ePt)]),(8,[.nl]),(13,[.sref 117000]),(16,(eVec v12).cells)],[(117000,⟨4,v10.map ePt,false⟩),(41000,⟨1,(Q6 xs8).map eI,false⟩)]⟩) (by kernel_rfl) (fun v12 H=>?_) (fun J48=>?_)
   .unfold W3 at H
    obtain⟨e13,h13,H⟩:=bB H
    refine wG [.u 69 (.ln _ _ fun _=>lm v10 ePt),.g 77 [(_,false)] (.ix _ _ _ fun q=>Q0 ePt (bF q.1 h13)),.g 79 [(_,false)] (.el _ _ _ fun q=>gm ePt (W4 (bF q.1 h13)))] fun q14=>?_
    refine O0 H (fun H=>?_) fun H=>?_
    .obtain⟨xs15,h15,H⟩:=bB H
     refine wG [.u 89 (.ap _ _ _ _ fun _=>L0 ePt h15),.w 91 (wi .i64 rfl hiv10 q9.1)] fun _=>?_
     exact wT (N57 _ H)
    .refine wG [.w 91 (wi .i64 rfl hiv10 q9.1)] fun _=>?_
     exact wT (N57 _ H)
   .refine O0 H (fun H=>?_) fun H=>?_
    .refine wG [.u 60 (.clsr _ _ _ _ _ (AEs.refl _) (by kernel_rfl) (fun _=>J0n y11 c4))] fun _=>?_
     refine O0 H (fun H=>?_) fun H=>?_
     .refine wP ?_
      replace H:=sI H;subst H
      exact wN [(8,.d),(9,.d)] [(8,[.n 4])] [] [] [] [⟨_,Oj ([]:List Pt)⟩]
     .refine wP ?_
      exact wT (J48 _ H)
    .refine wP ?_
     exact wT (J48 _ H)
  .unfold M5 at H
   refine wP ?_
   refine wf (ltF (Q6 xs8).length) ?_
   refine wG [.u 94 (.ln _ _ fun _=>lm v10 ePt)] fun q16=>?_
   refine O0 H (fun H=>?_) fun H=>?_
   .refine wP ?_
    replace H:=sI H;subst H
    exact wN [(8,.d),(9,.d)] [(8,[.n 4])] [] [] [] [⟨_,Oj ([]:List Pt)⟩]
   .refine wP ?_
    replace H:=sI H;subst H
    exact wN [(8,.d),(9,.d)] [(8,[.f])] [] [117000] [] [⟨_,Oj v10⟩]
noncomputable def V0F:L :=
 lf Tryz.prog Yo [] [] [] [] [] [] []
def Lp(p1:List Pt)(from2 to3:Int)(v4:Vec):Option ((List Pt)×Bool) :=
 (Lu p1).bind fun b5=>bif (((!b5)||(!(ZD from2 to3)))||(!(Q1 v4)))then(some ([],false))else((Z5 p1 from2 to3 v4).bind fun y6=>some (y6.1,y6.2))
theorem Y04{p1:List Pt}{from2 to3:Int}{v4:Vec}{r:(List Pt)×Bool}(H:Lp p1 from2 to3 v4=some r):Snd Tryz.prog Yo [.agg [rV 4 (p1.map ePt)],iV from2,iV to3,eVec v4] (.tup [Y2 .nw r.1,.bool r.2]) []:=by
 refine wS V0F [.c 8 1 true,.t 9] ?_
 unfold Lp at H
 obtain⟨b5,h5,H⟩:=bB H
 refine wG [.c 11 (UV h5),.g 16 [((!b5),false)] (.call _ _ _ _ _ (AEs.refl _) (fun _=>Y0W from2 to3)),.g 21 [(((!b5)||(!(ZD from2 to3))),false)] (.call _ _ _ _ _ (AEs.refl _) (fun _=>U6 v4))] fun _=>?_
 refine O0 H (fun H=>?_) fun H=>?_
 .refine wP ?_
  replace H:=sI H;subst H
  exact wN [(8,.d),(9,.d)] [(8,[.n 4])] [] [] [] [⟨_,Oj ([]:List Pt)⟩]
 .obtain⟨y6,h6,H⟩:=bB H
  refine wG [.c 29 (Ws h6)] fun _=>?_
  replace H:=sI H;subst H
  exact wN [(8,.d),(9,.d)] [(8,[])] [] [] [] [⟨_,Oj y6.1⟩]
structure ProfP(p:List Pt):Prop where
 pos:0<p.length
 le:p.length<=200
 zero:∀x,p[0]?=some x->x.t=0
 ok:∀x∈p,time x.t=true/\W0 x.free=true
 asc:∀(i:Nat) (x y:Pt),p[i]?=some x->p[i+1]?=some y->x.t<y.t/\x.free≠y.free
theorem QV(p:List Pt):Lu p=Qa p:=by
 have e:(!Y0 (p.length:Int) 1 200)=(decide ((p.length:Int)<1)||decide (200<(p.length:Int))):=by
  unfold Y0
  rw[Bool.eq_iff_iff];simp
 unfold Lu Qa
 rw[e]
 rfl
theorem Q1u(a b:Vec):(a.a==b.a&&(a.b==b.b&&(a.c==b.c&&true)))=decide (a=b):=by
 cases a;cases b
 simp only[Vec.mk.injEq,Bool.and_true]
 rw[Bool.eq_iff_iff]
 simp
theorem M06(p:List Pt):∃b,Qa p=some b/\(b=true↔ProfP p):=by
 unfold Qa
 by_cases h1:p.length<1
 .exact⟨false,by simp[show((p.length:Int)<1) by omega],Ui fun h=>by have:=h.pos;omega⟩
 by_cases h2:200<p.length
 .exact⟨false,by simp[show((200:Int)<p.length) by omega],Ui fun h=>by have:=h.le;omega⟩
 obtain⟨p0,hp0⟩:∃p0,p[0]?=some p0:=⟨_,yA (by omega)⟩
 have e1:decide ((p.length:Int)<1)=false:=by simp;omega
 have e2:decide ((200:Int)<(p.length:Int))=false:=by simp;omega
 rw[e1,e2]
 simp only[Bool.or_self,yM,Bool.false_or,show idx p 0=some p0 from by rw[← hp0];exact L6 (i:=0),bS]
 by_cases h4:p0.t=0
 rotate_left
 .refine⟨false,by rw[show(p0.t != 0)=true by simpa using h4];rfl,Ui fun h=>h4 (h.zero _ hp0)⟩
 rw[h4]
 simp only[bne_self_eq_false,yM]
 refine Y8 (fun i (_:Unit)=>(∀j x,j<i->p[j]?=some x->time x.t=true/\W0 x.free=true)/\∀j x y,j+1<i->p[j]?=some x->p[j+1]?=some y->x.t<y.t/\x.free≠y.free)
  (fun r=>∃b,r=some b/\(b=true↔ProfP p)) ?_ ?_ ⟨fun j x h=>by omega,fun j x y h=>by omega⟩
 .intro i x _ k hi hI hk
  have hil:=(yB hi).1
  unfold OO
  rw[Qd]
  cases ht:time x.t with
  |false=>exact⟨false,rfl,Ui fun h=>by have:=(h.ok x (yE hi)).1;rw[ht]at this;cases this⟩
  |true =>
  cases hv:W0 x.free with
  |false=>exact⟨false,rfl,Ui fun h=>by have:=(h.ok x (yE hi)).2;rw[hv]at this;cases this⟩
  |true =>
  simp only[yL,Bool.or_self,yM,Bool.false_or,Q1u]
  have new1:∀j y,j<i+1->p[j]?=some y->time y.t=true/\W0 y.free=true:=by
   intro j y hj hy
   by_cases e:j=i
   .subst e;rw[hi]at hy;cases hy;exact⟨ht,hv⟩
   .exact hI.1 j y (by omega) hy
  by_cases h0:i=0
  .subst h0
   simp only[Int.natCast_zero,Int.lt_irrefl,decide_false,yM,Bool.false_and]
   exact hk () ⟨new1,fun j x y h=>by omega⟩
  .have hgt:decide ((0:Int)<(i:Int))=true:=by simp;omega
   obtain⟨q,hq⟩:∃q,p[i-1]?=some q:=⟨_,yA (by omega)⟩
   rw[hgt,Q0H (by omega) (by omega)]
   simp only[yN,Bool.true_and,L6,hq,bS]
   by_cases h5:x.t<=q.t
   .simp only[h5,decide_true,yN,Bool.true_or]
    refine⟨false,rfl,Ui fun h=>?_⟩
    have:=(h.asc (i-1) q x hq (by rw[show i-1+1=i by omega];exact hi)).1
    omega
   .simp only[h5,decide_false,yM,Bool.false_or,bS]
    by_cases h6:q.free=x.free
    .simp only[h6,decide_true,yN]
     refine⟨false,rfl,Ui fun h=>?_⟩
     exact(h.asc (i-1) q x hq (by rw[show i-1+1=i by omega];exact hi)).2 h6
    .simp only[h6,decide_false,yM]
     refine hk () ⟨new1,fun j a b hj ha hb=>?_⟩
     by_cases e:j+1=i
     .have:j=i-1:=by omega
      subst this
      rw[hq]at ha;cases ha
      rw[show i-1+1=i by omega,hi]at hb;cases hb
      exact⟨by omega,h6⟩
     .exact hI.2 j a b (by omega) ha hb
 .intro _ hI
  refine⟨true,rfl,fun _=>⟨by omega,by omega,fun x hx=>by rw[hp0]at hx;cases hx;exact h4,fun x hx=>?_,fun i x y hx hy=>?_⟩,fun _=>rfl⟩
  .obtain⟨j,hj⟩:=List.getElem?_of_mem hx
   exact hI.1 j x (yB hj).1 hj
  .exact hI.2 i x y (yB hy).1 hx hy
noncomputable def profOk(p:List Pt):Bool:=(Qa p).getD false
theorem Vb(p:List Pt):Qa p=some (profOk p):=by
 obtain⟨b,h3,_⟩:=M06 p
 rw[profOk,h3];rfl
theorem XN{p:List Pt}:profOk p=true↔ProfP p:=by
 obtain⟨b,h3,h4⟩:=M06 p
 rw[profOk,h3];exact h4
theorem ProfP.lt{p:List Pt}(h:ProfP p):∀(j i:Nat) (x y:Pt),i<j->p[i]?=some x->p[j]?=some y->x.t<y.t:=by
 intro j
 induction j with
 |zero=>intro i x y hij;omega
 |succ j ih =>
  intro i x y hij hx hy
  obtain⟨z,hz⟩:∃z,p[j]?=some z:=⟨_,yA (by have:=(yB hy).1;omega)⟩
  have h1:=(h.asc j z y hz hy).1
  by_cases e:i=j
  .subst e;rw[hz]at hx;cases hx;exact h1
  .have:=ih i x z (by omega) hx hz
   omega
theorem ProfP.asc_times{p:List Pt}(h:ProfP p):(p.map Pt.t).Pairwise (· < ·):=by
 rw[List.pairwise_iff_getElem]
 intro i j hi hj hij
 simp only[List.length_map]at hi hj
 simp only[List.getElem_map]
 exact h.lt j i _ _ hij (yA hi) (yA hj)
def atV(p:List Pt)(t:Int):Vec:=p.foldl (fun v x=>bif decide (x.t<=t)then x.free else v) ⟨0,0,0⟩
theorem QY(p:List Pt)(t:Int):JM p t=some (atV p t):=by
 unfold JM
 rw[Qr (f:=fun v (x:Pt)=>bif decide (x.t<=t)then x.free else v) (fun x _ i b k=>by unfold QT;cases decide (x.t<=t)<;>rfl)]
 rfl
theorem W0y(p:List Pt)(t:Int):Qs p t=some (atV p t):=QY p t
theorem Z1Q{p:List Pt}(t:Int)(h:∀x∈p,W0 x.free=true):∀v,W0 v=true->W0 (p.foldl (fun v x=>bif decide (x.t<=t)then x.free else v) v)=true:=by
 induction p with
 |nil=>intro v hv;exact hv
 |cons x l ih =>
  intro v hv
  rw[List.foldl_cons]
  refine ih (fun y hy=>h y (yH _ hy)) _ ?_
  cases decide (x.t<=t)with
  |true=>exact h x (yJ ..)
  |false=>exact hv
theorem J0y{p:List Pt}(h:ProfP p)(t:Int):W0 (atV p t)=true:=Z1Q t (fun x hx=>(h.ok x hx).2) _ (by decide)
theorem J1Z{p:List Pt}(h:(p.map Pt.t).Pairwise (· < ·)){x:Pt}(hx:x∈p):atV p x.t=x.free:=by
 have key:∀(l:List Pt) (v:Vec),(l.map Pt.t).Pairwise (· < ·)->x∈l->l.foldl (fun v y=>bif decide (y.t<=x.t)then y.free else v) v=x.free:=by
  intro l
  induction l with
  |nil=>intro v _ h;cases h
  |cons y l ih =>
   intro v hp hm
   rw[List.foldl_cons]
   rw[List.map_cons,List.pairwise_cons]at hp
   rcases yX hm with rfl|hm
   .rw[show decide (x.t<=x.t)=true by simp,yN]
    have:∀(m:List Pt) (v:Vec),(∀y∈m,x.t<y.t)->m.foldl (fun v y=>bif decide (y.t<=x.t)then y.free else v) v=v:=by
     intro m
     induction m with
     |nil=>intro v _;rfl
     |cons z m ih =>
      intro v hm
      have:=hm z (yJ ..)
      rw[List.foldl_cons,show decide (z.t<=x.t)=false by simp;omega,yM]
      exact ih v fun y hy=>hm y (yH _ hy)
    exact this l _ fun y hy=>hp.1 _ (List.mem_map_of_mem hy)
   .exact ih _ hp.2 hm
 exact key p _ h hx
theorem U1F{p:List Pt}{from_ to_:Int}{f0:Vec}(hp:∀x∈p,x.t=from_->x.free=f0)(hok:∀x∈p,W0 x.free=true)(h0:W0 f0=true):∀(v:Vec),W0 v=true->Q2 v f0=v ->
  p.foldl (fun v x=>bif decide (from_<=x.t)&&decide (x.t<to_)then Q2 v x.free else v) v=p.foldl (fun v x=>bif decide (from_<x.t)&&decide (x.t<to_)then Q2 v x.free else v) v:=by
 induction p with
 |nil=>intro v _ _;rfl
 |cons x l ih =>
  intro v hv hm
  rw[List.foldl_cons,List.foldl_cons]
  have ih:=ih (fun y hy=>hp y (yH _ hy)) (fun y hy=>hok y (yH _ hy))
  by_cases e:x.t=from_
  .rw[show decide (from_<x.t)=false by simp;omega]
   simp only[Bool.false_and,yM]
   have:(bif decide (from_<=x.t)&&decide (x.t<to_)then Q2 v x.free else v)=v:=by
    rw[hp x (yJ ..) e,hm]
    cases(decide (from_<=x.t)&&decide (x.t<to_))<;>rfl
   rw[this]
   exact ih v hv hm
  .have e2:decide (from_<=x.t)=decide (from_<x.t):=by rw[Bool.eq_iff_iff];simp;omega
   rw[e2]
   cases(decide (from_<x.t)&&decide (x.t<to_))with
   |false=>exact ih v hv hm
   |true =>
    simp only[yN]
    have hx:=hok x (yJ ..)
    refine ih _ (OW hv hx) ?_
    have e:∀x y:Int,M3 x y=min x y:=fun x y=>by unfold M3;by_cases h:x<y<;>simp[h]<;>omega
    have q:=OW hv hx
    have a1:Q2 v x.free=⟨min v.a x.free.a,min v.b x.free.b,min v.c x.free.c⟩:=by unfold Q2;simp[hv,hx,e]
    have a2:Q2 v f0=⟨min v.a f0.a,min v.b f0.b,min v.c f0.c⟩:=by unfold Q2;simp[hv,h0,e]
    have a3:Q2 (Q2 v x.free) f0=⟨min (Q2 v x.free).a f0.a,min (Q2 v x.free).b f0.b,min (Q2 v x.free).c f0.c⟩:=by rw[Q2];simp[q,h0,e]
    rw[a3,a1]
    rw[a2]at hm
    have b1:=congrArg Vec.a hm;have b2:=congrArg Vec.b hm;have b3:=congrArg Vec.c hm
    simp only at b1 b2 b3
    simp only[Vec.mk.injEq];omega
def minV(p:List Pt)(from_ to_:Int):Vec:=p.foldl (fun v x=>bif decide (from_<=x.t)&&decide (x.t<to_)then Q2 v x.free else v) (atV p from_)
theorem Zz(p:List Pt)(from_ to_:Int):Um p from_ to_=some (if profOk p=true/\time from_=true/\time to_=true/\from_<to_ then(minV p from_ to_,true)else(⟨0,0,0⟩,false)):=by
 unfold Um
 rw[Vb,bS]
 simp only[Qd]
 cases profOk p<;>cases time from_<;>cases time to_<;>try simp
 by_cases h:to_<=from_
 .simp[h,show ¬ from_<to_ by omega]
 .simp only[h,decide_false,yM,show from_<to_ by omega,yb,QY,bS]
  rw[Qr (f:=fun v (x:Pt)=>bif decide (from_<=x.t)&&decide (x.t<to_)then Q2 v x.free else v) (fun x _ i b k=>by unfold ZJ;cases(decide (from_<=x.t)&&decide (x.t<to_))<;>rfl)]
  rfl
theorem W0n{p:List Pt}(h:ProfP p)(from_ to_:Int):Zi p from_ to_=some (minV p from_ to_):=by
 unfold Zi minV
 rw[W0y,bS]
 rw[Qr (f:=fun v (x:Pt)=>bif decide (from_<x.t)&&decide (x.t<to_)then Q2 v x.free else v) (fun x _ i b k=>by unfold Mu;rw[M0W];cases(decide (from_<x.t)&&decide (x.t<to_))<;>rfl)]
 rw[U1F (p:=p) (f0:=atV p from_) (fun x hx e=>by rw[← e,J1Z h.asc_times hx]) (fun x hx=>(h.ok x hx).2) (J0y h _) _ (J0y h _) (L0B (J0y h _))]
 rfl
theorem O0t:∀{l m:List Int},l.Pairwise (· < ·)->m.Pairwise (· < ·)->(∀x,x∈l↔x∈m)->l=m
 |[],[],_,_,_=>rfl
 |[],b::m,_,_,h=>by have:=(h b).2 (yJ ..);cases this
 |a::l,[],_,_,h=>by have:=(h a).1 (yJ ..);cases this
 |a::l,b::m,h1,h2,h=>by
  rw[List.pairwise_cons]at h1 h2
  have e:a=b:=by
   rcases yX ((h a).1 (yJ ..))with q|q
   .exact q
   .rcases yX ((h b).2 (yJ ..))with q2|q2
    .exact q2.symm
    .have:=h1.1 b q2;have:=h2.1 a q;omega
  subst e
  congr 1
  refine O0t h1.2 h2.2 fun x=>⟨fun hx=>?_,fun hx=>?_⟩
  .rcases yX ((h x).1 (yH _ hx))with q|q
   .have:=h1.1 x hx;omega
   .exact q
  .rcases yX ((h x).2 (yH _ hx))with q|q
   .have:=h2.1 x hx;omega
   .exact q
def insT(t:Int)(l:List Int):List Int:=(l.filter fun x=>decide (x<t))++t::l.filter fun x=>decide (t<x)
theorem V0I{t x:Int}{l:List Int}:x∈insT t l↔x=t\/x∈l:=by
 simp only[insT,List.mem_append,List.mem_filter,List.mem_cons,yO]
 constructor
 .rintro(⟨h,_⟩|h|⟨h,_⟩)
  .exact .inr h
  .exact .inl h
  .exact .inr h
 .rintro(h|h)
  .exact .inr (.inl h)
  .by_cases h1:x<t
   .exact .inl ⟨h,h1⟩
   .by_cases h2:t<x
    .exact .inr (.inr ⟨h,h2⟩)
    .exact .inr (.inl (by omega))
theorem JP{t:Int}{l:List Int}(h:l.Pairwise (· < ·)):(insT t l).Pairwise (· < ·):=by
 unfold insT
 rw[List.pairwise_append,List.pairwise_cons]
 refine⟨h.filter _,⟨fun x hx=>by simpa using(List.mem_filter.1 hx).2,h.filter _⟩,fun x hx y hy=>?_⟩
 have hx':x<t:=by simpa using(List.mem_filter.1 hx).2
 rcases yX hy with rfl|hy
 .exact hx'
 .have:t<y:=by simpa using(List.mem_filter.1 hy).2
  omega
theorem X17(t:Int)(l:List Int):(insT t l).length<=l.length+1:=by
 have:∀m:List Int,(m.filter fun x=>decide (x<t)).length+(m.filter fun x=>decide (t<x)).length<=m.length:=by
  intro m
  induction m with
  |nil=>simp
  |cons a m ih =>
   simp only[List.filter_cons,yT]
   by_cases h1:a<t
   .simp only[h1,decide_true,yb,show ¬ t<a by omega,decide_false,yG,yc,yT];omega
   .by_cases h2:t<a
    .simp only[h1,h2,decide_true,yb,decide_false,yG,yc,yT];omega
    .simp only[h1,h2,decide_false,yG,yc];omega
 have:=this l
 simp only[insT,yU,yT];omega
theorem J1o{γ:Type}(t:Int)(k:List Int->Option γ)(bd:Int->Nat->Bool×List Int->((Bool×List Int)->Option γ)->Option γ)(kk:Bool×List Int->Option γ)
  (hb:∀x i d acc kc,acc.length<=1000->bd x i (d,acc) kc=bif (!d)&&decide (t<=x)then(bif x != t then kc (true,acc++[t]++[x])else kc (true,acc++[t]))else(bif x != t then kc (d,acc++[x])else kc (d,acc)))
  (hk:∀d acc,acc.length<=1000->kk (d,acc)=bif !d then k (acc++[t])else k acc):∀(l:List Int) (i:Nat),l.Pairwise (· < ·)->l.length<=500 ->
  (∀acc:List Int,acc.length<=500-l.length->rgl bd kk l i (false,acc)=k (acc++insT t l))/\∀acc:List Int,acc.length<=501-l.length->(∀x∈l,t<x)->rgl bd kk l i (true,acc)=k (acc++l)
 |[],i,_,_=>⟨fun acc h=>by rw[rgl,hk _ _ (by omega)];simp[insT],fun acc h _=>by rw[rgl,hk _ _ (by omega)];simp⟩
 |x::l,i,hp,hl=>by
  rw[List.pairwise_cons]at hp
  simp only[yT]at hl
  obtain⟨q1,q2⟩:=J1o t k bd kk hb hk l (i+1) hp.2 (by omega)
  refine⟨fun acc ha=>?_,fun acc ha hx=>?_⟩
  .simp only[yT]at ha
   rw[rgl,hb _ _ _ _ _ (by omega)]
   by_cases h1:t<=x
   .have hall:∀y∈l,t<y:=fun y hy=>by have:=hp.1 y hy;omega
    have f1:(l.filter fun y=>decide (y<t))=[]:=List.filter_eq_nil_iff.2 fun y hy=>by have:=hall y hy;simp;omega
    have f2:(l.filter fun y=>decide (t<y))=l:=List.filter_eq_self.2 fun y hy=>by simpa using hall y hy
    simp only[Bool.not_false,Bool.true_and,h1,decide_true,yN]
    by_cases h2:x=t
    .subst h2
     simp only[bne_self_eq_false,yM]
     rw[q2 _ (by simp;omega) hall]
     simp[insT,f1,f2]
    .rw[show(x != t)=true by simpa using h2,yN,q2 _ (by simp;omega) hall]
     simp[insT,f1,f2,show ¬ x<t by omega,show t<x by omega]
   .simp only[Bool.not_false,Bool.true_and,h1,decide_false,yM]
    rw[show(x != t)=true by simp;omega,yN,q1 _ (by simp;omega)]
    simp[insT,show x<t by omega,show ¬ t<x by omega]
  .simp only[yT]at ha
   have hx1:=hx x (yJ ..)
   rw[rgl,hb _ _ _ _ _ (by omega)]
   simp only[yL,Bool.false_and,yM]
   rw[show(x != t)=true by simp;omega,yN,q2 _ (by simp;omega) fun y hy=>hx y (yH _ hy)]
   simp
def Oi(p:List Pt)(from_ to_:Int):List Int:=insT to_ (insT from_ (p.map Pt.t))
theorem V0B{p:List Pt}(h:ProfP p)(from_ to_:Int):Lx p from_ to_=some (Oi p from_ to_):=by
 have hle:=h.le
 unfold Lx
 rw[U5 (bd:=LB) (bs:=8) (p:=fun _=>true) (f:=Pt.t) (fun x _ i b k=>rfl) (by simp;omega)]
 have one:∀(t:Int) (i:Nat) (v:List Int) (k:List Int->Option (List Int)),v.Pairwise (· < ·)->v.length<=300->Mo t i v k=k (insT t v):=by
  intro t i v k hv hl
  unfold Mo
  have:=(J1o t k (Lo t) (Oo t k) (fun x i d acc kc ha=>by
   unfold Lo Lg
   cases((!d)&&decide (t<=x))with
   |true =>
    simp only[yN]
    rw[M0 (by simp;omega),bS]
    cases(x != t)with
    |true=>simp only[yN];rw[M0 (by simp;omega),bS]
    |false=>rfl
   |false =>
    simp only[yM]
    cases(x != t)with
    |true=>simp only[yN];rw[M0 (by simp;omega),bS]
    |false=>rfl) (fun d acc ha=>by
   unfold Oo
   cases d with
   |true=>rfl
   |false=>simp only[Bool.not_false,yN];rw[M0 (by simp;omega),bS]) v 0 hv (by omega)).1 [] (by simp)
  simpa using this
 have hp:=h.asc_times
 have hl1:=X17 from_ (p.map Pt.t)
 simp only[List.length_map]at hl1
 unfold MB
 simp only[List.nil_append,show(p.filter fun _=>true)=p from List.filter_eq_self.2 fun _ _=>rfl]
 rw[rgl,one _ _ _ _ hp (by simp;omega),rgl,one _ _ _ _ (JP hp) (by omega)]
 rfl
theorem L0y{l:List Int}(h:l.Pairwise (·<=·)):(Q6 l).Pairwise (· < ·)/\∀x,x∈Q6 l↔x∈l:=by
 have hsz:l.toArray.size=l.length:=by simp
 have get:∀j,j<l.length->l.toArray[j]! = l[j]!:=by intro j hj;simp
 have mono:∀i j,i<=j->j<l.length->l.toArray[i]!<=l.toArray[j]!:=by
  intro i j hij hj
  by_cases e:i=j
  .subst e;exact Int.le_refl _
  .have:=List.pairwise_iff_getElem.1 h i j (by omega) hj (by omega)
   simpa[show i<l.length by omega,hj]using this
 unfold Q6 Lib.compact Lib.compactUpTo
 constructor
 .rw[List.pairwise_map]
  have hr:((List.range l.length).filter (Lib.keeps l.toArray)).Pairwise (· < ·):=List.Pairwise.filter _ List.pairwise_lt_range
  refine List.Pairwise.imp_of_mem (fun{a b} ha hb hab=>?_) hr
  have hb1:=List.mem_filter.1 hb
  have hbl:b<l.length:=List.mem_range.1 hb1.1
  have hk:b=0\/l.toArray[b]!≠l.toArray[b-1]!:=by simpa[Lib.keeps]using hb1.2
  rcases hk with rfl|hk
  .omega
  .have:=mono a (b-1) (by omega) (by omega)
   have:=mono (b-1) b (by omega) hbl
   omega
 .intro x
  simp only[List.mem_map,List.mem_filter,List.mem_range]
  constructor
  .rintro⟨j,⟨hj,_⟩,rfl⟩
   rw[get j hj]
   simp[hj]
  .intro hx
   have:∀n,(∃j,j<n/\j<l.length/\l.toArray[j]! = x)->∃j,(j<l.length/\Lib.keeps l.toArray j=true)/\l.toArray[j]! = x:=by
    intro n
    induction n with
    |zero=>rintro⟨j,hj,_⟩;omega
    |succ n ih =>
     rintro⟨j,hj,hjl,he⟩
     cases hk:Lib.keeps l.toArray j with
     |true=>exact⟨j,⟨hjl,hk⟩,he⟩
     |false =>
      have hk':¬ (j=0\/l.toArray[j]!≠l.toArray[j-1]!):=by simpa[Lib.keeps]using hk
      have h0:j≠0:=fun e=>hk' (.inl e)
      have h1:l.toArray[j]! = l.toArray[j-1]!:=Classical.byContradiction fun q=>hk' (.inr q)
      exact ih ⟨j-1,by omega,by omega,by rw[← h1];exact he⟩
   obtain⟨j,hj⟩:=List.getElem?_of_mem hx
   obtain⟨hjl,hje⟩:=yB hj
   exact this l.length ⟨j,hjl,hjl,by rw[get j hjl];simp[hjl,hje]⟩
theorem J0X(l:List Int):(J0s l).Pairwise (·<=·)/\∀x,x∈J0s l↔x∈l:=by
 refine⟨?_,fun x=>(List.mergeSort_perm l _).mem_iff⟩
 have:=List.pairwise_mergeSort (le:=fun(x y:Int)=>decide (x<=y)) (fun a b c h1 h2=>by simp at *;omega) (fun a b=>by simp;omega) l
 exact this.imp fun h=>by simpa using h
theorem X1g{p:List Pt}(h:ProfP p)(from_ to_:Int):Q6 (J0s ([from_,to_]++p.map Pt.t))=Oi p from_ to_:=by
 obtain⟨s1,s2⟩:=J0X ([from_,to_]++p.map Pt.t)
 obtain⟨c1,c2⟩:=L0y s1
 refine O0t c1 (JP (JP h.asc_times)) fun x=>?_
 rw[c2,s2,Oi,V0I,V0I]
 simp only[List.cons_append,List.nil_append,List.mem_cons]
 constructor
 .rintro(h|h|h)
  .exact .inr (.inl h)
  .exact .inl h
  .exact .inr (.inr h)
 .rintro(h|h|h)
  .exact .inr (.inl h)
  .exact .inl h
  .exact .inr (.inr h)
def X1r(out:List Pt)(t:Int)(w:Vec):List Pt:=match out.getLast? with
 |some e=>if e.free=w then out else out++[⟨t,w⟩]
 |none=>[⟨t,w⟩]
theorem L1o{out:List Pt}(h:out.length<=1000)(x:Int)(w:Vec)(k:List Pt->Option (List Pt×Bool)):M9 out x k w=k (X1r out x w):=by
 unfold M9 X1r
 cases hl:out with
 |nil =>
  simp only[List.length_nil,List.getLast?_nil]
  rw[show(((0:Nat):Int)==0)=true from rfl,yN,bS,Bool.true_or,yN,M0 (by simp),bS];rfl
 |cons a l =>
  have hne:((out.length:Int)==0)=false:=by rw[hl];simp;omega
  obtain⟨e,he⟩:∃e,out[out.length-1]?=some e:=⟨_,yA (by rw[hl];simp)⟩
  have hlast:out.getLast?=some e:=by rw[List.getLast?_eq_getElem?];exact he
  rw[← hl,hne,hlast,Q0H (by rw[hl];simp) (by omega),L6,he]
  simp only[yM,bS,Bool.false_or,Q1u]
  by_cases hw:e.free=w
  .simp[hw]
  .simp only[hw,decide_false,Bool.not_false,yN,yc]
   rw[M0 (by simp;omega),bS]
structure Made(T:List Int)(i:Nat)(out:List Pt):Prop where
 len:out.length<=i
 mem:∀x∈out,∃j,j<i/\T[j]?=some x.t
 ok:∀x∈out,W0 x.free=true
 asc:∀(j:Nat) (x y:Pt),out[j]?=some x->out[j+1]?=some y->x.t<y.t/\x.free≠y.free
 fst:0<i->∃x,out[0]?=some x/\T[0]?=some x.t
theorem Made.nil(T:List Int):Made T 0 [] where
 len:=yV _
 mem:=fun x hx=>by cases hx
 ok:=fun x hx=>by cases hx
 asc:=fun j x y hx=>by simp at hx
 fst:=fun h=>by omega
theorem Made.push{T:List Int}(hT:T.Pairwise (· < ·)){i:Nat}{out:List Pt}(M:Made T i out){t:Int}(ht:T[i]?=some t){w:Vec}(hw:W0 w=true):Made T (i+1) (X1r out t w):=by
 have lt:∀x∈out,x.t<t:=by
  intro x hx
  obtain⟨j,hj,he⟩:=M.mem x hx
  obtain⟨h1,e1⟩:=yB he
  obtain⟨h2,e2⟩:=yB ht
  rw[← e1,← e2]
  exact List.pairwise_iff_getElem.1 hT j i h1 h2 hj
 unfold X1r
 cases hl:out.getLast? with
 |none =>
  have:out=[]:=List.getLast?_eq_none_iff.1 hl
  subst this
  have hi:i=0:=by
   cases i with
   |zero=>rfl
   |succ i=>obtain⟨x,hx,_⟩:=M.fst (by omega);simp at hx
  subst hi
  exact⟨by simp,fun x hx=>by simp at hx;subst hx;exact⟨0,by omega,ht⟩,fun x hx=>by simp at hx;subst hx;exact hw,fun j x y hx hy=>by simp at hy,fun _=>⟨_,rfl,ht⟩⟩
 |some e =>
  simp only
  by_cases he:e.free=w
  .rw[yd he]
   exact⟨by have:=M.len;omega,fun x hx=>by obtain⟨j,hj,h⟩:=M.mem x hx;exact⟨j,by omega,h⟩,M.ok,M.asc,fun _=>by
    cases i with
    |zero=>have:=M.len;have:out=[]:=List.eq_nil_of_length_eq_zero (by omega);subst this;simp at hl
    |succ i=>exact M.fst (by omega)⟩
  .rw[ye he]
   refine⟨by have:=M.len;simp;omega,fun x hx=>?_,fun x hx=>?_,fun j x y hx hy=>?_,fun _=>?_⟩
   .rcases List.mem_append.1 hx with hx|hx
    .obtain⟨j,hj,h⟩:=M.mem x hx;exact⟨j,by omega,h⟩
    .simp at hx;subst hx;exact⟨i,by omega,ht⟩
   .rcases List.mem_append.1 hx with hx|hx
    .exact M.ok x hx
    .simp at hx;subst hx;exact hw
   .by_cases hj:j+1<out.length
    .rw[yK (by omega)]at hx
     rw[yK hj]at hy
     exact M.asc j x y hx hy
    .have hlt:=(yB hy).1
     simp only[yU,yT,List.length_nil]at hlt
     have hje:j=out.length-1:=by omega
     rw[yK (by omega)]at hx
     rw[yS (by omega),show j+1-out.length=0 by omega]at hy
     simp at hy
     subst hy
     rw[List.getLast?_eq_getElem?,← hje,hx]at hl
     have hl:=Option.some.inj hl
     subst hl
     exact⟨lt _ (yE hx),he⟩
   .have hne:out≠[]:=fun e=>by rw[e]at hl;simp at hl
    cases i with
    |zero=>have:=M.len;exact absurd (List.eq_nil_of_length_eq_zero (by omega)) hne
    |succ i =>
     obtain⟨x,hx,h⟩:=M.fst (by omega)
     exact⟨x,by rw[yK (by have:=(yB hx).1;omega)];exact hx,h⟩
theorem Z1v{p:List Pt}(h:ProfP p){from_ to_:Int}(h1:time from_=true)(h2:time to_=true) :
  (Oi p from_ to_).Pairwise (· < ·)/\(Oi p from_ to_).length<=202/\(∀t∈Oi p from_ to_,time t=true)/\(Oi p from_ to_)[0]?=some 0/\from_∈Oi p from_ to_:=by
 have hp:=JP (t:=to_) (JP (t:=from_) h.asc_times)
 have hm:∀t,t∈Oi p from_ to_↔t=to_\/t=from_\/t∈p.map Pt.t:=fun t=>by rw[Oi,V0I,V0I]
 have hok:∀t∈Oi p from_ to_,time t=true:=by
  intro t ht
  rcases(hm t).1 ht with rfl|rfl|ht
  .exact h2
  .exact h1
  .obtain⟨x,hx,rfl⟩:=yY ht
   exact(h.ok x hx).1
 have h0:(0:Int)∈Oi p from_ to_:=by
  obtain⟨x,hx⟩:∃x,p[0]?=some x:=⟨_,yA h.pos⟩
  exact(hm 0).2 (.inr (.inr (List.mem_map.2 ⟨x,yE hx,h.zero x hx⟩)))
 have hl1:=X17 from_ (p.map Pt.t)
 have hl2:=X17 to_ (insT from_ (p.map Pt.t))
 simp only[List.length_map]at hl1
 have:=h.le
 refine⟨hp,by unfold Oi;omega,hok,?_,(hm from_).2 (.inr (.inl rfl))⟩
 obtain⟨j,hj⟩:=List.getElem?_of_mem h0
 obtain⟨hjl,hje⟩:=yB hj
 by_cases e:j=0
 .subst e;exact hj
 .have:=List.pairwise_iff_getElem.1 hp 0 j (by unfold Oi at hjl;omega) (by unfold Oi at hjl;exact hjl) (by omega)
  have h00:=hok (Oi p from_ to_)[0] (List.getElem_mem (by omega))
  have:=(U8.1 h00).1
  unfold Oi at hje this
  omega
def V0R(p:List Pt)(from_ to_:Int)(v:Vec)(x:Int)(out:List Pt)(k:List Pt->Option (List Pt×Bool)):Option (List Pt×Bool) :=
 bif decide (from_<=x)&&decide (x<to_)then(bif (L3 (atV p x) v).2 then k (X1r out x (L3 (atV p x) v).1)else some ([],false))else k (X1r out x (atV p x))
theorem M1q{p:List Pt}{from_ to_:Int}{v:Vec}{x:Int}{i:Nat}{out:List Pt}(h:out.length<=1000)(k:List Pt->Option (List Pt×Bool)):Xl p from_ to_ v false x i out k=V0R p from_ to_ v x out k:=by
 unfold Xl V0R
 rw[QY,bS]
 cases(decide (from_<=x)&&decide (x<to_))with
 |false=>simp only[yM];rw[L1o h]
 |true =>
  simp only[yN,yM,Le]
  cases(L3 (atV p x) v).2 with
  |false=>rfl
  |true=>simp only[yL,yM,yN];rw[L1o h]
theorem W1s{p:List Pt}(hp:ProfP p){from_ to_:Int}{v:Vec}{x:Int}{i:Nat}{out:List Pt}(h:out.length<=1000)(k:List Pt->Option (List Pt×Bool)):O3 p from_ to_ v x i out k=V0R p from_ to_ v x out k:=by
 unfold O3 V0R Ld
 rw[W0y,bS,W0W (J0y hp x)]
 cases(decide (from_<=x)&&decide (x<to_))with
 |false=>simp only[yM];exact L1o h x _ k
 |true =>
  simp only[yN]
  cases(L3 (atV p x) v).2 with
  |false=>rfl
  |true=>simp only[yL,yM,yN];exact L1o h x _ k
theorem J0Q{a b:Vec}(h:(L3 a b).2=true):W0 (L3 a b).1=true:=by
 unfold L3 at h ⊢
 cases hf:Z3 b a with
 |false=>rw[hf]at h;simp at h
 |true =>
  simp only[yL,yM]
  unfold Z3 at hf
  simp only[yD,yO]at hf
  obtain⟨⟨⟨⟨h1,h2⟩,h3⟩,h4⟩,h5⟩:=hf
  have h1:=Og.1 h1
  have h2:=Og.1 h2
  rw[Og,X5 (by omega),X5 (by omega),X5 (by omega)]
  simp only;omega
theorem X0k(p:List Pt)(from_ to_:Int)(v:Vec):Lp p from_ to_ v=La p from_ to_ v/\∃r,La p from_ to_ v=some r/\(r.2=true->ProfP r.1):=by
 unfold Lp La
 rw[QV,Vb,Zz,bS,bS]
 cases hpo:profOk p with
 |false=>simp
 |true =>
 have hp:=XN.1 hpo
 unfold ZD
 simp only[Xs]
 by_cases hs:time from_=true/\time to_=true/\from_<to_
 rotate_left
 .have e:((time from_&&time to_)&&decide (from_<to_))=false:=by
   rw[Bool.eq_false_iff];intro q;simp only[yD,yO]at q;exact hs ⟨q.1.1,q.1.2,q.2⟩
  rw[e,ye (fun q=>hs q.2)]
  simp
 obtain⟨h1,h2,h3⟩:=hs
 rw[yd ⟨trivial,h1,h2,h3⟩]
 obtain⟨t1,t2,t3,t4,t5⟩:=Z1v hp h1 h2
 have T:=V0B hp from_ to_
 have Z11:Yr p from_ to_ v false=rgl (fun x _=>V0R p from_ to_ v x) O9 (Oi p from_ to_) 0 []:=by
  unfold Yr
  rw[T,bS]
  refine M12 (fun i b c=>b=c/\Made (Oi p from_ to_) i b) rfl (fun i x y b c k k2 hx hy hr hk=>?_) (fun b c hr=>by rw[hr.1]) ⟨rfl,Made.nil _⟩
  obtain⟨rfl,M⟩:=hr
  rw[hx]at hy;cases hy
  have hil:=(yB hx).1
  rw[M1q (by have:=M.len;omega)]
  unfold V0R
  cases(decide (from_<=x)&&decide (x<to_))with
  |false=>exact hk _ _ ⟨rfl,M.push t1 hx (J0y hp x)⟩
  |true =>
   simp only[yN]
   cases hv:(L3 (atV p x) v).2 with
   |false=>rfl
   |true=>exact hk _ _ ⟨rfl,M.push t1 hx (J0Q hv)⟩
 have ends:∀b,Made (Oi p from_ to_) (Oi p from_ to_).length b->(profOk b=true↔b.length<=200):=by
  intro b M
  rw[XN]
  refine⟨fun h=>h.le,fun hl=>?_⟩
  obtain⟨x,hx,h0⟩:=M.fst (by have:=List.length_pos_of_mem t5;omega)
  rw[t4]at h0
  exact⟨(yB hx).1,hl,fun y hy=>by rw[hx]at hy;cases hy;exact(Option.some.inj h0).symm,fun y hy=>⟨by
   obtain⟨j,_,hj⟩:=M.mem y hy
   exact t3 _ (yE hj),M.ok y hy⟩,M.asc⟩
 have total:∃r:List Pt×Bool,rgl (fun x _=>V0R p from_ to_ v x) O9 (Oi p from_ to_) 0 []=some r/\(r.2=true->ProfP r.1):=by
  refine Y8 (fun i b=>Made (Oi p from_ to_) i b) (fun o=>∃r:List Pt×Bool,o=some r/\(r.2=true->ProfP r.1)) (fun i x b k hx M hk=>?_) (fun b M=>?_) (Made.nil _)
  .unfold V0R
   cases(decide (from_<=x)&&decide (x<to_))with
   |false=>exact hk _ (M.push t1 hx (J0y hp x))
   |true =>
    simp only[yN]
    cases hv:(L3 (atV p x) v).2 with
    |false=>exact⟨_,rfl,fun h=>by cases h⟩
    |true=>exact hk _ (M.push t1 hx (J0Q hv))
  .unfold O9
   rw[Vb,bS]
   cases hb:profOk b with
   |false=>exact⟨_,rfl,fun h=>by cases h⟩
   |true=>exact⟨_,rfl,fun _=>XN.1 hb⟩
 have bind_id:∀o:Option (List Pt×Bool),(o.bind fun y6=>some (y6.1,y6.2))=o:=by intro o;cases o<;>rfl
 simp only[yL,Bool.false_or,h1,h2,h3,Bool.and_self,decide_true,yM,bind_id,Wp]
 rw[Z11]
 refine⟨?_,total⟩
 cases hv:W0 v with
 |false =>
  simp only[Bool.not_false,yN]
  symm
  refine Y8 (fun i b=>Made (Oi p from_ to_) i b/\∀j,j<i->(Oi p from_ to_)[j]?≠some from_) (fun o=>o=some ([],false)) (fun i x b k hx hI hk=>?_) (fun b hI=>?_) ⟨Made.nil _,fun j h=>by omega⟩
  .obtain⟨M,hI⟩:=hI
   have sub:∀x,L3 (atV p x) v=(⟨0,0,0⟩,false):=fun x=>by unfold L3 Z3;rw[hv];rfl
   unfold V0R
   rw[sub]
   by_cases hf:from_<=x/\x<to_
   .simp[hf.1,hf.2]
   .have e:(decide (from_<=x)&&decide (x<to_))=false:=by simpa using fun q=>by omega
    rw[e]
    refine hk _ ⟨M.push t1 hx (J0y hp x),fun j hj e=>?_⟩
    by_cases hji:j=i
    .subst hji;rw[hx]at e;cases e;omega
    .exact hI j (by omega) e
  .obtain⟨j,hj⟩:=List.getElem?_of_mem t5
   exact absurd hj (hI.2 j (yB hj).1)
 |true =>
  simp only[yL,yM]
  unfold Z5
  rw[U5 (bd:=J5) (bs:=8) (p:=fun _=>true) (f:=Pt.t) (fun x _ i b k=>rfl) (by have:=hp.le;simp;omega)]
  unfold L5
  rw[show(p.filter fun _=>true)=p from List.filter_eq_self.2 fun _ _=>rfl]
  have hs:Y12 ([from_,to_]++p.map Pt.t)=some (J0s ([from_,to_]++p.map Pt.t)):=by
   unfold Y12
   rw[yd (by have:=hp.le;simp;omega)]
  rw[hs,bS,X1g hp]
  refine M12 (fun i b c=>b=c/\Made (Oi p from_ to_) i b) rfl (fun i x y b c k k2 hx hy hr hk=>?_) (fun b c hr=>?_) ⟨rfl,Made.nil _⟩
  .obtain⟨rfl,M⟩:=hr
   rw[hx]at hy;cases hy
   have hil:=(yB hx).1
   rw[W1s hp (by have:=M.len;omega)]
   unfold V0R
   cases(decide (from_<=x)&&decide (x<to_))with
   |false=>exact hk _ _ ⟨rfl,M.push t1 hx (J0y hp x)⟩
   |true =>
    simp only[yN]
    cases hv:(L3 (atV p x) v).2 with
    |false=>rfl
    |true=>exact hk _ _ ⟨rfl,M.push t1 hx (J0Q hv)⟩
  .obtain⟨rfl,M⟩:=hr
   unfold M5 O9
   rw[Vb,bS]
   by_cases hl:b.length<=200
   .rw[(ends b M).2 hl]
    simp[show ¬ (200:Int)<b.length by omega]
   .rw[show profOk b=false from Bool.eq_false_iff.2 fun q=>hl ((ends b M).1 q)]
    simp[show(200:Int)<b.length by omega]
end Go.Proofs.YtpgaganbacipnaaGreat
namespace Go.Proofs.YtpgaganbacipnaaGreat.Eng
open Go Go.RowKit
def M1H(P:Program)(f:FuncId)(xa:List AV)(zs zs':List Int)(ret:Bool):Prop :=
 ∀(w:World) (g:Gh) (n0:Nat) (us:List Value),Heap w g (hSt n0 [] [some ⟨1,i64s zs,false⟩])->us.length=xa.length ->
  (∀(i:Nat) (a:AV) (v:Value),xa[i]?=some a->us[i]?=some v->Gv w g (hSt n0 [] [some ⟨1,i64s zs,false⟩]) a v) ->
 (Calls P f (.slice none 0 0::us).toArray w fun e w'=>e=.returned (if ret then .slice none 0 0 else .tuple #[])/\w'=w) /\
 ∀(b cap:Nat) (cur:Array Value) (ty:TypeId),w.heap[b]?=some (.cells cur ty (0,0))->zs.length<=cap->cap<=maxLen->cur.size=cap->cur.toList.take zs.length=i64v zs->(∀o,¬ g.S b o) ->
  Calls P f (.slice (some ⟨b,0,none⟩) zs.length cap::us).toArray w fun e w'=>e=.returned (if ret then .slice (some ⟨b,0,none⟩) zs'.length cap else .tuple #[]) /\
   ∃cur':Array Value,w'.heap[b]?=some (.cells cur' ty (0,0))/\cur'.size=cap/\cur'.toList.take zs'.length=i64v zs'/\zs'.length<=cap /\
    w'.os=w.os/\w'.tape=w.tape/\w'.output=w.output/\w.heap.size<=w'.heap.size/\∀k,k<w.heap.size->k≠b->w'.heap[k]?=w.heap[k]?
theorem J1b{P:Program}{f:FuncId}{zs zs':List Int}{ret:Bool}{xa:List AV}(h0:zs=[]->zs'=[])(hr:ret=false->zs'.length=zs.length)(h:M1H P f xa zs zs' ret):X0p P f 1 (i64s zs) xa ret (i64s zs'):=by
 refine M0H J1z h0 hr fun w g n0 us H hl hus=>?_
 obtain⟨a,b⟩:=h w g n0 us H hl hus
 refine⟨fun _=>a,fun blk cap cur ty h1 h2 h3 h4 h5 h6=>?_⟩
 have:=b blk cap cur ty h1 h2 h3 (by omega) (by rw[← X0o,← h5,Nat.mul_one]) h6
 simpa only[X0o,Nat.mul_one]using this
theorem Rd.cap1_inv{w:World}{S:Nat->Nat->Prop}{T:Tag->Nat->Value->Prop}{g:Nat}{xs:List Int}{v:Value}(h:Rd w S T (.fn g [.ept (.agg [.sl .rd 1 (i64s xs)]) 0]) v)(hn:0<xs.length) :
  ∃b ob r o cap,v=.func (.func g) #[] #[.pointer (some ⟨b,ob,none⟩)]/\w.cell? ⟨b,ob,none⟩=some (.slice (some ⟨r,o,none⟩) xs.length cap)/\S b ob/\∀(j:Nat) (x:Int),xs[j]?=some x->w.cell? ⟨r,o+j,none⟩=some (.int .i64 x)/\S r (o+j):=by
 cases h with
 |fn _ _ vs hl hv =>
  match vs,hl with
  |[p],_ =>
  have hp:=hv 0 _ p rfl rfl
  cases hp with
  |ept _ _ b o cv hw hr =>
   have h0:=hw 0 (.sl .rd 1 (i64s xs)) rfl
   have h1:=hr 0 (.sl .rd 1 (i64s xs)) rfl
   obtain⟨q1,q2,_,_⟩:=h0
   generalize he:i64s xs=es at h1
   generalize cv 0=u at h1 q1
   cases h1 with
   |sl0 _ _ a c ho =>
    have:xs.length=0:=by
     have q:=congrArg List.length he
     unfold i64s at q
     rwa [List.length_map]at q
    omega
   |sl _ _ _ b2 o2 c cv2 hc hm hs hw2 ho hh =>
    subst he
    refine⟨b,o,b2,o2,c,rfl,?_,q2,fun j x hx=>?_⟩
    .simpa[i64s]using q1
    .have hj:(flat (i64s xs))[j]?=some (.int .i64 x):=by rw[X1A];simp[i64s,hx]
     obtain⟨c1,c2,_,_⟩:=hw2 j _ hj
     have c3:=hh j _ hj
     generalize cv2 j=z at c1 c3
     cases c3 with
     |int _ _=>exact⟨c1,c2⟩
end Go.Proofs.YtpgaganbacipnaaGreat.Eng
namespace Go.Proofs.YtpgaganbacipnaaGreat
open Go Go.RowKit Go.Sort Go.Lib
def YZ(cnt:List Int)(x y:Fin cnt.length):Int:=if cnt[x]≠cnt[y]then IntKind.i64.wrap (cnt[y]-cnt[x])else IntKind.i64.wrap ((x.val:Int)-(y.val:Int))
theorem ZX{cnt:List Int}(hl:cnt.length<=24)(hc:∀c∈cnt,0<=c/\c<=1000000)(x y:Fin cnt.length):ltOf (YZ cnt) x y=decide (cnt[y]<cnt[x]\/(cnt[x]=cnt[y]/\x.val<y.val)):=by
 have hx:=hc cnt[x] (List.getElem_mem x.isLt)
 have hy:=hc cnt[y] (List.getElem_mem y.isLt)
 have bx:=x.isLt
 have bY:=y.isLt
 unfold ltOf YZ
 rw[decide_eq_decide]
 by_cases h:cnt[x]=cnt[y]
 .rw[ye (by simpa using h)]
  have e:IntKind.i64.wrap ((x.val:Int)-(y.val:Int))=(x.val:Int)-(y.val:Int):=by rw[IntKind.wrap_i64];omega
  rw[e]
  omega
 .rw[yd h]
  have e:IntKind.i64.wrap (cnt[y]-cnt[x])=cnt[y]-cnt[x]:=by rw[IntKind.wrap_i64];omega
  rw[e]
  omega
theorem U1j{cnt:List Int}(hl:cnt.length<=24)(hc:∀c∈cnt,0<=c/\c<=1000000):SWO (ltOf (YZ cnt)) where
 irrefl x:=by rw[ZX hl hc];simp
 trans x y z h1 h2:=by
  rw[ZX hl hc]at *
  simp only[yO]at *
  omega
 ntrans x y z h1 h2:=by
  rw[ZX hl hc]at *
  simp only[decide_eq_false_iff_not]at *
  omega
theorem X14{cnt:List Int}(hl:cnt.length<=24)(hc:∀c∈cnt,0<=c/\c<=1000000)(x y:Fin cnt.length)(h1:ltOf (YZ cnt) x y=false)(h2:ltOf (YZ cnt) y x=false):x=y:=by
 rw[ZX hl hc]at h1 h2
 simp only[decide_eq_false_iff_not]at h1 h2
 apply Fin.ext
 omega
end Go.Proofs.YtpgaganbacipnaaGreat
