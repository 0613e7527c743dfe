/-
  Lemmas, part 9.
-/
import Derived.Test.YtpgaganbacipnaaGreatS8
import Derived.Sort.Grow
import Derived.Lib.SlicesCompact
import Derived.Shelf.SlSortCmp.NoneTotal
import Derived.Ground.SlsfProg
import Derived.Shelf.Small.Bits
import Derived.Shelf.Strconv.Itoa0
import Derived.Shelf.Sort.Plain
import Derived.Ground.Names2Prog
import Derived.Shelf.Slices.CompactI
import Derived.Shelf.Slices.Cells
import Derived.Shelf.Slices.In.SortNone
import Derived.Shelf.SlSortCmp.Insertion
import Derived.Shelf.SlSortCmp.SiftDown1
import Derived.Shelf.SlSortCmp.HeapSort1
import Derived.Shelf.SlSortCmp.Insertion1
import Derived.Shelf.SlSortCmp.Median1
import Derived.Shelf.SlSortCmp.Pivot1
import Derived.Shelf.SlSortCmp.ReverseRange1
import Derived.Shelf.SlSortCmp.PartialInsertion1
import Derived.Shelf.SlSortCmp.PartitionEqual1
import Derived.Shelf.SlSortCmp.Partition1
import Derived.Shelf.SlSortCmp.Pdq1
import Derived.Shelf.SlSortCmp.Whole1
import Derived.Test.YtpgaganbacipnaaGreatProg
namespace Go.Proofs.YtpgaganbacipnaaGreat.Eng
open Go Go.RowKit
structure Enc{α:Type}(sz:Nat)(enc:α->AV)(val:α->List Value):Prop where
 len:∀x,(enc x).cells.length=sz
 vlen:∀x,(val x).length=sz
 one:∀x,∀a∈(enc x).cells,a.one=true
 vone:∀x,∀v∈val x,v.oneCell'=true
 rd:∀(w:World) (S:Nat->Nat->Prop) (T:Tag->Nat->Value->Prop) x (j:Nat) (a:AV) (u:Value),(enc x).cells[j]?=some a->(val x)[j]?=some u->Rd w S T a u
 inv:∀(w:World) (S:Nat->Nat->Prop) (T:Tag->Nat->Value->Prop) x (j:Nat) (a:AV) (u v:Value),(enc x).cells[j]?=some a->(val x)[j]?=some u->Rd w S T a v->v=u
theorem Enc.flen{α:Type}{sz:Nat}{enc:α->AV}{val:α->List Value}(E:Enc sz enc val)(zs:List α):(zs.flatMap val).length=zs.length*sz:=by
 induction zs with
 |nil=>simp
 |cons x l ih=>simp only[ya,yU,ih,E.vlen,yT,Nat.succ_mul];omega
theorem Enc.elen{α:Type}{sz:Nat}{enc:α->AV}{val:α->List Value}(E:Enc sz enc val)(zs:List α):(flat (zs.map enc)).length=zs.length*sz:=by
 induction zs with
 |nil=>simp[flat]
 |cons x l ih=>simp only[flat,List.map_cons,ya,yU,yT,Nat.succ_mul]at ih ⊢;rw[ih,E.len];omega
theorem Enc.pair{α:Type}{sz:Nat}{enc:α->AV}{val:α->List Value}(E:Enc sz enc val){zs:List α}:∀{j:Nat} {a:AV} {u:Value},(flat (zs.map enc))[j]?=some a->(zs.flatMap val)[j]?=some u->∃(x:α) (i:Nat),(enc x).cells[i]?=some a/\(val x)[i]?=some u:=by
 induction zs with
 |nil=>intro j a u h;simp[flat]at h
 |cons x l ih =>
  intro j a u h1 h2
  simp only[flat,List.map_cons,ya]at ih h1 h2
  by_cases hj:j<sz
  .rw[yK (by rw[E.len];exact hj)]at h1
   rw[yK (by rw[E.vlen];exact hj)]at h2
   exact⟨x,j,h1,h2⟩
  .rw[yS (by rw[E.len];omega),E.len]at h1
   rw[yS (by rw[E.vlen];omega),E.vlen]at h2
   exact ih h1 h2
theorem Enc.flat_inv{α:Type}{sz:Nat}{enc:α->AV}{val:α->List Value}(E:Enc sz enc val){zs:List α}{w:World}{S:Nat->Nat->Prop}{T:Tag->Nat->Value->Prop}{j:Nat}{a:AV}{u v:Value}(h1:(flat (zs.map enc))[j]?=some a)(h2:(zs.flatMap val)[j]?=some u)(h:Rd w S T a v):v=u:=by
 obtain⟨x,i,q1,q2⟩:=E.pair h1 h2
 exact E.inv w S T x i a u v q1 q2 h
theorem Z1q{α:Type}{sz:Nat}{enc:α->AV}{val:α->List Value}(E:Enc sz enc val){w:World}{S:Nat->Nat->Prop}{T:Tag->Nat->Value->Prop}{zs:List α}{b cap:Nat}{cur:Array Value}{ty:TypeId}(h1:w.heap[b]?=some (.cells cur ty (0,0)))(h2:zs.length<=cap)(h3:cap<=maxLen)
  (h4:cur.size=cap*sz) (h5:cur.toList.take (zs.length*sz)=zs.flatMap val):LI w S T ⟨sz,zs.map enc,false⟩ (.slice (some ⟨b,0,none⟩) zs.length cap):=by
 refine⟨zs.flatMap val,ty,?_,fun e he=>?_,fun j a u ha hu=>?_⟩
 .simp only[List.length_map]
  exact⟨E.flen zs,.inr ⟨b,cap,cur,rfl,Nat.zero_le _,h1,h2,h3,h4,h5⟩⟩
 .obtain⟨x,_,rfl⟩:=yY he;exact E.len x
 .obtain⟨x,i,q1,q2⟩:=E.pair ha hu
  exact⟨E.one x a (yE q1),E.vone x u (yE q2),E.rd _ _ _ x i a u q1 q2⟩
def RowX{α:Type}(P:Program)(f:FuncId)(sz:Nat)(enc:α->AV)(val:α->List Value)(xa:List AV)(zs zs':List α)(ret:Bool):Prop :=
 ∀(w:World) (g:Gh) (n0:Nat) (us:List Value),Heap w g (hSt n0 [] [some ⟨sz,zs.map enc,false⟩])->us.length=xa.length ->
  (∀(i:Nat) (a:AV) (v:Value),xa[i]?=some a->us[i]?=some v->Gv w g (hSt n0 [] [some ⟨sz,zs.map enc,false⟩]) a v) ->
 (zs=[]->Calls P f (.slice none 0 0::us).toArray w fun e w'=>e=.returned (if ret then .slice none 0 0 else .tuple #[])/\w'=w) /\
 ∀(b cap:Nat) (cur:Array Value) (ty:TypeId),w.heap[b]?=some (.cells cur ty (0,0))->zs.length<=cap->cap<=maxLen->cur.size=cap*sz->cur.toList.take (zs.length*sz)=zs.flatMap val->(∀o,¬ g.S b o) ->
  Calls P f (.slice (some ⟨b,0,none⟩) zs.length cap::us).toArray w fun e w'=>e=.returned (if ret then .slice (some ⟨b,0,none⟩) zs'.length cap else .tuple #[]) /\
   ∃cur':Array Value,w'.heap[b]?=some (.cells cur' ty (0,0))/\cur'.size=cap*sz/\cur'.toList.take (zs'.length*sz)=zs'.flatMap val/\zs'.length<=cap /\
    w'.os=w.os/\w'.tape=w.tape/\w'.output=w.output/\w.heap.size<=w'.heap.size/\∀k,k<w.heap.size->k≠b->w'.heap[k]?=w.heap[k]?
theorem M1E{α:Type}{sz:Nat}{enc:α->AV}{val:α->List Value}(E:Enc sz enc val){P:Program}{f:FuncId}{zs zs':List α}{ret:Bool}{xa:List AV}(h0:zs=[]->zs'=[])(hr:ret=false->zs'.length=zs.length)(h:RowX P f sz enc val xa zs zs' ret):V1g P f sz (zs.map enc) xa ret (zs'.map enc):=by
 intro n0 w g vs H hN hl hvs
 match vs,hl with
 |v::us,hl =>
 obtain⟨hnil,hblk⟩:=h w g n0 us H (by simpa using hl) fun i a u ha hu=>hvs (i+1) a u (by simpa using ha) (by simpa using hu)
 have hv:v=g.rv 0:=by
  have q:=hvs 0 _ v rfl rfl
  exact q.sref_inv (by rfl)
 subst hv
 have hrow:=H.rws 0 ⟨sz,zs.map enc,false⟩ rfl
 have hrn:=H.rwn 0 ⟨sz,zs.map enc,false⟩ rfl
 obtain⟨xs,ty,hown,_,hc⟩:=hrow
 have hzl:(zs.map enc).length=zs.length:=by simp
 have fin:∀(v':Value) (w':World) (e:Ending),e=.returned (if ret then v' else .tuple #[])->(ret=false->v'=g.rv 0)->v'.ownBlock=(g.rv 0).ownBlock->v'.oneCell'=true->LI w' g.S g.T ⟨sz,zs'.map enc,false⟩ v'->w'.os=w.os->w'.tape=w.tape->w'.output=w.output->w.heap.size<=w'.heap.size ->
   (∀k,k<w.heap.size->(g.rv 0).ownBlock≠some k->w'.heap[k]?=w.heap[k]?) ->
   ∃v,e=.returned v/\Kept (OwnB g 0 1) w w'/\∃n1 res bout upd new,n0<=n1/\(bout=[]/\(match ret with|true=>res=.sref 1/\upd=[none]/\new=[⟨sz,zs'.map enc,false⟩]|false=>res=.tup []/\upd=[some (zs'.map enc)]/\new=[])) /\
   bout.map List.length=([]:List (List AV)).map List.length/\upd.length=1/\∃g':Gh,(∀b o,g'.S b o->(g.S b o\/w.heap.size<=b\/OwnB g 0 1 b)/\(w.heap.size<=b\/OwnB g 0 1 b->UnfB w' b))/\(∀b,g'.N b->g.N b) /\
   (∀i,i<0->g'.bb i=g.bb i)/\(∀i es,upd[i]?=some (some es)->g'.rv i=g.rv i)/\Heap w' g' (hSt n1 bout (V7 [⟨sz,zs.map enc,false⟩] upd new)) /\
   (∀(j:Nat) (r:Row),new[j]?=some r->∀b,(g'.rv (1+j)).ownBlock=some b->w.heap.size<=b\/OwnB g 0 1 b) /\
   (∀i,i<n0->g'.ov i=g.ov i)/\(∀i D,n0<=i->g'.ov i=some D->∀b,D b->w.heap.size<=b\/OwnB g 0 1 b) /\
   Gv w' g' (hSt n1 bout (V7 [⟨sz,zs.map enc,false⟩] upd new)) res v:=by
  intro v' w' e he hv' hb' h1 hro q1 q2 q3 q4 q5
  have hownB:∀b,g.own b->b<w.heap.size/\(g.rv 0).ownBlock≠some b:=fun b hb=>⟨H.ow.size hb,fun q=>H.ow.rw 0 _ rfl b q hb⟩
  have noU:∀b o,g.S b o->(g.S b o\/w.heap.size<=b\/OwnB g 0 1 b)/\(w.heap.size<=b\/OwnB g 0 1 b->UnfB w' b):=fun b o h=>⟨.inl h,fun q=>by
   rcases q with q|⟨i,hi,_⟩|⟨i,hi,e⟩
   .exact absurd (H.sw b o h) (Nat.not_lt.2 q)
   .omega
   .have:i=0:=by omega
    subst this
    exact absurd h ((hrn.2 b e).2 o)⟩
  have hK:Kept (OwnB g 0 1) w w':=⟨q1,q2,q3,q4,fun k hk hno=>q5 k hk fun q=>hno (.inr ⟨0,by omega,q⟩)⟩
  cases ret with
  |false =>
   have hv':=hv' rfl
   subst hv'
   refine⟨.tuple #[],by simpa using he,hK,n0,.tup [],[],[some (zs'.map enc)],[],yV _,⟨rfl,rfl,rfl,rfl⟩,rfl,rfl,g,noU,fun b h=>h,fun i hi=>by omega,fun i es _=>rfl,?_,fun j r h=>by simp at h,fun _ _=>rfl,
    fun i D hi ho=>fun _ _=>absurd (H.ow.lt i D ho) (by simp only[hSt];omega),.tup [] [] rfl fun i a v h=>by simp at h⟩
   have hrw:∀k r,(hSt n0 [] (V7 [⟨sz,zs.map enc,false⟩] [some (zs'.map enc)] [])).rw k=some r->k=0/\r=⟨sz,zs'.map enc,false⟩:=by
    intro k r hk
    match k with
    |0=>simp[hSt,V7]at hk;exact⟨rfl,hk.symm⟩
    |k+1=>simp[hSt,V7]at hk
   refine⟨fun k cs h=>by simp[hSt]at h,fun k cs h=>by simp[hSt]at h,fun k r hk=>?_,fun k r hk=>?_,fun k k' cs cs' h=>by simp[hSt]at h,fun k k' cs r h=>by simp[hSt]at h,fun k k' r r' hk hk' hne=>?_,fun b o h=>Nat.lt_of_lt_of_le (H.sw b o h) q4,?_⟩
   .obtain⟨rfl,rfl⟩:=hrw k r hk;exact hro
   .obtain⟨rfl,rfl⟩:=hrw k r hk;exact⟨rfl,hrn.2⟩
   .obtain⟨rfl,_⟩:=hrw k r hk;obtain⟨rfl,_⟩:=hrw k' r' hk';exact absurd rfl hne
   .refine H.ow.turn rfl (fun _ h=>h) (yV _) (fun b hb=>q5 b (hownB b hb).1 (hownB b hb).2) (fun k cs h=>by simp[hSt]at h) fun k r hk b hb=>?_
    obtain⟨rfl,_⟩:=hrw k r hk
    exact H.ow.rw 0 _ rfl b hb
  |true =>
   refine⟨v',by simpa using he,hK,n0,.sref 1,[],[none],[⟨sz,zs'.map enc,false⟩],yV _,⟨rfl,rfl,rfl,rfl⟩,rfl,rfl,{ g with rv:=fun i=>if i=1 then v' else g.rv i },noU,fun b h=>h,fun i hi=>by omega,fun i es h=>?_,?_,fun j r h b hb=>?_,fun _ _=>rfl,
    fun i D hi ho=>fun _ _=>absurd (H.ow.lt i D ho) (by simp only[hSt];omega),.sref 1 v' h1 fun r hr=>by simp⟩
   .match i with
    |0=>simp at h
    |i+1=>simp at h
   .have hrw:∀k r,(hSt n0 [] (V7 [⟨sz,zs.map enc,false⟩] [none] [⟨sz,zs'.map enc,false⟩])).rw k=some r->k=1/\r=⟨sz,zs'.map enc,false⟩:=by
     intro k r hk
     match k with
     |0=>simp[hSt,V7]at hk
     |1=>simp[hSt,V7]at hk;exact⟨rfl,hk.symm⟩
     |k+2=>simp[hSt,V7]at hk
    have hT:({ g with rv:=fun i=>if i=1 then v' else g.rv i }:Gh).T=g.T:=Gh.T_eq rfl rfl
    refine⟨fun k cs h=>by simp[hSt]at h,fun k cs h=>by simp[hSt]at h,fun k r hk=>?_,fun k r hk=>?_,fun k k' cs cs' h=>by simp[hSt]at h,fun k k' cs r h=>by simp[hSt]at h,fun k k' r r' hk hk' hne=>?_,fun b o h=>Nat.lt_of_lt_of_le (H.sw b o h) q4,?_⟩
    .obtain⟨rfl,rfl⟩:=hrw k r hk
     rw[hT];exact hro
    .obtain⟨rfl,rfl⟩:=hrw k r hk
     refine⟨rfl,fun b hb=>hrn.2 b ?_⟩
     simp only[yb]at hb
     rw[← hb',hb]
    .obtain⟨rfl,_⟩:=hrw k r hk;obtain⟨rfl,_⟩:=hrw k' r' hk';exact absurd rfl hne
    .refine H.ow.turn rfl (fun _ h=>h) (yV _) (fun b hb=>q5 b (hownB b hb).1 (hownB b hb).2) (fun k cs h=>by simp[hSt]at h) fun k r hk b hb=>?_
     obtain⟨rfl,_⟩:=hrw k r hk
     simp only[yb]at hb
     exact H.ow.rw 0 _ rfl b (by rw[← hb',hb])
   .match j with
    |0 =>
     simp only[Nat.add_zero,yb]at hb
     exact .inr (.inr ⟨0,by omega,by rw[← hb',hb]⟩)
    |j+1=>simp at h
 rcases hown.2 with⟨hv,hn⟩|⟨b,cap,cur,hv,_,hb,hnc,hcm,hcs,htk⟩
 .have hz:zs=[]:=by
   rw[hzl]at hn
   exact List.eq_nil_of_length_eq_zero hn
  subst hz
  have hz':=h0 rfl
  subst hz'
  have:=hnil rfl
  rw[← hv]at this
  refine this.mono fun e w' hw=>?_
  obtain⟨he,rfl⟩:=hw
  refine fin (g.rv 0) w' e (by rw[he]) (fun _=>rfl) rfl (by rw[hv];rfl) ?_ rfl rfl rfl (yV _) fun _ _ _=>rfl
  exact⟨xs,ty,hown,fun e he=>by simp at he,fun j a u ha=>by simp[flat]at ha⟩
 .rw[hzl]at hv hnc
  rw[hzl]at htk
  have hxs:xs=zs.flatMap val:=by
   have hxl:xs.length=zs.length*sz:=by rw[hown.1,hzl]
   have hvl:(zs.flatMap val).length=zs.length*sz:=E.flen zs
   apply List.ext_getElem (by rw[hxl,hvl])
   intro j h1 h2
   have hfl:(flat (zs.map enc)).length=zs.length*sz:=E.elen zs
   have hj:j<(flat (zs.map enc)).length:=by omega
   have q:=(hc j _ xs[j] (yA hj) (yA h1)).2.2
   exact E.flat_inv (yA hj) (yA h2) q
  have:=hblk b cap cur ty hb hnc hcm hcs (by rw[htk,hxs]) (hrn.2 b (by rw[hv];rfl)).2
  rw[← hv]at this
  refine this.mono fun e w' hw=>?_
  obtain⟨he,cur',c1,c2,c3,c4,q1,q2,q3,q4,q5⟩:=hw
  have hrob:=Z1q E (S:=g.S) (T:=g.T) c1 c4 hcm c2 c3
  refine fin (.slice (some ⟨b,0,none⟩) zs'.length cap) w' e he (fun hr'=>by rw[hv,hr hr']) (by rw[hv];rfl) rfl hrob q1 q2 q3 q4 fun k hk hne=>q5 k hk fun e=>hne (by rw[hv,e];rfl)
def i64s(zs:List Int):List AV:=zs.map fun n=>.int .i64 n
def i64v(zs:List Int):List Value:=zs.map fun n=>.int .i64 n
theorem Q1n(zs:List Int):noOL (i64s zs):=O9.2 fun a ha=>by
 obtain⟨n,_,rfl⟩:=yY ha
 trivial
def Y1T(P:Program)(f:FuncId)(zs zs':List Int)(ret:Bool):Prop :=
 (∀(w:World),Calls P f #[.slice none 0 0] w fun e w'=>e=.returned (if ret then .slice none 0 0 else .tuple #[])/\w'=w) /\
 ∀(w:World) (b cap:Nat) (cur:Array Value) (ty:TypeId),w.heap[b]?=some (.cells cur ty (0,0))->zs.length<=cap->cap<=maxLen->cur.size=cap->cur.toList.take zs.length=i64v zs ->
  Calls P f #[.slice (some ⟨b,0,none⟩) zs.length cap] w fun e w'=>e=.returned (if ret then .slice (some ⟨b,0,none⟩) zs'.length cap else .tuple #[]) /\
   ∃cur':Array Value,w'.heap[b]?=some (.cells cur' ty (0,0))/\cur'.size=cap/\cur'.toList.take zs'.length=i64v zs'/\zs'.length<=cap /\
    w'.os=w.os/\w'.tape=w.tape/\w'.output=w.output/\w.heap.size<=w'.heap.size/\∀k,k<w.heap.size->k≠b->w'.heap[k]?=w.heap[k]?
theorem L1Q:Enc 1 (fun n:Int=>AV.int .i64 n) (fun n=>[Value.int .i64 n]):=by
 have key:∀(x:Int) (j:Nat) (a:AV) (u:Value),(AV.int .i64 x).cells[j]?=some a->[Value.int .i64 x][j]?=some u->a=.int .i64 x/\u=.int .i64 x:=by
  intro x j a u h1 h2
  match j with
  |0=>exact⟨(Option.some.inj h1).symm,(Option.some.inj h2).symm⟩
  |j+1=>simp at h2
 refine⟨fun x=>rfl,fun x=>rfl,fun x a ha=>?_,fun x v hv=>?_,fun w S T x j a u h1 h2=>?_,fun w S T x j a u v h1 h2 h=>?_⟩
 .rw[List.mem_singleton.1 ha];rfl
 .rw[List.mem_singleton.1 hv];rfl
 .obtain⟨rfl,rfl⟩:=key x j a u h1 h2
  exact .int _ _
 .obtain⟨rfl,rfl⟩:=key x j a u h1 h2
  cases h;rfl
theorem W1d(zs:List Int):zs.flatMap (fun n=>[Value.int .i64 n])=i64v zs:=by
 induction zs with
 |nil=>rfl
 |cons n l ih=>rw[ya,ih];rfl
theorem V0L{P:Program}{f:FuncId}{zs zs':List Int}{ret:Bool}(h0:zs=[]->zs'=[])(hr:ret=false->zs'.length=zs.length)(h:Y1T P f zs zs' ret):V1g P f 1 (i64s zs) [] ret (i64s zs'):=by
 refine M1E L1Q h0 hr fun w g n0 us _ hl _=>?_
 match us,hl with
 |[],_ =>
 refine⟨fun _=>h.1 w,fun b cap cur ty h1 h2 h3 h4 h5 _=>?_⟩
 have:=h.2 w b cap cur ty h1 h2 h3 (by omega) (by rw[← W1d,← h5,Nat.mul_one])
 simpa only[W1d,Nat.mul_one]using this
theorem Q0Z{w:World}{b cap:Nat}{cur:Array Value}{ty:TypeId}{zs:List Int}(h1:w.heap[b]?=some (.cells cur ty (0,0)))(h4:cur.size=cap)(h2:zs.length<=cap)(n:Nat)(os:Array Obj) :
  ∃cur':Array Value,(Go.Sort.grow (Go.Sort.putRow (Value.int .i64) (Go.Sort.ahead w n) b 0 zs.toArray) os).heap[b]?=some (.cells cur' ty (0,0))/\cur'.size=cap/\cur'.toList.take zs.length=i64v zs /\
   w.heap.size<=(Go.Sort.grow (Go.Sort.putRow (Value.int .i64) (Go.Sort.ahead w n) b 0 zs.toArray) os).heap.size/\∀k,k<w.heap.size->k≠b->(Go.Sort.grow (Go.Sort.putRow (Value.int .i64) (Go.Sort.ahead w n) b 0 zs.toArray) os).heap[k]?=w.heap[k]?:=by
 have hb:b<w.heap.size:=(Array.getElem?_eq_some_iff.1 h1).1
 have hg:∀k,k<w.heap.size->(Go.Sort.grow (Go.Sort.putRow (Value.int .i64) (Go.Sort.ahead w n) b 0 zs.toArray) os).heap[k]?=(w.heap.modify b (Go.Sort.onCells (Go.Sort.putCells (Value.int .i64) 0 zs.toArray)))[k]?:=by
  intro k hk
  simp only[Go.Sort.grow,Go.Sort.putRow,Go.Sort.mapBlock,Go.Sort.ahead]
  rw[Array.getElem?_append_left (by simpa using hk)]
 refine⟨Go.Sort.putCells (Value.int .i64) 0 zs.toArray cur,?_,?_,?_,?_,fun k hk hne=>?_⟩
 .rw[hg b hb,Array.getElem?_modify];simp only[yb,h1];rfl
 .simp[Go.Sort.putCells,h4]
 .apply List.ext_getElem
  .simp[Go.Sort.putCells,i64v,h4];omega
  .intro j q1 q2
   have hj:j<zs.length:=by simp[i64v]at q2;exact q2
   simp[Go.Sort.putCells,i64v,hj]
 .simp[Go.Sort.grow,Go.Sort.putRow,Go.Sort.mapBlock,Go.Sort.ahead]
 .rw[hg k hk,Array.getElem?_modify,ye (fun e=>hne e.symm)]
theorem O1d{w:World}{b:Nat}{cur:Array Value}{ty:TypeId}{zs:List Int}(h1:w.heap[b]?=some (.cells cur ty (0,0)))(h5:cur.toList.take zs.length=i64v zs):Go.Sort.Holds (Value.int .i64) w b 0 zs.toArray:=by
 intro j hj
 have hj':j<zs.length:=by simpa using hj
 refine⟨?_,frozen_of_row w b (0+j) cur ty h1⟩
 have hc:cur[j]?=some (.int .i64 zs[j]):=by
  have:=congrArg (·[j]?) h5
  simp only[i64v,yF,List.getElem?_take,hj',yb,yA hj',Option.map_some]at this
  simpa using this
 simp only[World.cell?,h1,Option.isSome_none,yG,yc,Nat.zero_add]
 rw[hc]
 simp[hj']
end Go.Proofs.YtpgaganbacipnaaGreat.Eng
namespace Go.Proofs
open Go.Shelf
def Tryz.lays189_ren:Go.Shelf.Ren:=⟨fun|189=>128|125=>116|257=>202|128=>189|129=>190|294=>234|295=>235|296=>236|297=>237|298=>238|299=>239|216=>240|300=>241|301=>242|328=>256|329=>228|330=>229|331=>257|332=>258|215=>259|343=>273|n=>n,fun|28=>23|3=>3|46=>153|0=>0|51=>216|53=>218|4=>4|183=>210|182=>209|131=>182|5=>5|9=>9|218=>239|222=>243|228=>261|229=>262|n=>n,fun|n=>n⟩
theorem Tryz.lays189:Go.Proofs.Lays.n189 Tryz.prog Tryz.lays189_ren:={
 mixed:=by kernel_rfl
 f125:=Tryz.func116.trans (congrArg some (by kernel_rfl))
 f128:=Tryz.func189.trans (congrArg some (by kernel_rfl))
 f129:=Tryz.func190.trans (congrArg some (by kernel_rfl))
 f189:=Tryz.func128.trans (congrArg some (by kernel_rfl))
 f215:=Tryz.func259.trans (congrArg some (by kernel_rfl))
 f216:=Tryz.func240.trans (congrArg some (by kernel_rfl))
 f257:=Tryz.func202.trans (congrArg some (by kernel_rfl))
 f294:=Tryz.func234.trans (congrArg some (by kernel_rfl))
 f295:=Tryz.func235.trans (congrArg some (by kernel_rfl))
 f296:=Tryz.func236.trans (congrArg some (by kernel_rfl))
 f297:=Tryz.func237.trans (congrArg some (by kernel_rfl))
 f298:=Tryz.func238.trans (congrArg some (by kernel_rfl))
 f299:=Tryz.func239.trans (congrArg some (by kernel_rfl))
 f300:=Tryz.func241.trans (congrArg some (by kernel_rfl))
 f301:=Tryz.func242.trans (congrArg some (by kernel_rfl))
 f328:=Tryz.func256.trans (congrArg some (by kernel_rfl))
 f329:=Tryz.func228.trans (congrArg some (by kernel_rfl))
 f330:=Tryz.func229.trans (congrArg some (by kernel_rfl))
 f331:=Tryz.func257.trans (congrArg some (by kernel_rfl))
 f332:=Tryz.func258.trans (congrArg some (by kernel_rfl))
 f343:=Tryz.func273.trans (congrArg some (by kernel_rfl))
 t0:=Tryz.underlying0
 a0:=Tryz.isAgg0
 z0:=Tryz.sizeOf0
 v0:=Tryz.zeroValue0
 t3:=Tryz.underlying3
 a3:=Tryz.isAgg3
 z3:=Tryz.sizeOf3
 v3:=Tryz.zeroValue3
 t4:=Tryz.underlying4
 a4:=Tryz.isAgg4
 z4:=Tryz.sizeOf4
 v4:=Tryz.zeroValue4
 t5:=Tryz.underlying5
 a5:=Tryz.isAgg5
 z5:=Tryz.sizeOf5
 v5:=Tryz.zeroValue5
 t9:=Tryz.underlying9
 a9:=Tryz.isAgg9
 z9:=Tryz.sizeOf9
 v9:=Tryz.zeroValue9
 t28:=Tryz.underlying23
 a28:=Tryz.isAgg23
 z28:=Tryz.sizeOf23
 v28:=Tryz.zeroValue23
 t46:=Tryz.underlying153
 a46:=Tryz.isAgg153
 z46:=Tryz.sizeOf153
 v46:=Tryz.zeroValue153
 t51:=Tryz.underlying216
 a51:=Tryz.isAgg216
 z51:=Tryz.sizeOf216
 v51:=Tryz.zeroValue216
 t53:=Tryz.underlying218
 a53:=Tryz.isAgg218
 z53:=Tryz.sizeOf218
 v53:=Tryz.zeroValue218
 t131:=Tryz.underlying182
 a131:=Tryz.isAgg182
 z131:=Tryz.sizeOf182
 v131:=Tryz.zeroValue182
 t182:=Tryz.underlying209
 a182:=Tryz.isAgg209
 z182:=Tryz.sizeOf209
 v182:=Tryz.zeroValue209
 t183:=Tryz.underlying210
 a183:=Tryz.isAgg210
 z183:=Tryz.sizeOf210
 v183:=Tryz.zeroValue210
 t218:=Tryz.underlying239
 a218:=Tryz.isAgg239
 z218:=Tryz.sizeOf239
 v218:=Tryz.zeroValue239
 t222:=Tryz.underlying243
 a222:=Tryz.isAgg243
 z222:=Tryz.sizeOf243
 v222:=Tryz.zeroValue243
 t228:=Tryz.underlying261
 a228:=Tryz.isAgg261
 z228:=Tryz.sizeOf261
 v228:=Tryz.zeroValue261
 t229:=Tryz.underlying262
 a229:=Tryz.isAgg262
 z229:=Tryz.sizeOf262
 v229:=Tryz.zeroValue262 }
open Go.Sort Go.RowKit in
theorem Tryz.slices_Sort_int(blk off cap:Nat)(zs:List Int)(w:World)(hH:Holds (Value.int .i64) w blk off zs.toArray)(hblk:blk<w.heap.size)(hsz:zs.length<4611686018427387904) :
  Calls Tryz.prog 128 #[.slice (some ⟨blk,off,none⟩) zs.length cap] w fun e w' =>
   e=.returned (.tuple #[])/\∃n os,w'=grow (putRow (Value.int .i64) (Sort.ahead w n) blk off (zs.mergeSort fun x y=>decide (x<=y)).toArray) os:=Any.slices_Sort_int Tryz.lays189 blk off cap zs w hH hblk hsz
def Tryz.laysNm220_ren:Go.Shelf.Ren:=⟨fun|20=>129|n=>n,fun|22=>23|3=>3|4=>4|0=>0|n=>n,fun|n=>n⟩
theorem Tryz.laysNm220:Go.Proofs.Lays2.n20 Tryz.prog Tryz.laysNm220_ren:={
 mixed:=by kernel_rfl
 f20:=Tryz.func129.trans (congrArg some (by kernel_rfl))
 t0:=Tryz.underlying0
 a0:=Tryz.isAgg0
 z0:=Tryz.sizeOf0
 v0:=Tryz.zeroValue0
 t3:=Tryz.underlying3
 a3:=Tryz.isAgg3
 z3:=Tryz.sizeOf3
 v3:=Tryz.zeroValue3
 t4:=Tryz.underlying4
 a4:=Tryz.isAgg4
 z4:=Tryz.sizeOf4
 v4:=Tryz.zeroValue4
 t22:=Tryz.underlying23
 a22:=Tryz.isAgg23
 z22:=Tryz.sizeOf23
 v22:=Tryz.zeroValue23
 i3:=by kernel_rfl }
open Go.RowKit Go.Lib Go.Sort in
theorem Tryz.slices_Compact_int(blk off cap:Nat)(zs:List Int)(w:World)(hH:Holds (Value.int .i64) w blk off zs.toArray)(hsz:zs.length<=9223372036854775807)(hcap:zs.length<=cap) :
  Calls Tryz.prog 129 #[.slice (some ⟨blk,off,none⟩) zs.length cap] w fun e w'=>e=.returned (.slice (some ⟨blk,off,none⟩) (Lib.compact zs).length cap)/\∃q,w'=putRow (Value.int .i64) (Sort.ahead w q) blk off (Lib.compact zs++List.replicate (zs.length-(Lib.compact zs).length) 0).toArray:=Any.slices_Compact_int Tryz.laysNm220 blk off cap zs w hH hsz hcap
open Go.RowKit Go.Lib Go.Sort in
theorem Tryz.slices_Compact_int_empty(a:Option Addr)(cap:Nat)(w:World) :
  Calls Tryz.prog 129 #[.slice a 0 cap] w fun e w'=>e=.returned (.slice a 0 cap)/\w'=w:=Any.slices_Compact_int_empty Tryz.laysNm220 a cap w
open Go.RowKit Go.Sort in
theorem Tryz.slices_Sort_int_none(p:Option Addr)(cap:Nat)(w:World) :
  Calls Tryz.prog 128 #[.slice p 0 cap] w fun e w'=>e=.returned (.tuple #[])/\w'=w:=Any.slices_Sort_int_none Tryz.lays189 p cap w
end Go.Proofs
namespace Go.Proofs.YtpgaganbacipnaaGreat
open Go Go.RowKit Eng
section
def M0T(zs:List Int):List Int:=zs.mergeSort fun x y=>decide (x<=y)
def X1u(zs:List Int):Option (List Int):=if zs.length<4611686018427387904 then some (M0T zs)else none
def Yc(zs:List Int):List Int:=Lib.compact zs
theorem Y1f:Yc []=[]:=by simp[Yc,Lib.compact,Lib.compactUpTo]
theorem X1f(zs:List Int):(Yc zs).length<=zs.length:=by
 simp only[Yc,Lib.compact,Lib.compactUpTo,List.length_map]
 exact Nat.le_trans (List.length_filter_le ..) (by simp)
theorem J0K(zs:List Int):(M0T zs).length=zs.length:=by simp[M0T]
theorem Q1E{zs r:List Int}(h:X1u zs=some r):V1g Tryz.prog QL 1 (zs.map eI) [] false (r.map eI):=by
 unfold X1u at h
 split at h
 .rename_i hl
  cases h
  refine V0L (zs:=zs) (zs':=M0T zs) (fun e=>by subst e;simp[M0T]) (fun _=>J0K zs) ⟨fun w=>?_,fun w b cap cur ty h1 h2 h3 h4 h5=>?_⟩
  .exact(Tryz.slices_Sort_int_none none 0 w).mono fun e w' h=>⟨by simp[h.1],h.2⟩
  .refine(Tryz.slices_Sort_int b 0 cap zs w (O1d h1 h5) (Array.getElem?_eq_some_iff.1 h1).1 hl).mono fun e w' h=>?_
   obtain⟨he,n,os,hw⟩:=h
   rw[hw]
   obtain⟨cur',q1,q2,q3,q4,q5⟩:=Q0Z (zs:=M0T zs) h1 h4 (by rw[J0K];exact h2) n os
   exact⟨by simp[he],cur',q1,q2,q3,by rw[J0K];exact h2,rfl,rfl,rfl,q4,q5⟩
 .cases h
theorem M1i(zs:List Int):V1g Tryz.prog Zz 1 (zs.map eI) [] true ((Yc zs).map eI):=by
 refine V0L (zs:=zs) (zs':=Yc zs) (fun e=>by subst e;exact Y1f) (fun h=>by cases h) ⟨fun w=>?_,fun w b cap cur ty h1 h2 h3 h4 h5=>?_⟩
 .exact(Tryz.slices_Compact_int_empty none 0 w).mono fun e w' h=>⟨by simp[h.1],h.2⟩
 .refine(Tryz.slices_Compact_int b 0 cap zs w (O1d h1 h5) (by simp only[maxLen]at h3;omega) h2).mono fun e w' h=>?_
  obtain⟨he,q,hw⟩:=h
  rw[hw]
  have hcl:=X1f zs
  have e0:(Lib.compact zs++List.replicate (zs.length-(Lib.compact zs).length) 0).length=zs.length:=by
   rw[yU,List.length_replicate];unfold Yc at hcl;omega
  obtain⟨cur',q1,q2,q3,q4,q5⟩:=Q0Z (zs:=Lib.compact zs++List.replicate (zs.length-(Lib.compact zs).length) 0) h1 h4 (by rw[e0];exact h2) q #[]
  rw[Go.Sort.grow_empty]at q1 q4 q5
  refine⟨by simp[he,Yc],cur',q1,q2,?_,by omega,rfl,rfl,rfl,q4,q5⟩
  have:=congrArg (·.take (Yc zs).length) q3
  simp only[List.take_take,i64v,← List.map_take]at this
  rw[e0,Nat.min_eq_left hcl]at this
  rw[this,i64v]
  congr 1
  exact List.take_left
section
variable{α β γ σ:Type}
theorem J3{n:Int}(h:-9223372036854775808<=n/\n<=9223372036854775807):w64 n=n:=Z11 h.1 h.2
theorem W09{n:Nat}(h:n<9223372036854775807):w64 ((n:Int)+1)=((n+1:Nat):Int):=by rw[J3 (by omega)];omega
theorem M0I{n:Nat}(h0:0<n)(h:n<=9223372036854775807):w64 ((n:Int)-1)=((n-1:Nat):Int):=by rw[J3 (by omega)];omega
theorem V3{l:List α}{i:Nat}:idx l (i:Int)=l[i]?:=by simp[idx]
theorem Ji{l:List α}{i:Int}(h0:0<=i)(h:i<l.length):∃x,idx l i=some x/\l[i.toNat]?=some x:=by
 have:i.toNat<l.length:=by omega
 exact⟨l[i.toNat],by simp[idx,h0,this],by simp[this]⟩
theorem M0{bs:Nat}{l m:List α}(h:(l.length+m.length)*bs<=140737488355328):appL bs l m=some (l++m):=by simp[appL,h]
theorem O3{a b:Str}(h:a.length+b.length<=9223372036854775807):catS a b=some (a++b):=by simp[catS,h]
theorem Ll{p:Prop}(h:¬ p):(false=true↔p):=by simp[h]
@[simp] theorem U24 {c:Bool}{a b:Option α}{f:α->Option β}:(bif c then a else b).bind f=bif c then a.bind f else b.bind f:=by cases c<;>rfl
theorem X13{α2 β2:Type}{bd:α->Nat->β->(β->Option γ)->Option γ}{kk:β->Option γ}{bd2:α2->Nat->β2->(β2->Option γ)->Option γ}{kk2:β2->Option γ}
  (R:Nat->β->β2->Prop) {l0:List α} {m0:List α2} (hl:l0.length=m0.length)
  (h:∀i x y b c (k:β->Option γ) (k2:β2->Option γ),l0[i]?=some x->m0[i]?=some y->R i b c->(∀b' c',R (i+1) b' c'->k b'=k2 c')->bd x i b k=bd2 y i c k2)
  (hk:∀b c,R l0.length b c->kk b=kk2 c) {b:β} {c:β2} (h0:R 0 b c):rgl bd kk l0 0 b=rgl bd2 kk2 m0 0 c:=by
 have key:∀(n i:Nat) (b:β) (c:β2),l0.length-i=n->i<=l0.length->R i b c->rgl bd kk (l0.drop i) i b=rgl bd2 kk2 (m0.drop i) i c:=by
  intro n
  induction n with
  |zero =>
   intro i b c hn hi hr
   have:i=l0.length:=by omega
   subst this
   rw[List.drop_length,hl,List.drop_length]
   exact hk b c (by simpa using hr)
  |succ n ih =>
   intro i b c hn hi hr
   have h1:i<l0.length:=by omega
   have h2:i<m0.length:=by omega
   rw[List.drop_eq_getElem_cons h1,List.drop_eq_getElem_cons h2,rgl,rgl]
   exact h i _ _ b c _ _ (yA h1) (yA h2) hr fun b' c' hr'=>ih (i+1) b' c' (by omega) (by omega) hr'
 have:=key l0.length 0 b c (by simp) (Nat.zero_le _) h0
 simpa using this
theorem Q0L{bd bd2:α->Nat->β->(β->Option γ)->Option γ}{kk kk2:β->Option γ}{l:List α}{b:β}
  (h:∀i x b (k:β->Option γ),l[i]?=some x->bd x i b k=bd2 x i b k) (hk:∀b,kk b=kk2 b):rgl bd kk l 0 b=rgl bd2 kk2 l 0 b :=
 X13 (fun _ b c=>b=c) rfl (fun i x y b c k k2 hx hy hr hkk=>by
  subst hr;rw[hx]at hy;cases hy
  rw[h i x b k hx]
  congr 1
  funext b'
  exact hkk b' b' rfl) (fun b c hr=>by subst hr;exact hk b) rfl
theorem Mc{bd:α->Nat->β->(β->Option γ)->Option γ}{kk:β->Option γ}(I:Nat->β->Prop)(Q:Option γ->Prop){l0:List α}
  (h:∀i x b (k:β->Option γ),l0[i]?=some x->I i b->(∀b',I (i+1) b'->Q (k b'))->Q (bd x i b k)) (hk:∀b,I l0.length b->Q (kk b)) {b:β} (h0:I 0 b):Q (rgl bd kk l0 0 b):=by
 have key:∀(n i:Nat) (b:β),l0.length-i=n->i<=l0.length->I i b->Q (rgl bd kk (l0.drop i) i b):=by
  intro n
  induction n with
  |zero =>
   intro i b hn hi hr
   have:i=l0.length:=by omega
   subst this
   rw[List.drop_length]
   exact hk b hr
  |succ n ih =>
   intro i b hn hi hr
   have h1:i<l0.length:=by omega
   rw[List.drop_eq_getElem_cons h1,rgl]
   exact h i _ b _ (yA h1) hr fun b' hr'=>ih (i+1) b' (by omega) (by omega) hr'
 have:=key l0.length 0 b (by simp) (Nat.zero_le _) h0
 simpa using this
theorem Z01{bd:α->Nat->β->(β->Option γ)->Option γ}{kk:β->Option γ}{f:β->α->β}:∀{l:List α} {i:Nat} {b:β},(∀x∈l,∀i b k,bd x i b k=k (f b x))->rgl bd kk l i b=kk (l.foldl f b)
 |[],_,_,_=>rfl
 |x::l,i,b,h=>by
  rw[rgl,h x (yJ ..),List.foldl_cons]
  exact Z01 fun y hy=>h y (yH _ hy)
theorem Xq{bd:α->Nat->Unit->(Unit->Option γ)->Option γ}{kk:Unit->Option γ}{p:α->Bool}{r:Option γ}:∀{l:List α} {i:Nat},(∀x∈l,∀i k,bd x i () k=bif p x then r else k ())->rgl bd kk l i ()=bif l.any p then r else kk ()
 |[],_,_=>rfl
 |x::l,i,h=>by
  rw[rgl,h x (yJ ..),Xq fun y hy=>h y (yH _ hy),List.any_cons]
  cases p x<;>rfl
theorem Z1v{α2:Type}{bd:α->Nat->β->(β->Option γ)->Option γ}{kk:β->Option γ}{f:α2->α}:∀{l:List α2} {i:Nat} {b:β},rgl bd kk (l.map f) i b=rgl (fun x=>bd (f x)) kk l i b
 |[],_,_=>rfl
 |x::l,i,b=>by
  rw[List.map_cons,rgl,rgl]
  congr 1
  funext b'
  exact Z1v
theorem V8{bs:Nat}{bd:α->Nat->List β->(List β->Option γ)->Option γ}{kk:List β->Option γ}{p:α->Bool}{f:α->β}:∀{l:List α} {i:Nat} {acc:List β},
  (∀x∈l,∀i b k,bd x i b k=bif p x then(appL bs b [f x]).bind k else k b)->(acc.length+l.length)*bs<=140737488355328->rgl bd kk l i acc=kk (acc++(l.filter p).map f)
 |[],_,acc,_,_=>by simp[rgl]
 |x::l,i,acc,h,hb=>by
  rw[rgl,h x (yJ ..)]
  have hb1:(acc.length+1+l.length)*bs<=140737488355328:=by simpa[Nat.add_assoc,Nat.add_comm 1]using hb
  cases hp:p x with
  |true =>
   have:(acc.length+1)*bs<=(acc.length+1+l.length)*bs:=Nat.mul_le_mul_right _ (by omega)
   rw[yN,M0 (by simp;omega),bS,V8 (fun y hy=>h y (yH _ hy)) (by simpa using hb1)]
   simp[hp]
  |false =>
   have:(acc.length+l.length)*bs<=(acc.length+1+l.length)*bs:=Nat.mul_le_mul_right _ (by omega)
   rw[yM,V8 (fun y hy=>h y (yH _ hy)) (by omega)]
   simp[hp]
theorem M0m{bd:β->(β->Option γ)->Option γ}(mk:Nat->σ->β){B:Nat->Nat->σ->(σ->Option γ)->Option γ}{kk:σ->Option γ}{n:Nat}
  (h1:∀i st k,i<n->bd (mk i st) k=B i i st fun st'=>k (mk (i+1) st')) (h2:∀i st k,n<=i->bd (mk i st) k=kk st):∀(fuel i:Nat) (st:σ),n-i<fuel->whl bd fuel (mk i st)=rgl B kk (List.range' i (n-i)) i st
 |0,i,st,h=>by omega
 |fuel+1,i,st,h=>by
  rw[whl]
  by_cases hi:i<n
  .rw[h1 i st _ hi,show n-i=n-(i+1)+1 by omega,List.range'_succ,rgl]
   congr 1
   funext st'
   exact M0m mk h1 h2 fuel (i+1) st' (by omega)
  .rw[h2 i st _ (by omega),show n-i=0 by omega]
   rfl
theorem QF{bd:β->(β->Option γ)->Option γ}(Q:β->Option γ->Prop)(m:β->Nat)(I:β->Prop)(h:∀b (k:β->Option γ),I b->(∀b',I b'->m b'<m b->Q b' (k b'))->Q b (bd b k)):∀(fuel:Nat) (b:β),I b->m b<fuel->Q b (whl bd fuel b)
 |0,_,_,h=>by omega
 |fuel+1,b,hI,hm=>by
  rw[whl]
  exact h b _ hI fun b' hI' hlt=>QF Q m I h fuel b' hI' (by omega)
end
end
noncomputable def O0U:L :=
 lf Tryz.prog X05 [] [] [] [] [] [] []
def YP(n1:Int):Option Bool :=
 some ((decide (0<=n1))&&(decide (n1<=1000000)))
theorem J0C{n1:Int}{r:Bool}(H:YP n1=some r):Snd Tryz.prog X05 [iV n1] (.bool r) []:=by
 refine wS O0U [.t 2] ?_
 unfold YP at H
 obtain rfl:=sI H
 exact wP (wE [(2,.d)])
def Y9(n1:Int):Bool :=
 ((decide (0<=n1))&&(decide (n1<=1000000)))
theorem M11(n1:Int):YP n1=some (Y9 n1):=by
 unfold YP Y9
 first|rfl|simp only[O8]
theorem VY(n1:Int):Snd Tryz.prog X05 [iV n1] (.bool (Y9 n1)) []:=J0C (M11 n1)
noncomputable def Z0O:L :=
 lf Tryz.prog LZ [] [] [] [] [] [] []
def ZJ(n1:Int):Option Bool :=
 some ((decide (0<=n1))&&(decide (n1<=1000000000)))
theorem L0u{n1:Int}{r:Bool}(H:ZJ n1=some r):Snd Tryz.prog LZ [iV n1] (.bool r) []:=by
 refine wS Z0O [.t 2] ?_
 unfold ZJ at H
 obtain rfl:=sI H
 exact wP (wE [(2,.d)])
def Z4(n1:Int):Bool :=
 ((decide (0<=n1))&&(decide (n1<=1000000000)))
theorem O0S(n1:Int):ZJ n1=some (Z4 n1):=by
 unfold ZJ Z4
 first|rfl|simp only[O8]
theorem Z9(n1:Int):Snd Tryz.prog LZ [iV n1] (.bool (Z4 n1)) []:=L0u (O0S n1)
noncomputable def Q15:L :=
 lf Tryz.prog L0e [] [] [] [] [] [] []
def LV(v1:Vec):Option Bool :=
 some (((Y9 v1.a)&&(Y9 v1.b))&&(Y9 v1.c))
theorem O0K{v1:Vec}{r:Bool}(H:LV v1=some r):Snd Tryz.prog L0e [eVec v1] (.bool r) []:=by
 refine wS Q15 [.t 2] ?_
 unfold LV at H
 refine wG [.c 5 (VY v1.a),.g 9 [((Y9 v1.a),true)] (.call _ _ _ _ _ (AEs.refl _) (fun _=>VY v1.b)),.g 14 [(((Y9 v1.a)&&(Y9 v1.b)),true)] (.call _ _ _ _ _ (AEs.refl _) (fun _=>VY v1.c))] fun _=>?_
 replace H:=sI H;subst H
 exact wE [(2,.d)]
def W0(v1:Vec):Bool :=
 (((Y9 v1.a)&&(Y9 v1.b))&&(Y9 v1.c))
theorem Y1a(v1:Vec):LV v1=some (W0 v1):=by
 unfold LV W0
 first|rfl|simp only[O8]
theorem L5(v1:Vec):Snd Tryz.prog L0e [eVec v1] (.bool (W0 v1)) []:=O0K (Y1a v1)
noncomputable def Y0O:L :=
 lf Tryz.prog JZ [] [] [] [] [] [] []
def YJ(a1 b2:Vec):Option Bool :=
 some (((((W0 a1)&&(W0 b2))&&(decide (a1.a<=b2.a)))&&(decide (a1.b<=b2.b)))&&(decide (a1.c<=b2.c)))
theorem J0u{a1 b2:Vec}{r:Bool}(H:YJ a1 b2=some r):Snd Tryz.prog JZ [eVec a1,eVec b2] (.bool r) []:=by
 refine wS Y0O [.t 4] ?_
 unfold YJ at H
 refine wG [.c 6 (L5 a1),.g 9 [((W0 a1),true)] (.call _ _ _ _ _ (AEs.refl _) (fun _=>L5 b2))] fun _=>?_
 replace H:=sI H;subst H
 exact wE [(4,.d)]
def Q5(a1 b2:Vec):Bool :=
 (((((W0 a1)&&(W0 b2))&&(decide (a1.a<=b2.a)))&&(decide (a1.b<=b2.b)))&&(decide (a1.c<=b2.c)))
theorem J0S(a1 b2:Vec):YJ a1 b2=some (Q5 a1 b2):=by
 unfold YJ Q5
 first|rfl|simp only[O8]
theorem MR(a1 b2:Vec):Snd Tryz.prog JZ [eVec a1,eVec b2] (.bool (Q5 a1 b2)) []:=J0u (J0S a1 b2)
noncomputable def Z0V:L :=
 lf Tryz.prog O05 [] [] [] [] [] [] []
def QP(a1 b2:Vec):Option (Vec×Bool) :=
 bif ((!(W0 a1))||(!(W0 b2)))then(some ((Vec.mk 0 0 0),false))else(bif (!(W0 (Vec.mk (w64 (a1.a+b2.a)) (w64 (a1.b+b2.b)) (w64 (a1.c+b2.c)))))then(some ((Vec.mk 0 0 0),false))else(some ((Vec.mk (w64 (a1.a+b2.a)) (w64 (a1.b+b2.b)) (w64 (a1.c+b2.c))),true)))
theorem V0D{a1 b2:Vec}{r:Vec×Bool}(H:QP a1 b2=some r):Snd Tryz.prog O05 [eVec a1,eVec b2] (.tup [eVec r.1,.bool r.2]) []:=by
 refine wS Z0V [.c 4 3 true,.t 5] ?_
 unfold QP at H
 refine wG [.c 8 (L5 a1),.g 12 [((!(W0 a1)),false)] (.call _ _ _ _ _ (AEs.refl _) (fun _=>L5 b2))] fun _=>?_
 refine O0 H (fun H=>?_) fun H=>?_
 .refine wP ?_
  replace H:=sI H;subst H
  exact wN [(4,.d),(5,.d)] [(4,[])] [] [] [] []
 .refine wG [.u 33 (.call _ _ _ _ _ (AEs.refl _) (fun _=>L5 (Vec.mk (w64 (a1.a+b2.a)) (w64 (a1.b+b2.b)) (w64 (a1.c+b2.c)))))] fun _=>?_
  refine O0 H (fun H=>?_) fun H=>?_
  .refine wP ?_
   replace H:=sI H;subst H
   exact wN [(4,.d),(5,.d)] [(4,[])] [] [] [] []
  .refine wP ?_
   replace H:=sI H;subst H
   exact wN [(4,.d),(5,.d)] [(4,[])] [] [] [] []
def WG(a1 b2:Vec):Vec×Bool :=
 bif ((!(W0 a1))||(!(W0 b2)))then(((Vec.mk 0 0 0),false))else(bif (!(W0 (Vec.mk (w64 (a1.a+b2.a)) (w64 (a1.b+b2.b)) (w64 (a1.c+b2.c)))))then(((Vec.mk 0 0 0),false))else(((Vec.mk (w64 (a1.a+b2.a)) (w64 (a1.b+b2.b)) (w64 (a1.c+b2.c))),true)))
theorem Y12(a1 b2:Vec):QP a1 b2=some (WG a1 b2):=by
 unfold QP WG
 first|rfl|simp only[O8]
theorem Z0T(a1 b2:Vec):Snd Tryz.prog O05 [eVec a1,eVec b2] (.tup [eVec ((WG a1 b2).1),.bool ((WG a1 b2).2)]) []:=V0D (Y12 a1 b2)
noncomputable def L0U:L :=
 lf Tryz.prog Q05 [] [] [] [] [] [] []
def VP(a1 b2:Vec):Option (Vec×Bool) :=
 bif (!(Q5 b2 a1))then(some ((Vec.mk 0 0 0),false))else(some ((Vec.mk (w64 (a1.a-b2.a)) (w64 (a1.b-b2.b)) (w64 (a1.c-b2.c))),true))
theorem Y0D{a1 b2:Vec}{r:Vec×Bool}(H:VP a1 b2=some r):Snd Tryz.prog Q05 [eVec a1,eVec b2] (.tup [eVec r.1,.bool r.2]) []:=by
 refine wS L0U [.c 4 3 true,.t 5] ?_
 unfold VP at H
 refine wG [.c 8 (MR b2 a1)] fun _=>?_
 refine O0 H (fun H=>?_) fun H=>?_
 .refine wP ?_
  replace H:=sI H;subst H
  exact wN [(4,.d),(5,.d)] [(4,[])] [] [] [] []
 .refine wP ?_
  replace H:=sI H;subst H
  exact wN [(4,.d),(5,.d)] [(4,[])] [] [] [] []
def J4(a1 b2:Vec):Vec×Bool :=
 bif (!(Q5 b2 a1))then(((Vec.mk 0 0 0),false))else(((Vec.mk (w64 (a1.a-b2.a)) (w64 (a1.b-b2.b)) (w64 (a1.c-b2.c))),true))
theorem J11(a1 b2:Vec):VP a1 b2=some (J4 a1 b2):=by
 unfold VP J4
 first|rfl|simp only[O8]
theorem M0S(a1 b2:Vec):Snd Tryz.prog Q05 [eVec a1,eVec b2] (.tup [eVec ((J4 a1 b2).1),.bool ((J4 a1 b2).2)]) []:=Y0D (J11 a1 b2)
noncomputable def M0U:L :=
 lf Tryz.prog U05 [] [] [] [] [] [] []
def XP(a1 b2:Int):Option Int :=
 bif (decide (a1<b2))then(some a1)else(some b2)
theorem Z0D{a1 b2 r:Int}(H:XP a1 b2=some r):Snd Tryz.prog U05 [iV a1,iV b2] (iV r) []:=by
 refine wS M0U [.t 4] ?_
 unfold XP at H
 refine wP ?_
 refine O0 H (fun H=>?_) fun H=>?_
 .obtain rfl:=sI H
  exact wP (wE [(4,.d)])
 .obtain rfl:=sI H
  exact wP (wE [(4,.d)])
def Om(a1 b2:Int):Int :=
 bif (decide (a1<b2))then(a1)else(b2)
theorem L11(a1 b2:Int):XP a1 b2=some (Om a1 b2):=by
 unfold XP Om
 first|rfl|simp only[O8]
theorem UY(a1 b2:Int):Snd Tryz.prog U05 [iV a1,iV b2] (iV (Om a1 b2)) []:=Z0D (L11 a1 b2)
noncomputable def J0U:L :=
 lf Tryz.prog W05 [] [] [] [] [(3,16)] [] []
def UP(a1 b2:Vec):Option Vec :=
 bif ((!(W0 a1))||(!(W0 b2)))then(some (Vec.mk 0 0 0))else(some (Vec.mk (Om a1.a b2.a) (Om a1.b b2.b) (Om a1.c b2.c)))
theorem X0D{a1 b2 r:Vec}(H:UP a1 b2=some r):Snd Tryz.prog W05 [eVec a1,eVec b2] (eVec r) []:=by
 refine wS J0U [.c 4 3 true] ?_
 unfold UP at H
 refine wG [.c 6 (L5 a1),.g 10 [((!(W0 a1)),false)] (.call _ _ _ _ _ (AEs.refl _) (fun _=>L5 b2))] fun _=>?_
 refine O0 H (fun H=>?_) fun H=>?_
 .refine wP ?_
  replace H:=sI H;subst H
  exact wN [(4,.d)] [(4,[])] [] [] [] []
 .refine wG [.c 18 (UY a1.a b2.a),.c 23 (UY a1.b b2.b),.c 28 (UY a1.c b2.c)] fun _=>?_
  replace H:=sI H;subst H
  exact wN [(4,.d)] [(4,[])] [] [] [] []
def QG(a1 b2:Vec):Vec :=
 bif ((!(W0 a1))||(!(W0 b2)))then((Vec.mk 0 0 0))else((Vec.mk (Om a1.a b2.a) (Om a1.b b2.b) (Om a1.c b2.c)))
theorem Z12(a1 b2:Vec):UP a1 b2=some (QG a1 b2):=by
 unfold UP QG
 first|rfl|simp only[O8]
theorem L0S(a1 b2:Vec):Snd Tryz.prog W05 [eVec a1,eVec b2] (eVec (QG a1 b2)) []:=X0D (Z12 a1 b2)
noncomputable def Y0W:L :=
 lf Tryz.prog L05 [] [] [] [] [] [] []
def LP(x1 lo2 hi3:Int):Option Bool :=
 some ((decide (lo2<=x1))&&(decide (x1<=hi3)))
theorem Z0H{x1 lo2 hi3:Int}{r:Bool}(H:LP x1 lo2 hi3=some r):Snd Tryz.prog L05 [iV x1,iV lo2,iV hi3] (.bool r) []:=by
 refine wS Y0W [.t 6] ?_
 unfold LP at H
 obtain rfl:=sI H
 exact wP (wE [(6,.d)])
def Y0(x1 lo2 hi3:Int):Bool :=
 ((decide (lo2<=x1))&&(decide (x1<=hi3)))
theorem Z17(x1 lo2 hi3:Int):LP x1 lo2 hi3=some (Y0 x1 lo2 hi3):=by
 unfold LP Y0
 first|rfl|simp only[O8]
theorem V2(x1 lo2 hi3:Int):Snd Tryz.prog L05 [iV x1,iV lo2,iV hi3] (.bool (Y0 x1 lo2 hi3)) []:=Z0H (Z17 x1 lo2 hi3)
noncomputable def U0W:L :=
 lf Tryz.prog J05 [] [] [] [] [] [] []
def JP(t1:Int):Option Bool :=
 some (Y0 t1 0 1000000000)
theorem Y0H{t1:Int}{r:Bool}(H:JP t1=some r):Snd Tryz.prog J05 [iV t1] (.bool r) []:=by
 refine wS U0W [.t 2] ?_
 unfold JP at H
 refine wG [.c 4 (V2 t1 0 1000000000)] fun _=>?_
 replace H:=sI H;subst H
 exact wE [(2,.d)]
def X8(t1:Int):Bool :=
 (Y0 t1 0 1000000000)
theorem U17(t1:Int):JP t1=some (X8 t1):=by
 unfold JP X8
 first|rfl|simp only[O8]
theorem Lu(t1:Int):Snd Tryz.prog J05 [iV t1] (.bool (X8 t1)) []:=Y0H (U17 t1)
noncomputable def W0G:L :=
 lf Tryz.prog J0f [] [] [] [] [] [] []
def Wi(l1:List Int):Option (List Int) :=
 (appL 8 ([]:List Int) l1).bind fun xs2=>some xs2
theorem O07{l1:List Int}{r:(List Int)}(H:Wi l1=some r):Snd Tryz.prog J0f [rV 1 (l1.map eI)] (.sref 0) [⟨1,r.map eI,false⟩]:=by
 refine wS W0G [.t 2] ?_
 unfold Wi at H
 obtain⟨xs2,h2,H⟩:=bB H
 refine wG [.u 4 (.ap _ _ _ _ fun _=>L0 eI h2)] fun _=>?_
 replace H:=sI H;subst H
 exact wN [(2,.d)] [] [(4,some 4,0)] [] [some 4] [⟨_,nw_I xs2⟩]
noncomputable def Q16:L :=
 lf Tryz.prog Y0g [] [] [] [] [] [] []
def MW(v1:Vec):Option Bool :=
 some (((Y0 v1.a 0 1000000)&&(Y0 v1.b 0 1000000))&&(Y0 v1.c 0 1000000))
theorem Y0Q{v1:Vec}{r:Bool}(H:MW v1=some r):Snd Tryz.prog Y0g [eVec v1] (.bool r) []:=by
 refine wS Q16 [.t 2] ?_
 unfold MW at H
 refine wG [.c 5 (V2 v1.a 0 1000000),.g 9 [((Y0 v1.a 0 1000000),true)] (.call _ _ _ _ _ (AEs.refl _) (fun _=>V2 v1.b 0 1000000)),.g 14 [(((Y0 v1.a 0 1000000)&&(Y0 v1.b 0 1000000)),true)] (.call _ _ _ _ _ (AEs.refl _) (fun _=>V2 v1.c 0 1000000))] fun _=>?_
 replace H:=sI H;subst H
 exact wE [(2,.d)]
def Y2(v1:Vec):Bool :=
 (((Y0 v1.a 0 1000000)&&(Y0 v1.b 0 1000000))&&(Y0 v1.c 0 1000000))
theorem U1d(v1:Vec):MW v1=some (Y2 v1):=by
 unfold MW Y2
 first|rfl|simp only[O8]
theorem L7(v1:Vec):Snd Tryz.prog Y0g [eVec v1] (.bool (Y2 v1)) []:=Y0Q (U1d v1)
noncomputable def J15:L :=
 lf Tryz.prog U0f [] [] [] [] [] [] []
def OW(a1 b2 v3:Vec):Option (Vec×Bool) :=
 bif (((!(Y2 a1))||(!(Y2 b2)))||(!(Y2 v3)))then(some ((Vec.mk 0 0 0),false))else(some (v3,true))
theorem L0P{a1 b2 v3:Vec}{r:Vec×Bool}(H:OW a1 b2 v3=some r):Snd Tryz.prog U0f [eVec a1,eVec b2,eVec v3] (.tup [eVec r.1,.bool r.2]) []:=by
 refine wS J15 [.c 6 3 true,.t 7] ?_
 unfold OW at H
 refine wG [.c 9 (L7 a1),.g 13 [((!(Y2 a1)),false)] (.call _ _ _ _ _ (AEs.refl _) (fun _=>L7 b2)),.g 18 [(((!(Y2 a1))||(!(Y2 b2))),false)] (.call _ _ _ _ _ (AEs.refl _) (fun _=>L7 v3))] fun _=>?_
 refine O0 H (fun H=>?_) fun H=>?_
 .refine wP ?_
  replace H:=sI H;subst H
  exact wN [(6,.d),(7,.d)] [(6,[])] [] [] [] []
 .refine wP ?_
  replace H:=sI H;subst H
  exact wN [(6,.d),(7,.d)] [(6,[])] [] [] [] []
def Ms(a1 b2 v3:Vec):Vec×Bool :=
 bif (((!(Y2 a1))||(!(Y2 b2)))||(!(Y2 v3)))then(((Vec.mk 0 0 0),false))else((v3,true))
theorem Y1d(a1 b2 v3:Vec):OW a1 b2 v3=some (Ms a1 b2 v3):=by
 unfold OW Ms
 first|rfl|simp only[O8]
theorem Y17(a1 b2 v3:Vec):Snd Tryz.prog U0f [eVec a1,eVec b2,eVec v3] (.tup [eVec ((Ms a1 b2 v3).1),.bool ((Ms a1 b2 v3).2)]) []:=L0P (Y1d a1 b2 v3)
noncomputable def M0W:L :=
 lf Tryz.prog Y06 [] [] [] [] [] [] []
def YQ(a1 b2:Vec):Option (Vec×Bool) :=
 some (((Ms a1 b2 (Vec.mk (w64 (a1.a-b2.a)) (w64 (a1.b-b2.b)) (w64 (a1.c-b2.c)))).1),(Ms a1 b2 (Vec.mk (w64 (a1.a-b2.a)) (w64 (a1.b-b2.b)) (w64 (a1.c-b2.c)))).2)
theorem Q0H{a1 b2:Vec}{r:Vec×Bool}(H:YQ a1 b2=some r):Snd Tryz.prog Y06 [eVec a1,eVec b2] (.tup [eVec r.1,.bool r.2]) []:=by
 refine wS M0W [.c 4 3 true,.t 5] ?_
 unfold YQ at H
 refine wG [.u 24 (.call _ _ _ _ _ (AEs.refl _) (fun _=>Y17 a1 b2 (Vec.mk (w64 (a1.a-b2.a)) (w64 (a1.b-b2.b)) (w64 (a1.c-b2.c)))))] fun _=>?_
 replace H:=sI H;subst H
 exact wN [(4,.d),(5,.d)] [(4,[])] [] [] [] []
def Uj(a1 b2:Vec):Vec×Bool :=
 (((Ms a1 b2 (Vec.mk (w64 (a1.a-b2.a)) (w64 (a1.b-b2.b)) (w64 (a1.c-b2.c)))).1),(Ms a1 b2 (Vec.mk (w64 (a1.a-b2.a)) (w64 (a1.b-b2.b)) (w64 (a1.c-b2.c)))).2)
theorem J17(a1 b2:Vec):YQ a1 b2=some (Uj a1 b2):=by
 unfold YQ Uj
 first|rfl|simp only[O8]
theorem M0X(a1 b2:Vec):Snd Tryz.prog Y06 [eVec a1,eVec b2] (.tup [eVec ((Uj a1 b2).1),.bool ((Uj a1 b2).2)]) []:=Q0H (J17 a1 b2)
noncomputable def W0P:L :=
 lf Tryz.prog W0m [13,22] [] [] [] [] [] []
def MN(v2:Int×Str)(k2:(Int×Str)->Option Str):Option Str :=
 bif (decide (9<v2.1))then((remI v2.1 10).bind fun n3=>(b2sQ [(IntKind.wrap .u8 (w64 (48+n3)))]).bind fun w4=>(catS w4 v2.2).bind fun w5=>(quoI .i64 v2.1 10).bind fun n6=>k2 (n6,w5))else((b2sQ [(IntKind.wrap .u8 (w64 (48+v2.1)))]).bind fun w7=>(catS w7 v2.2).bind fun w8=>some w8)
def O4(n1:Int):Option Str :=
 bif (!(X8 n1))then(some ([]:Str))else(whl MN 9223372036854775807 (n1,([]:Str)))
theorem Y4{n1:Int}{r:Str}(H:O4 n1=some r):Snd Tryz.prog W0m [iV n1] (.str r) []:=by
 refine wS W0P [.t 2] ?_
 unfold O4 at H
 refine wG [.c 5 (Lu n1)] fun _=>?_
 refine O0 H (fun H=>?_) fun H=>?_
 .obtain rfl:=sI H
  exact wP (wE [(2,.d)])
 .refine wP ?_
  refine wW (fun(v2:Int×Str)=>⟨[(0,iV v2.1),(3,.str v2.2)],[],[],[]⟩) H (fun v2 I m k2 H N19=>?_)
  unfold MN at H
  refine wP ?_
  refine O0 H (fun H=>?_) fun H=>?_
  .obtain⟨n3,h3,H⟩:=bB H
   obtain⟨w4,h4,H⟩:=bB H
   obtain⟨w5,h5,H⟩:=bB H
   obtain⟨n6,h6,H⟩:=bB H
   refine wG [.u 10 (.rem _ _ _ fun _=>h3),.u 14 (.b2s _ _ fun _=>Q1o h4),.u 16 (.sa _ _ _ fun _=>h5),.u 18 (.quo _ _ _ _ fun _=>h6)] fun _=>?_
   exact wT (N19 _ H)
  .obtain⟨w7,h7,H⟩:=bB H
   obtain⟨w8,h8,H⟩:=bB H
   refine wG [.u 23 (.b2s _ _ fun _=>Q1o h7),.u 25 (.sa _ _ _ fun _=>h8)] fun _=>?_
   replace H:=sI H;subst H
   exact wE [(2,.d)]
noncomputable def Z0P:L :=
 lf Tryz.prog Y0m [] [] [] [] [(3,14)] [] []
def Oi(v1:Vec):Option Str :=
 bif (!(Y2 v1))then(some ([]:Str))else((O4 v1.a).bind fun w2=>(catS w2 ([47]:Str)).bind fun w3=>(O4 v1.b).bind fun w4=>(catS w3 w4).bind fun w5=>(catS w5 ([47]:Str)).bind fun w6=>(O4 v1.c).bind fun w7=>(catS w6 w7).bind fun w8=>some w8)
theorem Oq{v1:Vec}{r:Str}(H:Oi v1=some r):Snd Tryz.prog Y0m [eVec v1] (.str r) []:=by
 refine wS Z0P [.t 2] ?_
 unfold Oi at H
 refine wG [.c 4 (L7 v1)] fun _=>?_
 refine O0 H (fun H=>?_) fun H=>?_
 .obtain rfl:=sI H
  exact wP (wE [(2,.d)])
 .obtain⟨w2,h2,H⟩:=bB H
  obtain⟨w3,h3,H⟩:=bB H
  obtain⟨w4,h4,H⟩:=bB H
  obtain⟨w5,h5,H⟩:=bB H
  obtain⟨w6,h6,H⟩:=bB H
  obtain⟨w7,h7,H⟩:=bB H
  obtain⟨w8,h8,H⟩:=bB H
  refine wG [.c 8 (Y4 h2),.u 9 (.sa _ _ _ fun _=>h3),.c 12 (Y4 h4),.u 13 (.sa _ _ _ fun _=>h5),.u 14 (.sa _ _ _ fun _=>h6),.c 17 (Y4 h7),.u 18 (.sa _ _ _ fun _=>h8)] fun _=>?_
  replace H:=sI H;subst H
  exact wE [(2,.d)]
noncomputable def W16:L :=
 lf Tryz.prog J0B [8] [] [] [] [] [] []
def Vv(s1:Str)(b2:Int)(v3:Int×Int×(List Str))(k3:(Int×Int×(List Str))->Option (List Str)):Option (List Str) :=
 bif (decide (v3.2.1<(s1.length:Int)))then((idx s1 v3.2.1).bind fun c4=>bif ((c4.toNat:Int)==b2)then((cutL s1 (some v3.1) (some v3.2.1)).bind fun w5=>(appL 16 v3.2.2 [w5]).bind fun xs6=>k3 ((w64 (v3.2.1+1)),(w64 (v3.2.1+1)),xs6))else(k3 (v3.1,(w64 (v3.2.1+1)),v3.2.2)))else((cutL s1 (some v3.1) none).bind fun w7=>(appL 16 v3.2.2 [w7]).bind fun xs8=>some xs8)
def W8(s1:Str)(b2:Int):Option (List Str) :=
 whl (Vv s1 b2) 9223372036854775807 (0,0,[])
theorem ME{s1:Str}{b2:Int}{r:(List Str)}(H:W8 s1 b2=some r):Snd Tryz.prog J0B [.str s1,.int .u8 b2] (nV 1 (r.map eS)) []:=by
 refine wS W16 [.t 4] ?_
 unfold W8 at H
 refine wP ?_
 refine wW (fun(v3:Int×Int×(List Str))=>⟨[(0,.str s1),(1,.int .u8 b2),(5,.sref 8),(6,iV v3.1),(7,iV v3.2.1)],[],[],[(8,⟨1,v3.2.2.map eS,false⟩)]⟩) H (fun v3 I m k3 H N20=>?_)
 unfold Vv at H
 refine wP ?_
 refine O0 H (fun H=>?_) fun H=>?_
 .obtain⟨c4,h4,H⟩:=bB H
  refine wG [.u 17 (.sx _ _ _ fun _=>h4)] fun _=>?_
  refine O0 H (fun H=>?_) fun H=>?_
  .obtain⟨w5,h5,H⟩:=bB H
   obtain⟨xs6,h6,H⟩:=bB H
   refine wG [.u 24 (.ss _ _ _ _ fun _=>h5),.u 26 (.ap _ _ _ _ fun _=>L0 eS h6)] fun _=>?_
   exact wT (N20 _ H)
  .refine wP ?_
   exact wT (N20 _ H)
 .obtain⟨w7,h7,H⟩:=bB H
  obtain⟨xs8,h8,H⟩:=bB H
  refine wG [.u 32 (.ss _ _ _ _ fun _=>h7),.u 34 (.ap _ _ _ _ fun _=>L0 eS h8)] fun _=>?_
  replace H:=sI H;subst H
  exact wN [(4,.f)] [] [] [8] [] [⟨_,nw_S xs8⟩]
noncomputable def X0P:L :=
 lf Tryz.prog V0m [] [] [] [] [] [] []
def Zx(s1:Str)(v2:Int×Int)(k2:(Int×Int)->Option (Int×Bool)):Option (Int×Bool) :=
 bif (decide (v2.2<(s1.length:Int)))then((idx s1 v2.2).bind fun c3=>bif ((decide ((c3.toNat:Int)<48))||(decide (57<(c3.toNat:Int))))then(some (0,false))else(k2 ((w64 ((w64 (10*v2.1))+(IntKind.wrap .i64 (IntKind.wrap .u8 ((c3.toNat:Int)-48))))),(w64 (v2.2+1)))))else((O4 v2.1).bind fun w4=>bif (w4 != s1)then(some (0,false))else(some (v2.1,true)))
def W4(s1:Str):Option (Int×Bool) :=
 bif (!(Y0 (s1.length:Int) 1 10))then(some (0,false))else(whl (Zx s1) 9223372036854775807 (0,0))
theorem U6{s1:Str}{r:Int×Bool}(H:W4 s1=some r):Snd Tryz.prog V0m [.str s1] (.tup [iV r.1,.bool r.2]) []:=by
 refine wS X0P [.t 2,.t 3] ?_
 unfold W4 at H
 refine wG [.u 8 (.call _ _ _ _ _ (AEs.refl _) (fun _=>V2 (s1.length:Int) 1 10))] fun _=>?_
 refine O0 H (fun H=>?_) fun H=>?_
 .obtain rfl:=sI H
  exact wP (wE [(2,.d),(3,.d)])
 .refine wP ?_
  refine wW (fun(v2:Int×Int)=>⟨[(0,.str s1),(4,iV v2.1),(5,iV v2.2)],[],[],[]⟩) H (fun v2 I m k2 H N28=>?_)
  unfold Zx at H
  refine wP ?_
  refine O0 H (fun H=>?_) fun H=>?_
  .obtain⟨c3,h3,H⟩:=bB H
   refine wG [.u 18 (.sx _ _ _ fun _=>h3),.g 23 [((decide ((c3.toNat:Int)<48)),false)] (.sx _ _ _ fun _=>h3)] fun _=>?_
   refine O0 H (fun H=>?_) fun H=>?_
   .obtain rfl:=sI H
    exact wP (wE [(2,.d),(3,.d)])
   .refine wG [.u 30 (.sx _ _ _ fun _=>h3)] fun _=>?_
    exact wT (N28 _ H)
  .obtain⟨w4,h4,H⟩:=bB H
   refine wG [.c 35 (Y4 h4)] fun _=>?_
   refine O0 H (fun H=>?_) fun H=>?_
   .obtain rfl:=sI H
    exact wP (wE [(2,.d),(3,.d)])
   .obtain rfl:=sI H
    exact wP (wE [(2,.d),(3,.d)])
noncomputable def Y0P:L :=
 lf Tryz.prog X0m [] [] [] [] [] [] []
def Vm(s1:Str):Option (Vec×Bool) :=
 (W8 s1 47).bind fun y2=>bif ((y2.length:Int)!=3)then(some ((Vec.mk 0 0 0),false))else((idx y2 0).bind fun e4=>(W4 e4).bind fun y5=>(idx y2 1).bind fun e6=>(W4 e6).bind fun y7=>(idx y2 2).bind fun e8=>(W4 e8).bind fun y9=>bif ((((!y5.2)||(!y7.2))||(!y9.2))||(!(Y2 (Vec.mk y5.1 y7.1 y9.1))))then(some ((Vec.mk 0 0 0),false))else(some ((Vec.mk y5.1 y7.1 y9.1),true)))
theorem LD{s1:Str}{r:Vec×Bool}(H:Vm s1=some r):Snd Tryz.prog X0m [.str s1] (.tup [eVec r.1,.bool r.2]) []:=by
 refine wS Y0P [.c 2 3 true,.t 3] ?_
 unfold Vm at H
 obtain⟨y2,h2,H⟩:=bB H
 refine wG [.c 13 (ME h2),.u 15 (.ln _ _ fun _=>lm y2 eS)] fun q3=>?_
 refine O0 H (fun H=>?_) fun H=>?_
 .refine wP ?_
  replace H:=sI H;subst H
  exact wN [(2,.d),(3,.d)] [(2,[])] [] [] [] []
 .obtain⟨e4,h4,H⟩:=bB H
  obtain⟨y5,h5,H⟩:=bB H
  obtain⟨e6,h6,H⟩:=bB H
  obtain⟨y7,h7,H⟩:=bB H
  obtain⟨e8,h8,H⟩:=bB H
  obtain⟨y9,h9,H⟩:=bB H
  refine wG [.u 20 (.ix _ _ _ fun _=>V0 eS h4),.c 22 (U6 h5),.u 27 (.ix _ _ _ fun _=>V0 eS h6),.c 29 (U6 h7),.u 34 (.ix _ _ _ fun _=>V0 eS h8),.c 36 (U6 h9),.g 55 [((((!y5.2)||(!y7.2))||(!y9.2)),false)] (.call _ _ _ _ _ (AEs.refl _) (fun _=>L7 (Vec.mk y5.1 y7.1 y9.1)))] fun _=>?_
  refine O0 H (fun H=>?_) fun H=>?_
  .refine wP ?_
   replace H:=sI H;subst H
   exact wN [(2,.d),(3,.d)] [(2,[])] [] [] [] []
  .refine wP ?_
   replace H:=sI H;subst H
   exact wN [(2,.d),(3,.d)] [(2,[])] [] [] [] []
noncomputable def L15:L :=
 lf Tryz.prog V0B [] [] [] [] [] [] [7475]
def Zo(x3:Str)(k3:Str->Option Str)(v5:Str):Option Str :=
 (catS v5 x3).bind fun w6=>k3 w6
def Mu(x3:Str)(i3:Nat)(v3:Str)(k3:Str->Option Str):Option Str :=
 bif (decide (0<(i3:Int)))then((catS v3 ([32]:Str)).bind fun w4=>(Zo x3 k3) w4)else((Zo x3 k3) v3)
def Ou(v3:Str):Option Str :=
 some v3
def Ws(l1:List Str):Option Str :=
 rgl Mu Ou l1 0 ([]:Str)
theorem XD{l1:List Str}{r:Str}(H:Ws l1=some r):Snd Tryz.prog V0B [rV 1 (l1.map eS)] (.str r) []:=by
 refine wS L15 [.t 2] ?_
 unfold Ws at H
 refine wG [.u 7 (.ln _ _ fun _=>lm l1 eS)] fun q2=>?_
 refine wR (fun(i3:Nat) (v3:Str)=>⟨[(3,.str v3),(6,rV 1 (l1.map eS)),(7,iV (l1.length:Int)),(8,iV (i3:Int))],[],[],[]⟩) H (fun i3 x3 v3 I m k3 hxv3 hiv3 H N21=>?_) (fun v3 I m H=>?_)
 .unfold Mu at H
  refine wP ?_
  refine wt (ltT hiv3) ?_
  refine wG [.u 11 (.ix _ _ _ fun _=>V0 eS (Z1 hxv3))] fun _=>?_
  refine Q6 (r:=r) (Zo x3 k3) 0 (fun v5:Str=>⟨[(3,.str v5),(5,.str x3),(6,.sl .rd 1 (l1.map eS)),(7,.int .i64 (l1.length:Int)),(8,.int .i64 (i3:Int))],[],[],[]⟩) (by kernel_rfl) (fun v5 H=>?_) (fun J13=>?_)
  .unfold Zo at H
   obtain⟨w6,h6,H⟩:=bB H
   refine wG [.u 19 (.sa _ _ _ fun _=>h6),.w 20 (wi .i64 rfl hiv3 q2.1)] fun _=>?_
   exact wT (N21 _ H)
  .refine O0 H (fun H=>?_) fun H=>?_
   .obtain⟨w4,h4,H⟩:=bB H
    refine wG [.u 16 (.sa _ _ _ fun _=>h4)] fun _=>?_
    exact wT (J13 _ H)
   .refine wP ?_
    exact wT (J13 _ H)
 .unfold Ou at H
  refine wP ?_
  refine wf (ltF l1.length) ?_
  obtain rfl:=sI H
  exact wP (wE [(2,.d)])
def time (n:Int):Bool:=decide (0<=n)&&decide (n<=1000000000)
theorem Uo{n:Int}:time n=true↔0<=n/\n<=1000000000:=by simp[time]
theorem XR{v:Vec}:W0 v=true↔(0<=v.a/\v.a<=1000000)/\(0<=v.b/\v.b<=1000000)/\(0<=v.c/\v.c<=1000000):=by
 simp[W0,Y9,and_assoc]
theorem Zn(v:Vec):Y2 v=W0 v:=rfl
theorem XZ(n:Int):X8 n=time n:=rfl
theorem Uk(n:Int):Z4 n=time n:=rfl
theorem L0X{a b:Vec}(ha:W0 a=true):Uj a b=J4 a b:=by
 have h:=XR.1 ha
 unfold Uj Ms J4 Q5
 simp only[Zn,ha]
 cases hb:W0 b with
 |false=>simp
 |true =>
  have h2:=XR.1 hb
  have w1:w64 (a.a-b.a)=a.a-b.a:=J3 (by omega)
  have w2:w64 (a.b-b.b)=a.b-b.b:=J3 (by omega)
  have w3:w64 (a.c-b.c)=a.c-b.c:=J3 (by omega)
  simp only[w1,w2,w3]
  cases hc:W0 (Vec.mk (a.a-b.a) (a.b-b.b) (a.c-b.c))with
  |false =>
   have:¬ ((b.a<=a.a/\b.b<=a.b)/\b.c<=a.c):=fun q=>by
    rw[XR.2 (by simp only;omega)]at hc;cases hc
   by_cases q1:b.a<=a.a<;>by_cases q2:b.b<=a.b<;>by_cases q3:b.c<=a.c<;>simp[q1,q2,q3]at this ⊢
  |true =>
   have q:=XR.1 hc
   simp only at q
   have q1:b.a<=a.a:=by omega
   have q2:b.b<=a.b:=by omega
   have q3:b.c<=a.c:=by omega
   simp[q1,q2,q3]
def dgt(n:Nat):UInt8:=UInt8.ofNat (48+n % 10)
def dg(n:Nat):Str:=if n<10 then[dgt n]else dg (n / 10)++[dgt n]
termination_by n
decreasing_by omega
def numText(n:Int):Str:=if time n=true then dg n.toNat else[]
theorem J1B{n:Nat}(h:n<10):dg n=[dgt n]:=by rw[dg,yd h]
theorem X1H{n:Nat}(h:10<=n):dg n=dg (n / 10)++[dgt n]:=by rw[dg,ye (by omega)]
theorem M1K:∀(k n:Nat),n<10 ^ k->(dg n).length<=k+1
 |0,n,h=>by rw[J1B (by simp at h;omega)];simp
 |k+1,n,h=>by
  by_cases h10:n<10
  .rw[J1B h10];simp
  .rw[X1H (by omega)]
   have:=M1K k (n / 10) (by rw[Nat.pow_succ]at h;omega)
   simp;omega
theorem U2(n:Int):(numText n).length<=10:=by
 unfold numText
 split
 .rename_i h
  simp[time]at h
  by_cases e:n.toNat<10 ^ 9
  .have:=M1K 9 n.toNat e;omega
  .have e:n.toNat=1000000000:=by omega
   rw[e];decide +kernel
 .simp
theorem Q1g{n:Int}(h0:0<=n)(h1:n<10):IntKind.u8.wrap (48+n)=((UInt8.ofNat (48+n.toNat)).toNat:Int):=by
 unfold IntKind.wrap
 simp[IntKind.bits,IntKind.signed]
 omega
theorem V1D{n:Int}(h0:0<=n)(h1:n<10):b2sQ [IntKind.wrap .u8 (w64 (48+n))]=some [dgt n.toNat]:=by
 have e:IntKind.wrap .u8 (w64 (48+n))=((dgt n.toNat).toNat:Int):=by
  rw[J3 (by omega),Q1g h0 h1]
  unfold dgt
  rw[Nat.mod_eq_of_lt (by omega)]
 rw[e]
 have hd:((dgt n.toNat).toNat:Int)<256:=by have:=(dgt n.toNat).toNat_lt;omega
 unfold b2sQ
 rw[yd (by simp;omega)]
 simp
theorem M1S{n:Int}(h0:0<=n):(remI n 10).bind (fun m=>b2sQ [IntKind.wrap .u8 (w64 (48+m))])=some [dgt n.toNat]:=by
 have e:remI n 10=some (n % 10):=by simp[remI,Int.tmod_eq_emod_of_nonneg h0]
 rw[e,bS,V1D (by omega) (by omega)]
 have:(n % 10).toNat=n.toNat % 10:=by omega
 rw[this,dgt,dgt,Nat.mod_mod]
theorem quo10{n:Int}(h0:0<=n)(h1:n<=9223372036854775807):quoI .i64 n 10=some (n / 10):=by
 have e:n.tdiv 10=n / 10:=Int.tdiv_eq_ediv_of_nonneg h0
 unfold quoI
 rw[ye (by decide),e,Z11 (by omega) (by omega)]
theorem Xb(n:Int):O4 n=some (numText n):=by
 unfold O4 numText
 rw[XZ]
 cases ht:time n with
 |false=>rfl
 |true =>
  have h:=Uo.1 ht
  simp only[yL,yM,yb]
  refine QF (fun _ r=>r=some (dg n.toNat)) (fun b=>b.1.toNat) (fun b=>0<=b.1/\b.1<=1000000000/\dg n.toNat=dg b.1.toNat++b.2) ?_ 9223372036854775807 (n,[]) ⟨h.1,h.2,by simp⟩ (by simp only;omega)
  rintro⟨k,o⟩ kk ⟨h0,h1,hd⟩ hk
  simp only at h0 h1 hd hk
  have hlen:(dg n.toNat).length<=10:=by have:=U2 n;simpa[numText,ht]using this
  have hol:o.length<=10:=by rw[hd]at hlen;simp at hlen;omega
  unfold MN
  by_cases h9:9<k
  .simp only[h9,decide_true,yN]
   rw[← Option.bind_assoc,M1S h0,bS,O3 (by simp;omega),bS,quo10 h0 (by omega),bS]
   refine hk _ ⟨by simp only;omega,by simp only;omega,?_⟩ (by simp only;omega)
   simp only
   rw[hd,X1H (n:=k.toNat) (by omega),show(k / 10).toNat=k.toNat / 10 by omega]
   simp
  .simp only[h9,decide_false,yM]
   rw[V1D h0 (by omega),bS,O3 (by simp;omega),bS,hd,J1B (n:=k.toNat) (by omega)]
def Q4(v:Vec):Str:=if W0 v=true then numText v.a++[47]++numText v.b++[47]++numText v.c else[]
theorem Yj(v:Vec):(Q4 v).length<=32:=by
 unfold Q4
 have:=U2 v.a;have:=U2 v.b;have:=U2 v.c
 split<;>simp<;>omega
theorem UU(v:Vec):Oi v=some (Q4 v):=by
 unfold Oi Q4
 rw[Zn]
 have:=U2 v.a;have:=U2 v.b;have:=U2 v.c
 cases W0 v with
 |false=>rfl
 |true =>
  simp only[yL,yM,yb,Xb,bS]
  rw[O3 (by simp;omega),bS,O3 (by simp;omega),bS,O3 (by simp;omega),bS,O3 (by simp;omega),bS]
def Xz:List Str->Str
 |[]=>[]
 |[w]=>w
 |w::v::ws=>w++32::Xz (v::ws)
theorem W1j:∀(l:List Str) (i:Nat) (s:Str),0<i->s.length+(Xz l).length+1<=4611686018427387904->rgl Mu Ou l i s=some (if l=[]then s else s++32::Xz l)
 |[],i,s,_,_=>rfl
 |w::l,i,s,hi,hl=>by
  have hw:w.length<=(Xz (w::l)).length:=by
   cases l with
   |nil=>exact yV _
   |cons v l=>simp[Xz]
  rw[rgl,Mu]
  simp only[show decide (0<(i:Int))=true by simpa using hi,yN,Zo]
  rw[O3 (by simp;omega),bS,O3 (by simp;omega),bS]
  cases l with
  |nil=>simp[rgl,Ou,Xz]
  |cons v l =>
   rw[W1j (v::l) (i+1) _ (by omega) (by simp only[Xz,yU,yT,List.length_nil]at hl ⊢;omega)]
   simp[Xz]
theorem MP(l:List Str)(hl:(Xz l).length<=4611686018427387900):Ws l=some (Xz l):=by
 unfold Ws
 cases l with
 |nil=>rfl
 |cons w l =>
  have hw:w.length<=(Xz (w::l)).length:=by
   cases l with
   |nil=>exact yV _
   |cons v l=>simp[Xz]
  rw[rgl,Mu]
  simp only[show decide (0<((0:Nat):Int))=false by rfl,yM,Zo]
  rw[O3 (by simp;omega),bS]
  cases l with
  |nil=>simp[rgl,Ou,Xz]
  |cons v l =>
   rw[W1j (v::l) _ _ (by omega) (by simp only[Xz,yU,yT,List.nil_append]at hl ⊢;omega)]
   simp[Xz]
noncomputable def J0N:L :=
 lf Tryz.prog Q0l [7] [] [] [] [] [] []
def Xn(t1:Topo)(s2:Int)(v3:Int×(List Int))(k3:(Int×(List Int))->Option (List Int)):Option (List Int) :=
 bif (decide (v3.1<(t1.parents.length:Int)))then((idx t1.parents v3.1).bind fun e5=>bif (e5==s2)then((appL 8 v3.2 [v3.1]).bind fun xs6=>k3 ((w64 (v3.1+1)),xs6))else(k3 ((w64 (v3.1+1)),v3.2)))else(some v3.2)
def Ym(t1:Topo)(s2:Int):Option (List Int) :=
 whl (Xn t1 s2) 9223372036854775807 (1,[])
theorem JA{t1:Topo}{s2:Int}{r:(List Int)}(H:Ym t1 s2=some r):Snd Tryz.prog Q0l [U5 .rd t1,iV s2] (nV 1 (r.map eI)) []:=by
 refine wS J0N [.t 4] ?_
 unfold Ym at H
 refine wP ?_
 refine wW (fun(v3:Int×(List Int))=>⟨[(1,iV s2),(2,.ptr 2 0),(5,.sref 7),(6,iV v3.1)],[],[(2,(U5 .rd t1).cells)],[(7,⟨1,v3.2.map eI,false⟩)]⟩) H (fun v3 I m k3 H N17=>?_)
 unfold Xn at H
 refine wG [.u 11 (.ln _ _ fun _=>lm t1.parents eI)] fun q4=>?_
 refine O0 H (fun H=>?_) fun H=>?_
 .obtain⟨e5,h5,H⟩:=bB H
  refine wG [.u 18 (.ix _ _ _ fun _=>V0 eI h5)] fun _=>?_
  refine O0 H (fun H=>?_) fun H=>?_
  .obtain⟨xs6,h6,H⟩:=bB H
   refine wG [.u 25 (.ap _ _ _ _ fun _=>L0 eI h6)] fun _=>?_
   exact wT (N17 _ H)
  .refine wP ?_
   exact wT (N17 _ H)
 .refine wP ?_
  replace H:=sI H;subst H
  exact wN [(4,.f)] [] [] [7] [] [⟨_,nw_I v3.2⟩]
noncomputable def V0F:L :=
 lf Tryz.prog ZV [] [] [] [] [] [] []
def UG(rc:Topo->Int->Option Int)(t1:Topo)(x5:Int)(i5:Nat)(v5:Int)(k5:Int->Option Int):Option Int :=
 (rc t1 x5).bind fun n6=>bif ((decide (n6<0))||((decide (0<(i5:Int)))&&(n6 != v5)))then(some (-1))else(k5 n6)
def VG(v5:Int):Option Int :=
 some (w64 (v5+1))
def Xk:Nat->Topo->Int->Option Int
 |0,_,_=>none
 |fuel+1,t1,s2 =>
 (Ym t1 s2).bind fun y3=>rgl (UG (Xk fuel) t1) VG y3 0 (-1)
def Ua(t1:Topo)(s2:Int):Option Int:=Xk 100000000 t1 s2
theorem Y0p(fuel:Nat):∀{t1:Topo} {s2 r:Int} (_:Xk fuel t1 s2=some r),Snd Tryz.prog ZV [U5 .rd t1,.int .i64 s2] (.int .i64 r) []:=by
 induction fuel with
 |zero=>intro t1 s2 r H;cases H
 |succ fuel IH =>
 intro t1 s2 r H
 refine wS V0F [.t 4] ?_
 rw[Xk]at H
 obtain⟨y3,h3,H⟩:=bB H
 refine wG [.c 11 (JA h3),.u 12 (.ln _ _ fun _=>lm y3 eI)] fun q4=>?_
 refine wR (fun(i5:Nat) (v5:Int)=>⟨[(2,.ptr 2 0),(5,iV v5),(11,nV 1 (y3.map eI)),(12,iV (y3.length:Int)),(13,iV (i5:Int))],[],[(2,(U5 .rd t1).cells)],[]⟩) H (fun i5 x5 v5 I m k5 hxv5 hiv5 H N25=>?_) (fun v5 I m H=>?_)
 .unfold UG at H
  refine wP ?_
  refine wt (ltT hiv5) ?_
  obtain⟨n6,h6,H⟩:=bB H
  refine wG [.u 16 (.ix _ _ _ fun _=>V0 eI (Z1 hxv5)),.c 20 (IH h6)] fun _=>?_
  refine O0 H (fun H=>?_) fun H=>?_
  .obtain rfl:=sI H
   exact wP (wE [(4,.d)])
  .refine wG [.w 33 (wi .i64 rfl hiv5 q4.1)] fun _=>?_
   exact wT (N25 _ H)
 .unfold VG at H
  refine wP ?_
  refine wf (ltF y3.length) ?_
  obtain rfl:=sI H
  exact wP (wE [(4,.d)])
theorem Xc{t1:Topo}{s2 r:Int}(H:Ua t1 s2=some r):Snd Tryz.prog ZV [U5 .rd t1,iV s2] (iV r) []:=Y0p _ H
noncomputable def Y0V:L :=
 lf Tryz.prog V0s [] [] [] [] [] [] []
def Vp(t1:Topo)(x8:Node)(_:Nat)(_:Unit)(k8:Unit->Option Bool):Option Bool :=
 (bif ((decide (x8.leaf<0))||(decide ((t1.parents.length:Int)<=x8.leaf)))then some default else(Ym t1 x8.leaf)).bind fun y9=>bif ((((decide (x8.leaf<0))||(decide ((t1.parents.length:Int)<=x8.leaf)))||(decide (0<(y9.length:Int))))||(!(W0 x8.cap)))then(some false)else(k8 ())
def MB(t1:Topo)(_:Unit):Option Bool :=
 (Ua t1 0).bind fun n10=>some (decide (0<=n10))
def Up(t1:Topo)(v4:Int)(k4:Int->Option Bool):Option Bool :=
 bif (decide (v4<(t1.parents.length:Int)))then((idx t1.parents v4).bind fun e6=>bif ((decide (e6<0))||(decide (v4<=e6)))then(some false)else(k4 (w64 (v4+1))))else(rgl (Vp t1) (MB t1) t1.nodes 0 ())
def Vj(t1:Topo):Option Bool :=
 (bif (((decide ((t1.parents.length:Int)<1))||(decide (24<(t1.parents.length:Int))))||(decide (24<(t1.nodes.length:Int))))then some default else(idx t1.parents 0)).bind fun e2=>bif ((((decide ((t1.parents.length:Int)<1))||(decide (24<(t1.parents.length:Int))))||(decide (24<(t1.nodes.length:Int))))||(e2 != 0))then(some false)else(whl (Up t1) 9223372036854775807 1)
theorem WY{t1:Topo}{r:Bool}(H:Vj t1=some r):Snd Tryz.prog V0s [U5 .rd t1] (.bool r) []:=by
 refine wS Y0V [.t 2] ?_
 unfold Vj at H
 obtain⟨e2,h2,H⟩:=bB H
 refine wG [.u 8 (.ln _ _ fun _=>lm t1.parents eI),.g 13 [((decide ((t1.parents.length:Int)<1)),false)] (.ln _ _ fun _=>lm t1.parents eI),.g 19 [(((decide ((t1.parents.length:Int)<1))||(decide (24<(t1.parents.length:Int)))),false)] (.ln _ _ fun _=>lm t1.nodes V1),.g 25 [(_,false)] (.ix _ _ _ fun q=>V0 eI (bF q.1 h2))] fun q3=>?_
 refine O0 H (fun H=>?_) fun H=>?_
 .obtain rfl:=sI H
  exact wP (wE [(2,.d)])
 .refine wP ?_
  refine wW (fun(v4:Int)=>⟨[(1,.ptr 1 0),(3,iV v4)],[],[(1,(U5 .rd t1).cells)],[]⟩) H (fun v4 I m k4 H N25=>?_)
  unfold Up at H
  refine wG [.u 32 (.ln _ _ fun _=>lm t1.parents eI)] fun q5=>?_
  refine O0 H (fun H=>?_) fun H=>?_
  .obtain⟨e6,h6,H⟩:=bB H
   refine wG [.u 39 (.ix _ _ _ fun _=>V0 eI h6),.g 46 [((decide (e6<0)),false)] (.ix _ _ _ fun _=>V0 eI h6)] fun _=>?_
   refine O0 H (fun H=>?_) fun H=>?_
   .obtain rfl:=sI H
    exact wP (wE [(2,.d)])
   .refine wP ?_
    exact wT (N25 _ H)
  .refine wG [.u 53 (.ln _ _ fun _=>lm t1.nodes V1)] fun q7=>?_
   refine wR (fun(i8:Nat) (v8:Unit)=>⟨[(1,.ptr 1 0),(52,rV 4 (t1.nodes.map V1)),(53,iV (t1.nodes.length:Int)),(54,iV (i8:Int))],[],[(1,(U5 .rd t1).cells)],[]⟩) H (fun i8 x8 v8 I m k8 hxv8 hiv8 H N47=>?_) (fun v8 I m H=>?_)
   .unfold Vp at H
    refine wP ?_
    refine wt (ltT hiv8) ?_
    obtain⟨y9,h9,H⟩:=bB H
    refine wG [.u 56 (.ix _ _ _ fun _=>V0 V1 (Z1 hxv8)),.g 66 [((decide (x8.leaf<0)),false)] (.ln _ _ fun _=>lm t1.parents eI),.g 73 [(_,false)] (.call _ _ _ _ _ (AEs.refl _) (fun q=>JA (bF q.1 h9))),.g 74 [(((decide (x8.leaf<0))||(decide ((t1.parents.length:Int)<=x8.leaf))),false)] (.ln _ _ fun _=>lm y9 eI),.g 80 [((((decide (x8.leaf<0))||(decide ((t1.parents.length:Int)<=x8.leaf)))||(decide (0<(y9.length:Int)))),false)] (.call _ _ _ _ _ (AEs.refl _) (fun _=>L5 x8.cap))] fun _=>?_
    refine O0 H (fun H=>?_) fun H=>?_
    .obtain rfl:=sI H
     exact wP (wE [(2,.d)])
    .refine wG [.w 83 (wi .i64 rfl hiv8 q7.1)] fun _=>?_
     exact wT (N47 () H)
   .unfold MB at H
    refine wP ?_
    refine wf (ltF t1.nodes.length) ?_
    obtain⟨n10,h10,H⟩:=bB H
    refine wG [.c 85 (Xc h10)] fun _=>?_
    replace H:=sI H;subst H
    exact wE [(2,.d)]
noncomputable def U15:L :=
 lf Tryz.prog Z0B [7] [] [] [] [] [] []
def XY(t1:Topo)(v3:Int×(List Int))(k3:(Int×(List Int))->Option (List Int)):Option (List Int) :=
 bif (decide (0<v3.1))then((idx t1.parents v3.1).bind fun e4=>(appL 8 v3.2 [e4]).bind fun xs5=>k3 (e4,xs5))else(some v3.2)
def Qy(t1:Topo)(s2:Int):Option (List Int) :=
 whl (XY t1) 9223372036854775807 (s2,[s2])
theorem Z0p{t1:Topo}{s2:Int}{r:(List Int)}(H:Qy t1 s2=some r):Snd Tryz.prog Z0B [U5 .rd t1,iV s2] (nV 1 (r.map eI)) []:=by
 refine wS U15 [.t 4] ?_
 unfold Qy at H
 refine wP ?_
 refine wW (fun(v3:Int×(List Int))=>⟨[(1,iV v3.1),(2,.ptr 2 0),(5,.sref 7)],[],[(2,(U5 .rd t1).cells)],[(7,⟨1,v3.2.map eI,false⟩)]⟩) H (fun v3 I m k3 H N12=>?_)
 unfold XY at H
 refine wP ?_
 refine O0 H (fun H=>?_) fun H=>?_
 .obtain⟨e4,h4,H⟩:=bB H
  obtain⟨xs5,h5,H⟩:=bB H
  refine wG [.u 13 (.ix _ _ _ fun _=>V0 eI h4),.u 18 (.ap _ _ _ _ fun _=>L0 eI h5)] fun _=>?_
  exact wT (N12 _ H)
 .refine wP ?_
  replace H:=sI H;subst H
  exact wN [(4,.f)] [] [] [7] [] [⟨_,nw_I v3.2⟩]
noncomputable def W0U:L :=
 lf Tryz.prog X0s [] [] [] [] [] [] []
def O0a(n2 x4:Int)(_:Nat)(_:Unit)(k4:Unit->Option Bool):Option Bool :=
 bif (x4==n2)then(some true)else(k4 ())
def OR(_:Unit):Option Bool :=
 some false
def Vc(l1:List Int)(n2:Int):Option Bool :=
 rgl (O0a n2) OR l1 0 ()
theorem Xj{l1:List Int}{n2:Int}{r:Bool}(H:Vc l1 n2=some r):Snd Tryz.prog X0s [rV 1 (l1.map eI),iV n2] (.bool r) []:=by
 refine wS W0U [.t 4] ?_
 unfold Vc at H
 refine wG [.u 8 (.ln _ _ fun _=>lm l1 eI)] fun q3=>?_
 refine wR (fun(i4:Nat) (v4:Unit)=>⟨[(1,iV n2),(7,rV 1 (l1.map eI)),(8,iV (l1.length:Int)),(9,iV (i4:Int))],[],[],[]⟩) H (fun i4 x4 v4 I m k4 hxv4 hiv4 H N20=>?_) (fun v4 I m H=>?_)
 .unfold O0a at H
  refine wP ?_
  refine wt (ltT hiv4) ?_
  refine wG [.u 11 (.ix _ _ _ fun _=>V0 eI (Z1 hxv4))] fun _=>?_
  refine O0 H (fun H=>?_) fun H=>?_
  .obtain rfl:=sI H
   exact wP (wE [(4,.d)])
  .refine wG [.w 16 (wi .i64 rfl hiv4 q3.1)] fun _=>?_
   exact wT (N20 () H)
 .unfold OR at H
  refine wP ?_
  refine wf (ltF l1.length) ?_
  obtain rfl:=sI H
  exact wP (wE [(4,.d)])
noncomputable def X0F:L :=
 lf Tryz.prog M0e [] [] [] [] [] [] []
def Ys(t1:Topo)(x4:Int)(_:Nat)(_:Unit)(k4:Unit->Option Bool):Option Bool :=
 bif ((decide (x4<0))||(decide ((t1.nodes.length:Int)<=x4)))then(some false)else(k4 ())
def Zs(t1:Topo)(_:Unit):Option Bool :=
 (Vj t1).bind fun b5=>some b5
def Zi(t1:Topo)(nodes2:List Int):Option Bool :=
 rgl (Ys t1) (Zs t1) nodes2 0 ()
theorem XM{t1:Topo}{nodes2:List Int}{r:Bool}(H:Zi t1 nodes2=some r):Snd Tryz.prog M0e [U5 .rd t1,rV 1 (nodes2.map eI)] (.bool r) []:=by
 refine wS X0F [.t 4] ?_
 unfold Zi at H
 refine wG [.u 8 (.ln _ _ fun _=>lm nodes2 eI)] fun q3=>?_
 refine wR (fun(i4:Nat) (v4:Unit)=>⟨[(2,.ptr 2 0),(7,rV 1 (nodes2.map eI)),(8,iV (nodes2.length:Int)),(9,iV (i4:Int))],[],[(2,(U5 .rd t1).cells)],[]⟩) H (fun i4 x4 v4 I m k4 hxv4 hiv4 H N20=>?_) (fun v4 I m H=>?_)
 .unfold Ys at H
  refine wP ?_
  refine wt (ltT hiv4) ?_
  refine wG [.u 11 (.ix _ _ _ fun _=>V0 eI (Z1 hxv4)),.g 19 [((decide (x4<0)),false)] (.ln _ _ fun _=>lm t1.nodes V1)] fun _=>?_
  refine O0 H (fun H=>?_) fun H=>?_
  .obtain rfl:=sI H
   exact wP (wE [(4,.d)])
  .refine wG [.w 22 (wi .i64 rfl hiv4 q3.1)] fun _=>?_
   exact wT (N20 () H)
 .unfold Zs at H
  refine wP ?_
  refine wf (ltF nodes2.length) ?_
  obtain⟨b5,h5,H⟩:=bB H
  refine wG [.c 24 (WY h5)] fun _=>?_
  replace H:=sI H;subst H
  exact wE [(4,.d)]
noncomputable def M0V:L :=
 lf Tryz.prog J0s [] [] [] [] [(11,11),(14,14)] [] []
def Zq(t1:Topo)(i5:Nat)(x7:Int)(_:Nat)(v7:Bool)(k7:Bool->Option Int):Option Int :=
 (idx t1.nodes x7).bind fun e8=>(Qy t1 e8.leaf).bind fun y9=>(Vc y9 (i5:Int)).bind fun b10=>bif (!b10)then(k7 false)else(k7 v7)
def Lk(t1:Topo)(v5:Int)(i5:Nat)(k5:Int->Option Int)(v7:Bool):Option Int :=
 (bif v7 then(bif (decide (v5<0))then some default else(Ua t1 (i5:Int)))else some default).bind fun n11=>(bif v7 then(bif (decide (v5<0))then some default else(Ua t1 v5))else some default).bind fun n12=>bif (v7&&((decide (v5<0))||(decide (n11<=n12))))then(k5 (i5:Int))else(k5 v5)
def Jk(t1:Topo)(nodes2:List Int)(_:Int)(i5:Nat)(v5:Int)(k5:Int->Option Int):Option Int :=
 rgl (Zq t1 i5) (Lk t1 v5 i5 k5) nodes2 0 true
def YC(v5:Int):Option Int :=
 some v5
def Qx(t1:Topo)(nodes2:List Int):Option Int :=
 (Zi t1 nodes2).bind fun b3=>bif ((!b3)||((nodes2.length:Int)==0))then(some (-1))else(rgl (Jk t1 nodes2) YC t1.parents 0 (-1))
theorem Q0T{t1:Topo}{nodes2:List Int}{r:Int}(H:Qx t1 nodes2=some r):Snd Tryz.prog J0s [U5 .rd t1,rV 1 (nodes2.map eI)] (iV r) []:=by
 refine wS M0V [.t 4] ?_
 unfold Qx at H
 obtain⟨b3,h3,H⟩:=bB H
 refine wG [.c 12 (XM h3),.g 16 [((!b3),false)] (.ln _ _ fun _=>lm nodes2 eI)] fun _=>?_
 refine O0 H (fun H=>?_) fun H=>?_
 .obtain rfl:=sI H
  exact wP (wE [(4,.d)])
 .refine wG [.u 22 (.ln _ _ fun _=>lm t1.parents eI)] fun q4=>?_
  refine wR (fun(i5:Nat) (v5:Int)=>⟨[(1,rV 1 (nodes2.map eI)),(2,.ptr 2 0),(5,iV v5),(22,iV (t1.parents.length:Int)),(23,iV (i5:Int))],[],[(2,(U5 .rd t1).cells)],[]⟩) H (fun i5 x5 v5 I m k5 hxv5 hiv5 H N49=>?_) (fun v5 I m H=>?_)
  .unfold Jk at H
   refine wP ?_
   refine wt (ltT hiv5) ?_
   refine wG [.u 27 (.ln _ _ fun _=>lm nodes2 eI)] fun q6=>?_
   refine wR (fun(i7:Nat) (v7:Bool)=>⟨[(1,rV 1 (nodes2.map eI)),(2,.ptr 2 0),(5,iV v5),(6,iV (i5:Int)),(7,.bool v7),(22,iV (t1.parents.length:Int)),(23,iV (i5:Int)),(26,rV 1 (nodes2.map eI)),(27,iV (nodes2.length:Int)),(28,iV (i7:Int))],[],[(2,(U5 .rd t1).cells)],[]⟩) H (fun i7 x7 v7 I m k7 hxv7 hiv7 H N33=>?_) (fun v7 I m H=>?_)
   .unfold Zq at H
    refine wP ?_
    refine wt (ltT hiv7) ?_
    obtain⟨e8,h8,H⟩:=bB H
    obtain⟨y9,h9,H⟩:=bB H
    obtain⟨b10,h10,H⟩:=bB H
    refine wG [.u 30 (.ix _ _ _ fun _=>V0 eI (Z1 hxv7)),.u 36 (.ix _ _ _ fun _=>V0 V1 h8),.c 39 (Z0p h9),.c 41 (Xj h10)] fun _=>?_
    refine O0 H (fun H=>?_) fun H=>?_
    .refine wG [.w 43 (wi .i64 rfl hiv7 q6.1)] fun _=>?_
     exact wT (N33 _ H)
    .refine wG [.w 43 (wi .i64 rfl hiv7 q6.1)] fun _=>?_
     exact wT (N33 _ H)
   .unfold Lk at H
    refine wP ?_
    refine wf (ltF nodes2.length) ?_
    obtain⟨n11,h11,H⟩:=bB H
    obtain⟨n12,h12,H⟩:=bB H
    refine wG [.g 51 [(_,false),(_,true)] (.call _ _ _ _ _ (AEs.refl _) (fun q=>Xc (bF q.1 (bT q.2.1 h11)))),.g 54 [(_,false),(_,true)] (.call _ _ _ _ _ (AEs.refl _) (fun q=>Xc (bF q.1 (bT q.2.1 h12))))] fun _=>?_
    refine O0 H (fun H=>?_) fun H=>?_
    .refine wG [.w 59 (wi .i64 rfl hiv5 q4.1)] fun _=>?_
     exact wT (N49 _ H)
    .refine wG [.w 59 (wi .i64 rfl hiv5 q4.1)] fun _=>?_
     exact wT (N49 _ H)
  .unfold YC at H
   refine wP ?_
   refine wf (ltF t1.parents.length) ?_
   obtain rfl:=sI H
   exact wP (wE [(4,.d)])
noncomputable def V0G:L :=
 lf Tryz.prog O0f [] [] [] [] [(1,5)] [] []
def Qi(t1:Topo):Option Topo :=
 (Wi t1.parents).bind fun y2=>(appL 32 ([]:List Node) t1.nodes).bind fun xs3=>some (Topo.mk y2 xs3)
theorem JM{t1 r:Topo}(H:Qi t1=some r):Snd Tryz.prog O0f [U5 .rd t1] (U5 .nw r) []:=by
 refine wS V0G [.c 2 2 true] ?_
 unfold Qi at H
 obtain⟨y2,h2,H⟩:=bB H
 obtain⟨xs3,h3,H⟩:=bB H
 refine wG [.c 5 (O07 h2),.u 8 (.ap _ _ _ _ fun _=>L0 V1 h3)] fun _=>?_
 replace H:=sI H;subst H
 exact wN [(2,.d)] [(2,[.d,.f])] [] [8] [] [⟨_,nw_I y2⟩,⟨_,O2 xs3⟩]
noncomputable def W0W:L :=
 lf Tryz.prog U0t [] [] [] [] [] [] []
def Wq(parents1:List Int)(s2 v3:Int)(k3:Int->Option Bool):Option Bool :=
 bif (decide (v3<(parents1.length:Int)))then((idx parents1 v3).bind fun e5=>bif (e5==s2)then(some false)else(k3 (w64 (v3+1))))else(some true)
def QH(parents1:List Int)(s2:Int):Option Bool :=
 whl (Wq parents1 s2) 9223372036854775807 1
theorem Y0k{parents1:List Int}{s2:Int}{r:Bool}(H:QH parents1 s2=some r):Snd Tryz.prog U0t [rV 1 (parents1.map eI),iV s2] (.bool r) []:=by
 refine wS W0W [.t 4] ?_
 unfold QH at H
 refine wP ?_
 refine wW (fun(v3:Int)=>⟨[(0,rV 1 (parents1.map eI)),(1,iV s2),(5,iV v3)],[],[],[]⟩) H (fun v3 I m k3 H N18=>?_)
 unfold Wq at H
 refine wG [.u 8 (.ln _ _ fun _=>lm parents1 eI)] fun q4=>?_
 refine O0 H (fun H=>?_) fun H=>?_
 .obtain⟨e5,h5,H⟩:=bB H
  refine wG [.u 14 (.ix _ _ _ fun _=>V0 eI h5)] fun _=>?_
  refine O0 H (fun H=>?_) fun H=>?_
  .obtain rfl:=sI H
   exact wP (wE [(4,.d)])
  .refine wP ?_
   exact wT (N18 _ H)
 .obtain rfl:=sI H
  exact wP (wE [(4,.d)])
noncomputable def V16:L :=
 lf Tryz.prog M0B [] [] [] [] [] [] []
def QZ(parents1:List Int)(v3:Int×Int)(k3:(Int×Int)->Option Int):Option Int :=
 bif (decide (0<v3.1))then((idx parents1 v3.1).bind fun e4=>k3 (e4,(w64 (v3.2+1))))else(some v3.2)
def WH(parents1:List Int)(s2:Int):Option Int :=
 whl (QZ parents1) 9223372036854775807 (s2,0)
theorem X04{parents1:List Int}{s2 r:Int}(H:WH parents1 s2=some r):Snd Tryz.prog M0B [rV 1 (parents1.map eI),iV s2] (iV r) []:=by
 refine wS V16 [.t 4] ?_
 unfold WH at H
 refine wP ?_
 refine wW (fun(v3:Int×Int)=>⟨[(0,rV 1 (parents1.map eI)),(1,iV v3.1),(5,iV v3.2)],[],[],[]⟩) H (fun v3 I m k3 H N12=>?_)
 unfold QZ at H
 refine wP ?_
 refine O0 H (fun H=>?_) fun H=>?_
 .obtain⟨e4,h4,H⟩:=bB H
  refine wG [.u 10 (.ix _ _ _ fun _=>V0 eI h4)] fun _=>?_
  exact wT (N12 _ H)
 .obtain rfl:=sI H
  exact wP (wE [(4,.d)])
noncomputable def O0W:L :=
 lf Tryz.prog Q0t [] [] [] [] [] [] []
def Y04(parents1:List Int):Option Int :=
 (WH parents1 (w64 ((parents1.length:Int)-1))).bind fun n2=>some n2
theorem O0X{parents1:List Int}{r:Int}(H:Y04 parents1=some r):Snd Tryz.prog Q0t [rV 1 (parents1.map eI)] (iV r) []:=by
 refine wS O0W [.t 2] ?_
 unfold Y04 at H
 obtain⟨n2,h2,H⟩:=bB H
 refine wG [.u 5 (.ln _ _ fun _=>lm parents1 eI),.c 7 (X04 h2)] fun q3=>?_
 replace H:=sI H;subst H
 exact wE [(2,.d)]
noncomputable def L0W:L :=
 lf Tryz.prog W0t [] [] [] [] [] [] []
def OD(t1:Topo)(x12:Node)(_:Nat)(_:Unit)(k12:Unit->Option Bool):Option Bool :=
 (bif (!(Y0 x12.leaf 0 (w64 ((t1.parents.length:Int)-1))))then some default else(QH t1.parents x12.leaf)).bind fun b13=>bif (((!(Y0 x12.leaf 0 (w64 ((t1.parents.length:Int)-1))))||(!b13))||(!(Y2 x12.cap)))then(some false)else(k12 ())
def Z0d(_:Unit):Option Bool :=
 some true
def MD(t1:Topo)(_:Int)(i8:Nat)(v8:Int)(k8:Int->Option Bool):Option Bool :=
 (QH t1.parents (i8:Int)).bind fun b9=>bif (!b9)then(k8 v8)else((WH t1.parents (i8:Int)).bind fun n10=>bif ((decide (0<=v8))&&(n10 != v8))then(some false)else(k8 n10))
def WD(t1:Topo)(_:Int):Option Bool :=
 rgl (OD t1) Z0d t1.nodes 0 ()
def Mq(t1:Topo)(v4:Int)(k4:Int->Option Bool):Option Bool :=
 bif (decide (v4<(t1.parents.length:Int)))then((idx t1.parents v4).bind fun e6=>bif (!(Y0 e6 0 (w64 (v4-1))))then(some false)else(k4 (w64 (v4+1))))else(rgl (MD t1) (WD t1) t1.parents 0 (-1))
def Qj(t1:Topo):Option Bool :=
 (bif (!(Y0 (t1.parents.length:Int) 1 24))then some default else(idx t1.parents 0)).bind fun e2=>bif (((!(Y0 (t1.parents.length:Int) 1 24))||(e2 != 0))||(decide (24<(t1.nodes.length:Int))))then(some false)else(whl (Mq t1) 9223372036854775807 1)
theorem Ju{t1:Topo}{r:Bool}(H:Qj t1=some r):Snd Tryz.prog W0t [U5 .rd t1] (.bool r) []:=by
 refine wS L0W [.t 2] ?_
 unfold Qj at H
 obtain⟨e2,h2,H⟩:=bB H
 refine wG [.u 11 (.ln _ _ fun _=>lm t1.parents eI),.u 12 (.call _ _ _ _ _ (AEs.refl _) (fun _=>V2 (t1.parents.length:Int) 1 24)),.g 17 [(_,false)] (.ix _ _ _ fun q=>V0 eI (bF q.1 h2)),.g 24 [(((!(Y0 (t1.parents.length:Int) 1 24))||(e2 != 0)),false)] (.ln _ _ fun _=>lm t1.nodes V1)] fun q3=>?_
 refine O0 H (fun H=>?_) fun H=>?_
 .obtain rfl:=sI H
  exact wP (wE [(2,.d)])
 .refine wP ?_
  refine wW (fun(v4:Int)=>⟨[(1,.ptr 1 0),(3,iV v4)],[],[(1,(U5 .rd t1).cells)],[]⟩) H (fun v4 I m k4 H N25=>?_)
  unfold Mq at H
  refine wG [.u 30 (.ln _ _ fun _=>lm t1.parents eI)] fun q5=>?_
  refine O0 H (fun H=>?_) fun H=>?_
  .obtain⟨e6,h6,H⟩:=bB H
   refine wG [.u 37 (.ix _ _ _ fun _=>V0 eI h6),.u 41 (.call _ _ _ _ _ (AEs.refl _) (fun _=>V2 e6 0 (w64 (v4-1))))] fun _=>?_
   refine O0 H (fun H=>?_) fun H=>?_
   .obtain rfl:=sI H
    exact wP (wE [(2,.d)])
   .refine wP ?_
    exact wT (N25 _ H)
  .refine wG [.u 45 (.ln _ _ fun _=>lm t1.parents eI)] fun q7=>?_
   refine wR (fun(i8:Nat) (v8:Int)=>⟨[(1,.ptr 1 0),(4,iV v8),(45,iV (t1.parents.length:Int)),(46,iV (i8:Int))],[],[(1,(U5 .rd t1).cells)],[]⟩) H (fun i8 x8 v8 I m k8 hxv8 hiv8 H N58=>?_) (fun v8 I m H=>?_)
   .unfold MD at H
    refine wP ?_
    refine wt (ltT hiv8) ?_
    obtain⟨b9,h9,H⟩:=bB H
    refine wG [.c 52 (Y0k h9)] fun _=>?_
    refine O0 H (fun H=>?_) fun H=>?_
    .refine wG [.w 66 (wi .i64 rfl hiv8 q3.1)] fun _=>?_
     exact wT (N58 _ H)
    .obtain⟨n10,h10,H⟩:=bB H
     refine wG [.c 57 (X04 h10)] fun _=>?_
     refine O0 H (fun H=>?_) fun H=>?_
     .obtain rfl:=sI H
      exact wP (wE [(2,.d)])
     .refine wG [.w 66 (wi .i64 rfl hiv8 q3.1)] fun _=>?_
      exact wT (N58 _ H)
   .unfold WD at H
    refine wP ?_
    refine wf (ltF t1.parents.length) ?_
    refine wG [.u 69 (.ln _ _ fun _=>lm t1.nodes V1)] fun q11=>?_
    refine wR (fun(i12:Nat) (v12:Unit)=>⟨[(1,.ptr 1 0),(68,rV 4 (t1.nodes.map V1)),(69,iV (t1.nodes.length:Int)),(70,iV (i12:Int))],[],[(1,(U5 .rd t1).cells)],[]⟩) H (fun i12 x12 v12 I m k12 hxv12 hiv12 H N80=>?_) (fun v12 I m H=>?_)
    .unfold OD at H
     refine wP ?_
     refine wt (ltT hiv12) ?_
     obtain⟨b13,h13,H⟩:=bB H
     refine wG [.u 72 (.ix _ _ _ fun _=>V0 V1 (Z1 hxv12)),.u 78 (.ln _ _ fun _=>lm t1.parents eI),.u 80 (.call _ _ _ _ _ (AEs.refl _) (fun _=>V2 x12.leaf 0 (w64 ((t1.parents.length:Int)-1)))),.g 87 [(_,false)] (.call _ _ _ _ _ (AEs.refl _) (fun q=>Y0k (bF q.1 h13))),.g 93 [(((!(Y0 x12.leaf 0 (w64 ((t1.parents.length:Int)-1))))||(!b13)),false)] (.call _ _ _ _ _ (AEs.refl _) (fun _=>L7 x12.cap))] fun q14=>?_
     refine O0 H (fun H=>?_) fun H=>?_
     .obtain rfl:=sI H
      exact wP (wE [(2,.d)])
     .refine wG [.w 96 (wi .i64 rfl hiv12 q11.1)] fun _=>?_
      exact wT (N80 () H)
    .unfold Z0d at H
     refine wP ?_
     refine wf (ltF t1.nodes.length) ?_
     obtain rfl:=sI H
     exact wP (wE [(2,.d)])
noncomputable def Z16:L :=
 lf Tryz.prog Q0B [] [] [] [] [(1,9)] [] []
def VH(t1:Topo)(s2:Int):Option Int :=
 (Y04 t1.parents).bind fun n3=>(WH t1.parents s2).bind fun n4=>some (w64 (n3-n4))
theorem Z04{t1:Topo}{s2 r:Int}(H:VH t1 s2=some r):Snd Tryz.prog Q0B [U5 .rd t1,iV s2] (iV r) []:=by
 refine wS Z16 [.t 4] ?_
 unfold VH at H
 obtain⟨n3,h3,H⟩:=bB H
 obtain⟨n4,h4,H⟩:=bB H
 refine wG [.c 7 (O0X h3),.c 11 (X04 h4)] fun _=>?_
 replace H:=sI H;subst H
 exact wE [(4,.d)]
noncomputable def U16:L :=
 lf Tryz.prog L0B [7] [] [] [] [] [] []
def V0k(t1:Topo)(v3:Int×(List Int))(k3:(Int×(List Int))->Option (List Int)):Option (List Int) :=
 bif (decide (0<v3.1))then((idx t1.parents v3.1).bind fun e4=>(appL 8 v3.2 [e4]).bind fun xs5=>k3 (e4,xs5))else(some v3.2)
def J0h(t1:Topo)(s2:Int):Option (List Int) :=
 whl (V0k t1) 9223372036854775807 (s2,[s2])
theorem M17{t1:Topo}{s2:Int}{r:(List Int)}(H:J0h t1 s2=some r):Snd Tryz.prog L0B [U5 .rd t1,iV s2] (nV 1 (r.map eI)) []:=by
 refine wS U16 [.t 4] ?_
 unfold J0h at H
 refine wP ?_
 refine wW (fun(v3:Int×(List Int))=>⟨[(1,iV v3.1),(2,.ptr 2 0),(5,.sref 7)],[],[(2,(U5 .rd t1).cells)],[(7,⟨1,v3.2.map eI,false⟩)]⟩) H (fun v3 I m k3 H N12=>?_)
 unfold V0k at H
 refine wP ?_
 refine O0 H (fun H=>?_) fun H=>?_
 .obtain⟨e4,h4,H⟩:=bB H
  obtain⟨xs5,h5,H⟩:=bB H
  refine wG [.u 13 (.ix _ _ _ fun _=>V0 eI h4),.u 18 (.ap _ _ _ _ fun _=>L0 eI h5)] fun _=>?_
  exact wT (N12 _ H)
 .refine wP ?_
  replace H:=sI H;subst H
  exact wN [(4,.f)] [] [] [7] [] [⟨_,nw_I v3.2⟩]
noncomputable def O0G:L :=
 lf Tryz.prog Z0g [] [] [] [] [] [] []
def LH(t1:Topo)(x4:Int)(_:Nat)(_:Unit)(k4:Unit->Option Bool):Option Bool :=
 bif (!(Y0 x4 0 (w64 ((t1.nodes.length:Int)-1))))then(some false)else(k4 ())
def MH(t1:Topo)(_:Unit):Option Bool :=
 (Qj t1).bind fun b6=>some b6
def Yt(t1:Topo)(nodes2:List Int):Option Bool :=
 rgl (LH t1) (MH t1) nodes2 0 ()
theorem M07{t1:Topo}{nodes2:List Int}{r:Bool}(H:Yt t1 nodes2=some r):Snd Tryz.prog Z0g [U5 .rd t1,rV 1 (nodes2.map eI)] (.bool r) []:=by
 refine wS O0G [.t 4] ?_
 unfold Yt at H
 refine wG [.u 8 (.ln _ _ fun _=>lm nodes2 eI)] fun q3=>?_
 refine wR (fun(i4:Nat) (v4:Unit)=>⟨[(2,.ptr 2 0),(7,rV 1 (nodes2.map eI)),(8,iV (nodes2.length:Int)),(9,iV (i4:Int))],[],[(2,(U5 .rd t1).cells)],[]⟩) H (fun i4 x4 v4 I m k4 hxv4 hiv4 H N20=>?_) (fun v4 I m H=>?_)
 .unfold LH at H
  refine wP ?_
  refine wt (ltT hiv4) ?_
  refine wG [.u 11 (.ix _ _ _ fun _=>V0 eI (Z1 hxv4)),.u 16 (.ln _ _ fun _=>lm t1.nodes V1),.u 18 (.call _ _ _ _ _ (AEs.refl _) (fun _=>V2 x4 0 (w64 ((t1.nodes.length:Int)-1))))] fun q5=>?_
  refine O0 H (fun H=>?_) fun H=>?_
  .obtain rfl:=sI H
   exact wP (wE [(4,.d)])
  .refine wG [.w 20 (wi .i64 rfl hiv4 q3.1)] fun _=>?_
   exact wT (N20 () H)
 .unfold MH at H
  refine wP ?_
  refine wf (ltF nodes2.length) ?_
  obtain⟨b6,h6,H⟩:=bB H
  refine wG [.c 22 (Ju h6)] fun _=>?_
  replace H:=sI H;subst H
  exact wE [(4,.d)]
noncomputable def L03:L :=
 lf Tryz.prog VF [] [] [] [] [] [] []
def Yl(v2 x4:Int)(i4:Nat)(_:Unit)(k4:Unit->Option Int):Option Int :=
 bif (v2==x4)then(some (i4:Int))else(k4 ())
def Wy(_:Unit):Option Int :=
 some (-1)
def Zd(s1:List Int)(v2:Int):Option Int :=
 rgl (Yl v2) Wy s1 0 ()
theorem L02{s1:List Int}{v2 r:Int}(H:Zd s1 v2=some r):Snd Tryz.prog VF [rV 1 (s1.map eI),iV v2] (iV r) []:=by
 refine wS L03 [.t 4] ?_
 unfold Zd at H
 refine wG [.u 7 (.ln _ _ fun _=>lm s1 eI)] fun q3=>?_
 refine wR (fun(i4:Nat) (v4:Unit)=>⟨[(0,rV 1 (s1.map eI)),(1,iV v2),(7,iV (s1.length:Int)),(8,iV (i4:Int))],[],[],[]⟩) H (fun i4 x4 v4 I m k4 hxv4 hiv4 H N20=>?_) (fun v4 I m H=>?_)
 .unfold Yl at H
  refine wP ?_
  refine wt (ltT hiv4) ?_
  refine wG [.u 14 (.ix _ _ _ fun _=>V0 eI (Z1 hxv4))] fun _=>?_
  refine O0 H (fun H=>?_) fun H=>?_
  .obtain rfl:=sI H
   exact wP (wE [(4,.d)])
  .refine wG [.w 18 (wi .i64 rfl hiv4 q3.1)] fun _=>?_
   exact wT (N20 () H)
 .unfold Wy at H
  refine wP ?_
  refine wf (ltF s1.length) ?_
  obtain rfl:=sI H
  exact wP (wE [(4,.d)])
noncomputable def UV:L :=
 lf Tryz.prog Ov [] [] [] [] [] [] []
def M6(s1:List Int)(v2:Int):Option Bool :=
 (Zd s1 v2).bind fun n3=>some (decide (0<=n3))
theorem Ot{s1:List Int}{v2:Int}{r:Bool}(H:M6 s1 v2=some r):Snd Tryz.prog Ov [rV 1 (s1.map eI),iV v2] (.bool r) []:=by
 refine wS UV [.t 4] ?_
 unfold M6 at H
 obtain⟨n3,h3,H⟩:=bB H
 refine wG [.c 7 (L02 h3)] fun _=>?_
 replace H:=sI H;subst H
 exact wE [(4,.d)]
noncomputable def X0X:L :=
 lf Tryz.prog J0t [] [] [] [] [(11,13),(13,14)] [] []
def Lq(t1:Topo)(i5:Nat)(x7:Int)(_:Nat)(v7:Bool)(k7:Bool->Option Int):Option Int :=
 (bif v7 then(idx t1.nodes x7)else some default).bind fun e8=>(bif v7 then(J0h t1 e8.leaf)else some default).bind fun y9=>(bif v7 then(M6 y9 (i5:Int))else some default).bind fun b10=>k7 (v7&&b10)
def Wl(t1:Topo)(v5:Int)(i5:Nat)(k5:Int->Option Int)(v7:Bool):Option Int :=
 (bif v7 then(bif (decide (v5<0))then some default else(VH t1 (i5:Int)))else some default).bind fun n11=>(bif v7 then(bif (decide (v5<0))then some default else(VH t1 v5))else some default).bind fun n12=>bif (v7&&((decide (v5<0))||(decide (n11<=n12))))then(k5 (i5:Int))else(k5 v5)
def LE(t1:Topo)(nodes2:List Int)(_:Int)(i5:Nat)(v5:Int)(k5:Int->Option Int):Option Int :=
 rgl (Lq t1 i5) (Wl t1 v5 i5 k5) nodes2 0 true
def LU(v5:Int):Option Int :=
 some v5
def QI(t1:Topo)(nodes2:List Int):Option Int :=
 (Yt t1 nodes2).bind fun b3=>bif ((!b3)||((nodes2.length:Int)==0))then(some (-1))else(rgl (LE t1 nodes2) LU t1.parents 0 (-1))
theorem U0Y{t1:Topo}{nodes2:List Int}{r:Int}(H:QI t1 nodes2=some r):Snd Tryz.prog J0t [U5 .rd t1,rV 1 (nodes2.map eI)] (iV r) []:=by
 refine wS X0X [.t 4] ?_
 unfold QI at H
 obtain⟨b3,h3,H⟩:=bB H
 refine wG [.c 12 (M07 h3),.g 16 [((!b3),false)] (.ln _ _ fun _=>lm nodes2 eI)] fun _=>?_
 refine O0 H (fun H=>?_) fun H=>?_
 .obtain rfl:=sI H
  exact wP (wE [(4,.d)])
 .refine wG [.u 21 (.ln _ _ fun _=>lm t1.parents eI)] fun q4=>?_
  refine wR (fun(i5:Nat) (v5:Int)=>⟨[(1,rV 1 (nodes2.map eI)),(2,.ptr 2 0),(5,iV v5),(21,iV (t1.parents.length:Int)),(22,iV (i5:Int))],[],[(2,(U5 .rd t1).cells)],[]⟩) H (fun i5 x5 v5 I m k5 hxv5 hiv5 H N45=>?_) (fun v5 I m H=>?_)
  .unfold LE at H
   refine wP ?_
   refine wt (ltT hiv5) ?_
   refine wG [.u 26 (.ln _ _ fun _=>lm nodes2 eI)] fun q6=>?_
   refine wR (fun(i7:Nat) (v7:Bool)=>⟨[(1,rV 1 (nodes2.map eI)),(2,.ptr 2 0),(5,iV v5),(6,iV (i5:Int)),(7,.bool v7),(21,iV (t1.parents.length:Int)),(22,iV (i5:Int)),(25,rV 1 (nodes2.map eI)),(26,iV (nodes2.length:Int)),(27,iV (i7:Int))],[],[(2,(U5 .rd t1).cells)],[]⟩) H (fun i7 x7 v7 I m k7 hxv7 hiv7 H N29=>?_) (fun v7 I m H=>?_)
   .unfold Lq at H
    refine wP ?_
    refine wt (ltT hiv7) ?_
    obtain⟨e8,h8,H⟩:=bB H
    obtain⟨y9,h9,H⟩:=bB H
    obtain⟨b10,h10,H⟩:=bB H
    refine wG [.u 29 (.ix _ _ _ fun _=>V0 eI (Z1 hxv7)),.g 37 [(_,true)] (.ix _ _ _ fun q=>V0 V1 (bT q.1 h8)),.g 40 [(_,true)] (.call _ _ _ _ _ (AEs.refl _) (fun q=>M17 (bT q.1 h9))),.g 42 [(_,true)] (.call _ _ _ _ _ (AEs.refl _) (fun q=>Ot (bT q.1 h10))),.w 44 (wi .i64 rfl hiv7 q6.1)] fun _=>?_
    exact wT (N29 _ H)
   .unfold Wl at H
    refine wP ?_
    refine wf (ltF nodes2.length) ?_
    obtain⟨n11,h11,H⟩:=bB H
    obtain⟨n12,h12,H⟩:=bB H
    refine wG [.g 52 [(_,false),(_,true)] (.call _ _ _ _ _ (AEs.refl _) (fun q=>Z04 (bF q.1 (bT q.2.1 h11)))),.g 55 [(_,false),(_,true)] (.call _ _ _ _ _ (AEs.refl _) (fun q=>Z04 (bF q.1 (bT q.2.1 h12))))] fun _=>?_
    refine O0 H (fun H=>?_) fun H=>?_
    .refine wG [.w 60 (wi .i64 rfl hiv5 q4.1)] fun _=>?_
     exact wT (N45 _ H)
    .refine wG [.w 60 (wi .i64 rfl hiv5 q4.1)] fun _=>?_
     exact wT (N45 _ H)
  .unfold LU at H
   refine wP ?_
   refine wf (ltF t1.parents.length) ?_
   obtain rfl:=sI H
   exact wP (wE [(4,.d)])
noncomputable def M0G:L :=
 lf Tryz.prog X0g [] [] [] [] [(12,12)] [] []
def YI(x11:Node)(_:Nat)(v11:Str)(k11:Str->Option Str):Option Str :=
 (catS v11 ([110,111,100,101,32]:Str)).bind fun w12=>(O4 x11.leaf).bind fun w13=>(catS w12 w13).bind fun w14=>(catS w14 ([32]:Str)).bind fun w15=>(Oi x11.cap).bind fun w16=>(catS w15 w16).bind fun w17=>(catS w17 ([10]:Str)).bind fun w18=>k11 w18
def O01(v11:Str):Option Str :=
 some v11
def XI(x5:Int)(_:Nat)(v5:Str)(k5:Str->Option Str):Option Str :=
 (catS v5 ([115,119,105,116,99,104,32]:Str)).bind fun w6=>(O4 x5).bind fun w7=>(catS w6 w7).bind fun w8=>(catS w8 ([10]:Str)).bind fun w9=>k5 w9
def JH(t1:Topo)(v5:Str):Option Str :=
 rgl YI O01 t1.nodes 0 v5
def Xt(t1:Topo):Option Str :=
 (Qj t1).bind fun b2=>bif (!b2)then(some ([]:Str))else((cutL t1.parents (some 1) none).bind fun xs3=>rgl XI (JH t1) xs3 0 ([]:Str))
theorem J07{t1:Topo}{r:Str}(H:Xt t1=some r):Snd Tryz.prog X0g [U5 .rd t1] (.str r) []:=by
 refine wS M0G [.t 2] ?_
 unfold Xt at H
 obtain⟨b2,h2,H⟩:=bB H
 refine wG [.c 9 (Ju h2)] fun _=>?_
 refine O0 H (fun H=>?_) fun H=>?_
 .obtain rfl:=sI H
  exact wP (wE [(2,.d)])
 .obtain⟨xs3,h3,H⟩:=bB H
  refine wG [.u 13 (.sc _ _ _ _ fun _=>UX eI h3),.u 14 (.ln _ _ fun _=>lm xs3 eI)] fun q4=>?_
  refine wR (fun(i5:Nat) (v5:Str)=>⟨[(1,.ptr 1 0),(3,.str v5),(13,rV 1 (xs3.map eI)),(14,iV (xs3.length:Int)),(15,iV (i5:Int))],[],[(1,(U5 .rd t1).cells)],[]⟩) H (fun i5 x5 v5 I m k5 hxv5 hiv5 H N22=>?_) (fun v5 I m H=>?_)
  .unfold XI at H
   refine wP ?_
   refine wt (ltT hiv5) ?_
   obtain⟨w6,h6,H⟩:=bB H
   obtain⟨w7,h7,H⟩:=bB H
   obtain⟨w8,h8,H⟩:=bB H
   obtain⟨w9,h9,H⟩:=bB H
   refine wG [.u 17 (.ix _ _ _ fun _=>V0 eI (Z1 hxv5)),.u 20 (.sa _ _ _ fun _=>h6),.c 22 (Y4 h7),.u 23 (.sa _ _ _ fun _=>h8),.u 24 (.sa _ _ _ fun _=>h9),.w 25 (wi .i64 rfl hiv5 q4.1)] fun _=>?_
   exact wT (N22 _ H)
  .unfold JH at H
   refine wP ?_
   refine wf (ltF xs3.length) ?_
   refine wG [.u 28 (.ln _ _ fun _=>lm t1.nodes V1)] fun q10=>?_
   refine wR (fun(i11:Nat) (v11:Str)=>⟨[(3,.str v11),(27,rV 4 (t1.nodes.map V1)),(28,iV (t1.nodes.length:Int)),(29,iV (i11:Int))],[],[],[]⟩) H (fun i11 x11 v11 I m k11 hxv11 hiv11 H N38=>?_) (fun v11 I m H=>?_)
   .unfold YI at H
    refine wP ?_
    refine wt (ltT hiv11) ?_
    obtain⟨w12,h12,H⟩:=bB H
    obtain⟨w13,h13,H⟩:=bB H
    obtain⟨w14,h14,H⟩:=bB H
    obtain⟨w15,h15,H⟩:=bB H
    obtain⟨w16,h16,H⟩:=bB H
    obtain⟨w17,h17,H⟩:=bB H
    obtain⟨w18,h18,H⟩:=bB H
    refine wG [.u 31 (.ix _ _ _ fun _=>V0 V1 (Z1 hxv11)),.u 34 (.sa _ _ _ fun _=>h12),.c 37 (Y4 h13),.u 38 (.sa _ _ _ fun _=>h14),.u 39 (.sa _ _ _ fun _=>h15),.c 42 (Oq h16),.u 43 (.sa _ _ _ fun _=>h17),.u 44 (.sa _ _ _ fun _=>h18),.w 45 (wi .i64 rfl hiv11 q10.1)] fun _=>?_
    exact wT (N38 _ H)
   .unfold O01 at H
    refine wP ?_
    refine wf (ltF t1.nodes.length) ?_
    obtain rfl:=sI H
    exact wP (wE [(2,.d)])
noncomputable def L0G:L :=
 lf Tryz.prog V0g [11] [] [] [] [] [] [14951]
def Q8(k4:Topo->Option (Topo×Bool))(v18:Topo):Option (Topo×Bool) :=
 bif ((decide (24<(v18.parents.length:Int)))||(decide (24<(v18.nodes.length:Int))))then(some ((Topo.mk [] []),false))else(k4 v18)
def L3(x4:Str)(_:Nat)(v4:Topo)(k4:Topo->Option (Topo×Bool)):Option (Topo×Bool) :=
 (W8 x4 32).bind fun y5=>(bif ((y5.length:Int)==2)then(idx y5 0)else some default).bind fun e6=>bif (((y5.length:Int)==2)&&(e6==([115,119,105,116,99,104]:Str)))then((idx y5 1).bind fun e8=>(W4 e8).bind fun y9=>(appL 8 v4.parents [y9.1]).bind fun xs10=>(Q8 k4) (Topo.mk xs10 v4.nodes))else((bif ((y5.length:Int)==3)then(idx y5 0)else some default).bind fun e11=>bif (((y5.length:Int)==3)&&(e11==([110,111,100,101]:Str)))then((idx y5 1).bind fun e13=>(W4 e13).bind fun y14=>(idx y5 2).bind fun e15=>(Vm e15).bind fun y16=>(appL 32 v4.nodes [(Node.mk y14.1 y16.1)]).bind fun xs17=>(Q8 k4) (Topo.mk v4.parents xs17))else((Q8 k4) v4))
def Vt(s1:Str)(v4:Topo):Option (Topo×Bool) :=
 (Qj v4).bind fun b20=>(bif (!b20)then some default else(Xt v4)).bind fun w21=>bif ((!b20)||(w21 != s1))then(some ((Topo.mk [] []),false))else(some (v4,true))
def Mi(s1:Str):Option (Topo×Bool) :=
 (W8 s1 10).bind fun y2=>rgl L3 (Vt s1) y2 0 (Topo.mk [0] [])
theorem W0H{s1:Str}{r:Topo×Bool}(H:Mi s1=some r):Snd Tryz.prog V0g [.str s1] (.tup [U5 .nw r.1,.bool r.2]) []:=by
 refine wS L0G [.c 2 2 true,.t 3] ?_
 unfold Mi at H
 obtain⟨y2,h2,H⟩:=bB H
 refine wG [.c 14 (ME h2),.u 15 (.ln _ _ fun _=>lm y2 eS)] fun q3=>?_
 refine X08 (fun(i4:Nat) (v4:Topo)=>⟨[(0,.str s1),(2,.ptr 2 0),(4,.ptr 4 0),(14,.sl .nw 1 (y2.map eS)),(15,.int .i64 (y2.length:Int)),(16,.int .i64 (i4:Int))],[],[(2,[.nl,.nl]),(4,[.sref 11,.sref 235001])],[(11,⟨1,v4.parents.map eI,false⟩),(235001,⟨4,v4.nodes.map V1,false⟩)]⟩) [] [(4,[.d,.z 235001])] [(235001,(none,4))] [] (by kernel_rfl) (by kernel_rfl) H (fun i4 x4 v4 I m k4 hxv4 hiv4 H N42=>?_) (fun v4 I m H=>?_)
 .unfold L3 at H
  refine wP ?_
  refine wt (ltT hiv4) ?_
  obtain⟨y5,h5,H⟩:=bB H
  obtain⟨e6,h6,H⟩:=bB H
  refine wG [.u 18 (.ix _ _ _ fun _=>V0 eS (Z1 hxv4)),.c 21 (ME h5),.u 24 (.ln _ _ fun _=>lm y5 eS),.g 28 [(_,true)] (.ix _ _ _ fun q=>V0 eS (bT q.1 h6))] fun q7=>?_
  refine Q6 (r:=r) (Q8 k4) 0 (fun v18:Topo=>⟨[(0,.str s1),(2,.ptr 2 0),(4,.ptr 4 0),(14,.sl .nw 1 (y2.map eS)),(15,.int .i64 (y2.length:Int)),(16,.int .i64 (i4:Int))],[],[(2,[.nl,.nl]),(4,[.sref 11,.sref 235001])],[(11,⟨1,v18.parents.map eI,false⟩),(235001,⟨4,v18.nodes.map V1,false⟩)]⟩) (by kernel_rfl) (fun v18 H=>?_) (fun J33=>?_)
  .unfold Q8 at H
   refine wG [.u 80 (.ln _ _ fun _=>lm v18.parents eI),.g 85 [((decide (24<(v18.parents.length:Int))),false)] (.ln _ _ fun _=>lm v18.nodes V1)] fun q19=>?_
   refine O0 H (fun H=>?_) fun H=>?_
   .refine wP ?_
    replace H:=sI H;subst H
    exact wN [(2,.d),(3,.d)] [(2,[.n 1,.n 4])] [] [] [] [⟨_,nw_I ([]:List Int)⟩,⟨_,O2 ([]:List Node)⟩]
   .refine wG [.w 89 (wi .i64 rfl hiv4 q3.1)] fun _=>?_
    exact wT (N42 _ H)
  .refine O0 H (fun H=>?_) fun H=>?_
   .obtain⟨e8,h8,H⟩:=bB H
    obtain⟨y9,h9,H⟩:=bB H
    obtain⟨xs10,h10,H⟩:=bB H
    refine wG [.u 34 (.ix _ _ _ fun _=>V0 eS h8),.c 36 (U6 h9),.u 43 (.ap _ _ _ _ fun _=>L0 eI h10)] fun _=>?_
    exact wT (J33 _ H)
   .obtain⟨e11,h11,H⟩:=bB H
    refine wG [.u 47 (.ln _ _ fun _=>lm y5 eS),.g 51 [(_,true)] (.ix _ _ _ fun q=>V0 eS (bT q.1 h11))] fun q12=>?_
    refine O0 H (fun H=>?_) fun H=>?_
    .obtain⟨e13,h13,H⟩:=bB H
     obtain⟨y14,h14,H⟩:=bB H
     obtain⟨e15,h15,H⟩:=bB H
     obtain⟨y16,h16,H⟩:=bB H
     obtain⟨xs17,h17,H⟩:=bB H
     refine wG [.u 58 (.ix _ _ _ fun _=>V0 eS h13),.c 60 (U6 h14),.u 66 (.ix _ _ _ fun _=>V0 eS h15),.c 68 (LD h16),.u 76 (.ap _ _ _ _ fun _=>L0 V1 h17)] fun _=>?_
     exact wT (J33 _ H)
    .refine wP ?_
     exact wT (J33 _ H)
 .unfold Vt at H
  refine wP ?_
  refine wf (ltF y2.length) ?_
  obtain⟨b20,h20,H⟩:=bB H
  obtain⟨w21,h21,H⟩:=bB H
  refine wG [.c 91 (Ju h20),.g 95 [(_,false)] (.call _ _ _ _ _ (AEs.refl _) (fun q=>J07 (bF q.1 h21)))] fun _=>?_
  refine O0 H (fun H=>?_) fun H=>?_
  .refine wP ?_
   replace H:=sI H;subst H
   exact wN [(2,.d),(3,.d)] [(2,[.n 1,.n 4])] [] [] [] [⟨_,nw_I ([]:List Int)⟩,⟨_,O2 ([]:List Node)⟩]
  .refine wP ?_
   replace H:=sI H;subst H
   exact wN [(2,.d),(3,.d)] [(2,[.f,.f])] [] [11,235001] [] [⟨_,nw_I v4.parents⟩,⟨_,O2 v4.nodes⟩]
structure TreeP(P:List Int):Prop where
 pos:0<P.length
 le:P.length<=24
 root:P[0]?=some 0
 par:∀(i:Nat),1<=i->∀(p:Int),P[i]?=some p->0<=p/\p<i
def prt(P:List Int)(i:Nat):Nat:=(P.getD i 0).toNat
def dep(P:List Int)(s:Nat):Nat:=if h:0<s/\prt P s<s then dep P (prt P s)+1 else 0
termination_by s
decreasing_by exact h.2
def ups(P:List Int)(s:Nat):List Nat:=if _:0<s/\prt P s<s then s::ups P (prt P s)else[s]
termination_by s
decreasing_by exact(‹0<s/\prt P s<s›:0<s/\prt P s<s).2
def kids(P:List Int)(s:Int):List Nat:=(List.range' 1 (P.length-1)).filter fun i=>P[i]?==some s
theorem W1m{P:List Int}{s:Int}{c:Nat}:c∈kids P s↔1<=c/\c<P.length/\P[c]?=some s:=by
 simp only[kids,List.mem_filter,List.mem_range',beq_iff_eq]
 constructor
 .rintro⟨⟨i,hi,rfl⟩,h⟩;exact⟨by omega,by omega,h⟩
 .rintro⟨h1,h2,h3⟩;exact⟨⟨c-1,by omega,by omega⟩,h3⟩
theorem TreeP.par_lt{P:List Int}(T:TreeP P){i:Nat}(h1:1<=i)(h:i<P.length):prt P i<i/\P[i]?=some (prt P i:Int):=by
 have e:P[i]?=some P[i]:=yA h
 have:=T.par i h1 _ e
 have q:prt P i=P[i].toNat:=by simp[prt,h]
 rw[q]
 exact⟨by omega,by rw[e];congr 1;omega⟩
theorem V1H(P:List Int):dep P 0=0:=by rw[dep];simp
theorem TreeP.dep_succ{P:List Int}(T:TreeP P){i:Nat}(h1:1<=i)(h:i<P.length):dep P i=dep P (prt P i)+1:=by
 rw[dep,dif_pos ⟨by omega,(T.par_lt h1 h).1⟩]
theorem X11(P:List Int):ups P 0=[0]:=by rw[ups];simp
theorem TreeP.ups_succ{P:List Int}(T:TreeP P){i:Nat}(h1:1<=i)(h:i<P.length):ups P i=i::ups P (prt P i):=by
 rw[ups,dif_pos ⟨by omega,(T.par_lt h1 h).1⟩]
theorem Z1C(P:List Int):∀s,dep P s<=s:=by
 intro s
 induction s using Nat.strongRecOn with
 |_ s ih =>
  rw[dep]
  split
  .rename_i h;have:=ih _ h.2;omega
  .omega
theorem V0p(P:List Int)(s:Nat):s∈ups P s:=by rw[ups];split<;>simp
theorem TreeP.ups_mem{P:List Int}(T:TreeP P):∀l,l<P.length->∀s,s∈ups P l->s<=l/\∀x,x∈ups P s->x∈ups P l:=by
 intro l
 induction l using Nat.strongRecOn with
 |_ l ih =>
  intro hl s hs
  by_cases h0:l=0
  .subst h0;rw[X11]at hs;simp at hs;subst hs;exact⟨yV _,fun x hx=>hx⟩
  .have hp:=T.par_lt (i:=l) (by omega) hl
   rw[T.ups_succ (by omega) hl]at hs ⊢
   rcases yX hs with rfl|hs
   .exact⟨yV _,fun x hx=>by rwa [T.ups_succ (by omega) hl]at hx⟩
   .obtain⟨q1,q2⟩:=ih _ hp.1 (by omega) s hs
    exact⟨by omega,fun x hx=>yH _ (q2 x hx)⟩
theorem TreeP.kid_of{P:List Int}(T:TreeP P):∀l,l<P.length->∀s,s∈ups P l->s≠l->∃c,c∈kids P (s:Int)/\c∈ups P l:=by
 intro l
 induction l using Nat.strongRecOn with
 |_ l ih =>
  intro hl s hs hne
  by_cases h0:l=0
  .subst h0;rw[X11]at hs;simp at hs;exact absurd hs hne
  .have hp:=T.par_lt (i:=l) (by omega) hl
   rw[T.ups_succ (by omega) hl]at hs ⊢
   rcases yX hs with rfl|hs
   .exact absurd rfl hne
   .by_cases he:s=prt P l
    .subst he
     exact⟨l,W1m.2 ⟨by omega,hl,hp.2⟩,yJ ..⟩
    .obtain⟨c,q1,q2⟩:=ih _ hp.1 (by omega) s hs he
     exact⟨c,q1,yH _ q2⟩
theorem TreeP.kid_par{P:List Int}(T:TreeP P){s c:Nat}(h:c∈kids P (s:Int)):1<=c/\c<P.length/\prt P c=s/\s<c:=by
 obtain⟨h1,h2,h3⟩:=W1m.1 h
 have hp:=T.par_lt h1 h2
 rw[hp.2]at h3
 have:prt P c=s:=by have:=Option.some.inj h3;omega
 exact⟨h1,h2,this,by omega⟩
structure LeafP(P:List Int)(s l:Nat):Prop where
 lt:l<P.length
 leaf:kids P (l:Int)=[]
 up:s∈ups P l
theorem TreeP.some_leaf{P:List Int}(T:TreeP P):∀(n s:Nat),P.length-s=n->s<P.length->∃l,LeafP P s l:=by
 intro n
 induction n using Nat.strongRecOn with
 |_ n ih =>
  intro s hn hs
  cases hk:kids P (s:Int)with
  |nil=>exact⟨s,hs,hk,V0p P s⟩
  |cons c ks =>
   have hc:c∈kids P (s:Int):=by rw[hk];exact yJ ..
   obtain⟨q1,q2,q3,q4⟩:=T.kid_par hc
   obtain⟨l,hl⟩:=ih (P.length-c) (by omega) c rfl q2
   refine⟨l,hl.lt,hl.leaf,(T.ups_mem l hl.lt c hl.up).2 s ?_⟩
   rw[T.ups_succ q1 q2,q3]
   exact yH _ (V0p P s)
theorem TreeP.leaf_kid{P:List Int}(T:TreeP P){s c l:Nat}(hc:c∈kids P (s:Int))(h:LeafP P c l):LeafP P s l:=by
 obtain⟨q1,q2,q3,q4⟩:=T.kid_par hc
 refine⟨h.lt,h.leaf,(T.ups_mem l h.lt c h.up).2 s ?_⟩
 rw[T.ups_succ q1 q2,q3]
 exact yH _ (V0p P s)
theorem TreeP.leaf_cases{P:List Int}(T:TreeP P){s l:Nat}(h:LeafP P s l):s=l\/∃c,c∈kids P (s:Int)/\LeafP P c l:=by
 by_cases e:s=l
 .exact .inl e
 .obtain⟨c,q1,q2⟩:=T.kid_of l h.lt s h.up e
  exact .inr ⟨c,q1,h.lt,h.leaf,q2⟩
theorem TreeP.zero_up{P:List Int}(T:TreeP P):∀l,l<P.length->0∈ups P l:=by
 intro l
 induction l using Nat.strongRecOn with
 |_ l ih =>
  intro hl
  by_cases h0:l=0
  .subst h0;exact V0p P 0
  .rw[T.ups_succ (by omega) hl]
   exact yH _ (ih _ (T.par_lt (by omega) hl).1 (by have:=(T.par_lt (i:=l) (by omega) hl).1;omega))
theorem Yp(t:Topo)(s:Int)(hl:t.parents.length<=1048576):Ym t s=some ((kids t.parents s).map fun(i:Nat)=>(i:Int)):=by
 unfold Ym
 have h:=M0m (bd:=Xn t s) (fun(i:Nat) (st:List Int)=>((i:Int),st)) (n:=t.parents.length)
  (B:=fun x _ st k=>bif t.parents[x]?==some s then(appL 8 st [(x:Int)]).bind k else k st) (kk:=some) (fun i st k hi=>by
   obtain⟨e,he⟩:∃e,t.parents[i]?=some e:=⟨_,yA hi⟩
   have hlt:(i:Int)<(t.parents.length:Int):=by omega
   simp only[Xn,hlt,decide_true,yN,V3,he,bS,W09 (n:=i) (by omega)]
   rw[show(some e==some s)=(e==s) from rfl])
  (fun i st k hi=>by
   have hlt:¬ (i:Int)<(t.parents.length:Int):=by omega
   simp only[Xn,hlt,decide_false,yM]) 9223372036854775807 1 [] (by omega)
 refine h.trans ?_
 rw[V8 (p:=fun(x:Nat)=>t.parents[x]?==some s) (f:=fun(x:Nat)=>(x:Int)) (fun x _ i b k=>rfl) (by simp;omega)]
 rfl
def LevP(P:List Int)(s:Nat)(v:Int):Prop :=
 (0<=v/\v<=P.length-s/\∀l,LeafP P s l->(dep P l:Int)=dep P s+v)\/(v = -1/\∃l1 l2,LeafP P s l1/\LeafP P s l2/\dep P l1≠dep P l2)
theorem X0p{t:Topo}(T:TreeP t.parents):∀(n s fuel:Nat),t.parents.length-s=n->s<t.parents.length->n<=fuel->∃v,Xk fuel t (s:Int)=some v/\LevP t.parents s v:=by
 intro n
 induction n using Nat.strongRecOn with
 |_ n ih =>
  intro s fuel hn hs hf
  obtain⟨fuel,rfl⟩:∃m,fuel=m+1:=⟨fuel-1,by omega⟩
  have hle:=T.le
  rw[Xk,Yp t s (by omega),bS,Z1v]
  refine Mc (fun i (v:Int)=>(i=0->v = -1)/\(0<i->0<=v/\v<=t.parents.length-s-1/\∀j c,j<i->(kids t.parents (s:Int))[j]?=some c->∀l,LeafP t.parents c l->(dep t.parents l:Int)=dep t.parents s+1+v)) (fun r=>∃v,r=some v/\LevP t.parents s v) ?_ ?_ ⟨fun _=>rfl,fun h=>by omega⟩
  .intro i c v k hi hI hk
   have hc:c∈kids t.parents (s:Int):=yE hi
   obtain⟨q1,q2,q3,q4⟩:=T.kid_par hc
   have hd:dep t.parents c=dep t.parents s+1:=by rw[T.dep_succ q1 q2,q3]
   obtain⟨n6,hn6,hl6⟩:=ih (t.parents.length-c) (by omega) c fuel rfl q2 (by omega)
   rw[UG,hn6,bS]
   rcases hl6 with⟨p1,p2,p3⟩|⟨rfl,l1,l2,h1,h2,hne⟩
   .have e1:decide (n6<0)=false:=by simpa using p1
    rw[e1,Bool.false_or]
    by_cases h0:i=0
    .subst h0
     simp only[Int.natCast_zero,Int.lt_irrefl,decide_false,Bool.false_and,yM]
     refine hk n6 ⟨fun h=>by omega,fun _=>⟨p1,by omega,fun j c' hj hc' l hl=>?_⟩⟩
     have:j=0:=by omega
     subst this
     rw[hi]at hc';cases hc'
     rw[p3 l hl,hd];omega
    .have e2:decide ((0:Int)<(i:Int))=true:=by simp;omega
     obtain⟨r1,r2,r3⟩:=hI.2 (by omega)
     rw[e2,Bool.true_and]
     by_cases hv:n6=v
     .subst hv
      simp only[bne_self_eq_false,yM]
      refine hk n6 ⟨fun h=>by omega,fun _=>⟨p1,r2,fun j c' hj hc' l hl=>?_⟩⟩
      by_cases hji:j=i
      .subst hji
       rw[hi]at hc';cases hc'
       rw[p3 l hl,hd];omega
      .exact r3 j c' (by omega) hc' l hl
     .have e3:(n6 != v)=true:=by simpa using hv
      rw[e3,yN]
      refine⟨-1,rfl,.inr ⟨rfl,?_⟩⟩
      obtain⟨c0,hc0⟩:∃c0,(kids t.parents (s:Int))[0]?=some c0:=⟨_,yA (by have:=(yB hi).1;omega)⟩
      have hm0:=yE hc0
      obtain⟨w1,w2,w3,w4⟩:=T.kid_par hm0
      obtain⟨la,hla⟩:=T.some_leaf _ c0 rfl w2
      obtain⟨lb,hlb⟩:=T.some_leaf _ c rfl q2
      refine⟨la,lb,T.leaf_kid hm0 hla,T.leaf_kid hc hlb,fun e=>hv ?_⟩
      have a1:=r3 0 c0 (by omega) hc0 la hla
      have a2:=p3 lb hlb
      omega
   .refine⟨-1,by rfl,.inr ⟨rfl,l1,l2,T.leaf_kid hc h1,T.leaf_kid hc h2,hne⟩⟩
  .intro v hI
   rw[VG]
   by_cases h0:(kids t.parents (s:Int)).length=0
   .rw[hI.1 h0]
    refine⟨0,rfl,.inl ⟨by omega,by omega,fun l hl=>?_⟩⟩
    rcases T.leaf_cases hl with rfl|⟨c,hc,_⟩
    .omega
    .rw[List.eq_nil_of_length_eq_zero h0]at hc;cases hc
   .obtain⟨r1,r2,r3⟩:=hI.2 (by omega)
    rw[J3 (by omega)]
    refine⟨v+1,rfl,.inl ⟨by omega,by omega,fun l hl=>?_⟩⟩
    rcases T.leaf_cases hl with rfl|⟨c,hc,hlc⟩
    .have:=hl.leaf
     rw[this]at h0;simp at h0
    .obtain⟨j,hj⟩:=List.getElem?_of_mem hc
     rw[r3 j c (yB hj).1 hj l hlc];omega
theorem M06{t:Topo}(T:TreeP t.parents){s:Nat}(hs:s<t.parents.length):∃v,Ua t (s:Int)=some v/\LevP t.parents s v :=
 X0p T _ s _ rfl hs (by have:=T.le;omega)
structure TopoP(t:Topo):Prop where
 tree:TreeP t.parents
 nodes:t.nodes.length<=24
 node:∀x∈t.nodes,0<=x.leaf/\x.leaf<t.parents.length/\kids t.parents x.leaf=[]/\W0 x.cap=true
 even:∀l1 l2,l1<t.parents.length->l2<t.parents.length->kids t.parents (l1:Int)=[]->kids t.parents (l2:Int)=[]->dep t.parents l1=dep t.parents l2
theorem LR(t:Topo):∃b,Vj t=some b/\(b=true↔TopoP t):=by
 unfold Vj
 by_cases h1:t.parents.length<1
 .exact⟨false,by simp[show((t.parents.length:Int)<1) by omega],Ll fun h=>by have:=h.tree.pos;omega⟩
 by_cases h2:24<t.parents.length
 .exact⟨false,by simp[show((24:Int)<t.parents.length) by omega],Ll fun h=>by have:=h.tree.le;omega⟩
 by_cases h3:24<t.nodes.length
 .exact⟨false,by simp[show((24:Int)<t.nodes.length) by omega],Ll fun h=>by have:=h.nodes;omega⟩
 obtain⟨p0,hp0⟩:∃p0,t.parents[0]?=some p0:=⟨_,yA (by omega)⟩
 have e1:decide ((t.parents.length:Int)<1)=false:=by simp;omega
 have e2:decide ((24:Int)<(t.parents.length:Int))=false:=by simp;omega
 have e3:decide ((24:Int)<(t.nodes.length:Int))=false:=by simp;omega
 rw[e1,e2,e3]
 simp only[Bool.or_self,yM,Bool.false_or,show idx t.parents 0=some p0 from by rw[← hp0];exact V3 (i:=0),bS]
 by_cases h4:p0=0
 .subst h4
  simp only[bne_self_eq_false,yM]
  have h:=M0m (bd:=Up t) (fun(i:Nat) (_:Unit)=>(i:Int)) (n:=t.parents.length)
   (B:=fun x _ _ k=>bif (match t.parents[x]? with|some e=>decide (e<0)||decide ((x:Int)<=e)|none=>true)then some false else k ())
   (kk:=fun _=>rgl (Vp t) (MB t) t.nodes 0 ()) (fun i st k hi=>by
    obtain⟨e,he⟩:∃e,t.parents[i]?=some e:=⟨_,yA hi⟩
    have hlt:(i:Int)<(t.parents.length:Int):=by omega
    simp only[Up,hlt,decide_true,yN,V3,he,bS,W09 (n:=i) (by omega)])
   (fun i st k hi=>by
    have hlt:¬ (i:Int)<(t.parents.length:Int):=by omega
    simp only[Up,hlt,decide_false,yM]) 9223372036854775807 1 () (by omega)
  rw[show(1:Int)=((1:Nat):Int) from rfl,h,Xq (p:=fun(x:Nat)=>match t.parents[x]? with|some e=>decide (e<0)||decide ((x:Int)<=e)|none=>true) (fun x _ i k=>rfl)]
  cases hany:(List.range' 1 (t.parents.length-1)).any (fun(x:Nat)=>match t.parents[x]? with|some e=>decide (e<0)||decide ((x:Int)<=e)|none=>true)with
  |true =>
   refine⟨false,rfl,Ll fun hT=>?_⟩
   obtain⟨x,hx,hq⟩:=List.any_eq_true.1 hany
   obtain⟨j,hj,rfl⟩:=List.mem_range'.1 hx
   obtain⟨e,he⟩:∃e,t.parents[1+1*j]?=some e:=⟨_,yA (by omega)⟩
   have:=hT.tree.par _ (by omega) e he
   rw[he]at hq
   simp at hq
   omega
  |false =>
   have T:TreeP t.parents:=⟨by omega,by omega,hp0,fun i hi p hp=>by
    have hlt:i<t.parents.length:=(yB hp).1
    have:=List.any_eq_false.1 hany i (List.mem_range'.2 ⟨i-1,by omega,by omega⟩)
    rw[hp]at this
    simp at this
    omega⟩
   rw[yM]
   have hb:∀x∈t.nodes,∀i k,Vp t x i () k=bif (!(decide (0<=x.leaf)&&decide (x.leaf<t.parents.length)&&(kids t.parents x.leaf).isEmpty&&W0 x.cap))then some false else k ():=by
    intro x _ i k
    unfold Vp
    by_cases q1:x.leaf<0
    .simp[q1,show ¬ 0<=x.leaf by omega]
    .by_cases q2:(t.parents.length:Int)<=x.leaf
     .simp[q1,q2,show ¬ x.leaf<t.parents.length by omega]
     .rw[show decide (x.leaf<0)=false by simpa using q1,show decide ((t.parents.length:Int)<=x.leaf)=false by simpa using q2]
      simp only[Bool.or_self,yM,Bool.false_or,Yp t x.leaf (by omega),bS,List.length_map]
      rw[show decide (0<=x.leaf)=true by simpa using q1,show decide (x.leaf<(t.parents.length:Int))=true by simpa using q2]
      cases hk:kids t.parents x.leaf with
      |nil=>simp
      |cons a l=>simp
   rw[Xq hb]
   cases hany2:t.nodes.any (fun x=>!(decide (0<=x.leaf)&&decide (x.leaf<t.parents.length)&&(kids t.parents x.leaf).isEmpty&&W0 x.cap))with
   |true =>
    refine⟨false,rfl,Ll fun hT=>?_⟩
    obtain⟨x,hx,hq⟩:=List.any_eq_true.1 hany2
    obtain⟨a1,a2,a3,a4⟩:=hT.node x hx
    simp[a1,a2,a3,a4]at hq
   |false =>
    obtain⟨v,hv,hl⟩:=M06 T (s:=0) (by omega)
    rw[yM,MB,show(0:Int)=((0:Nat):Int) from rfl,hv,bS]
    have mem:∀l,l<t.parents.length->kids t.parents (l:Int)=[]->LeafP t.parents 0 l:=fun l h1 h2=>⟨h1,h2,T.zero_up l h1⟩
    refine⟨_,rfl,?_⟩
    rw[decide_eq_true_iff]
    constructor
    .intro h0
     refine⟨T,by omega,fun x hx=>?_,fun l1 l2 a1 a2 a3 a4=>?_⟩
     .have:=List.any_eq_false.1 hany2 x hx
      simpa[and_assoc]using this
     .rcases hl with⟨_,_,hl⟩|⟨rfl,_⟩
      .have:=hl l1 (mem l1 a1 a3)
       have:=hl l2 (mem l2 a2 a4)
       omega
      .simp at h0
    .intro hT
     rcases hl with⟨h0,_⟩|⟨rfl,l1,l2,a1,a2,hne⟩
     .exact h0
     .exact absurd (hT.even l1 l2 a1.lt a2.lt a1.leaf a2.leaf) hne
 .refine⟨false,by rw[show(p0 != 0)=true by simpa using h4];rfl,Ll fun h=>h4 ?_⟩
  have:=h.tree.root
  rw[hp0]at this;exact Option.some.inj this
theorem X0k(P:List Int)(s:Int)(hl:P.length<=1048576):QH P s=some (kids P s).isEmpty:=by
 unfold QH
 have h:=M0m (bd:=Wq P s) (fun(i:Nat) (_:Unit)=>(i:Int)) (n:=P.length)
  (B:=fun x _ _ k=>bif P[x]?==some s then some false else k ()) (kk:=fun _=>some true) (fun i st k hi=>by
   obtain⟨e,he⟩:∃e,P[i]?=some e:=⟨_,yA hi⟩
   have hlt:(i:Int)<(P.length:Int):=by omega
   simp only[Wq,hlt,decide_true,yN,V3,he,bS,W09 (n:=i) (by omega)]
   rw[show(some e==some s)=(e==s) from rfl])
  (fun i st k hi=>by
   have hlt:¬ (i:Int)<(P.length:Int):=by omega
   simp only[Wq,hlt,decide_false,yM]) 9223372036854775807 1 () (by omega)
 refine h.trans ?_
 rw[Xq (p:=fun(x:Nat)=>P[x]?==some s) (fun x _ i k=>rfl)]
 unfold kids
 generalize List.range' 1 (P.length-1)=l
 induction l with
 |nil=>rfl
 |cons x l ih =>
  rw[List.any_cons,List.filter_cons]
  cases h:(P[x]?==some s)with
  |true=>simp
  |false=>simpa using ih
theorem V04{P:List Int}(T:TreeP P){s:Nat}(hs:s<P.length):WH P (s:Int)=some (dep P s:Int):=by
 unfold WH
 refine QF (fun _ r=>r=some (dep P s:Int)) (fun b=>b.1.toNat) (fun b=>∃m:Nat,b.1=(m:Int)/\m<P.length/\b.2+(dep P m:Int)=(dep P s:Int)/\0<=b.2) ?_ 9223372036854775807 _ ⟨s,rfl,hs,by simp,by simp⟩ (by have:=T.le;simp only;omega)
 rintro⟨x,n⟩ k ⟨m,hm,h1,h2,h3⟩ hk
 simp only at hm h2 hk h3
 subst hm
 have hle:=T.le
 have hdl:=Z1C P s
 unfold QZ
 by_cases h0:0<m
 .have hp:=T.par_lt (i:=m) (by omega) h1
  have hlt:(0:Int)<(m:Int):=by omega
  simp only[hlt,decide_true,yN,V3,hp.2,bS]
  have hd:=T.dep_succ (i:=m) (by omega) h1
  rw[J3 (by omega)]
  refine hk _ ⟨_,rfl,by omega,by simp only;omega,by simp only;omega⟩ (by simp only;omega)
 .have:m=0:=by omega
  subst this
  rw[V1H]at h2
  simp only[Int.natCast_zero,Int.lt_irrefl,decide_false,yM]
  congr 1
  omega
theorem X0Q(t:Topo):∃b,Qj t=some b/\(b=true↔TopoP t):=by
 unfold Qj
 cases hw:Y0 (t.parents.length:Int) 1 24 with
 |false =>
  refine⟨false,by simp,Ll fun h=>?_⟩
  have:=h.tree.pos;have:=h.tree.le
  simp[Y0]at hw
  omega
 |true =>
 have hw':1<=t.parents.length/\t.parents.length<=24:=by simp[Y0]at hw;omega
 obtain⟨p0,hp0⟩:∃p0,t.parents[0]?=some p0:=⟨_,yA (by omega)⟩
 simp only[yL,yM,Bool.false_or,show idx t.parents 0=some p0 from by rw[← hp0];exact V3 (i:=0),bS]
 by_cases h4:p0=0
 rotate_left
 .refine⟨false,by rw[show(p0 != 0)=true by simpa using h4];rfl,Ll fun h=>h4 ?_⟩
  have:=h.tree.root
  rw[hp0]at this;exact Option.some.inj this
 subst h4
 by_cases h3:24<t.nodes.length
 .exact⟨false,by simp[show((24:Int)<t.nodes.length) by omega],Ll fun h=>by have:=h.nodes;omega⟩
 have e3:decide ((24:Int)<(t.nodes.length:Int))=false:=by simp;omega
 rw[e3]
 simp only[bne_self_eq_false,Bool.or_self,yM]
 have h:=M0m (bd:=Mq t) (fun(i:Nat) (_:Unit)=>(i:Int)) (n:=t.parents.length)
  (B:=fun x _ _ k=>bif (match t.parents[x]? with|some e=>!(Y0 e 0 (w64 ((x:Int)-1)))|none=>true)then some false else k ())
  (kk:=fun _=>rgl (MD t) (WD t) t.parents 0 (-1)) (fun i st k hi=>by
   obtain⟨e,he⟩:∃e,t.parents[i]?=some e:=⟨_,yA hi⟩
   have hlt:(i:Int)<(t.parents.length:Int):=by omega
   simp only[Mq,hlt,decide_true,yN,V3,he,bS,W09 (n:=i) (by omega)])
  (fun i st k hi=>by
   have hlt:¬ (i:Int)<(t.parents.length:Int):=by omega
   simp only[Mq,hlt,decide_false,yM]) 9223372036854775807 1 () (by omega)
 rw[show(1:Int)=((1:Nat):Int) from rfl,h,Xq (p:=fun(x:Nat)=>match t.parents[x]? with|some e=>!(Y0 e 0 (w64 ((x:Int)-1)))|none=>true) (fun x _ i k=>rfl)]
 cases hany:(List.range' 1 (t.parents.length-1)).any (fun(x:Nat)=>match t.parents[x]? with|some e=>!(Y0 e 0 (w64 ((x:Int)-1)))|none=>true)with
 |true =>
  refine⟨false,rfl,Ll fun hT=>?_⟩
  obtain⟨x,hx,hq⟩:=List.any_eq_true.1 hany
  obtain⟨j,hj,rfl⟩:=List.mem_range'.1 hx
  obtain⟨e,he⟩:∃e,t.parents[1+1*j]?=some e:=⟨_,yA (by omega)⟩
  have:=hT.tree.par _ (by omega) e he
  rw[he]at hq
  simp only at hq
  rw[J3 (by omega)]at hq
  simp[Y0]at hq
  omega
 |false =>
  have T:TreeP t.parents:=⟨by omega,by omega,hp0,fun i hi p hp=>by
   have hlt:i<t.parents.length:=(yB hp).1
   have:=List.any_eq_false.1 hany i (List.mem_range'.2 ⟨i-1,by omega,by omega⟩)
   rw[hp]at this
   simp only at this
   rw[J3 (by omega)]at this
   simp[Y0]at this
   omega⟩
  rw[yM]
  refine Mc (fun i (v:Int)=>(v = -1/\∀l,l<i->kids t.parents (l:Int)≠[])\/(0<=v/\(∃l,l<i/\kids t.parents (l:Int)=[])/\∀l,l<i->kids t.parents (l:Int)=[]->(dep t.parents l:Int)=v))
   (fun r=>∃b,r=some b/\(b=true↔TopoP t)) ?_ ?_ (.inl ⟨rfl,fun l hl=>by omega⟩)
  .intro i x v k hi hI hk
   have hil:i<t.parents.length:=(yB hi).1
   rw[MD,X0k _ _ (by omega),bS]
   cases hkd:kids t.parents (i:Int)with
   |cons a l =>
    simp only[List.isEmpty_cons,Bool.not_false,yN]
    refine hk v ?_
    rcases hI with⟨q1,q2⟩|⟨q1,⟨l0,q2,q3⟩,q4⟩
    .refine .inl ⟨q1,fun l hl=>?_⟩
     by_cases e:l=i
     .subst e;rw[hkd];simp
     .exact q2 l (by omega)
    .refine .inr ⟨q1,⟨l0,by omega,q3⟩,fun l hl hl2=>?_⟩
     by_cases e:l=i
     .subst e;rw[hkd]at hl2;cases hl2
     .exact q4 l (by omega) hl2
   |nil =>
    simp only[List.isEmpty_nil,yL,yM,V04 T hil,bS]
    have hnew:∀v',(∀l,l<i->kids t.parents (l:Int)=[]->(dep t.parents l:Int)=dep t.parents i)->v'=(dep t.parents i:Int)->(v' = -1/\∀l,l<i+1->kids t.parents (l:Int)≠[])\/(0<=v'/\(∃l,l<i+1/\kids t.parents (l:Int)=[])/\∀l,l<i+1->kids t.parents (l:Int)=[]->(dep t.parents l:Int)=v'):=by
     intro v' hq e
     subst e
     refine .inr ⟨by omega,⟨i,by omega,hkd⟩,fun l hl hl2=>?_⟩
     by_cases e:l=i
     .subst e;rfl
     .exact hq l (by omega) hl2
    rcases hI with⟨rfl,q2⟩|⟨q1,⟨l0,q2,q3⟩,q4⟩
    .simp only[show decide ((0:Int)<=-1)=false from rfl,Bool.false_and,yM]
     exact hk _ (hnew _ (fun l hl hl2=>absurd hl2 (q2 l hl)) rfl)
    .by_cases he:(dep t.parents i:Int)=v
     .rw[he]
      simp only[bne_self_eq_false,Bool.and_false,yM]
      exact hk _ (hnew _ (fun l hl hl2=>by rw[q4 l hl hl2,he]) he.symm)
     .have e1:((dep t.parents i:Int)!=v)=true:=by simpa using he
      rw[e1,show decide (0<=v)=true by simpa using q1]
      refine⟨false,rfl,Ll fun hT=>he ?_⟩
      rw[← q4 l0 q2 q3]
      exact_mod_cast hT.even i l0 hil (by omega) hkd q3
  .intro v hI
   rw[WD]
   have hb:∀x∈t.nodes,∀i k,OD t x i () k=bif (!(decide (0<=x.leaf)&&decide (x.leaf<t.parents.length)&&(kids t.parents x.leaf).isEmpty&&W0 x.cap))then some false else k ():=by
    intro x _ i k
    unfold OD
    rw[J3 (by omega)]
    by_cases q1:x.leaf<0
    .simp[Y0,show ¬ 0<=x.leaf by omega]
    .by_cases q2:(t.parents.length:Int)<=x.leaf
     .simp[Y0,show ¬ x.leaf<t.parents.length by omega,show ¬ x.leaf<=(t.parents.length:Int)-1 by omega]
     .have e:Y0 x.leaf 0 ((t.parents.length:Int)-1)=true:=by simp[Y0];omega
      rw[e]
      simp only[yL,yM,Bool.false_or,X0k t.parents x.leaf (by omega),bS,Zn]
      rw[show decide (0<=x.leaf)=true by simpa using q1,show decide (x.leaf<(t.parents.length:Int))=true by simpa using q2]
      cases(kids t.parents x.leaf).isEmpty<;>cases W0 x.cap<;>rfl
   rw[Xq hb]
   cases hany2:t.nodes.any (fun x=>!(decide (0<=x.leaf)&&decide (x.leaf<t.parents.length)&&(kids t.parents x.leaf).isEmpty&&W0 x.cap))with
   |true =>
    refine⟨false,rfl,Ll fun hT=>?_⟩
    obtain⟨x,hx,hq⟩:=List.any_eq_true.1 hany2
    obtain⟨a1,a2,a3,a4⟩:=hT.node x hx
    simp[a1,a2,a3,a4]at hq
   |false =>
    refine⟨true,rfl,⟨fun _=>⟨T,by omega,fun x hx=>?_,fun l1 l2 a1 a2 a3 a4=>?_⟩,fun _=>rfl⟩⟩
    .have:=List.any_eq_false.1 hany2 x hx
     simpa[and_assoc]using this
    .rcases hI with⟨_,q2⟩|⟨q1,_,q4⟩
     .exact absurd a3 (q2 l1 a1)
     .have:=q4 l1 a1 a3
      have:=q4 l2 a2 a4
      omega
theorem Xo(t:Topo):Qj t=Vj t:=by
 obtain⟨a,h1,h2⟩:=X0Q t
 obtain⟨b,h3,h4⟩:=LR t
 rw[h1,h3]
 congr 1
 exact Bool.eq_iff_iff.2 (h2.trans h4.symm)
noncomputable def topoOk(t:Topo):Bool:=(Vj t).getD false
theorem Qd(t:Topo):Vj t=some (topoOk t):=by
 obtain⟨b,h3,_⟩:=LR t
 rw[topoOk,h3];rfl
theorem Lj{t:Topo}:topoOk t=true↔TopoP t:=by
 obtain⟨b,h3,h4⟩:=LR t
 rw[topoOk,h3];exact h4
theorem TopoP.last{t:Topo}(h:TopoP t):kids t.parents ((t.parents.length-1:Nat):Int)=[]:=by
 cases hk:kids t.parents ((t.parents.length-1:Nat):Int)with
 |nil=>rfl
 |cons c l =>
  obtain⟨q1,q2,q3,q4⟩:=h.tree.kid_par (s:=t.parents.length-1) (c:=c) (by rw[hk];exact yJ ..)
  omega
def lev(t:Topo)(s:Nat):Int:=(dep t.parents (t.parents.length-1):Int)-dep t.parents s
theorem Yi{t:Topo}(h:TopoP t){s:Nat}(hs:s<t.parents.length):Ua t (s:Int)=some (lev t s):=by
 obtain⟨v,h1,h2⟩:=M06 h.tree hs
 rw[h1]
 have hp:=h.tree.pos
 obtain⟨l,hl⟩:=h.tree.some_leaf _ s rfl hs
 rcases h2 with⟨_,_,h2⟩|⟨_,l1,l2,a1,a2,hne⟩
 .have e1:=h2 l hl
  have e2:=h.even l (t.parents.length-1) hl.lt (by omega) hl.leaf h.last
  unfold lev
  congr 1
  omega
 .exact absurd (h.even l1 l2 a1.lt a2.lt a1.leaf a2.leaf) hne
theorem VU{t:Topo}(h:TopoP t){s:Nat}(hs:s<t.parents.length):VH t (s:Int)=some (lev t s):=by
 have hp:=h.tree.pos
 have hle:=h.tree.le
 unfold VH Y04
 rw[J3 (by omega),show((t.parents.length:Int)-1)=((t.parents.length-1:Nat):Int) by omega,V04 h.tree (by omega),bS,bS,V04 h.tree hs,bS]
 have:=Z1C t.parents (t.parents.length-1)
 have:=Z1C t.parents s
 rw[J3 (by omega)];rfl
theorem O11{t:Topo}(T:TreeP t.parents){s:Nat}(hs:s<t.parents.length):Qy t (s:Int)=some ((ups t.parents s).map fun(i:Nat)=>(i:Int)):=by
 unfold Qy
 refine QF (fun _ r=>r=some ((ups t.parents s).map fun(i:Nat)=>(i:Int))) (fun b=>b.1.toNat) (fun b=>∃m:Nat,b.1=(m:Int)/\m<t.parents.length/\b.2.length+m<=1000/\∃l,b.2=l++[(m:Int)]/\(ups t.parents s).map (fun(i:Nat)=>(i:Int))=l++(ups t.parents m).map fun(i:Nat)=>(i:Int)) ?_ 9223372036854775807 _ ⟨s,rfl,hs,by have:=T.le;simp;omega,[],by simp⟩ (by have:=T.le;simp only;omega)
 rintro⟨x,n⟩ k ⟨m,hm,h1,h2,l,h3,h4⟩ hk
 simp only at hm h2 hk h3
 subst hm
 have hle:=T.le
 unfold XY
 by_cases h0:0<m
 .have hp:=T.par_lt (i:=m) (by omega) h1
  have hlt:(0:Int)<(m:Int):=by omega
  simp only[hlt,decide_true,yN,V3,hp.2,bS]
  rw[M0 (by simp;omega),bS]
  refine hk _ ⟨_,rfl,by omega,by simp;omega,n,rfl,?_⟩ (by simp only;omega)
  rw[h4,h3,T.ups_succ (by omega) h1]
  simp
 .have:m=0:=by omega
  subst this
  simp only[Int.natCast_zero,Int.lt_irrefl,decide_false,yM]
  rw[h4,h3,X11];rfl
theorem L17(t:Topo)(s:Int):J0h t s=Qy t s:=rfl
theorem Ud(l:List Int)(n:Int):Vc l n=some (l.contains n):=by
 unfold Vc
 rw[Xq (p:=fun x=>x==n) (fun x _ i k=>rfl)]
 unfold OR
 rw[show l.contains n=l.any (fun x=>x==n) from by rw[List.contains_eq_any_beq];congr 1;funext x;exact Bool.beq_comm]
 cases l.any fun x=>x==n<;>rfl
theorem Z0L(l:List Int)(n:Int):∃r:Int,Zd l n=some r/\decide (0<=r)=l.contains n:=by
 unfold Zd
 refine Mc (fun i (_:Unit)=>∀j x,j<i->l[j]?=some x->x≠n) (fun r=>∃m:Int,r=some m/\decide (0<=m)=l.contains n) ?_ ?_ (fun j x h=>by omega)
 .intro i x b k hi hI hk
  unfold Yl
  by_cases h:n=x
  .subst h
   simp only[beq_self_eq_true,yN]
   refine⟨i,rfl,?_⟩
   have:l.contains n=true:=List.contains_iff_mem.2 (yE hi)
   rw[this];simp
  .rw[show(n==x)=false by simpa using h,yM]
   refine hk () fun j y hj hy=>?_
   by_cases e:j=i
   .subst e;rw[hi]at hy;cases hy;exact fun e=>h e.symm
   .exact hI j y (by omega) hy
 .intro b hI
  refine⟨-1,rfl,?_⟩
  have:l.contains n=false:=by
   rw[Bool.eq_false_iff]
   intro h
   obtain⟨j,hj⟩:=List.getElem?_of_mem (List.contains_iff_mem.1 h)
   exact hI j n (yB hj).1 hj rfl
  rw[this];rfl
theorem ZW(l:List Int)(n:Int):M6 l n=some (l.contains n):=by
 obtain⟨r,h1,h2⟩:=Z0L l n
 unfold M6
 rw[h1,bS,h2]
noncomputable def U7(t:Topo)(l:List Int):Bool:=l.all (fun n=>decide (0<=n)&&decide (n<t.nodes.length))&&topoOk t
theorem Y8{t:Topo}{l:List Int}:U7 t l=true↔TopoP t/\∀n∈l,0<=n/\n<t.nodes.length:=by
 simp[U7,Lj,and_comm]
theorem Uw(t:Topo)(l:List Int):Zi t l=some (U7 t l):=by
 unfold Zi U7
 rw[Xq (r:=some false) (p:=fun(x:Int)=>!(decide (0<=x)&&decide (x<t.nodes.length))) (fun x _ i k=>by
  unfold Ys
  by_cases h1:x<0
  .simp[h1,show ¬ 0<=x by omega]
  .by_cases h2:(t.nodes.length:Int)<=x
   .simp[h1,h2,show 0<=x by omega,show ¬ x<t.nodes.length by omega]
   .simp[h1,h2,show 0<=x by omega,show x<t.nodes.length by omega])]
 unfold Zs
 rw[Qd,← List.not_all_eq_any_not]
 cases l.all fun n=>decide (0<=n)&&decide (n<t.nodes.length)<;>rfl
theorem L07(t:Topo)(l:List Int)(hl:t.nodes.length<=1048576):Yt t l=some (U7 t l):=by
 rw[← Uw]
 unfold Yt Zi
 refine Q0L (fun i x b k _=>?_) fun b=>?_
 .unfold LH Ys
  rw[J3 (by omega)]
  by_cases h1:x<0
  .simp[Y0,h1,show ¬ 0<=x by omega]
  .by_cases h2:(t.nodes.length:Int)<=x
   .simp[Y0,h1,h2,show 0<=x by omega,show ¬ x<=(t.nodes.length:Int)-1 by omega]
   .simp[Y0,h1,h2,show 0<=x by omega,show x<=(t.nodes.length:Int)-1 by omega]
 .unfold MH Zs
  rw[Xo]
def hasUp(t:Topo)(n:Int)(s:Nat):Bool:=match idx t.nodes n with
 |some e=>((ups t.parents e.leaf.toNat).map fun(i:Nat)=>(i:Int)).contains (s:Int)
 |none=>false
theorem Y0A{t:Topo}{l:List Int}(h:U7 t l=true){n:Int}(hn:n∈l):∃(e:Node) (m:Nat),idx t.nodes n=some e/\e.leaf=m/\m<t.parents.length:=by
 obtain⟨h1,h2⟩:=Y8.1 h
 obtain⟨e,q1,q2⟩:=Ji (l:=t.nodes) (i:=n) (h2 n hn).1 (h2 n hn).2
 obtain⟨a1,a2,_,_⟩:=h1.node e (yE q2)
 exact⟨e,e.leaf.toNat,q1,by omega,by omega⟩
theorem X18{t:Topo}{l:List Int}(h:U7 t l=true){n:Int}(hn:n∈l)(s:Nat){γ:Type}(f:Bool->Option γ) :
  ((idx t.nodes n).bind fun e=>(Qy t e.leaf).bind fun y=>(Vc y (s:Int)).bind f)=f (hasUp t n s):=by
 obtain⟨e,m,q1,q2,q3⟩:=Y0A h hn
 have T:=(Y8.1 h).1.tree
 unfold hasUp
 rw[q1,bS,q2,O11 T q3,bS,Ud,bS]
 simp[q2]
theorem U1r{t:Topo}{l:List Int}(h:U7 t l=true){n:Int}(hn:n∈l):hasUp t n 0=true:=by
 obtain⟨e,m,q1,q2,q3⟩:=Y0A h hn
 have T:=(Y8.1 h).1.tree
 unfold hasUp
 rw[q1]
 simp only[List.contains_iff_mem,q2]
 exact List.mem_map.2 ⟨0,T.zero_up _ (by simpa using q3),rfl⟩
theorem Y19(p:Int->Bool):∀(l:List Int) (v:Bool),l.foldl (fun v x=>v&&p x) v=(v&&l.all p)
 |[],v=>by simp
 |x::l,v=>by rw[List.foldl_cons,Y19 p l,List.all_cons,Bool.and_assoc]
theorem O1D{t:Topo}{l:List Int}(h:U7 t l=true)(s:Nat)(v5:Int)(k:Int->Option Int) :
  rgl (Zq t s) (Lk t v5 s k) l 0 true=Lk t v5 s k (l.all fun n=>hasUp t n s) /\
  rgl (Lq t s) (Wl t v5 s k) l 0 true=Wl t v5 s k (l.all fun n=>hasUp t n s):=by
 constructor
 .rw[Z01 (f:=fun v x=>v&&hasUp t x s) (fun x hx i b k=>by
   unfold Zq
   rw[X18 h hx s (fun b10=>bif (!b10)then k false else k b)]
   cases hasUp t x s<;>simp),Y19,Bool.true_and]
 .rw[Z01 (f:=fun v x=>v&&hasUp t x s) (fun x hx i b k=>by
   unfold Lq
   cases b with
   |false=>simp only[yM,Bool.false_and];rfl
   |true =>
    simp only[yN,Bool.true_and]
    rw[← X18 h hx s k]
    congr 1;funext e;rw[L17];congr 1;funext y;rw[ZW,Ud]),Y19,Bool.true_and]
theorem X1j{t:Topo}{l:List Int}(h:U7 t l=true)(hne:l≠[]):∃s:Nat,s<t.parents.length/\Qx t l=some (s:Int)/\QI t l=some (s:Int):=by
 have hT:=(Y8.1 h).1
 have hnl:=hT.nodes
 have hpos:=hT.tree.pos
 have e1:((l.length:Int)==0)=false:=by
  cases l with
  |nil=>exact absurd rfl hne
  |cons a l=>simp;omega
 have step:∀(i:Nat) (b:Int) (k:Int->Option Int),i<t.parents.length->(b = -1\/∃s:Nat,b=s/\s<t.parents.length) ->
   rgl (Zq t i) (Lk t b i k) l 0 true=k (bif (l.all fun n=>hasUp t n i)&&(decide (b<0)||decide (lev t i<=lev t b.toNat))then(i:Int)else b) /\
   rgl (Lq t i) (Wl t b i k) l 0 true=k (bif (l.all fun n=>hasUp t n i)&&(decide (b<0)||decide (lev t i<=lev t b.toNat))then(i:Int)else b):=by
  intro i b k hi hb
  obtain⟨q1,q2⟩:=O1D h i b k
  rw[q1,q2]
  unfold Lk Wl
  cases hall:l.all fun n=>hasUp t n i with
  |false=>exact⟨rfl,rfl⟩
  |true =>
   rcases hb with rfl|⟨s,rfl,hs⟩
   .exact⟨rfl,rfl⟩
   .have hn:decide ((s:Int)<0)=false:=by simp
    simp only[hn,yN,yM,Bool.true_and,Bool.false_or,Yi hT hi,Yi hT hs,VU hT hi,VU hT hs,bS,yZ]
    cases decide (lev t i<=lev t s)<;>exact⟨rfl,rfl⟩
 have fin:∀(bd:Int->Nat->Int->(Int->Option Int)->Option Int) (kk:Int->Option Int),kk=some->(∀(x:Int) (i:Nat) (b:Int) (k:Int->Option Int),i<t.parents.length->(b = -1\/∃s:Nat,b=s/\s<t.parents.length)->bd x i b k=k (bif (l.all fun n=>hasUp t n i)&&(decide (b<0)||decide (lev t i<=lev t b.toNat))then(i:Int)else b)) ->
   ∃s:Nat,s<t.parents.length/\rgl bd kk t.parents 0 (-1)=some (s:Int):=by
  intro bd kk hkk hbd
  refine Mc (fun i (b:Int)=>(i=0/\b = -1)\/(0<i/\∃s:Nat,b=s/\s<t.parents.length)) (fun r=>∃s:Nat,s<t.parents.length/\r=some (s:Int)) ?_ ?_ (.inl ⟨rfl,rfl⟩)
  .intro i x b k hi hI hk
   have hil:=(yB hi).1
   rw[hbd x i b k hil (by rcases hI with h|h;exact .inl h.2;exact .inr h.2)]
   refine hk _ (.inr ⟨by omega,?_⟩)
   rcases hI with⟨rfl,rfl⟩|⟨_,s,rfl,hs⟩
   .rw[show(l.all fun n=>hasUp t n 0)=true from List.all_eq_true.2 fun n hn=>U1r h hn]
    exact⟨0,rfl,hpos⟩
   .cases((l.all fun n=>hasUp t n i)&&(decide ((s:Int)<0)||decide (lev t i<=lev t (s:Int).toNat)))with
    |true=>exact⟨i,rfl,hil⟩
    |false=>exact⟨s,rfl,hs⟩
  .intro b hI
   rcases hI with⟨h0,_⟩|⟨_,s,rfl,hs⟩
   .omega
   .exact⟨s,hs,by rw[hkk]⟩
 have eq:rgl (LE t l) LU t.parents 0 (-1)=rgl (Jk t l) YC t.parents 0 (-1):=by
  refine X13 (fun i (b c:Int)=>b=c/\(b = -1\/∃s:Nat,b=s/\s<t.parents.length)) rfl (fun i x y b c k k2 hx hy hr hk=>?_) (fun b c hr=>by rw[hr.1];rfl) ⟨rfl,.inl rfl⟩
  obtain⟨rfl,hb⟩:=hr
  have hil:=(yB hx).1
  unfold LE Jk
  rw[(step i b k hil hb).2,(step i b k2 hil hb).1]
  refine hk _ _ ⟨rfl,?_⟩
  cases((l.all fun n=>hasUp t n i)&&(decide (b<0)||decide (lev t i<=lev t b.toNat)))with
  |true=>exact .inr ⟨i,rfl,hil⟩
  |false=>exact hb
 obtain⟨s,h1,h2⟩:=fin (Jk t l) YC rfl fun x i b k hi hb=>by unfold Jk;exact(step i b k hi hb).1
 refine⟨s,h1,?_,?_⟩
 .unfold Qx
  rw[Uw,h,bS,e1]
  exact h2
 .unfold QI
  rw[L07 t l (by omega),h,bS,e1]
  exact eq.trans h2
def WV(p:Int):Str:=[115,119,105,116,99,104,32]++numText p++[10]
def QW(x:Node):Str:=[110,111,100,101,32]++numText x.leaf++[32]++Q4 x.cap++[10]
noncomputable def Qm(t:Topo):Str:=if topoOk t=true then(t.parents.drop 1).flatMap WV++t.nodes.flatMap QW else[]
theorem Y1v{α γ:Type}{bd:α->Nat->Str->(Str->Option γ)->Option γ}{kk:Str->Option γ}{f:α->Str}{c:Nat}:∀{l:List α} {i:Nat} {s:Str},(∀x∈l,(f x).length<=c) ->
  (∀x∈l,∀i s k,s.length+c<=4611686018427387904->bd x i s k=k (s++f x))->s.length+l.length*c<=4611686018427387904->rgl bd kk l i s=kk (s++l.flatMap f)
 |[],_,s,_,_,_=>by simp[rgl]
 |x::l,i,s,h1,h2,h3=>by
  have h0:s.length+c+l.length*c<=4611686018427387904:=by simp only[yT,Nat.add_mul,Nat.one_mul]at h3;omega
  have hx:=h1 x (yJ ..)
  rw[rgl,h2 x (yJ ..) i s _ (by omega),Y1v (c:=c) (fun y hy=>h1 y (yH _ hy)) (fun y hy=>h2 y (yH _ hy)) (by simp;omega)]
  simp
theorem X0h{α γ:Type}{bd:α->Nat->Str->(Str->Option γ)->Option γ}{kk:Str->Option γ}{f:α->Str}(c:Nat){l:List α}{i:Nat}{s:Str}(h1:∀x∈l,(f x).length<=c)
  (h2:∀x∈l,∀i s k,s.length+c<=4611686018427387904->bd x i s k=k (s++f x)) (h3:s.length+l.length*c<=4611686018427387904):rgl bd kk l i s=kk (s++l.flatMap f):=Y1v h1 h2 h3
theorem O09(p:Int):(WV p).length<=64:=by have:=U2 p;simp[WV];omega
theorem X0A(x:Node):(QW x).length<=64:=by have:=U2 x.leaf;have:=Yj x.cap;simp[QW];omega
theorem VX{α:Type}(f:α->Str)(c:Nat):∀(l:List α),(∀x∈l,(f x).length<=c)->(l.flatMap f).length<=l.length*c
 |[],_=>by simp
 |x::l,h=>by
  have:=VX f c l fun y hy=>h y (yH _ hy)
  have:=h x (yJ ..)
  simp only[ya,yU,yT,Nat.add_mul,Nat.one_mul];omega
theorem QV(t:Topo):(Qm t).length<=4096:=by
 unfold Qm
 split
 .rename_i h
  have h:=Lj.1 h
  have h1:=VX WV 64 (t.parents.drop 1) fun x _=>O09 x
  have h2:=VX QW 64 t.nodes fun x _=>X0A x
  have:=h.tree.le;have:=h.nodes
  rw[yU]
  simp only[List.length_drop]at h1;omega
 .simp
theorem ZN(t:Topo):Xt t=some (Qm t):=by
 unfold Xt Qm
 rw[Xo,Qd,bS]
 cases ht:topoOk t with
 |false=>rfl
 |true =>
  have hT:=Lj.1 ht
  have hle:=hT.tree.le
  have hpos:=hT.tree.pos
  have hn:=hT.nodes
  rw[yd rfl]
  have hcut:cutL t.parents (some 1) none=some (t.parents.drop 1):=by
   unfold cutL bhi blo
   simp only
   rw[yd (by omega)]
   simp
  simp only[yL,yM,hcut,bS]
  rw[X0h 64 (f:=WV) (fun x _=>O09 _) (fun x hx i s k hs=>by
   have:=U2 x
   unfold XI
   rw[O3 (by simp;omega),bS,Xb,bS,O3 (by simp;omega),bS,O3 (by simp;omega),bS]
   simp only[WV,List.append_assoc]) (by simp;omega)]
  unfold JH
  have hl1:=VX WV 64 (t.parents.drop 1) fun x _=>O09 x
  simp only[List.length_drop]at hl1
  rw[X0h 64 (f:=QW) (fun x _=>X0A _) (fun x hx i s k hs=>by
   have:=U2 x.leaf
   have:=Yj x.cap
   unfold YI
   rw[O3 (by simp;omega),bS,Xb,bS,O3 (by simp;omega),bS,O3 (by simp;omega),bS,UU,bS,O3 (by simp;omega),bS,O3 (by simp;omega),bS]
   simp only[QW,List.append_assoc]) (by simp only[List.nil_append];omega)]
  rfl
theorem L18(n:Nat):(dgt n).toNat=48+n % 10:=by unfold dgt;rw[UInt8.toNat_ofNat'];omega
def V09(c:UInt8):Prop:=48<=c.toNat/\c.toNat<=57
theorem L1K(n:Nat):∀c∈dg n,V09 c:=by
 induction n using Nat.strongRecOn with
 |_ n ih =>
  by_cases h:n<10
  .rw[J1B h]
   intro c hc
   rw[List.mem_singleton.1 hc];unfold V09;rw[L18];omega
  .rw[X1H (by omega)]
   intro c hc
   rcases List.mem_append.1 hc with hc|hc
   .exact ih (n / 10) (by omega) c hc
   .rw[List.mem_singleton.1 hc];unfold V09;rw[L18];omega
def dval(l:Str):Nat:=l.foldl (fun a c=>10*a+(c.toNat-48)) 0
theorem O1R(n:Nat):dval (dg n)=n:=by
 induction n using Nat.strongRecOn with
 |_ n ih =>
  by_cases h:n<10
  .rw[J1B h];simp[dval,L18];omega
  .have:=ih (n / 10) (by omega)
   rw[X1H (by omega)]
   unfold dval at this ⊢
   rw[List.foldl_append,this]
   simp[L18];omega
theorem Y0c{n:Int}(h:time n=true):numText n=dg n.toNat:=by unfold numText;rw[yd h]
theorem V1E{n:Int}(h:time n=true):0<=n/\n<=1000000000:=by simpa[time]using h
theorem Uu{n:Int}{c:UInt8}(hc:¬ V09 c):c∉numText n:=by
 unfold numText
 split
 .exact fun h=>hc (L1K _ c h)
 .simp
theorem no10:¬ V09 10:=by unfold V09;decide
theorem no32:¬ V09 32:=by unfold V09;decide
theorem no47:¬ V09 47:=by unfold V09;decide
theorem Y1p{v:Vec}(h:W0 v=true):time v.a=true/\time v.b=true/\time v.c=true:=by
 have h':(0<=v.a/\v.a<=1000000)/\(0<=v.b/\v.b<=1000000)/\(0<=v.c/\v.c<=1000000):=by
  simp[W0,Y9]at h;omega
 simp[time];omega
theorem Z1p{v:Vec}(h:W0 v=true):Q4 v=numText v.a++47::(numText v.b++47::numText v.c):=by
 unfold Q4;rw[yd h];simp
theorem L19{v:Vec}{c:UInt8}(hc:¬ V09 c)(h47:c≠47):c∉Q4 v:=by
 unfold Q4
 split
 .simp[Uu hc,h47]
 .simp
theorem TopoP.times{t:Topo}(h:TopoP t):(∀x∈t.parents.drop 1,time x=true)/\∀x∈t.nodes,time x.leaf=true/\W0 x.cap=true:=by
 have hle:=h.tree.le
 refine⟨fun x hx=>?_,fun x hx=>?_⟩
 .obtain⟨i,hi⟩:=List.getElem?_of_mem hx
  rw[List.getElem?_drop]at hi
  have h1:=h.tree.par (1+i) (by omega) x hi
  have h2:=(yB hi).1
  unfold time;rw[yD,yO,yO];omega
 .obtain⟨q1,q2,_,q4⟩:=h.node x hx
  exact⟨by unfold time;rw[yD,yO,yO];omega,q4⟩
def O5(c:UInt8):Str->List Str
 |[]=>[[]]
 |x::s=>if x=c then[]::O5 c s else match O5 c s with
  |[]=>[[x]]
  |a::r=>(x::a)::r
theorem LQ{c:UInt8}:∀{a:Str},c∉a->O5 c a=[a]
 |[],_=>rfl
 |x::a,h=>by
  simp only[List.mem_cons,not_or]at h
  rw[O5,ye (Ne.symm h.1),LQ h.2]
theorem Vb{c:UInt8}{r:Str}:∀{a:Str},c∉a->O5 c (a++c::r)=a::O5 c r
 |[],_=>by rw[List.nil_append,O5,yd rfl]
 |x::a,h=>by
  simp only[List.mem_cons,not_or]at h
  rw[List.cons_append,O5,ye (Ne.symm h.1),Vb h.2]
def headF(w:Str):List Str->List Str
 |[]=>[w]
 |x::r=>(w++x)::r
theorem V1r(w:Str)(x:UInt8)(l:List Str):headF (w++[x]) l=headF w (match l with
  |[]=>[[x]]
  |a::r=>(x::a)::r):=by cases l<;>simp[headF]
theorem XW{s:Str}{c:UInt8}(hs:s.length<=1048576):W8 s (c.toNat:Int)=some (O5 c s):=by
 unfold W8
 have key:∀(n:Nat) (st i:Nat) (out:List Str) (f:Nat),s.length-i=n->st<=i->i<=s.length->out.length<=i->n<f->whl (Vv s (c.toNat:Int)) f ((st:Int),(i:Int),out)=some (out++headF ((s.take i).drop st) (O5 c (s.drop i))):=by
  intro n
  induction n with
  |zero =>
   intro st i out f hn h1 h2 h3 hf
   obtain⟨f,rfl⟩:∃g,f=g+1:=⟨f-1,by omega⟩
   have hi:i=s.length:=by omega
   subst hi
   rw[whl,Vv]
   simp only[Int.lt_irrefl,decide_false,yM]
   have e:cutL s (some (st:Int)) none=some (s.drop st):=by
    have a1:(0:Int)<=(st:Int)/\(st:Int)<=(s.length:Int):=by omega
    simp[cutL,bhi,blo,h1]
   rw[e,bS,M0 (by simp;omega)]
   simp[O5,headF]
  |succ n ih =>
   intro st i out f hn h1 h2 h3 hf
   obtain⟨f,rfl⟩:∃g,f=g+1:=⟨f-1,by omega⟩
   have hi:i<s.length:=by omega
   rw[whl,Vv]
   rw[show decide ((i:Int)<(s.length:Int))=true by simp;omega,yN,V3,yA hi,bS,W09 (by omega),List.drop_eq_getElem_cons hi,O5]
   by_cases hc:s[i]=c
   .rw[hc,beq_self_eq_true,yN,yd rfl]
    have e:cutL s (some (st:Int)) (some (i:Int))=some ((s.take i).drop st):=by
     simp[cutL,bhi,blo,h1,h2]
    rw[e,bS,M0 (by simp;omega),bS,ih (i+1) (i+1) _ f (by omega) (by omega) (by omega) (by simp;omega) (by omega)]
    have e2:(s.take (i+1)).drop (i+1)=[]:=List.drop_eq_nil_of_le (by simp;omega)
    rw[e2]
    have e3:headF [] (O5 c (s.drop (i+1)))=O5 c (s.drop (i+1)):=by
     cases hx:O5 c (s.drop (i+1))with
     |nil =>
      exfalso
      cases hd:s.drop (i+1)with
      |nil=>rw[hd]at hx;cases hx
      |cons y r =>
       rw[hd,O5]at hx
       split at hx
       .cases hx
       .split at hx<;>cases hx
     |cons y r=>simp[headF]
    rw[e3]
    simp[headF]
   .have hne:((s[i].toNat:Int)==(c.toNat:Int))=false:=beq_eq_false_iff_ne.2 fun e=>hc (UInt8.toNat_inj.1 (by omega))
    rw[hne,yM,ye hc,ih st (i+1) out f (by omega) (by omega) (by omega) (by omega) (by omega)]
    have e2:(s.take (i+1)).drop st=(s.take i).drop st++[s[i]]:=by
     rw[List.take_succ_eq_append_getElem hi,List.drop_append_of_le_length (by simp;omega)]
    rw[e2,V1r]
 have:=key s.length 0 0 [] 9223372036854775807 (by omega) (by omega) (by omega) (by simp) (by omega)
 rw[show((0:Nat):Int)=0 from rfl]at this
 rw[this]
 cases hx:O5 c s with
 |nil =>
  exfalso
  cases s with
  |nil=>cases hx
  |cons y r =>
   rw[O5]at hx
   split at hx
   .cases hx
   .split at hx<;>cases hx
 |cons y r=>simp[headF,hx]
theorem O1B:∀(s:Str) (a:Nat),(∀c∈s,V09 c)->s.foldl (fun a c=>10*a+(c.toNat-48)) a<(a+1)*10 ^ s.length
 |[],a,_=>by simp
 |c::s,a,h=>by
  have h1:=O1B s (10*a+(c.toNat-48)) fun x hx=>h x (by simp[hx])
  have h2:=h c (by simp)
  unfold V09 at h2
  rw[List.foldl_cons,yT,Nat.pow_succ]
  refine Nat.lt_of_lt_of_le h1 ?_
  have h3:10*a+(c.toNat-48)+1<=(a+1)*10:=by omega
  calc (10*a+(c.toNat-48)+1)*10 ^ s.length<=((a+1)*10)*10 ^ s.length:=Nat.mul_le_mul_right _ h3
   _=(a+1)*(10 ^ s.length*10):=by rw[Nat.mul_assoc,Nat.mul_comm 10]
theorem W1R{s:Str}(h:∀c∈s,V09 c)(hl:s.length<=10):dval s<10000000000:=by
 have h1:=O1B s 0 h
 have h2:10 ^ s.length<=10 ^ 10:=Nat.pow_le_pow_right (by omega) hl
 unfold dval
 omega
theorem LC{n:Int}(h:time n=true):W4 (numText n)=some (n,true):=by
 have hd:∀c∈numText n,V09 c:=by rw[Y0c h];exact L1K _
 have hv:((dval (numText n):Nat):Int)=n:=by
  have:=V1E h
  rw[Y0c h,O1R];omega
 have hl:=U2 n
 have hne:1<=(numText n).length:=by
  rw[Y0c h,dg]
  split<;>simp
 unfold W4 Y0
 rw[show(decide ((1:Int)<=((numText n).length:Int))&&decide (((numText n).length:Int)<=10))=true by simp;omega]
 simp only[yL,yM]
 have hN:=Xb n
 revert hd hv hl hN
 generalize hs:numText n=s
 intro hd hv hl hN
 refine QF (fun _ (o:Option (Int×Bool))=>o=some (n,true)) (fun v:Int×Int=>((s.length:Int)-v.2).toNat) (fun v=>∃i:Nat,i<=s.length/\v=(((dval (s.take i):Nat):Int),(i:Int))) (fun v k hI hk=>?_) _ _ ⟨0,by omega,by simp[dval]⟩ (by simp only;omega)
 obtain⟨i,hi,rfl⟩:=hI
 unfold Zx
 dsimp only
 by_cases hlt:i<s.length
 .have hc:=hd s[i] (List.getElem_mem hlt)
  unfold V09 at hc
  have hb:=W1R (s:=s.take i) (fun c hc=>hd c (List.mem_of_mem_take hc)) (by simp;omega)
  rw[show decide ((i:Int)<(s.length:Int))=true by simp;omega,yN,V3,yA hlt,bS]
  rw[show(decide ((s[i].toNat:Int)<48)||decide ((57:Int)<(s[i].toNat:Int)))=false by simp;omega,yM]
  have e1:IntKind.wrap .u8 ((s[i].toNat:Int)-48)=((s[i].toNat-48:Nat):Int):=by
   rw[show((s[i].toNat:Int)-48)=((s[i].toNat-48:Nat):Int) by omega]
   show(_:Int) % 256=_
   omega
  have e2:IntKind.wrap .i64 ((s[i].toNat-48:Nat):Int)=((s[i].toNat-48:Nat):Int):=J3 (by omega)
  rw[e1,e2,J3 (n:=10*((dval (s.take i):Nat):Int)) (by omega),J3 (n:=(10*((dval (s.take i):Nat):Int))+_) (by omega),J3 (n:=(i:Int)+1) (by omega)]
  refine hk _ ⟨i+1,by omega,?_⟩ (by simp only;omega)
  rw[List.take_succ_eq_append_getElem hlt]
  unfold dval
  rw[List.foldl_append]
  simp
 .have:i=s.length:=by omega
  subst this
  rw[show decide ((s.length:Int)<(s.length:Int))=false by simp,yM,List.take_length,hv,hN,bS]
  simp
theorem O1s{v:Vec}(h:W0 v=true):O5 47 (Q4 v)=[numText v.a,numText v.b,numText v.c]:=by
 rw[Z1p h,Vb (Uu no47),Vb (Uu no47),LQ (Uu no47)]
theorem L0I{v:Vec}(h:W0 v=true):Vm (Q4 v)=some (v,true):=by
 obtain⟨t1,t2,t3⟩:=Y1p h
 have hl:=Yj v
 unfold Vm
 have hp:W8 (Q4 v) 47=some (O5 47 (Q4 v)):=XW (c:=47) (by omega)
 rw[hp,O1s h,bS]
 have i0:idx [numText v.a,numText v.b,numText v.c] 0=some (numText v.a):=rfl
 have i1:idx [numText v.a,numText v.b,numText v.c] 1=some (numText v.b):=rfl
 have i2:idx [numText v.a,numText v.b,numText v.c] 2=some (numText v.c):=rfl
 have e:((([numText v.a,numText v.b,numText v.c].length:Nat):Int)!=3)=false:=rfl
 rw[e,yM,i0,bS,LC t1,bS,i1,bS,LC t2,bS,i2,bS,LC t3,bS]
 have hv:Y2 (Vec.mk v.a v.b v.c)=true:=by rw[Zn];exact h
 simp only[hv,yL,Bool.or_self,yM]
noncomputable def O0V:L :=
 lf Tryz.prog L0s [] [] [] [] [(6,38)] [] []
def QS(p1:List Pt)(x5:Pt)(i5:Nat)(_:Unit)(k5:Unit->Option Bool):Option Bool :=
 (bif ((!(Z4 x5.t))||(!(W0 x5.free)))then some default else(bif (decide (0<(i5:Int)))then(idx p1 (w64 ((i5:Int)-1)))else some default)).bind fun e6=>(bif ((!(Z4 x5.t))||(!(W0 x5.free)))then some default else(bif (decide (0<(i5:Int)))then(bif (decide (x5.t<=e6.t))then some default else(idx p1 (w64 ((i5:Int)-1))))else some default)).bind fun e7=>bif (((!(Z4 x5.t))||(!(W0 x5.free)))||((decide (0<(i5:Int)))&&((decide (x5.t<=e6.t))||(e7.free.a==x5.free.a&&(e7.free.b==x5.free.b&&(e7.free.c==x5.free.c&&true))))))then(some false)else(k5 ())
def Y0b(_:Unit):Option Bool :=
 some true
def Qc(p1:List Pt):Option Bool :=
 (bif ((decide ((p1.length:Int)<1))||(decide (200<(p1.length:Int))))then some default else(idx p1 0)).bind fun e2=>bif (((decide ((p1.length:Int)<1))||(decide (200<(p1.length:Int))))||(e2.t != 0))then(some false)else(rgl (QS p1) Y0b p1 0 ())
theorem QJ{p1:List Pt}{r:Bool}(H:Qc p1=some r):Snd Tryz.prog L0s [.agg [rV 4 (p1.map ePt)]] (.bool r) []:=by
 refine wS O0V [.t 2] ?_
 unfold Qc at H
 obtain⟨e2,h2,H⟩:=bB H
 refine wG [.u 7 (.ln _ _ fun _=>lm p1 ePt),.g 12 [((decide ((p1.length:Int)<1)),false)] (.ln _ _ fun _=>lm p1 ePt),.g 18 [(_,false)] (.ix _ _ _ fun q=>V0 ePt (bF q.1 h2))] fun q3=>?_
 refine O0 H (fun H=>?_) fun H=>?_
 .obtain rfl:=sI H
  exact wP (wE [(2,.d)])
 .refine wG [.u 25 (.ln _ _ fun _=>lm p1 ePt)] fun q4=>?_
  refine wR (fun(i5:Nat) (v5:Unit)=>⟨[(1,.ptr 1 0),(24,rV 4 (p1.map ePt)),(25,iV (p1.length:Int)),(26,iV (i5:Int))],[],[(1,[rV 4 (p1.map ePt)])],[]⟩) H (fun i5 x5 v5 I m k5 hxv5 hiv5 H N27=>?_) (fun v5 I m H=>?_)
  .unfold QS at H
   refine wP ?_
   refine wt (ltT hiv5) ?_
   obtain⟨e6,h6,H⟩:=bB H
   obtain⟨e7,h7,H⟩:=bB H
   refine wG [.u 29 (.ix _ _ _ fun _=>V0 ePt (Z1 hxv5)),.c 33 (Z9 x5.t),.g 38 [((!(Z4 x5.t)),false)] (.call _ _ _ _ _ (AEs.refl _) (fun _=>L5 x5.free)),.g 49 [(_,true),(_,false)] (.ix _ _ _ fun q=>V0 ePt (bT q.1 (bF q.2.1 h6))),.g 60 [(_,false),(_,true),(_,false)] (.ix _ _ _ fun q=>V0 ePt (bF q.1 (bT q.2.1 (bF q.2.2.1 h7))))] fun _=>?_
   refine O0 H (fun H=>?_) fun H=>?_
   .obtain rfl:=sI H
    exact wP (wE [(2,.d)])
   .refine wG [.w 69 (wi .i64 rfl hiv5 q3.1)] fun _=>?_
    exact wT (N27 () H)
  .unfold Y0b at H
   refine wP ?_
   refine wf (ltF p1.length) ?_
   obtain rfl:=sI H
   exact wP (wE [(2,.d)])
noncomputable def Q0O:L :=
 lf Tryz.prog Z00 [10] [] [] [] [] [] []
def WJ(v1:Vec):Option ((List Pt)×Bool) :=
 bif (!(W0 v1))then(some ([],false))else(some ([(Pt.mk 0 v1)],true))
theorem Y0v{v1:Vec}{r:(List Pt)×Bool}(H:WJ v1=some r):Snd Tryz.prog Z00 [eVec v1] (.tup [Z3 .nw r.1,.bool r.2]) []:=by
 refine wS Q0O [.c 2 1 true,.t 3] ?_
 unfold WJ at H
 refine wG [.c 5 (L5 v1)] fun _=>?_
 refine O0 H (fun H=>?_) fun H=>?_
 .refine wP ?_
  replace H:=sI H;subst H
  exact wN [(2,.d),(3,.d)] [(2,[.n 4])] [] [] [] [⟨_,Vo ([]:List Pt)⟩]
 .refine wP ?_
  replace H:=sI H;subst H
  exact wN [(2,.d),(3,.d)] [(2,[.f])] [] [10] [] [⟨_,Vo [(Pt.mk 0 v1)]⟩]
def Y7(v1:Vec):(List Pt)×Bool :=
 bif (!(W0 v1))then(([],false))else(([(Pt.mk 0 v1)],true))
theorem U0T(v1:Vec):WJ v1=some (Y7 v1):=by
 unfold WJ Y7
 first|rfl|simp only[O8]
theorem V0b(v1:Vec):Snd Tryz.prog Z00 [eVec v1] (.tup [Z3 .nw ((Y7 v1).1),.bool ((Y7 v1).2)]) []:=Y0v (U0T v1)
noncomputable def V15:L :=
 lf Tryz.prog J0A [] [] [] [] [] [] []
def YY(t2:Int)(x4:Pt)(_:Nat)(v4:Vec)(k4:Vec->Option Vec):Option Vec :=
 bif (decide (x4.t<=t2))then(k4 x4.free)else(k4 v4)
def U0j(v4:Vec):Option Vec :=
 some v4
def JQ(p1:List Pt)(t2:Int):Option Vec :=
 rgl (YY t2) U0j p1 0 (Vec.mk 0 0 0)
theorem J0o{p1:List Pt}{t2:Int}{r:Vec}(H:JQ p1 t2=some r):Snd Tryz.prog J0A [.agg [rV 4 (p1.map ePt)],iV t2] (eVec r) []:=by
 refine wS V15 [.c 4 3 true] ?_
 unfold JQ at H
 refine wG [.u 11 (.ln _ _ fun _=>lm p1 ePt)] fun q3=>?_
 refine wR (fun(i4:Nat) (v4:Vec)=>⟨[(1,iV t2),(4,.ptr 4 0),(5,.ptr 5 0),(10,rV 4 (p1.map ePt)),(11,iV (p1.length:Int)),(12,iV (i4:Int))],[],[(4,(eVec (Vec.mk 0 0 0)).cells),(5,(eVec v4).cells)],[]⟩) H (fun i4 x4 v4 I m k4 hxv4 hiv4 H N19=>?_) (fun v4 I m H=>?_)
 .unfold YY at H
  refine wP ?_
  refine wt (ltT hiv4) ?_
  refine wG [.u 14 (.ix _ _ _ fun _=>V0 ePt (Z1 hxv4))] fun _=>?_
  refine O0 H (fun H=>?_) fun H=>?_
  .refine wG [.w 22 (wi .i64 rfl hiv4 q3.1)] fun _=>?_
   exact wT (N19 _ H)
  .refine wG [.w 22 (wi .i64 rfl hiv4 q3.1)] fun _=>?_
   exact wT (N19 _ H)
 .unfold U0j at H
  refine wP ?_
  refine wf (ltF p1.length) ?_
  refine wP ?_
  replace H:=sI H;subst H
  exact wN [(4,.d)] [(4,[])] [] [] [] []
noncomputable def W0O:L :=
 lf Tryz.prog L0l [] [] [] [] [] [] []
def OM(from2 to3:Int)(x7:Pt)(_:Nat)(v7:Vec)(k7:Vec->Option (Vec×Bool)):Option (Vec×Bool) :=
 bif ((decide (from2<=x7.t))&&(decide (x7.t<to3)))then(k7 (QG v7 x7.free))else(k7 v7)
def X07(v7:Vec):Option (Vec×Bool) :=
 some (v7,true)
def Lp(p1:List Pt)(from2 to3:Int):Option (Vec×Bool) :=
 (Qc p1).bind fun b4=>bif ((((!b4)||(!(Z4 from2)))||(!(Z4 to3)))||(decide (to3<=from2)))then(some ((Vec.mk 0 0 0),false))else((JQ p1 from2).bind fun y5=>rgl (OM from2 to3) X07 p1 0 y5)
theorem WS{p1:List Pt}{from2 to3:Int}{r:Vec×Bool}(H:Lp p1 from2 to3=some r):Snd Tryz.prog L0l [.agg [rV 4 (p1.map ePt)],iV from2,iV to3] (.tup [eVec r.1,.bool r.2]) []:=by
 refine wS W0O [.c 6 3 true,.t 7] ?_
 unfold Lp at H
 obtain⟨b4,h4,H⟩:=bB H
 refine wG [.c 12 (QJ h4),.g 16 [((!b4),false)] (.call _ _ _ _ _ (AEs.refl _) (fun _=>Z9 from2)),.g 21 [(((!b4)||(!(Z4 from2))),false)] (.call _ _ _ _ _ (AEs.refl _) (fun _=>Z9 to3))] fun _=>?_
 refine O0 H (fun H=>?_) fun H=>?_
 .refine wP ?_
  replace H:=sI H;subst H
  exact wN [(6,.d),(7,.d)] [(6,[])] [] [] [] []
 .obtain⟨y5,h5,H⟩:=bB H
  refine wG [.c 32 (J0o h5),.u 35 (.ln _ _ fun _=>lm p1 ePt)] fun q6=>?_
  refine wR (fun(i7:Nat) (v7:Vec)=>⟨[(1,iV from2),(2,iV to3),(6,.ptr 6 0),(8,.ptr 8 0),(34,rV 4 (p1.map ePt)),(35,iV (p1.length:Int)),(36,iV (i7:Int))],[],[(6,(eVec (Vec.mk 0 0 0)).cells),(8,(eVec v7).cells)],[]⟩) H (fun i7 x7 v7 I m k7 hxv7 hiv7 H N26=>?_) (fun v7 I m H=>?_)
  .unfold OM at H
   refine wP ?_
   refine wt (ltT hiv7) ?_
   refine wG [.u 38 (.ix _ _ _ fun _=>V0 ePt (Z1 hxv7))] fun _=>?_
   refine O0 H (fun H=>?_) fun H=>?_
   .refine wG [.c 53 (L0S v7 x7.free),.w 54 (wi .i64 rfl hiv7 q6.1)] fun _=>?_
    exact wT (N26 _ H)
   .refine wG [.w 54 (wi .i64 rfl hiv7 q6.1)] fun _=>?_
    exact wT (N26 _ H)
  .unfold X07 at H
   refine wP ?_
   refine wf (ltF p1.length) ?_
   refine wP ?_
   replace H:=sI H;subst H
   exact wN [(6,.d),(7,.d)] [(6,[])] [] [] [] []
noncomputable def Y0F:L :=
 lf Tryz.prog O0e [16,38] [] [] [] [] [] [32087347]
def Yk(x8 x10:Int)(k10:(Bool×(List Int))->Option (List Int))(v12:Bool×(List Int)):Option (List Int) :=
 bif (x10 != x8)then((appL 8 v12.2 [x10]).bind fun xs13=>k10 (v12.1,xs13))else(k10 (v12.1,v12.2))
def Jr(x8 x10:Int)(_:Nat)(v10:Bool×(List Int))(k10:(Bool×(List Int))->Option (List Int)):Option (List Int) :=
 bif ((!v10.1)&&(decide (x8<=x10)))then((appL 8 v10.2 [x8]).bind fun xs11=>(Yk x8 x10 k10) (true,xs11))else((Yk x8 x10 k10) (v10.1,v10.2))
def Mr(x8:Int)(k8:(List Int)->Option (List Int))(v10:Bool×(List Int)):Option (List Int) :=
 bif (!v10.1)then((appL 8 v10.2 [x8]).bind fun xs14=>k8 xs14)else(k8 v10.2)
def Lr(x8:Int)(_:Nat)(v8:(List Int))(k8:(List Int)->Option (List Int)):Option (List Int) :=
 rgl (Jr x8) (Mr x8 k8) v8 0 (false,[])
def U00(v8:(List Int)):Option (List Int) :=
 some v8
def XG(x5:Pt)(_:Nat)(v5:(List Int))(k5:(List Int)->Option (List Int)):Option (List Int) :=
 (appL 8 v5 [x5.t]).bind fun xs6=>k5 xs6
def YG(from2 to3:Int)(v5:(List Int)):Option (List Int) :=
 rgl Lr U00 [from2,to3] 0 v5
def OA(p1:List Pt)(from2 to3:Int):Option (List Int) :=
 rgl XG (YG from2 to3) p1 0 []
theorem W0C{p1:List Pt}{from2 to3:Int}{r:(List Int)}(H:OA p1 from2 to3=some r):Snd Tryz.prog O0e [.agg [rV 4 (p1.map ePt)],iV from2,iV to3] (nV 1 (r.map eI)) []:=by
 refine wS Y0F [.t 6] ?_
 unfold OA at H
 refine wG [.u 19 (.ln _ _ fun _=>lm p1 ePt)] fun q4=>?_
 refine wR (fun(i5:Nat) (v5:(List Int))=>⟨[(1,iV from2),(2,iV to3),(7,.sref 16),(18,rV 4 (p1.map ePt)),(19,iV (p1.length:Int)),(20,iV (i5:Int))],[],[],[(16,⟨1,v5.map eI,false⟩)]⟩) H (fun i5 x5 v5 I m k5 hxv5 hiv5 H N15=>?_) (fun v5 I m H=>?_)
 .unfold XG at H
  refine wP ?_
  refine wt (ltT hiv5) ?_
  obtain⟨xs6,h6,H⟩:=bB H
  refine wG [.u 22 (.ix _ _ _ fun _=>V0 ePt (Z1 hxv5)),.u 28 (.ap _ _ _ _ fun _=>L0 eI h6),.w 29 (wi .i64 rfl hiv5 q4.1)] fun _=>?_
  exact wT (N15 _ H)
 .unfold YG at H
  refine wP ?_
  refine wf (ltF p1.length) ?_
  refine wG [.u 33 (.ln _ _ fun _=>lm ([from2,to3]:List Int) eI)] fun q7=>?_
  refine wR (fun(i8:Nat) (v8:(List Int))=>⟨[(7,.sref 16),(32,nV 1 (([from2,to3]).map eI)),(33,iV (([from2,to3]:List Int).length:Int)),(34,iV (i8:Int))],[],[],[(16,⟨1,v8.map eI,false⟩)]⟩) H (fun i8 x8 v8 I m k8 hxv8 hiv8 H N70=>?_) (fun v8 I m H=>?_)
  .unfold Lr at H
   refine wP ?_
   refine wt (ltT hiv8) ?_
   refine wG [.u 36 (.ix _ _ _ fun _=>V0 eI (Z1 hxv8)),.u 40 (.ln _ _ fun _=>lm v8 eI)] fun q9=>?_
   refine wR (fun(i10:Nat) (v10:Bool×(List Int))=>⟨[(11,iV x8),(12,.sref 38),(13,.bool v10.1),(32,nV 1 (([from2,to3]).map eI)),(33,iV (([from2,to3]:List Int).length:Int)),(34,iV (i8:Int)),(39,.sref 16),(40,iV (v8.length:Int)),(41,iV (i10:Int))],[],[],[(38,⟨1,v10.2.map eI,false⟩),(16,⟨1,v8.map eI,false⟩)]⟩) H (fun i10 x10 v10 I m k10 hxv10 hiv10 H N51=>?_) (fun v10 I m H=>?_)
   .unfold Jr at H
    refine wP ?_
    refine wt (ltT hiv10) ?_
    refine wG [.u 43 (.ix _ _ _ fun _=>V0 eI (Z1 hxv10)),.u 44 (.el _ _ _ fun _=>gm eI (Q7 (Z1 hxv10)))] fun _=>?_
    refine Q6 (r:=r) (Yk x8 x10 k10) 0 (fun v12:Bool×(List Int)=>⟨[(11,.int .i64 x8),(12,.sref 38),(13,.bool v12.1),(15,.int .i64 x10),(32,.sl .nw 1 (([from2,to3]).map eI)),(33,.int .i64 (([from2,to3]:List Int).length:Int)),(34,.int .i64 (i8:Int)),(39,.sref 16),(40,.int .i64 (v8.length:Int)),(41,.int .i64 (i10:Int))],[],[],[(38,⟨1,v12.2.map eI,false⟩),(16,⟨1,v8.map eI,false⟩)]⟩) (by kernel_rfl) (fun v12 H=>?_) (fun J43=>?_)
    .unfold Yk at H
     refine wP ?_
     refine O0 H (fun H=>?_) fun H=>?_
     .obtain⟨xs13,h13,H⟩:=bB H
      refine wG [.u 62 (.ap _ _ _ _ fun _=>L0 eI h13),.w 63 (wi .i64 rfl hiv10 q9.1)] fun _=>?_
      exact wT (N51 _ H)
     .refine wG [.w 63 (wi .i64 rfl hiv10 q9.1)] fun _=>?_
      exact wT (N51 _ H)
    .refine O0 H (fun H=>?_) fun H=>?_
     .obtain⟨xs11,h11,H⟩:=bB H
      refine wG [.u 55 (.ap _ _ _ _ fun _=>L0 eI h11)] fun _=>?_
      exact wT (J43 _ H)
     .refine wP ?_
      exact wT (J43 _ H)
   .unfold Mr at H
    refine wP ?_
    refine wf (ltF v8.length) ?_
    refine wP ?_
    refine O0 H (fun H=>?_) fun H=>?_
    .obtain⟨xs14,h14,H⟩:=bB H
     refine wG [.u 69 (.ap _ _ _ _ fun _=>L0 eI h14),.w 71 (wi .i64 rfl hiv8 q7.1)] fun _=>?_
     exact U0o (N70 _ H) [] [] [(16,(some 38,0))] [] (by kernel_rfl) (by kernel_rfl)
    .refine wG [.w 71 (wi .i64 rfl hiv8 q7.1)] fun _=>?_
     exact U0o (N70 _ H) [] [] [(16,(some 38,0))] [] (by kernel_rfl) (by kernel_rfl)
  .unfold U00 at H
   refine wP ?_
   refine wf (ltF [from2,to3].length) ?_
   refine wP ?_
   replace H:=sI H;subst H
   exact wN [(6,.f)] [] [] [16] [] [⟨_,nw_I v8⟩]
noncomputable def V0w:L :=
 lf Tryz.prog U08 [] [] [] [] [(14,13)] [] [239211,14951]
def Wb(v8:(List Pt))(x8:Int)(k8:(List Pt)->Option ((List Pt)×Bool))(v11:Vec):Option ((List Pt)×Bool) :=
 (bif ((v8.length:Int)==0)then some default else(idx v8 (w64 ((v8.length:Int)-1)))).bind fun e12=>bif (((v8.length:Int)==0)||(!(e12.free.a==v11.a&&(e12.free.b==v11.b&&(e12.free.c==v11.c&&true)))))then((appL 32 v8 [(Pt.mk x8 v11)]).bind fun xs14=>k8 xs14)else(k8 v8)
def Jh(v8:(List Pt))(x8:Int)(k8:(List Pt)->Option ((List Pt)×Bool))(v10:Vec×Bool):Option ((List Pt)×Bool) :=
 bif (!v10.2)then(some ([],false))else((Wb v8 x8 k8) v10.1)
def Qo(p1:List Pt)(from2 to3:Int)(v4:Vec)(add5:Bool)(x8:Int)(_:Nat)(v8:(List Pt))(k8:(List Pt)->Option ((List Pt)×Bool)):Option ((List Pt)×Bool) :=
 (JQ p1 x8).bind fun y9=>bif ((decide (from2<=x8))&&(decide (x8<to3)))then(bif add5 then((Jh v8 x8 k8) (((WG y9 v4).1),(WG y9 v4).2))else((Jh v8 x8 k8) (((J4 y9 v4).1),(J4 y9 v4).2)))else((Wb v8 x8 k8) y9)
def Qb(v8:(List Pt)):Option ((List Pt)×Bool) :=
 (Qc v8).bind fun b15=>bif (!b15)then(some ([],false))else(some (v8,true))
def Yu(p1:List Pt)(from2 to3:Int)(v4:Vec)(add5:Bool):Option ((List Pt)×Bool) :=
 (OA p1 from2 to3).bind fun y6=>rgl (Qo p1 from2 to3 v4 add5) Qb y6 0 []
theorem O0u{p1:List Pt}{from2 to3:Int}{v4:Vec}{add5:Bool}{r:(List Pt)×Bool}(H:Yu p1 from2 to3 v4 add5=some r):Snd Tryz.prog U08 [.agg [rV 4 (p1.map ePt)],iV from2,iV to3,eVec v4,.bool add5] (.tup [Z3 .nw r.1,.bool r.2]) []:=by
 refine wS V0w [.c 10 1 true,.t 11] ?_
 unfold Yu at H
 obtain⟨y6,h6,H⟩:=bB H
 refine wG [.c 22 (W0C h6),.u 23 (.ln _ _ fun _=>lm y6 eI)] fun q7=>?_
 refine X08 (fun(i8:Nat) (v8:(List Pt))=>⟨[(1,.int .i64 from2),(2,.int .i64 to3),(4,.bool add5),(5,.ptr 5 0),(8,.ptr 8 0),(10,.ptr 10 0),(12,.ptr 12 0),(22,.sl .nw 1 (y6.map eI)),(23,.int .i64 (y6.length:Int)),(24,.int .i64 (i8:Int))],[],[(5,[.sl .rd 4 (p1.map ePt)]),(8,(eVec v4).cells),(10,[.nl]),(12,[.sref 147000])],[(147000,⟨4,v8.map ePt,false⟩)]⟩) [] [(12,[.z 147000])] [(147000,(none,4))] [] (by kernel_rfl) (by kernel_rfl) H (fun i8 x8 v8 I m k8 hxv8 hiv8 H N43=>?_) (fun v8 I m H=>?_)
 .unfold Qo at H
  refine wP ?_
  refine wt (ltT hiv8) ?_
  obtain⟨y9,h9,H⟩:=bB H
  refine wG [.u 26 (.ix _ _ _ fun _=>V0 eI (Z1 hxv8)),.c 30 (J0o h9)] fun _=>?_
  refine Q6 (r:=r) (Wb v8 x8 k8) 0 (fun v11:Vec=>⟨[(1,.int .i64 from2),(2,.int .i64 to3),(4,.bool add5),(5,.ptr 5 0),(8,.ptr 8 0),(10,.ptr 10 0),(12,.ptr 12 0),(14,.int .i64 x8),(15,.ptr 15 0),(22,.sl .nw 1 (y6.map eI)),(23,.int .i64 (y6.length:Int)),(24,.int .i64 (i8:Int))],[],[(5,[.sl .rd 4 (p1.map ePt)]),(8,(eVec v4).cells),(10,[.nl]),(12,[.sref 147000]),(15,(eVec v11).cells)],[(147000,⟨4,v8.map ePt,false⟩)]⟩) (by kernel_rfl) (fun v11 H=>?_) (fun J34=>?_)
  .unfold Wb at H
   obtain⟨e12,h12,H⟩:=bB H
   refine wG [.u 57 (.ln _ _ fun _=>lm v8 ePt),.g 65 [(_,false)] (.ix _ _ _ fun q=>V0 ePt (bF q.1 h12)),.g 67 [(_,false)] (.el _ _ _ fun q=>gm ePt (Q7 (bF q.1 h12)))] fun q13=>?_
   refine O0 H (fun H=>?_) fun H=>?_
   .obtain⟨xs14,h14,H⟩:=bB H
    refine wG [.u 77 (.ap _ _ _ _ fun _=>L0 ePt h14),.w 79 (wi .i64 rfl hiv8 q7.1)] fun _=>?_
    exact wT (N43 _ H)
   .refine wG [.w 79 (wi .i64 rfl hiv8 q7.1)] fun _=>?_
    exact wT (N43 _ H)
  .refine O0 H (fun H=>?_) fun H=>?_
   .refine wP ?_
    refine Q6 (r:=r) (Jh v8 x8 k8) 0 (fun v10:Vec×Bool=>⟨[(1,.int .i64 from2),(2,.int .i64 to3),(4,.bool add5),(5,.ptr 5 0),(8,.ptr 8 0),(10,.ptr 10 0),(12,.ptr 12 0),(14,.int .i64 x8),(15,.ptr 15 0),(16,.bool v10.2),(22,.sl .nw 1 (y6.map eI)),(23,.int .i64 (y6.length:Int)),(24,.int .i64 (i8:Int))],[],[(5,[.sl .rd 4 (p1.map ePt)]),(8,(eVec v4).cells),(10,[.nl]),(12,[.sref 147000]),(15,(eVec v10.1).cells)],[(147000,⟨4,v8.map ePt,false⟩)]⟩) (by kernel_rfl) (fun v10 H=>?_) (fun J22=>?_)
    .unfold Jh at H
     refine wP ?_
     refine O0 H (fun H=>?_) fun H=>?_
     .refine wP ?_
      replace H:=sI H;subst H
      exact wN [(10,.d),(11,.d)] [(10,[.n 4])] [] [] [] [⟨_,Vo ([]:List Pt)⟩]
     .refine wP ?_
      exact wT (J34 _ H)
    .refine O0 H (fun H=>?_) fun H=>?_
     .refine wG [.c 43 (Z0T y9 v4)] fun _=>?_
      exact wT (J22 _ H)
     .refine wG [.c 49 (M0S y9 v4)] fun _=>?_
      exact wT (J22 _ H)
   .refine wP ?_
    exact wT (J34 _ H)
 .unfold Qb at H
  refine wP ?_
  refine wf (ltF y6.length) ?_
  obtain⟨b15,h15,H⟩:=bB H
  refine wG [.c 81 (QJ h15)] fun _=>?_
  refine O0 H (fun H=>?_) fun H=>?_
  .refine wP ?_
   replace H:=sI H;subst H
   exact wN [(10,.d),(11,.d)] [(10,[.n 4])] [] [] [] [⟨_,Vo ([]:List Pt)⟩]
  .refine wP ?_
   replace H:=sI H;subst H
   exact wN [(10,.d),(11,.d)] [(10,[.f])] [] [147000] [] [⟨_,Vo v8⟩]
noncomputable def L0F:L :=
 lf Tryz.prog Z0f [] [] [] [] [] [] []
def Yd(p1:List Pt)(from2 to3:Int)(v4:Vec):Option ((List Pt)×Bool) :=
 (Lp p1 from2 to3).bind fun y5=>bif (!y5.2)then(some ([],false))else((Yu p1 from2 to3 v4 false).bind fun y6=>some (y6.1,y6.2))
theorem Y07{p1:List Pt}{from2 to3:Int}{v4:Vec}{r:(List Pt)×Bool}(H:Yd p1 from2 to3 v4=some r):Snd Tryz.prog Z0f [.agg [rV 4 (p1.map ePt)],iV from2,iV to3,eVec v4] (.tup [Z3 .nw r.1,.bool r.2]) []:=by
 refine wS L0F [.c 8 1 true,.t 9] ?_
 unfold Yd at H
 obtain⟨y5,h5,H⟩:=bB H
 refine wG [.c 16 (WS h5)] fun _=>?_
 refine O0 H (fun H=>?_) fun H=>?_
 .refine wP ?_
  replace H:=sI H;subst H
  exact wN [(8,.d),(9,.d)] [(8,[.n 4])] [] [] [] [⟨_,Vo ([]:List Pt)⟩]
 .obtain⟨y6,h6,H⟩:=bB H
  refine wG [.c 26 (O0u h6)] fun _=>?_
  replace H:=sI H;subst H
  exact wN [(8,.d),(9,.d)] [(8,[])] [] [] [] [⟨_,Vo y6.1⟩]
noncomputable def Q0G:L :=
 lf Tryz.prog L0f [] [] [] [] [] [] []
def Zt(p1:List Pt):Option (List Pt) :=
 (appL 32 ([]:List Pt) p1).bind fun xs2=>some xs2
theorem W07{p1:List Pt}{r:(List Pt)}(H:Zt p1=some r):Snd Tryz.prog L0f [.agg [rV 4 (p1.map ePt)]] (Z3 .nw r) []:=by
 refine wS Q0G [.c 2 1 true] ?_
 unfold Zt at H
 obtain⟨xs2,h2,H⟩:=bB H
 refine wG [.u 5 (.ap _ _ _ _ fun _=>L0 ePt h2)] fun _=>?_
 replace H:=sI H;subst H
 exact wN [(2,.d)] [(2,[.f])] [] [5] [] [⟨_,Vo xs2⟩]
noncomputable def Y0X:L :=
 lf Tryz.prog L0t [] [] [] [] [(6,38)] [] []
def V0d(p1:List Pt)(x5:Pt)(i5:Nat)(_:Unit)(k5:Unit->Option Bool):Option Bool :=
 (bif ((!(X8 x5.t))||(!(Y2 x5.free)))then some default else(bif (decide (0<(i5:Int)))then(idx p1 (w64 ((i5:Int)-1)))else some default)).bind fun e6=>(bif ((!(X8 x5.t))||(!(Y2 x5.free)))then some default else(bif (decide (0<(i5:Int)))then(bif (decide (x5.t<=e6.t))then some default else(idx p1 (w64 ((i5:Int)-1))))else some default)).bind fun e7=>bif (((!(X8 x5.t))||(!(Y2 x5.free)))||((decide (0<(i5:Int)))&&((decide (x5.t<=e6.t))||(e7.free.a==x5.free.a&&(e7.free.b==x5.free.b&&(e7.free.c==x5.free.c&&true))))))then(some false)else(k5 ())
def X0d(_:Unit):Option Bool :=
 some true
def Mx(p1:List Pt):Option Bool :=
 (bif (!(Y0 (p1.length:Int) 1 200))then some default else(idx p1 0)).bind fun e2=>bif ((!(Y0 (p1.length:Int) 1 200))||(e2.t != 0))then(some false)else(rgl (V0d p1) X0d p1 0 ())
theorem WZ{p1:List Pt}{r:Bool}(H:Mx p1=some r):Snd Tryz.prog L0t [.agg [rV 4 (p1.map ePt)]] (.bool r) []:=by
 refine wS Y0X [.t 2] ?_
 unfold Mx at H
 obtain⟨e2,h2,H⟩:=bB H
 refine wG [.u 7 (.ln _ _ fun _=>lm p1 ePt),.u 8 (.call _ _ _ _ _ (AEs.refl _) (fun _=>V2 (p1.length:Int) 1 200)),.g 13 [(_,false)] (.ix _ _ _ fun q=>V0 ePt (bF q.1 h2))] fun q3=>?_
 refine O0 H (fun H=>?_) fun H=>?_
 .obtain rfl:=sI H
  exact wP (wE [(2,.d)])
 .refine wG [.u 20 (.ln _ _ fun _=>lm p1 ePt)] fun q4=>?_
  refine wR (fun(i5:Nat) (v5:Unit)=>⟨[(1,.ptr 1 0),(19,rV 4 (p1.map ePt)),(20,iV (p1.length:Int)),(21,iV (i5:Int))],[],[(1,[rV 4 (p1.map ePt)])],[]⟩) H (fun i5 x5 v5 I m k5 hxv5 hiv5 H N27=>?_) (fun v5 I m H=>?_)
  .unfold V0d at H
   refine wP ?_
   refine wt (ltT hiv5) ?_
   obtain⟨e6,h6,H⟩:=bB H
   obtain⟨e7,h7,H⟩:=bB H
   refine wG [.u 24 (.ix _ _ _ fun _=>V0 ePt (Z1 hxv5)),.c 28 (Lu x5.t),.g 33 [((!(X8 x5.t)),false)] (.call _ _ _ _ _ (AEs.refl _) (fun _=>L7 x5.free)),.g 44 [(_,true),(_,false)] (.ix _ _ _ fun q=>V0 ePt (bT q.1 (bF q.2.1 h6))),.g 55 [(_,false),(_,true),(_,false)] (.ix _ _ _ fun q=>V0 ePt (bF q.1 (bT q.2.1 (bF q.2.2.1 h7))))] fun _=>?_
   refine O0 H (fun H=>?_) fun H=>?_
   .obtain rfl:=sI H
    exact wP (wE [(2,.d)])
   .refine wG [.w 64 (wi .i64 rfl hiv5 q3.1)] fun _=>?_
    exact wT (N27 () H)
  .unfold X0d at H
   refine wP ?_
   refine wf (ltF p1.length) ?_
   obtain rfl:=sI H
   exact wP (wE [(2,.d)])
noncomputable def Q0P:L :=
 lf Tryz.prog Y00 [10] [] [] [] [] [] []
def XK(v1:Vec):Option ((List Pt)×Bool) :=
 bif (!(Y2 v1))then(some ([],false))else(some ([(Pt.mk 0 v1)],true))
theorem Z0y{v1:Vec}{r:(List Pt)×Bool}(H:XK v1=some r):Snd Tryz.prog Y00 [eVec v1] (.tup [Z3 .nw r.1,.bool r.2]) []:=by
 refine wS Q0P [.c 2 1 true,.t 3] ?_
 unfold XK at H
 refine wG [.c 5 (L7 v1)] fun _=>?_
 refine O0 H (fun H=>?_) fun H=>?_
 .refine wP ?_
  replace H:=sI H;subst H
  exact wN [(2,.d),(3,.d)] [(2,[.n 4])] [] [] [] [⟨_,Vo ([]:List Pt)⟩]
 .refine wP ?_
  replace H:=sI H;subst H
  exact wN [(2,.d),(3,.d)] [(2,[.f])] [] [10] [] [⟨_,Vo [(Pt.mk 0 v1)]⟩]
def Um(v1:Vec):(List Pt)×Bool :=
 bif (!(Y2 v1))then(([],false))else(([(Pt.mk 0 v1)],true))
theorem V0Y(v1:Vec):XK v1=some (Um v1):=by
 unfold XK Um
 first|rfl|simp only[O8]
theorem U0d(v1:Vec):Snd Tryz.prog Y00 [eVec v1] (.tup [Z3 .nw ((Um v1).1),.bool ((Um v1).2)]) []:=Z0y (V0Y v1)
noncomputable def X0x:L :=
 lf Tryz.prog J08 [] [] [] [] [] [] []
def YX(t2:Int)(x4:Pt)(_:Nat)(v4:Vec)(k4:Vec->Option Vec):Option Vec :=
 bif (decide (x4.t<=t2))then(k4 x4.free)else(k4 v4)
def ZX(v4:Vec):Option Vec :=
 some v4
def YK(p1:List Pt)(t2:Int):Option Vec :=
 rgl (YX t2) ZX p1 0 (Vec.mk 0 0 0)
theorem L0x{p1:List Pt}{t2:Int}{r:Vec}(H:YK p1 t2=some r):Snd Tryz.prog J08 [.agg [rV 4 (p1.map ePt)],iV t2] (eVec r) []:=by
 refine wS X0x [.c 4 3 true] ?_
 unfold YK at H
 refine wG [.u 11 (.ln _ _ fun _=>lm p1 ePt)] fun q3=>?_
 refine wR (fun(i4:Nat) (v4:Vec)=>⟨[(1,iV t2),(4,.ptr 4 0),(5,.ptr 5 0),(10,rV 4 (p1.map ePt)),(11,iV (p1.length:Int)),(12,iV (i4:Int))],[],[(4,(eVec (Vec.mk 0 0 0)).cells),(5,(eVec v4).cells)],[]⟩) H (fun i4 x4 v4 I m k4 hxv4 hiv4 H N19=>?_) (fun v4 I m H=>?_)
 .unfold YX at H
  refine wP ?_
  refine wt (ltT hiv4) ?_
  refine wG [.u 14 (.ix _ _ _ fun _=>V0 ePt (Z1 hxv4))] fun _=>?_
  refine O0 H (fun H=>?_) fun H=>?_
  .refine wG [.w 22 (wi .i64 rfl hiv4 q3.1)] fun _=>?_
   exact wT (N19 _ H)
  .refine wG [.w 22 (wi .i64 rfl hiv4 q3.1)] fun _=>?_
   exact wT (N19 _ H)
 .unfold ZX at H
  refine wP ?_
  refine wf (ltF p1.length) ?_
  refine wP ?_
  replace H:=sI H;subst H
  exact wN [(4,.d)] [(4,[])] [] [] [] []
noncomputable def Q0W:L :=
 lf Tryz.prog Z06 [] [] [] [] [] [] []
def ZQ(from1 to2:Int):Option Bool :=
 some (((X8 from1)&&(X8 to2))&&(decide (from1<to2)))
theorem X0H{from1 to2:Int}{r:Bool}(H:ZQ from1 to2=some r):Snd Tryz.prog Z06 [iV from1,iV to2] (.bool r) []:=by
 refine wS Q0W [.t 4] ?_
 unfold ZQ at H
 refine wG [.c 6 (Lu from1),.g 9 [((X8 from1),true)] (.call _ _ _ _ _ (AEs.refl _) (fun _=>Lu to2))] fun _=>?_
 replace H:=sI H;subst H
 exact wE [(4,.d)]
def UH(from1 to2:Int):Bool :=
 (((X8 from1)&&(X8 to2))&&(decide (from1<to2)))
theorem Q17(from1 to2:Int):ZQ from1 to2=some (UH from1 to2):=by
 unfold ZQ UH
 first|rfl|simp only[O8]
theorem W0X(from1 to2:Int):Snd Tryz.prog Z06 [iV from1,iV to2] (.bool (UH from1 to2)) []:=X0H (Q17 from1 to2)
noncomputable def L0q:L :=
 lf Tryz.prog Va [] [] [] [] [] [] []
def Ut(x1 x2:Vec):Option (Vec×Bool) :=
 some (((Uj x1 x2).1),(Uj x1 x2).2)
theorem Z0j{x1 x2:Vec}{r:Vec×Bool}(H:Ut x1 x2=some r):Snd Tryz.prog Va [eVec x1,.ept (eVec x2) 0] (.tup [eVec r.1,.bool r.2]) []:=by
 refine wS L0q [.c 3 3 true,.t 4] ?_
 unfold Ut at H
 refine wG [.c 7 (M0X x1 x2)] fun _=>?_
 replace H:=sI H;subst H
 exact wN [(3,.d),(4,.d)] [(3,[])] [] [] [] []
def Ug(x1 x2:Vec):Vec×Bool :=
 (((Uj x1 x2).1),(Uj x1 x2).2)
theorem J0x(x1 x2:Vec):Ut x1 x2=some (Ug x1 x2):=by
 unfold Ut Ug
 first|rfl|simp only[O8]
theorem Y0r(x1 x2:Vec):Snd Tryz.prog Va [eVec x1,.ept (eVec x2) 0] (.tup [eVec ((Ug x1 x2).1),.bool ((Ug x1 x2).2)]) []:=Z0j (J0x x1 x2)
noncomputable def Wu:L :=
 lf Tryz.prog XV [22] [(37,2),(40,2)] [] [] [(19,13)] [] [129639]
def M4(v10:(List Pt))(x10:Int)(k10:(List Pt)->Option ((List Pt)×Bool))(v12:Vec):Option ((List Pt)×Bool) :=
 (bif ((v10.length:Int)==0)then some default else(idx v10 (w64 ((v10.length:Int)-1)))).bind fun e13=>bif (((v10.length:Int)==0)||(!(e13.free.a==v12.a&&(e13.free.b==v12.b&&(e13.free.c==v12.c&&true)))))then((appL 32 v10 [(Pt.mk x10 v12)]).bind fun xs15=>k10 xs15)else(k10 v10)
def L4(p1:List Pt)(from2 to3:Int)(c4:Vec)(x10:Int)(_:Nat)(v10:(List Pt))(k10:(List Pt)->Option ((List Pt)×Bool)):Option ((List Pt)×Bool) :=
 (YK p1 x10).bind fun y11=>bif ((decide (from2<=x10))&&(decide (x10<to3)))then(bif (!(Ug y11 c4).2)then(some ([],false))else((M4 v10 x10 k10) ((Ug y11 c4).1)))else((M4 v10 x10 k10) y11)
def L6(v10:(List Pt)):Option ((List Pt)×Bool) :=
 bif (decide (200<(v10.length:Int)))then(some ([],false))else(some (v10,true))
def Z7(x6:Pt)(_:Nat)(v6:(List Int))(k6:(List Int)->Option ((List Pt)×Bool)):Option ((List Pt)×Bool) :=
 (appL 8 v6 [x6.t]).bind fun xs7=>k6 xs7
def J6(p1:List Pt)(from2 to3:Int)(c4:Vec)(v6:(List Int)):Option ((List Pt)×Bool) :=
 (X1u v6).bind fun xs8=>rgl (L4 p1 from2 to3 c4) L6 (Yc xs8) 0 []
def Y6(p1:List Pt)(from2 to3:Int)(c4:Vec):Option ((List Pt)×Bool) :=
 rgl Z7 (J6 p1 from2 to3 c4) p1 0 [from2,to3]
theorem Xv{p1:List Pt}{from2 to3:Int}{c4:Vec}{r:(List Pt)×Bool}(H:Y6 p1 from2 to3 c4=some r):Snd Tryz.prog XV [.agg [rV 4 (p1.map ePt)],iV from2,iV to3,.fn Va [.ept (eVec c4) 0]] (.tup [Z3 .nw r.1,.bool r.2]) []:=by
 refine wS Wu [.c 8 1 true,.t 9] ?_
 unfold Y6 at H
 refine wG [.u 25 (.ln _ _ fun _=>lm p1 ePt)] fun q5=>?_
 refine wR (fun(i6:Nat) (v6:(List Int))=>⟨[(1,iV from2),(2,iV to3),(3,.fn Va [.ept (eVec c4) 0]),(4,.ptr 4 0),(8,.ptr 8 0),(10,.sref 22),(24,rV 4 (p1.map ePt)),(25,iV (p1.length:Int)),(26,iV (i6:Int))],[],[(4,[rV 4 (p1.map ePt)]),(8,[.nl])],[(22,⟨1,v6.map eI,false⟩)]⟩) H (fun i6 x6 v6 I m k6 hxv6 hiv6 H N15=>?_) (fun v6 I m H=>?_)
 .unfold Z7 at H
  refine wP ?_
  refine wt (ltT hiv6) ?_
  obtain⟨xs7,h7,H⟩:=bB H
  refine wG [.u 28 (.ix _ _ _ fun _=>V0 ePt (Z1 hxv6)),.u 34 (.ap _ _ _ _ fun _=>L0 eI h7),.w 35 (wi .i64 rfl hiv6 q5.1)] fun _=>?_
  exact wT (N15 _ H)
 .unfold J6 at H
  refine wP ?_
  refine wf (ltF p1.length) ?_
  obtain⟨xs8,h8,H⟩:=bB H
  refine wG [.u 37 (.cr QL 1 _ [] [] false _ (fun _=>Q1n v6) (fun _=>trivial) (fun _=>rfl) (fun _=>Q1E h8)),.u 40 (.cr Zz 1 _ [] [] true _ (fun _=>Q1n xs8) (fun _=>trivial) (fun _=>rfl) (fun _=>M1i xs8)),.u 41 (.ln _ _ fun _=>lm (Yc xs8) eI)] fun q9=>?_
  refine X08 (fun(i10:Nat) (v10:(List Pt))=>⟨[(1,.int .i64 from2),(2,.int .i64 to3),(3,.fn Va [.ept (eVec c4) 0]),(4,.ptr 4 0),(8,.ptr 8 0),(13,.ptr 13 0),(40,.sref 41000),(41,.int .i64 ((Yc xs8).length:Int)),(42,.int .i64 (i10:Int))],[],[(4,[.sl .rd 4 (p1.map ePt)]),(8,[.nl]),(13,[.sref 117000])],[(117000,⟨4,v10.map ePt,false⟩),(41000,⟨1,(Yc xs8).map eI,false⟩)]⟩) [] [(13,[.z 117000])] [(117000,(none,4))] [] (by kernel_rfl) (by kernel_rfl) H (fun i10 x10 v10 I m k10 hxv10 hiv10 H N57=>?_) (fun v10 I m H=>?_)
  .unfold L4 at H
   refine wP ?_
   refine wt (ltT hiv10) ?_
   obtain⟨y11,h11,H⟩:=bB H
   refine wG [.u 44 (.ix _ _ _ fun _=>V0 eI (Z1 hxv10)),.u 45 (.el _ _ _ fun _=>gm eI (Q7 (Z1 hxv10))),.c 48 (L0x h11)] fun _=>?_
   refine Q6 (r:=r) (M4 v10 x10 k10) 0 (fun v12:Vec=>⟨[(1,.int .i64 from2),(2,.int .i64 to3),(3,.fn Va [.ept (eVec c4) 0]),(4,.ptr 4 0),(8,.ptr 8 0),(13,.ptr 13 0),(15,.int .i64 x10),(16,.ptr 16 0),(40,.sref 41000),(41,.int .i64 ((Yc xs8).length:Int)),(42,.int .i64 (i10:Int))],[],[(4,[.sl .rd 4 (p1.map ePt)]),(8,[.nl]),(13,[.sref 117000]),(16,(eVec v12).cells)],[(117000,⟨4,v10.map ePt,false⟩),(41000,⟨1,(Yc xs8).map eI,false⟩)]⟩) (by kernel_rfl) (fun v12 H=>?_) (fun J48=>?_)
   .unfold M4 at H
    obtain⟨e13,h13,H⟩:=bB H
    refine wG [.u 69 (.ln _ _ fun _=>lm v10 ePt),.g 77 [(_,false)] (.ix _ _ _ fun q=>V0 ePt (bF q.1 h13)),.g 79 [(_,false)] (.el _ _ _ fun q=>gm ePt (Q7 (bF q.1 h13)))] fun q14=>?_
    refine O0 H (fun H=>?_) fun H=>?_
    .obtain⟨xs15,h15,H⟩:=bB H
     refine wG [.u 89 (.ap _ _ _ _ fun _=>L0 ePt h15),.w 91 (wi .i64 rfl hiv10 q9.1)] fun _=>?_
     exact wT (N57 _ H)
    .refine wG [.w 91 (wi .i64 rfl hiv10 q9.1)] fun _=>?_
     exact wT (N57 _ H)
   .refine O0 H (fun H=>?_) fun H=>?_
    .refine wG [.u 60 (.clsr _ _ _ _ _ (AEs.refl _) (by kernel_rfl) (fun _=>Y0r y11 c4))] fun _=>?_
     refine O0 H (fun H=>?_) fun H=>?_
     .refine wP ?_
      replace H:=sI H;subst H
      exact wN [(8,.d),(9,.d)] [(8,[.n 4])] [] [] [] [⟨_,Vo ([]:List Pt)⟩]
     .refine wP ?_
      exact wT (J48 _ H)
    .refine wP ?_
     exact wT (J48 _ H)
  .unfold L6 at H
   refine wP ?_
   refine wf (ltF (Yc xs8).length) ?_
   refine wG [.u 94 (.ln _ _ fun _=>lm v10 ePt)] fun q16=>?_
   refine O0 H (fun H=>?_) fun H=>?_
   .refine wP ?_
    replace H:=sI H;subst H
    exact wN [(8,.d),(9,.d)] [(8,[.n 4])] [] [] [] [⟨_,Vo ([]:List Pt)⟩]
   .refine wP ?_
    replace H:=sI H;subst H
    exact wN [(8,.d),(9,.d)] [(8,[.f])] [] [117000] [] [⟨_,Vo v10⟩]
noncomputable def J0G:L :=
 lf Tryz.prog Yr [] [] [] [] [] [] []
def Qt(p1:List Pt)(from2 to3:Int)(v4:Vec):Option ((List Pt)×Bool) :=
 (Mx p1).bind fun b5=>bif (((!b5)||(!(UH from2 to3)))||(!(Y2 v4)))then(some ([],false))else((Y6 p1 from2 to3 v4).bind fun y6=>some (y6.1,y6.2))
theorem Z08{p1:List Pt}{from2 to3:Int}{v4:Vec}{r:(List Pt)×Bool}(H:Qt p1 from2 to3 v4=some r):Snd Tryz.prog Yr [.agg [rV 4 (p1.map ePt)],iV from2,iV to3,eVec v4] (.tup [Z3 .nw r.1,.bool r.2]) []:=by
 refine wS J0G [.c 8 1 true,.t 9] ?_
 unfold Qt at H
 obtain⟨b5,h5,H⟩:=bB H
 refine wG [.c 11 (WZ h5),.g 16 [((!b5),false)] (.call _ _ _ _ _ (AEs.refl _) (fun _=>W0X from2 to3)),.g 21 [(((!b5)||(!(UH from2 to3))),false)] (.call _ _ _ _ _ (AEs.refl _) (fun _=>L7 v4))] fun _=>?_
 refine O0 H (fun H=>?_) fun H=>?_
 .refine wP ?_
  replace H:=sI H;subst H
  exact wN [(8,.d),(9,.d)] [(8,[.n 4])] [] [] [] [⟨_,Vo ([]:List Pt)⟩]
 .obtain⟨y6,h6,H⟩:=bB H
  refine wG [.c 29 (Xv h6)] fun _=>?_
  replace H:=sI H;subst H
  exact wN [(8,.d),(9,.d)] [(8,[])] [] [] [] [⟨_,Vo y6.1⟩]
structure ProfP(p:List Pt):Prop where
 pos:0<p.length
 le:p.length<=200
 zero:∀x,p[0]?=some x->x.t=0
 ok:∀x∈p,time x.t=true/\W0 x.free=true
 asc:∀(i:Nat) (x y:Pt),p[i]?=some x->p[i+1]?=some y->x.t<y.t/\x.free≠y.free
theorem OZ(p:List Pt):Mx p=Qc p:=by
 have e:(!Y0 (p.length:Int) 1 200)=(decide ((p.length:Int)<1)||decide (200<(p.length:Int))):=by
  unfold Y0
  rw[Bool.eq_iff_iff];simp
 unfold Mx Qc
 rw[e]
 rfl
theorem M1s(a b:Vec):(a.a==b.a&&(a.b==b.b&&(a.c==b.c&&true)))=decide (a=b):=by
 cases a;cases b
 simp only[Vec.mk.injEq,Bool.and_true]
 rw[Bool.eq_iff_iff]
 simp
theorem X0b(p:List Pt):∃b,Qc p=some b/\(b=true↔ProfP p):=by
 unfold Qc
 by_cases h1:p.length<1
 .exact⟨false,by simp[show((p.length:Int)<1) by omega],Ll fun h=>by have:=h.pos;omega⟩
 by_cases h2:200<p.length
 .exact⟨false,by simp[show((200:Int)<p.length) by omega],Ll fun h=>by have:=h.le;omega⟩
 obtain⟨p0,hp0⟩:∃p0,p[0]?=some p0:=⟨_,yA (by omega)⟩
 have e1:decide ((p.length:Int)<1)=false:=by simp;omega
 have e2:decide ((200:Int)<(p.length:Int))=false:=by simp;omega
 rw[e1,e2]
 simp only[Bool.or_self,yM,Bool.false_or,show idx p 0=some p0 from by rw[← hp0];exact V3 (i:=0),bS]
 by_cases h4:p0.t=0
 rotate_left
 .refine⟨false,by rw[show(p0.t != 0)=true by simpa using h4];rfl,Ll fun h=>h4 (h.zero _ hp0)⟩
 rw[h4]
 simp only[bne_self_eq_false,yM]
 refine Mc (fun i (_:Unit)=>(∀j x,j<i->p[j]?=some x->time x.t=true/\W0 x.free=true)/\∀j x y,j+1<i->p[j]?=some x->p[j+1]?=some y->x.t<y.t/\x.free≠y.free)
  (fun r=>∃b,r=some b/\(b=true↔ProfP p)) ?_ ?_ ⟨fun j x h=>by omega,fun j x y h=>by omega⟩
 .intro i x _ k hi hI hk
  have hil:=(yB hi).1
  unfold QS
  rw[Uk]
  cases ht:time x.t with
  |false=>exact⟨false,rfl,Ll fun h=>by have:=(h.ok x (yE hi)).1;rw[ht]at this;cases this⟩
  |true =>
  cases hv:W0 x.free with
  |false=>exact⟨false,rfl,Ll fun h=>by have:=(h.ok x (yE hi)).2;rw[hv]at this;cases this⟩
  |true =>
  simp only[yL,Bool.or_self,yM,Bool.false_or,M1s]
  have new1:∀j y,j<i+1->p[j]?=some y->time y.t=true/\W0 y.free=true:=by
   intro j y hj hy
   by_cases e:j=i
   .subst e;rw[hi]at hy;cases hy;exact⟨ht,hv⟩
   .exact hI.1 j y (by omega) hy
  by_cases h0:i=0
  .subst h0
   simp only[Int.natCast_zero,Int.lt_irrefl,decide_false,yM,Bool.false_and]
   exact hk () ⟨new1,fun j x y h=>by omega⟩
  .have hgt:decide ((0:Int)<(i:Int))=true:=by simp;omega
   obtain⟨q,hq⟩:∃q,p[i-1]?=some q:=⟨_,yA (by omega)⟩
   rw[hgt,M0I (by omega) (by omega)]
   simp only[yN,Bool.true_and,V3,hq,bS]
   by_cases h5:x.t<=q.t
   .simp only[h5,decide_true,yN,Bool.true_or]
    refine⟨false,rfl,Ll fun h=>?_⟩
    have:=(h.asc (i-1) q x hq (by rw[show i-1+1=i by omega];exact hi)).1
    omega
   .simp only[h5,decide_false,yM,Bool.false_or,bS]
    by_cases h6:q.free=x.free
    .simp only[h6,decide_true,yN]
     refine⟨false,rfl,Ll fun h=>?_⟩
     exact(h.asc (i-1) q x hq (by rw[show i-1+1=i by omega];exact hi)).2 h6
    .simp only[h6,decide_false,yM]
     refine hk () ⟨new1,fun j a b hj ha hb=>?_⟩
     by_cases e:j+1=i
     .have:j=i-1:=by omega
      subst this
      rw[hq]at ha;cases ha
      rw[show i-1+1=i by omega,hi]at hb;cases hb
      exact⟨by omega,h6⟩
     .exact hI.2 j a b (by omega) ha hb
 .intro _ hI
  refine⟨true,rfl,fun _=>⟨by omega,by omega,fun x hx=>by rw[hp0]at hx;cases hx;exact h4,fun x hx=>?_,fun i x y hx hy=>?_⟩,fun _=>rfl⟩
  .obtain⟨j,hj⟩:=List.getElem?_of_mem hx
   exact hI.1 j x (yB hj).1 hj
  .exact hI.2 i x y (yB hy).1 hx hy
noncomputable def profOk(p:List Pt):Bool:=(Qc p).getD false
theorem Wd(p:List Pt):Qc p=some (profOk p):=by
 obtain⟨b,h3,_⟩:=X0b p
 rw[profOk,h3];rfl
theorem ZR{p:List Pt}:profOk p=true↔ProfP p:=by
 obtain⟨b,h3,h4⟩:=X0b p
 rw[profOk,h3];exact h4
theorem ProfP.lt{p:List Pt}(h:ProfP p):∀(j i:Nat) (x y:Pt),i<j->p[i]?=some x->p[j]?=some y->x.t<y.t:=by
 intro j
 induction j with
 |zero=>intro i x y hij;omega
 |succ j ih =>
  intro i x y hij hx hy
  obtain⟨z,hz⟩:∃z,p[j]?=some z:=⟨_,yA (by have:=(yB hy).1;omega)⟩
  have h1:=(h.asc j z y hz hy).1
  by_cases e:i=j
  .subst e;rw[hz]at hx;cases hx;exact h1
  .have:=ih i x z (by omega) hx hz
   omega
theorem ProfP.asc_times{p:List Pt}(h:ProfP p):(p.map Pt.t).Pairwise (· < ·):=by
 rw[List.pairwise_iff_getElem]
 intro i j hi hj hij
 simp only[List.length_map]at hi hj
 simp only[List.getElem_map]
 exact h.lt j i _ _ hij (yA hi) (yA hj)
def atV(p:List Pt)(t:Int):Vec:=p.foldl (fun v x=>bif decide (x.t<=t)then x.free else v) ⟨0,0,0⟩
theorem W02(p:List Pt)(t:Int):JQ p t=some (atV p t):=by
 unfold JQ
 rw[Z01 (f:=fun v (x:Pt)=>bif decide (x.t<=t)then x.free else v) (fun x _ i b k=>by unfold YY;cases decide (x.t<=t)<;>rfl)]
 rfl
theorem X1d(p:List Pt)(t:Int):YK p t=some (atV p t):=W02 p t
theorem Y1R{p:List Pt}(t:Int)(h:∀x∈p,W0 x.free=true):∀v,W0 v=true->W0 (p.foldl (fun v x=>bif decide (x.t<=t)then x.free else v) v)=true:=by
 induction p with
 |nil=>intro v hv;exact hv
 |cons x l ih =>
  intro v hv
  rw[List.foldl_cons]
  refine ih (fun y hy=>h y (yH _ hy)) _ ?_
  cases decide (x.t<=t)with
  |true=>exact h x (yJ ..)
  |false=>exact hv
theorem Z1g{p:List Pt}(h:ProfP p)(t:Int):W0 (atV p t)=true:=Y1R t (fun x hx=>(h.ok x hx).2) _ (by decide)
def minV(p:List Pt)(from_ to_:Int):Vec:=p.foldl (fun v x=>bif decide (from_<=x.t)&&decide (x.t<to_)then QG v x.free else v) (atV p from_)
theorem ZC(p:List Pt)(from_ to_:Int):Lp p from_ to_=some (if profOk p=true/\time from_=true/\time to_=true/\from_<to_ then(minV p from_ to_,true)else(⟨0,0,0⟩,false)):=by
 unfold Lp
 rw[Wd,bS]
 simp only[Uk]
 cases profOk p<;>cases time from_<;>cases time to_<;>try simp
 by_cases h:to_<=from_
 .simp[h,show ¬ from_<to_ by omega]
 .simp only[h,decide_false,yM,show from_<to_ by omega,yb,W02,bS]
  rw[Z01 (f:=fun v (x:Pt)=>bif decide (from_<=x.t)&&decide (x.t<to_)then QG v x.free else v) (fun x _ i b k=>by unfold OM;cases(decide (from_<=x.t)&&decide (x.t<to_))<;>rfl)]
  rfl
theorem Y0Z:∀{l m:List Int},l.Pairwise (· < ·)->m.Pairwise (· < ·)->(∀x,x∈l↔x∈m)->l=m
 |[],[],_,_,_=>rfl
 |[],b::m,_,_,h=>by have:=(h b).2 (yJ ..);cases this
 |a::l,[],_,_,h=>by have:=(h a).1 (yJ ..);cases this
 |a::l,b::m,h1,h2,h=>by
  rw[List.pairwise_cons]at h1 h2
  have e:a=b:=by
   rcases yX ((h a).1 (yJ ..))with q|q
   .exact q
   .rcases yX ((h b).2 (yJ ..))with q2|q2
    .exact q2.symm
    .have:=h1.1 b q2;have:=h2.1 a q;omega
  subst e
  congr 1
  refine Y0Z h1.2 h2.2 fun x=>⟨fun hx=>?_,fun hx=>?_⟩
  .rcases yX ((h x).1 (yH _ hx))with q|q
   .have:=h1.1 x hx;omega
   .exact q
  .rcases yX ((h x).2 (yH _ hx))with q|q
   .have:=h2.1 x hx;omega
   .exact q
def insT(t:Int)(l:List Int):List Int:=(l.filter fun x=>decide (x<t))++t::l.filter fun x=>decide (t<x)
theorem Q0J{t x:Int}{l:List Int}:x∈insT t l↔x=t\/x∈l:=by
 simp only[insT,List.mem_append,List.mem_filter,List.mem_cons,yO]
 constructor
 .rintro(⟨h,_⟩|h|⟨h,_⟩)
  .exact .inr h
  .exact .inl h
  .exact .inr h
 .rintro(h|h)
  .exact .inr (.inl h)
  .by_cases h1:x<t
   .exact .inl ⟨h,h1⟩
   .by_cases h2:t<x
    .exact .inr (.inr ⟨h,h2⟩)
    .exact .inr (.inl (by omega))
theorem JT{t:Int}{l:List Int}(h:l.Pairwise (· < ·)):(insT t l).Pairwise (· < ·):=by
 unfold insT
 rw[List.pairwise_append,List.pairwise_cons]
 refine⟨h.filter _,⟨fun x hx=>by simpa using(List.mem_filter.1 hx).2,h.filter _⟩,fun x hx y hy=>?_⟩
 have hx':x<t:=by simpa using(List.mem_filter.1 hx).2
 rcases yX hy with rfl|hy
 .exact hx'
 .have:t<y:=by simpa using(List.mem_filter.1 hy).2
  omega
theorem L16(t:Int)(l:List Int):(insT t l).length<=l.length+1:=by
 have:∀m:List Int,(m.filter fun x=>decide (x<t)).length+(m.filter fun x=>decide (t<x)).length<=m.length:=by
  intro m
  induction m with
  |nil=>simp
  |cons a m ih =>
   simp only[List.filter_cons,yT]
   by_cases h1:a<t
   .simp only[h1,decide_true,yb,show ¬ t<a by omega,decide_false,yG,yc,yT];omega
   .by_cases h2:t<a
    .simp only[h1,h2,decide_true,yb,decide_false,yG,yc,yT];omega
    .simp only[h1,h2,decide_false,yG,yc];omega
 have:=this l
 simp only[insT,yU,yT];omega
theorem X1n{γ:Type}(t:Int)(k:List Int->Option γ)(bd:Int->Nat->Bool×List Int->((Bool×List Int)->Option γ)->Option γ)(kk:Bool×List Int->Option γ)
  (hb:∀x i d acc kc,acc.length<=1000->bd x i (d,acc) kc=bif (!d)&&decide (t<=x)then(bif x != t then kc (true,acc++[t]++[x])else kc (true,acc++[t]))else(bif x != t then kc (d,acc++[x])else kc (d,acc)))
  (hk:∀d acc,acc.length<=1000->kk (d,acc)=bif !d then k (acc++[t])else k acc):∀(l:List Int) (i:Nat),l.Pairwise (· < ·)->l.length<=500 ->
  (∀acc:List Int,acc.length<=500-l.length->rgl bd kk l i (false,acc)=k (acc++insT t l))/\∀acc:List Int,acc.length<=501-l.length->(∀x∈l,t<x)->rgl bd kk l i (true,acc)=k (acc++l)
 |[],i,_,_=>⟨fun acc h=>by rw[rgl,hk _ _ (by omega)];simp[insT],fun acc h _=>by rw[rgl,hk _ _ (by omega)];simp⟩
 |x::l,i,hp,hl=>by
  rw[List.pairwise_cons]at hp
  simp only[yT]at hl
  obtain⟨q1,q2⟩:=X1n t k bd kk hb hk l (i+1) hp.2 (by omega)
  refine⟨fun acc ha=>?_,fun acc ha hx=>?_⟩
  .simp only[yT]at ha
   rw[rgl,hb _ _ _ _ _ (by omega)]
   by_cases h1:t<=x
   .have hall:∀y∈l,t<y:=fun y hy=>by have:=hp.1 y hy;omega
    have f1:(l.filter fun y=>decide (y<t))=[]:=List.filter_eq_nil_iff.2 fun y hy=>by have:=hall y hy;simp;omega
    have f2:(l.filter fun y=>decide (t<y))=l:=List.filter_eq_self.2 fun y hy=>by simpa using hall y hy
    simp only[Bool.not_false,Bool.true_and,h1,decide_true,yN]
    by_cases h2:x=t
    .subst h2
     simp only[bne_self_eq_false,yM]
     rw[q2 _ (by simp;omega) hall]
     simp[insT,f1,f2]
    .rw[show(x != t)=true by simpa using h2,yN,q2 _ (by simp;omega) hall]
     simp[insT,f1,f2,show ¬ x<t by omega,show t<x by omega]
   .simp only[Bool.not_false,Bool.true_and,h1,decide_false,yM]
    rw[show(x != t)=true by simp;omega,yN,q1 _ (by simp;omega)]
    simp[insT,show x<t by omega,show ¬ t<x by omega]
  .simp only[yT]at ha
   have hx1:=hx x (yJ ..)
   rw[rgl,hb _ _ _ _ _ (by omega)]
   simp only[yL,Bool.false_and,yM]
   rw[show(x != t)=true by simp;omega,yN,q2 _ (by simp;omega) fun y hy=>hx y (yH _ hy)]
   simp
def Jl(p:List Pt)(from_ to_:Int):List Int:=insT to_ (insT from_ (p.map Pt.t))
theorem O0C{p:List Pt}(h:ProfP p)(from_ to_:Int):OA p from_ to_=some (Jl p from_ to_):=by
 have hle:=h.le
 unfold OA
 rw[V8 (bd:=XG) (bs:=8) (p:=fun _=>true) (f:=Pt.t) (fun x _ i b k=>rfl) (by simp;omega)]
 have one:∀(t:Int) (i:Nat) (v:List Int) (k:List Int->Option (List Int)),v.Pairwise (· < ·)->v.length<=300->Lr t i v k=k (insT t v):=by
  intro t i v k hv hl
  unfold Lr
  have:=(X1n t k (Jr t) (Mr t k) (fun x i d acc kc ha=>by
   unfold Jr Yk
   cases((!d)&&decide (t<=x))with
   |true =>
    simp only[yN]
    rw[M0 (by simp;omega),bS]
    cases(x != t)with
    |true=>simp only[yN];rw[M0 (by simp;omega),bS]
    |false=>rfl
   |false =>
    simp only[yM]
    cases(x != t)with
    |true=>simp only[yN];rw[M0 (by simp;omega),bS]
    |false=>rfl) (fun d acc ha=>by
   unfold Mr
   cases d with
   |true=>rfl
   |false=>simp only[Bool.not_false,yN];rw[M0 (by simp;omega),bS]) v 0 hv (by omega)).1 [] (by simp)
  simpa using this
 have hp:=h.asc_times
 have hl1:=L16 from_ (p.map Pt.t)
 simp only[List.length_map]at hl1
 unfold YG
 simp only[List.nil_append,show(p.filter fun _=>true)=p from List.filter_eq_self.2 fun _ _=>rfl]
 rw[rgl,one _ _ _ _ hp (by simp;omega),rgl,one _ _ _ _ (JT hp) (by omega)]
 rfl
theorem J1e{l:List Int}(h:l.Pairwise (·<=·)):(Yc l).Pairwise (· < ·)/\∀x,x∈Yc l↔x∈l:=by
 have hsz:l.toArray.size=l.length:=by simp
 have get:∀j,j<l.length->l.toArray[j]! = l[j]!:=by intro j hj;simp
 have mono:∀i j,i<=j->j<l.length->l.toArray[i]!<=l.toArray[j]!:=by
  intro i j hij hj
  by_cases e:i=j
  .subst e;exact Int.le_refl _
  .have:=List.pairwise_iff_getElem.1 h i j (by omega) hj (by omega)
   simpa[show i<l.length by omega,hj]using this
 unfold Yc Lib.compact Lib.compactUpTo
 constructor
 .rw[List.pairwise_map]
  have hr:((List.range l.length).filter (Lib.keeps l.toArray)).Pairwise (· < ·):=List.Pairwise.filter _ List.pairwise_lt_range
  refine List.Pairwise.imp_of_mem (fun{a b} ha hb hab=>?_) hr
  have hb1:=List.mem_filter.1 hb
  have hbl:b<l.length:=List.mem_range.1 hb1.1
  have hk:b=0\/l.toArray[b]!≠l.toArray[b-1]!:=by simpa[Lib.keeps]using hb1.2
  rcases hk with rfl|hk
  .omega
  .have:=mono a (b-1) (by omega) (by omega)
   have:=mono (b-1) b (by omega) hbl
   omega
 .intro x
  simp only[List.mem_map,List.mem_filter,List.mem_range]
  constructor
  .rintro⟨j,⟨hj,_⟩,rfl⟩
   rw[get j hj]
   simp[hj]
  .intro hx
   have:∀n,(∃j,j<n/\j<l.length/\l.toArray[j]! = x)->∃j,(j<l.length/\Lib.keeps l.toArray j=true)/\l.toArray[j]! = x:=by
    intro n
    induction n with
    |zero=>rintro⟨j,hj,_⟩;omega
    |succ n ih =>
     rintro⟨j,hj,hjl,he⟩
     cases hk:Lib.keeps l.toArray j with
     |true=>exact⟨j,⟨hjl,hk⟩,he⟩
     |false =>
      have hk':¬ (j=0\/l.toArray[j]!≠l.toArray[j-1]!):=by simpa[Lib.keeps]using hk
      have h0:j≠0:=fun e=>hk' (.inl e)
      have h1:l.toArray[j]! = l.toArray[j-1]!:=Classical.byContradiction fun q=>hk' (.inr q)
      exact ih ⟨j-1,by omega,by omega,by rw[← h1];exact he⟩
   obtain⟨j,hj⟩:=List.getElem?_of_mem hx
   obtain⟨hjl,hje⟩:=yB hj
   exact this l.length ⟨j,hjl,hjl,by rw[get j hjl];simp[hjl,hje]⟩
theorem W1p(l:List Int):(M0T l).Pairwise (·<=·)/\∀x,x∈M0T l↔x∈l:=by
 refine⟨?_,fun x=>(List.mergeSort_perm l _).mem_iff⟩
 have:=List.pairwise_mergeSort (le:=fun(x y:Int)=>decide (x<=y)) (fun a b c h1 h2=>by simp at *;omega) (fun a b=>by simp;omega) l
 exact this.imp fun h=>by simpa using h
theorem Z1f{p:List Pt}(h:ProfP p)(from_ to_:Int):Yc (M0T ([from_,to_]++p.map Pt.t))=Jl p from_ to_:=by
 obtain⟨s1,s2⟩:=W1p ([from_,to_]++p.map Pt.t)
 obtain⟨c1,c2⟩:=J1e s1
 refine Y0Z c1 (JT (JT h.asc_times)) fun x=>?_
 rw[c2,s2,Jl,Q0J,Q0J]
 simp only[List.cons_append,List.nil_append,List.mem_cons]
 constructor
 .rintro(h|h|h)
  .exact .inr (.inl h)
  .exact .inl h
  .exact .inr (.inr h)
 .rintro(h|h|h)
  .exact .inr (.inl h)
  .exact .inl h
  .exact .inr (.inr h)
def X1q(out:List Pt)(t:Int)(w:Vec):List Pt:=match out.getLast? with
 |some e=>if e.free=w then out else out++[⟨t,w⟩]
 |none=>[⟨t,w⟩]
theorem Y1n{out:List Pt}(h:out.length<=1000)(x:Int)(w:Vec)(k:List Pt->Option (List Pt×Bool)):Wb out x k w=k (X1q out x w):=by
 unfold Wb X1q
 cases hl:out with
 |nil =>
  simp only[List.length_nil,List.getLast?_nil]
  rw[show(((0:Nat):Int)==0)=true from rfl,yN,bS,Bool.true_or,yN,M0 (by simp),bS];rfl
 |cons a l =>
  have hne:((out.length:Int)==0)=false:=by rw[hl];simp;omega
  obtain⟨e,he⟩:∃e,out[out.length-1]?=some e:=⟨_,yA (by rw[hl];simp)⟩
  have hlast:out.getLast?=some e:=by rw[List.getLast?_eq_getElem?];exact he
  rw[← hl,hne,hlast,M0I (by rw[hl];simp) (by omega),V3,he]
  simp only[yM,bS,Bool.false_or,M1s]
  by_cases hw:e.free=w
  .simp[hw]
  .simp only[hw,decide_false,Bool.not_false,yN,yc]
   rw[M0 (by simp;omega),bS]
structure Made(T:List Int)(i:Nat)(out:List Pt):Prop where
 len:out.length<=i
 mem:∀x∈out,∃j,j<i/\T[j]?=some x.t
 ok:∀x∈out,W0 x.free=true
 asc:∀(j:Nat) (x y:Pt),out[j]?=some x->out[j+1]?=some y->x.t<y.t/\x.free≠y.free
 fst:0<i->∃x,out[0]?=some x/\T[0]?=some x.t
theorem Made.nil(T:List Int):Made T 0 [] where
 len:=yV _
 mem:=fun x hx=>by cases hx
 ok:=fun x hx=>by cases hx
 asc:=fun j x y hx=>by simp at hx
 fst:=fun h=>by omega
theorem Made.push{T:List Int}(hT:T.Pairwise (· < ·)){i:Nat}{out:List Pt}(M:Made T i out){t:Int}(ht:T[i]?=some t){w:Vec}(hw:W0 w=true):Made T (i+1) (X1q out t w):=by
 have lt:∀x∈out,x.t<t:=by
  intro x hx
  obtain⟨j,hj,he⟩:=M.mem x hx
  obtain⟨h1,e1⟩:=yB he
  obtain⟨h2,e2⟩:=yB ht
  rw[← e1,← e2]
  exact List.pairwise_iff_getElem.1 hT j i h1 h2 hj
 unfold X1q
 cases hl:out.getLast? with
 |none =>
  have:out=[]:=List.getLast?_eq_none_iff.1 hl
  subst this
  have hi:i=0:=by
   cases i with
   |zero=>rfl
   |succ i=>obtain⟨x,hx,_⟩:=M.fst (by omega);simp at hx
  subst hi
  exact⟨by simp,fun x hx=>by simp at hx;subst hx;exact⟨0,by omega,ht⟩,fun x hx=>by simp at hx;subst hx;exact hw,fun j x y hx hy=>by simp at hy,fun _=>⟨_,rfl,ht⟩⟩
 |some e =>
  simp only
  by_cases he:e.free=w
  .rw[yd he]
   exact⟨by have:=M.len;omega,fun x hx=>by obtain⟨j,hj,h⟩:=M.mem x hx;exact⟨j,by omega,h⟩,M.ok,M.asc,fun _=>by
    cases i with
    |zero=>have:=M.len;have:out=[]:=List.eq_nil_of_length_eq_zero (by omega);subst this;simp at hl
    |succ i=>exact M.fst (by omega)⟩
  .rw[ye he]
   refine⟨by have:=M.len;simp;omega,fun x hx=>?_,fun x hx=>?_,fun j x y hx hy=>?_,fun _=>?_⟩
   .rcases List.mem_append.1 hx with hx|hx
    .obtain⟨j,hj,h⟩:=M.mem x hx;exact⟨j,by omega,h⟩
    .simp at hx;subst hx;exact⟨i,by omega,ht⟩
   .rcases List.mem_append.1 hx with hx|hx
    .exact M.ok x hx
    .simp at hx;subst hx;exact hw
   .by_cases hj:j+1<out.length
    .rw[yK (by omega)]at hx
     rw[yK hj]at hy
     exact M.asc j x y hx hy
    .have hlt:=(yB hy).1
     simp only[yU,yT,List.length_nil]at hlt
     have hje:j=out.length-1:=by omega
     rw[yK (by omega)]at hx
     rw[yS (by omega),show j+1-out.length=0 by omega]at hy
     simp at hy
     subst hy
     rw[List.getLast?_eq_getElem?,← hje,hx]at hl
     have hl:=Option.some.inj hl
     subst hl
     exact⟨lt _ (yE hx),he⟩
   .have hne:out≠[]:=fun e=>by rw[e]at hl;simp at hl
    cases i with
    |zero=>have:=M.len;exact absurd (List.eq_nil_of_length_eq_zero (by omega)) hne
    |succ i =>
     obtain⟨x,hx,h⟩:=M.fst (by omega)
     exact⟨x,by rw[yK (by have:=(yB hx).1;omega)];exact hx,h⟩
theorem Q1t{p:List Pt}(h:ProfP p){from_ to_:Int}(h1:time from_=true)(h2:time to_=true) :
  (Jl p from_ to_).Pairwise (· < ·)/\(Jl p from_ to_).length<=202/\(∀t∈Jl p from_ to_,time t=true)/\(Jl p from_ to_)[0]?=some 0/\from_∈Jl p from_ to_:=by
 have hp:=JT (t:=to_) (JT (t:=from_) h.asc_times)
 have hm:∀t,t∈Jl p from_ to_↔t=to_\/t=from_\/t∈p.map Pt.t:=fun t=>by rw[Jl,Q0J,Q0J]
 have hok:∀t∈Jl p from_ to_,time t=true:=by
  intro t ht
  rcases(hm t).1 ht with rfl|rfl|ht
  .exact h2
  .exact h1
  .obtain⟨x,hx,rfl⟩:=yY ht
   exact(h.ok x hx).1
 have h0:(0:Int)∈Jl p from_ to_:=by
  obtain⟨x,hx⟩:∃x,p[0]?=some x:=⟨_,yA h.pos⟩
  exact(hm 0).2 (.inr (.inr (List.mem_map.2 ⟨x,yE hx,h.zero x hx⟩)))
 have hl1:=L16 from_ (p.map Pt.t)
 have hl2:=L16 to_ (insT from_ (p.map Pt.t))
 simp only[List.length_map]at hl1
 have:=h.le
 refine⟨hp,by unfold Jl;omega,hok,?_,(hm from_).2 (.inr (.inl rfl))⟩
 obtain⟨j,hj⟩:=List.getElem?_of_mem h0
 obtain⟨hjl,hje⟩:=yB hj
 by_cases e:j=0
 .subst e;exact hj
 .have:=List.pairwise_iff_getElem.1 hp 0 j (by unfold Jl at hjl;omega) (by unfold Jl at hjl;exact hjl) (by omega)
  have h00:=hok (Jl p from_ to_)[0] (List.getElem_mem (by omega))
  have:=(Uo.1 h00).1
  unfold Jl at hje this
  omega
def V0S(p:List Pt)(from_ to_:Int)(v:Vec)(x:Int)(out:List Pt)(k:List Pt->Option (List Pt×Bool)):Option (List Pt×Bool) :=
 bif decide (from_<=x)&&decide (x<to_)then(bif (J4 (atV p x) v).2 then k (X1q out x (J4 (atV p x) v).1)else some ([],false))else k (X1q out x (atV p x))
theorem Q1p{p:List Pt}{from_ to_:Int}{v:Vec}{x:Int}{i:Nat}{out:List Pt}(h:out.length<=1000)(k:List Pt->Option (List Pt×Bool)):Qo p from_ to_ v false x i out k=V0S p from_ to_ v x out k:=by
 unfold Qo V0S
 rw[W02,bS]
 cases(decide (from_<=x)&&decide (x<to_))with
 |false=>simp only[yM];rw[Y1n h]
 |true =>
  simp only[yN,yM,Jh]
  cases(J4 (atV p x) v).2 with
  |false=>rfl
  |true=>simp only[yL,yM,yN];rw[Y1n h]
theorem Y1r{p:List Pt}(hp:ProfP p){from_ to_:Int}{v:Vec}{x:Int}{i:Nat}{out:List Pt}(h:out.length<=1000)(k:List Pt->Option (List Pt×Bool)):L4 p from_ to_ v x i out k=V0S p from_ to_ v x out k:=by
 unfold L4 V0S Ug
 rw[X1d,bS,L0X (Z1g hp x)]
 cases(decide (from_<=x)&&decide (x<to_))with
 |false=>simp only[yM];exact Y1n h x _ k
 |true =>
  simp only[yN]
  cases(J4 (atV p x) v).2 with
  |false=>rfl
  |true=>simp only[yL,yM,yN];exact Y1n h x _ k
theorem Y0S{a b:Vec}(h:(J4 a b).2=true):W0 (J4 a b).1=true:=by
 unfold J4 at h ⊢
 cases hf:Q5 b a with
 |false=>rw[hf]at h;simp at h
 |true =>
  simp only[yL,yM]
  unfold Q5 at hf
  simp only[yD,yO]at hf
  obtain⟨⟨⟨⟨h1,h2⟩,h3⟩,h4⟩,h5⟩:=hf
  have h1:=XR.1 h1
  have h2:=XR.1 h2
  rw[XR,J3 (by omega),J3 (by omega),J3 (by omega)]
  simp only;omega
theorem Q0o(p:List Pt)(from_ to_:Int)(v:Vec):Qt p from_ to_ v=Yd p from_ to_ v/\∃r,Yd p from_ to_ v=some r/\(r.2=true->ProfP r.1):=by
 unfold Qt Yd
 rw[OZ,Wd,ZC,bS,bS]
 cases hpo:profOk p with
 |false=>simp
 |true =>
 have hp:=ZR.1 hpo
 unfold UH
 simp only[XZ]
 by_cases hs:time from_=true/\time to_=true/\from_<to_
 rotate_left
 .have e:((time from_&&time to_)&&decide (from_<to_))=false:=by
   rw[Bool.eq_false_iff];intro q;simp only[yD,yO]at q;exact hs ⟨q.1.1,q.1.2,q.2⟩
  rw[e,ye (fun q=>hs q.2)]
  simp
 obtain⟨h1,h2,h3⟩:=hs
 rw[yd ⟨trivial,h1,h2,h3⟩]
 obtain⟨t1,t2,t3,t4,t5⟩:=Q1t hp h1 h2
 have T:=O0C hp from_ to_
 have Q11:Yu p from_ to_ v false=rgl (fun x _=>V0S p from_ to_ v x) Qb (Jl p from_ to_) 0 []:=by
  unfold Yu
  rw[T,bS]
  refine X13 (fun i b c=>b=c/\Made (Jl p from_ to_) i b) rfl (fun i x y b c k k2 hx hy hr hk=>?_) (fun b c hr=>by rw[hr.1]) ⟨rfl,Made.nil _⟩
  obtain⟨rfl,M⟩:=hr
  rw[hx]at hy;cases hy
  have hil:=(yB hx).1
  rw[Q1p (by have:=M.len;omega)]
  unfold V0S
  cases(decide (from_<=x)&&decide (x<to_))with
  |false=>exact hk _ _ ⟨rfl,M.push t1 hx (Z1g hp x)⟩
  |true =>
   simp only[yN]
   cases hv:(J4 (atV p x) v).2 with
   |false=>rfl
   |true=>exact hk _ _ ⟨rfl,M.push t1 hx (Y0S hv)⟩
 have ends:∀b,Made (Jl p from_ to_) (Jl p from_ to_).length b->(profOk b=true↔b.length<=200):=by
  intro b M
  rw[ZR]
  refine⟨fun h=>h.le,fun hl=>?_⟩
  obtain⟨x,hx,h0⟩:=M.fst (by have:=List.length_pos_of_mem t5;omega)
  rw[t4]at h0
  exact⟨(yB hx).1,hl,fun y hy=>by rw[hx]at hy;cases hy;exact(Option.some.inj h0).symm,fun y hy=>⟨by
   obtain⟨j,_,hj⟩:=M.mem y hy
   exact t3 _ (yE hj),M.ok y hy⟩,M.asc⟩
 have total:∃r:List Pt×Bool,rgl (fun x _=>V0S p from_ to_ v x) Qb (Jl p from_ to_) 0 []=some r/\(r.2=true->ProfP r.1):=by
  refine Mc (fun i b=>Made (Jl p from_ to_) i b) (fun o=>∃r:List Pt×Bool,o=some r/\(r.2=true->ProfP r.1)) (fun i x b k hx M hk=>?_) (fun b M=>?_) (Made.nil _)
  .unfold V0S
   cases(decide (from_<=x)&&decide (x<to_))with
   |false=>exact hk _ (M.push t1 hx (Z1g hp x))
   |true =>
    simp only[yN]
    cases hv:(J4 (atV p x) v).2 with
    |false=>exact⟨_,rfl,fun h=>by cases h⟩
    |true=>exact hk _ (M.push t1 hx (Y0S hv))
  .unfold Qb
   rw[Wd,bS]
   cases hb:profOk b with
   |false=>exact⟨_,rfl,fun h=>by cases h⟩
   |true=>exact⟨_,rfl,fun _=>ZR.1 hb⟩
 have bind_id:∀o:Option (List Pt×Bool),(o.bind fun y6=>some (y6.1,y6.2))=o:=by intro o;cases o<;>rfl
 simp only[yL,Bool.false_or,h1,h2,h3,Bool.and_self,decide_true,yM,bind_id,Zn]
 rw[Q11]
 refine⟨?_,total⟩
 cases hv:W0 v with
 |false =>
  simp only[Bool.not_false,yN]
  symm
  refine Mc (fun i b=>Made (Jl p from_ to_) i b/\∀j,j<i->(Jl p from_ to_)[j]?≠some from_) (fun o=>o=some ([],false)) (fun i x b k hx hI hk=>?_) (fun b hI=>?_) ⟨Made.nil _,fun j h=>by omega⟩
  .obtain⟨M,hI⟩:=hI
   have sub:∀x,J4 (atV p x) v=(⟨0,0,0⟩,false):=fun x=>by unfold J4 Q5;rw[hv];rfl
   unfold V0S
   rw[sub]
   by_cases hf:from_<=x/\x<to_
   .simp[hf.1,hf.2]
   .have e:(decide (from_<=x)&&decide (x<to_))=false:=by simpa using fun q=>by omega
    rw[e]
    refine hk _ ⟨M.push t1 hx (Z1g hp x),fun j hj e=>?_⟩
    by_cases hji:j=i
    .subst hji;rw[hx]at e;cases e;omega
    .exact hI j (by omega) e
  .obtain⟨j,hj⟩:=List.getElem?_of_mem t5
   exact absurd hj (hI.2 j (yB hj).1)
 |true =>
  simp only[yL,yM]
  unfold Y6
  rw[V8 (bd:=Z7) (bs:=8) (p:=fun _=>true) (f:=Pt.t) (fun x _ i b k=>rfl) (by have:=hp.le;simp;omega)]
  unfold J6
  rw[show(p.filter fun _=>true)=p from List.filter_eq_self.2 fun _ _=>rfl]
  have hs:X1u ([from_,to_]++p.map Pt.t)=some (M0T ([from_,to_]++p.map Pt.t)):=by
   unfold X1u
   rw[yd (by have:=hp.le;simp;omega)]
  rw[hs,bS,Z1f hp]
  refine X13 (fun i b c=>b=c/\Made (Jl p from_ to_) i b) rfl (fun i x y b c k k2 hx hy hr hk=>?_) (fun b c hr=>?_) ⟨rfl,Made.nil _⟩
  .obtain⟨rfl,M⟩:=hr
   rw[hx]at hy;cases hy
   have hil:=(yB hx).1
   rw[Y1r hp (by have:=M.len;omega)]
   unfold V0S
   cases(decide (from_<=x)&&decide (x<to_))with
   |false=>exact hk _ _ ⟨rfl,M.push t1 hx (Z1g hp x)⟩
   |true =>
    simp only[yN]
    cases hv:(J4 (atV p x) v).2 with
    |false=>rfl
    |true=>exact hk _ _ ⟨rfl,M.push t1 hx (Y0S hv)⟩
  .obtain⟨rfl,M⟩:=hr
   unfold L6 Qb
   rw[Wd,bS]
   by_cases hl:b.length<=200
   .rw[(ends b M).2 hl]
    simp[show ¬ (200:Int)<b.length by omega]
   .rw[show profOk b=false from Bool.eq_false_iff.2 fun q=>hl ((ends b M).1 q)]
    simp[show(200:Int)<b.length by omega]
end Go.Proofs.YtpgaganbacipnaaGreat
